/- A part of the proof. -/
import Derived.Test.YtcecapkbglnejaaGreatDoorTN
set_option linter.unusedVariables false
set_option linter.unusedSimpArgs false
set_option maxRecDepth 100000
namespace Go.Ar
open Go.Ai Go.Proofs
open Go.Rtl (zD zT Old xq xz inc C2 ZX WQ U2 get_some)
open Go.Rm (Rd Rd.of Rd.at)
open Go.As (wZ Pg UF qW XC Up fo Zq Z8 Qy rW u3)
section
variable {p:Pg}{lo:yQ}{H:za}{b1:Nat}
theorem rV(RP:Rd lo (qW · p))(s:Sat lo H [pt b1 (.cells p.row 25)]){B:Bool}(hB:B=p.funcs.all (aQ p))(v:Value):LP (Jw (.pointer (some ⟨b1,0,none⟩)) (λvs76 h77=>xz B (.bool true) h77) (xz B)) [v,.int .i64 0] H:=by
 refine jz (λn vs h'=>∃(i:Nat) (v0:Value),i<=p.funcs.length/\n=p.funcs.length-i/\vs=[v0,.int .i64 (i:Nat)]/\(∀k,k<i->C2 p.funcs (aQ p) k=true)/\Sat lo h' [pt b1 (.cells p.row 25)])
  p.funcs.length ⟨0,v,aa5 _,rfl,rfl,λk hk=>by omega,s⟩ ?_
 rintro n vs h' ⟨i,v0,hi,rfl,rfl,hall,s⟩;have P:=RP.at s;have g1:=s.get;have fvn:=P.funcs.Y0;have fl:=λh'=>Z8 P.funcs 3 h';unfold Jw;by_cases hc:(i:Int)<(p.funcs.length:Int)
 ·obtain⟨f,hf,hfm⟩:=get_some (l:=p.funcs) (k:=i) (by omega);obtain⟨bi,oi,ci,ti,ha,hbi,hgi,hle,htk,_⟩:=Up P.funcs (i:=i) (r:=f.row) (by rw[aaw,hf];rfl) rfl;have cvn:=(P.fns f hfm).code.Y0;have cvc:=(P.fns f hfm).code.iI;have cl:=λh'=>Zq (P.fns f hfm).code 3 h';have hin:=inc (show i<4611686018427387904 by have:=P.IT;omega);have no:aQ p f=false->B=false:=λe=>by rw[hB,WQ hf e]
  simp only[EE,nth,Value.cells,↓yy,aac,yg,zw,vM,QQ,Ez,yM,gQ,hc,g1,fvn,fl,ha,hgi,hle,htk];refine vp s λb5 h2 s2=>?_;simp only[EE,Nat.reduceAdd,Ev];refine xQ s2 (by simp) (by simp[cvc];rfl) λh3 s3=>?_;simp only[nth,↓yy];refine C9 RP hfm s3 _ (λe h=>?_) (λh4 w hgood s4=>?_)
  ·show Value.bool false=.bool B;rw[no (by unfold aQ;rw[e];rfl)]
  ·have g5:=s4.get;unfold gP;cases hs:Xp f.code with
   |false=>
    simp only[EE,nth,UO,UP,UQ];rw[no (by unfold aQ;simp[hs])];rfl
   |true=>
    by_cases c1:(f.code.length:Int)>100000
    ·simp only[EE,nth,zw,kO,vD,UO,UP,UQ,g5,cvn,cl,c1];rw[no (by have c1:100000<(f.code.length:Int):=c1;unfold aQ;simp[c1])];rfl
    ·simp only[EE,nth,zw,kO,vD,UO,UP,UQ,gR,g5,cvn,cl,c1,hin]
     exact⟨p.funcs.length-(i+1),by omega,i+1,_,by omega,rfl,rfl,λk hk=>(by
      by_cases q:k=i
      ·subst q;rw[U2 hf];have c1:¬100000<(f.code.length:Int):=c1;unfold aQ;simp[hgood,hs,c1]
      ·exact hall k (by omega)),s4.k [1]⟩
 ·have hi9:i=p.funcs.length:=by omega
  subst hi9;simp only[EE,nth,zw,vM,yM,hc,g1,fvn,fl];rw[hB,ZX hall];rfl
theorem MK(RP:Rd lo (qW · p))(s:Sat lo H [pt b1 (.cells p.row 25)]){B:Bool}(hB:B=(p.globals.all rW&&p.funcs.all (aQ p))){vs:List Value}:Jx (.pointer (some ⟨b1,0,none⟩)) (xz B) vs H:=by
 unfold Jx;simp only[↓yy]
 refine jz (λn vs h'=>∃(i:Nat) (v0:Value),i<=p.globals.length/\n=p.globals.length-i/\vs=[v0,.int .i64 (i:Nat)]/\(∀k,k<i->C2 p.globals rW k=true)/\Sat lo h' [pt b1 (.cells p.row 25)])
  p.globals.length ⟨0,nth vs 0,aa5 _,rfl,rfl,λk hk=>by omega,s⟩ ?_
 rintro n vs h' ⟨i,v0,hi,rfl,rfl,hall,s⟩;have P:=RP.at s;have g1:=s.get;have gvn:=P.globals.Y0;have gl:=λh'=>Qy P.globals 3 h';unfold np;by_cases hc:(i:Int)<(p.globals.length:Int)
 ·obtain⟨z,hz,hzm⟩:=get_some (l:=p.globals) (k:=i) (by omega);obtain⟨bi,oi,ci,ti,ha,hbi,hgi,hat⟩:=fo P.globals hz;have no:rW z=false->B=false:=λe=>by rw[hB,WQ hz e];rfl
  have hin:=inc (show i<4611686018427387904 by have:=P.Gu;omega);by_cases z0:z<0
  ·simp only[EE,nth,↓yy,zw,u5,zh,wI,Ku,Kv,Kw,Kx,Ky,hc,g1,gvn,gl,ha,hgi,hat,z0];rw[no (by unfold rW;simp[z0])];rfl
  by_cases z1:z>65536
  ·simp only[EE,nth,↓yy,zw,u5,zh,wI,Ku,Kv,Kw,Kx,Ky,hc,g1,gvn,gl,ha,hgi,hat,z0,z1];rw[no (by have z1:65536<z:=z1;unfold rW;simp[z1])];rfl
  simp only[EE,nth,↓yy,zw,u5,zh,wI,Ku,Kv,Kw,Kx,Ky,nn,hc,g1,gvn,gl,ha,hgi,hat,z0,z1,hin]
  exact⟨p.globals.length-(i+1),by omega,i+1,_,by omega,rfl,rfl,λk hk=>(by
   by_cases q:k=i
   ·subst q;rw[U2 hz];have z1:¬65536<z:=z1;unfold rW;simp[z0,z1]
   ·exact hall k (by omega)),s⟩
 ·have hi9:i=p.globals.length:=by omega
  subst hi9;simp only[EE,nth,↓yy,zw,u5,wI,hc,g1,gvn,gl];refine rV (B:=B) RP s ?_ _;rw[hB,ZX hall];rfl
theorem EC{h:za}(P:qW h p):vH Tryz.prog 15 [p.val] h (.bool (Wp p)):=by
 apply xq;replace P:=P.lock;generalize h.lock=L at P;apply Y3;intro wf;apply Cp;unfold pW;have s0:Sat (.of L) L []:=Sat.self wf.2;have RP:Rd (.of L) (qW · p):=Rd.of (yQ.qQ L) P λh' o=>P.old o;have gvn:=P.globals.Y0;have fvn:=P.funcs.Y0;have gvc:=P.globals.iI;have fvc:=P.funcs.iI;have fl:=λh'=>Z8 P.funcs 3 h';have gl:=λh'=>Qy P.globals 3 h';simp only[EE,Value.cells];refine vp s0 λb1 h2 s2=>?_;have g1:=s2.get;have no:u3 p=false->Wp p=false:=λe=>by unfold Wp;rw[e];rfl
 by_cases c4:(p.globals.length:Int)>200
 ·simp only[EE,zw,u5,wI,Zu,Zv,Zw,Zx,Zy,Zz,ZA,ZB,ZC,ZD,ZE,g1,gvn,gl,c4];rw[no (by have c4:(200:Int)<p.globals.length:=c4;unfold u3;simp[c4])];rfl
 by_cases c3:(p.funcs.length:Int)>100
 ·simp only[EE,zw,u5,vM,wI,yM,Zu,Zv,Zw,Zx,Zy,Zz,ZA,ZB,ZC,ZD,ZE,g1,fvn,fl,gvn,gl,c4,c3];rw[no (by have c3:(100:Int)<p.funcs.length:=c3;unfold u3;simp[c3])];rfl
 by_cases c1:p.main<0
 ·simp only[EE,zw,u5,vM,zh,wI,yM,jm,Zu,Zv,Zw,Zx,Zy,Zz,ZA,ZB,ZC,ZD,ZE,g1,fvn,fl,gvn,gl,c4,c3,c1];rw[no (by unfold u3;simp[c1])];rfl
 by_cases c2:p.main ≥ (p.funcs.length:Int)
 ·simp only[EE,zw,u5,vM,zh,wI,yM,jm,Zu,Zv,Zw,Zx,Zy,Zz,ZA,ZB,ZC,ZD,ZE,g1,fvn,fl,gvn,gl,c4,c3,c1,c2];rw[no (by have c2:(p.funcs.length:Int)<=p.main:=c2;unfold u3;simp[c2])];rfl
 by_cases c5:p.params<0
 ·simp only[EE,zw,u5,vM,zh,wI,yM,jm,j4,Zu,Zv,Zw,Zx,Zy,Zz,ZA,ZB,ZC,ZD,ZE,g1,fvn,fl,gvn,gl,c4,c3,c1,c2,c5];rw[no (by unfold u3;simp[c5])];rfl
 by_cases c6:p.params>6
 ·simp only[EE,zw,u5,vM,zh,wI,yM,jm,j4,Zu,Zv,Zw,Zx,Zy,Zz,ZA,ZB,ZC,ZD,ZE,g1,fvn,fl,gvn,gl,c4,c3,c1,c2,c5,c6];rw[no (by have c6:6<p.params:=c6;unfold u3;simp[c6])];rfl
 simp only[EE,zw,u5,vM,zh,wI,yM,jm,j4,Zu,Zv,Zw,Zx,Zy,Zz,ZA,ZB,ZC,ZD,ZE,g1,fvn,fl,gvn,gl,c4,c3,c1,c2,c5,c6];refine MK RP s2 ?_
 have hs:u3 p=true:=by
  have c2:¬(p.funcs.length:Int)<=p.main:=c2;have c3:¬(100:Int)<p.funcs.length:=c3;have c4:¬(200:Int)<p.globals.length:=c4;have c6:¬6<p.params:=c6;unfold u3;simp[c1,c2,c3,c4,c5,c6]
 unfold Wp;rw[hs];rfl
end
end Go.Ar
namespace Go.As
open Go.Ai Go.Proofs Go.Mem Go.Rm
open Go.Rtl (zD zT Old xq xz inc uJ wu)
def NY(l:List V):List Value:=((List.range 16).map λi=>(l.getD i v0).Xk).flatten
def vC(p:Pg)(lv:Value)(mb wb:Nat)(S:St)(ev lk gl cl:Value)(lim:Int):List Value :=
 [p.gv,p.fv,.int .i64 p.main,.int .i64 p.params,lv,xN mb,xN wb,.int .i64 S.kind,.int .i64 S.exit,ev,lk,.int .i64 S.steps,gl,cl]++(NY S.Xm++[.bool S.flags,.int .i64 S.a.k,.int .i64 S.a.n,.int .i64 S.a.b,.int .i64 S.b.k,.int .i64 S.b.n,.int .i64 S.b.b,.int .i64 S.stack,.int .i64 lim,.int .i64 S.sw])
section
variable {p:Pg}{lv:Value}{mb wb:Nat}{S:St}{ev lk gl cl:Value}{lim:Int}
theorem vY:(vC p lv mb wb S ev lk gl cl lim).length=72:=by kernel_rfl
theorem bU{n:Nat}:(n<=(vC p lv mb wb S ev lk gl cl lim).length)=(n<=72):=by rw[vY]
theorem TD:(vC p lv mb wb S ev lk gl cl lim)[1]? = some p.fv:=by kernel_rfl
theorem TE:(vC p lv mb wb S ev lk gl cl lim)[2]? = some (.int .i64 p.main):=by kernel_rfl
theorem Pe:(vC p lv mb wb S ev lk gl cl lim)[4]? = some lv:=by kernel_rfl
theorem GV:(vC p lv mb wb S ev lk gl cl lim)[5]? = some (xN mb):=by kernel_rfl
theorem TF:(vC p lv mb wb S ev lk gl cl lim)[6]? = some (xN wb):=by kernel_rfl
theorem Sq:(vC p lv mb wb S ev lk gl cl lim)[7]? = some (.int .i64 S.kind):=by kernel_rfl
theorem TG:(vC p lv mb wb S ev lk gl cl lim)[9]? = some ev:=by kernel_rfl
theorem Sp:(vC p lv mb wb S ev lk gl cl lim)[10]? = some lk:=by kernel_rfl
theorem NS:(vC p lv mb wb S ev lk gl cl lim)[11]? = some (.int .i64 S.steps):=by kernel_rfl
theorem NT:(vC p lv mb wb S ev lk gl cl lim)[12]? = some gl:=by kernel_rfl
theorem EX:(vC p lv mb wb S ev lk gl cl lim)[13]? = some cl:=by kernel_rfl
theorem EY:(vC p lv mb wb S ev lk gl cl lim)[62]? = some (.bool S.flags):=by kernel_rfl
theorem BG:(vC p lv mb wb S ev lk gl cl lim)[69]? = some (.int .i64 S.stack):=by kernel_rfl
theorem NW:(vC p lv mb wb S ev lk gl cl lim)[70]? = some (.int .i64 lim):=by kernel_rfl
theorem NX:(vC p lv mb wb S ev lk gl cl lim)[71]? = some (.int .i64 S.sw):=by kernel_rfl
theorem NU:((vC p lv mb wb S ev lk gl cl lim).drop 63).take 3=[.int .i64 S.a.k,.int .i64 S.a.n,.int .i64 S.a.b]:=by kernel_rfl
theorem NV:((vC p lv mb wb S ev lk gl cl lim).drop 66).take 3=[.int .i64 S.b.k,.int .i64 S.b.n,.int .i64 S.b.b]:=by kernel_rfl
theorem Pf:((vC p lv mb wb S ev lk gl cl lim).drop 7).take 5=[.int .i64 S.kind,.int .i64 S.exit,ev,lk,.int .i64 S.steps]:=by kernel_rfl
variable (k_:Int)(v_:Value)(q_:V)(f_:Bool)
theorem Pn:zf (vC p lv mb wb S ev lk gl cl lim) 7 [.int .i64 k_]=vC p lv mb wb {S with kind:=k_} ev lk gl cl lim:=by kernel_rfl
theorem TL:zf (vC p lv mb wb S ev lk gl cl lim) 8 [.int .i64 k_]=vC p lv mb wb {S with exit:=k_} ev lk gl cl lim:=by kernel_rfl
theorem Su:zf (vC p lv mb wb S ev lk gl cl lim) 11 [.int .i64 k_]=vC p lv mb wb {S with steps:=k_} ev lk gl cl lim:=by kernel_rfl
theorem E4:zf (vC p lv mb wb S ev lk gl cl lim) 62 [.bool f_]=vC p lv mb wb {S with flags:=f_} ev lk gl cl lim:=by kernel_rfl
theorem LF:zf (vC p lv mb wb S ev lk gl cl lim) 69 [.int .i64 k_]=vC p lv mb wb {S with stack:=k_} ev lk gl cl lim:=by kernel_rfl
theorem Sy:zf (vC p lv mb wb S ev lk gl cl lim) 71 [.int .i64 k_]=vC p lv mb wb {S with sw:=k_} ev lk gl cl lim:=by kernel_rfl
theorem Sw:zf (vC p lv mb wb S ev lk gl cl lim) 63 q_.Xk=vC p lv mb wb {S with a:=q_} ev lk gl cl lim:=by kernel_rfl
theorem Sx:zf (vC p lv mb wb S ev lk gl cl lim) 66 q_.Xk=vC p lv mb wb {S with b:=q_} ev lk gl cl lim:=by kernel_rfl
theorem TK:zf (vC p lv mb wb S ev lk gl cl lim) 4 [v_]=vC p v_ mb wb S ev lk gl cl lim:=by kernel_rfl
theorem TM:zf (vC p lv mb wb S ev lk gl cl lim) 9 [v_]=vC p lv mb wb S v_ lk gl cl lim:=by kernel_rfl
theorem Ss:zf (vC p lv mb wb S ev lk gl cl lim) 10 [v_]=vC p lv mb wb S ev v_ gl cl lim:=by kernel_rfl
theorem Sv:zf (vC p lv mb wb S ev lk gl cl lim) 12 [v_]=vC p lv mb wb S ev lk v_ cl lim:=by kernel_rfl
theorem N0:zf (vC p lv mb wb S ev lk gl cl lim) 13 [v_]=vC p lv mb wb S ev lk gl v_ lim:=by kernel_rfl
theorem GW(l:List V):∀r,r∈(List.range 16).map (λi=>(l.getD i v0).Xk)->r.length=3:=qL (f:=λi=>(l.getD i v0).Xk) (λ_=>rfl) _
theorem ld{l:List V}{r:Int}(h0:0<=r):Dm l r=l.getD r.toNat v0:=by unfold Dm;rw[aak (by omega)]
theorem j7{r:Int}(h0:0<=r)(h1:r<16):((vC p lv mb wb S ev lk gl cl lim).drop (14+r.toNat*3)).take 3=[.int .i64 (zB S r).k,.int .i64 (zB S r).n,.int .i64 (zB S r).b]:=by
 have hr:((List.range 16).map λi=>(S.Xm.getD i v0).Xk)[r.toNat]? = some ((S.Xm.getD r.toNat v0).Xk):=by
  rw[aaw,List.getElem?_range (by omega)];rfl
 obtain⟨a,b⟩:=uJ (GW S.Xm) hr;have hl:(NY S.Xm).length=48:=by kernel_rfl
 have e:∀(X Y:List Value),X.length=14->(X++Y).drop (14+r.toNat*3)=Y.drop (r.toNat*3):=λX Y hX=>by
  rw[List.drop_append,hX,List.drop_of_length_le (by omega),ack,Nat.add_sub_cancel_left]
 unfold vC;rw[e _ _ rfl,List.drop_append_of_le_length (by omega),List.take_append_of_le_length (by rw[aca,hl];omega)];show(((List.range 16).map λi=>(S.Xm.getD i v0).Xk).flatten.drop (r.toNat*3)).take 3=_;rw[b];unfold zB;rw[ld h0];rfl
theorem j8{r:Int}(h1:r<16):(14+r.toNat*3+3<=(vC p lv mb wb S ev lk gl cl lim).length)=True:=by
 rw[vY];simp;omega
theorem mf{r:Int}(h0:0<=r)(h1:r<16)(hl:S.Xm.length=16)(v:V):zf (vC p lv mb wb S ev lk gl cl lim) (14+r.toNat*3) v.Xk=vC p lv mb wb (vQ S r v) ev lk gl cl lim:=by
 obtain⟨n,rfl⟩:∃n:Nat,r=n:=⟨r.toNat,by omega⟩;have hn:n<16:=by omega
 obtain⟨mem,used,kind,exit,e,l,steps,g,calls,Xm,flags,a,b,stack,sw⟩:=S
 match Xm,hl with
 |[x0,x1,x2,x3,x4,x5,x6,x7,x8,x9,x10,x11,x12,x13,x14,x15],_=>
  match n,hn with
  |0,_=>rfl
  |1,_=>rfl
  |2,_=>rfl
  |3,_=>rfl
  |4,_=>rfl
  |5,_=>rfl
  |6,_=>rfl
  |7,_=>rfl
  |8,_=>rfl
  |9,_=>rfl
  |10,_=>rfl
  |11,_=>rfl
  |12,_=>rfl
  |13,_=>rfl
  |14,_=>rfl
  |15,_=>rfl
end
section
variable {lo:yQ}{h:za}{L:List HP}{ty:TypeId}{n:Nat}{sv:Value}{rows:List (List Value)}
theorem mj(s:Sat lo h (kg ty n sv rows::L))(hn:∀r,r∈rows->r.length=n){i:Nat}{row:List Value}(hr:rows[i]? = some row) :
  ∃q c cs,sv=.slice (some ⟨q,0,none⟩) rows.length c/\h.get q=some (.cells cs ty)/\h.ro<=q/\q<h.next/\i*n+n<=cs.length/\(cs.drop (i*n)).take n=row/\(∀k,k<n->cs[i*n+k]? = row[k]?) /\ ∀j vs,j+vs.length<=n->Sat lo (h.set q (some (.cells (zf cs (i*n+j) vs) ty))) (kg ty n sv (rows.set i (zf row j vs))::L):=by
 have hi:i<rows.length:=by
  rcases aaA i rows.length with a|a
  ·exact a
  ·rw[aao a]at hr;cases hr
 have hrl:=hn row (aaG hr);have R:=u6 s hn;obtain⟨b',o,c',t',⟨off,cp,e1,rfl⟩,_,hb,hg,hl,ht,hk⟩:=R.spot hr hrl;obtain⟨q,c,cs,e2,gq,wq,lq,s2⟩:=Nf s hn hi;rw[e1]at e2;simp only[abS,aab,acb,abg,ace]at e2;obtain⟨⟨rfl,rfl⟩,rfl⟩:=e2;rw[gq]at hg;simp only[aab,vg.cells.injEq]at hg;obtain⟨rfl,rfl⟩:=hg;rw[aau]at ht hl;simp only[aau]at hk;refine⟨b',cp,cs,e1,gq,wq,hb,lq,ht,hk,λj vs hj=>?_⟩
 have e:zf cs (i*n+j) vs=zf cs (i*n) (zf row j vs):=by
  apply abe;intro x;rw[YS (zf row j vs) cs (i*n) x (by rw[ju,hrl];exact lq),ju,hrl,YS vs cs _ x (by omega)];by_cases hx:i*n<=x/\x<i*n+n
  ·rw[aam hx,YS vs row j _ (by omega)];by_cases hxj:i*n+j<=x/\x<i*n+j+vs.length
   ·rw[aam hxj,aam (by omega)];congr 1;omega
   ·rw[aak hxj,aak (by omega),<- hk (x-i*n) (by omega)];congr 1;omega
  ·rw[aak hx,aak (by omega)]
 rw[e];exact s2 _ (by rw[ju];exact hrl)
theorem Lw{q i j:Nat}{cs row vs:List Value}{K:za->Prop}(gq:h.get q=some (.cells cs ty))(wq:h.ro<=q)(lq:i*n+n<=cs.length)(s3:∀j vs,j+vs.length<=n->Sat lo (h.set q (some (.cells (zf cs (i*n+j) vs) ty))) (kg ty n sv (rows.set i (zf row j vs))::L))(hj:j+vs.length<=n)(hc:vs.all wi=true)
  (k:∀h',Sat lo h' (kg ty n sv (rows.set i (zf row j vs))::L)->K h'):opt (vi h q (i*n+j) vs) K:=by
 rw[LR gq,aam ⟨by omega,wq,hc⟩];exact k _ (s3 j vs hj)
end
def uM(c:Fr):List Value:=[.int .i64 (c.f:Nat),.int .i64 c.pt,.int .i64 c.YR,.int .i64 c.size,.int .i64 c.l6.k,.int .i64 c.l6.n,.int .i64 c.l6.b]
def xL(p:Pg)(lv:Value)(mb wb:Nat)(S:St)(ev lk gl cl:Value)(lim:Int):vg := .cells (vC p lv mb wb S ev lk gl cl lim) 108
theorem mx(a b:Int)(r:TypeId)(h:za):zk Tryz.prog .max [3,3] r [.int .i64 a,.int .i64 b] h=some (.int .i64 (max a b),h):=by
 have e0:z9 Tryz.prog (Builtin.max_ #[3,3] r #[.int .i64 a,.int .i64 b])=some (.int .i64 (if b>a then b else a)):=rfl;have e:(if b>a then b else a)=max a b:=by split <;> omega
 rw[e]at e0;show(cond (List.all [Value.int .i64 a,.int .i64 b] flat) ((fl (z9 Tryz.prog (Builtin.max_ #[3,3] r #[.int .i64 a,.int .i64 b]))).map λv=>(v,h)) none)=_;rw[e0];rfl
section
variable {lo:yQ}{h:za}{b mb wb:Nat}{p:Pg}{S:St}{lv ev lk gl cl:Value}{lim:Int}
theorem sh(s:Sat lo h [pt b (xL p lv mb wb S ev lk gl cl lim),kg 80 3 lk (S.lk.map qU)])(hb:(S.lk.length+1)*24<=2^47)(k_ a c:Int) :
  DC Tryz.prog 92 [xN b,.int .i64 k_,.int .i64 a,.int .i64 c] h (λ_ h'=>∃lk',Sat lo h' [pt b (xL p lv mb wb (ql S k_ a c) ev lk' gl cl lim),kg 80 3 lk' ((ql S k_ a c).lk.map qU)]):=by
 apply FJ;unfold CB xN;have gm:=s.get;unfold xL at gm;have n0:=uL (s.p 1);have s1:=s.push (.cells [.int .i64 k_,.int .i64 a,.int .i64 c] 80);obtain⟨b',c',h2,a1,s2⟩:=V3 (s1.p 2) (qL (f:=qU) (λ_=>rfl) _) [.int .i64 k_,.int .i64 a,.int .i64 c] rfl (by decide) 24 (by rw[aaD];exact hb);rw[aaD]at a1 s2
 have ha:∀r,zk Tryz.prog .append [31,31] r [lk,.slice (some ⟨h.next,0,none⟩) 1 3] (h.push (.cells [.int .i64 k_,.int .i64 a,.int .i64 c] 80))=some (.slice (some ⟨b',0,none⟩) (S.lk.length+1) c',h2):=λr=>by
  rw[P3 r _ _ 1 [.int .i64 k_,.int .i64 a,.int .i64 c] _ rfl (by simp only[vE,zO];rfl) rfl rfl];exact a1
 simp only[EE,Nat.reduceAdd,zw,Ax,P9,AN,Gk,Zd,aY,gm,Sp,n0,ha];refine xQ (s2.p 2) (by simp[vY]) rfl λh3 s3=>?_;rw[Ss]at s3;simp only[Qo];refine⟨.slice (some ⟨b',0,none⟩) (S.lk.length+1) c',?_⟩;have e1:((ql S k_ a c).lk.map qU)=S.lk.map qU++[[.int .i64 k_,.int .i64 a,.int .i64 c]]:=by simp[ql,qU]
 rw[e1];exact s3.k [0,1]
theorem EH(s:Sat lo h [pt b (xL p lv mb wb S ev lk gl cl lim),kg 85 2 ev (S.ev.map Zc)])(hb:(S.ev.length+1)*16<=2^47)(k_ a:Int) :
  DC Tryz.prog 96 [xN b,.int .i64 k_,.int .i64 a] h (λ_ h'=>∃ev',Sat lo h' [pt b (xL p lv mb wb (jt S k_ a) ev' lk gl cl lim),kg 85 2 ev' ((jt S k_ a).ev.map Zc)]):=by
 apply Cu;unfold pY xN;have gm:=s.get;unfold xL at gm;have n0:=uL (s.p 1);have s1:=s.push (.cells [.int .i64 k_,.int .i64 a] 85);obtain⟨b',c',h2,a1,s2⟩:=V3 (s1.p 2) (qL (f:=Zc) (λ_=>rfl) _) [.int .i64 k_,.int .i64 a] rfl (by decide) 16 (by rw[aaD];exact hb);rw[aaD]at a1 s2
 have ha:∀r,zk Tryz.prog .append [30,30] r [ev,.slice (some ⟨h.next,0,none⟩) 1 3] (h.push (.cells [.int .i64 k_,.int .i64 a] 85))=some (.slice (some ⟨b',0,none⟩) (S.ev.length+1) c',h2):=λr=>by
  rw[P2 r _ _ 1 [.int .i64 k_,.int .i64 a] _ rfl (by simp only[vE,zO];rfl) rfl rfl];exact a1
 simp only[EE,Nat.reduceAdd,zw,H6,P8,Gd,Gj,Zd,rQ,gm,TG,n0,ha];refine xQ (s2.p 2) (by simp[vY]) rfl λh3 s3=>?_;rw[TM]at s3;simp only[Qo];refine⟨.slice (some ⟨b',0,none⟩) (S.ev.length+1) c',?_⟩;have e1:((jt S k_ a).ev.map Zc)=S.ev.map Zc++[[.int .i64 k_,.int .i64 a]]:=by simp[jt,Zc]
 rw[e1];exact s3.k [0,1]
structure PR (lim:Int) (S:St):Prop where
 l0:0<=lim
 l1:lim<4294967296
 s0 : -4611686018427387904<=S.stack
 s1:S.stack<4294967296
theorem I4{L:List HP}(s:Sat lo h (pt b (xL p lv mb wb S ev lk gl cl lim)::L))(hs:PR lim S){n:Int}(n0:0<=n)(n1:n<4294967296) :
  DC Tryz.prog 84 [xN b,.int .i64 n] h (λv h'=>v=.bool (w4 lim S n).2/\Sat lo h' (pt b (xL p lv mb wb (w4 lim S n).1 ev lk gl cl lim)::L)):=by
 apply FG;unfold Cy xN;have gm:=s.get;unfold xL at gm;obtain⟨l0,l1,q0,q1⟩:=hs;have w1:IntKind.wrap .i64 (lim-S.stack)=lim-S.stack:=Go.Mem.Yo (by omega) (by omega);by_cases hc:n>lim-S.stack
 ·simp only[EE,zw,zh,WL,Us,oV,Zd,XM,tX,gm,BG,NW,w1,hc];refine xQ s (by simp[vY]) rfl λh3 s3=>?_;rw[Pn]at s3;simp only[EE];have e:w4 lim S n=({S with kind:=4},false):=by unfold w4;rw[aam hc]
  rw[e];exact⟨rfl,s3⟩
 ·have w2:IntKind.wrap .i64 (S.stack+n)=S.stack+n:=Go.Mem.Yo (by omega) (by omega);simp only[EE,zw,zh,WL,Us,oV,tY,gm,BG,NW,w1,w2,hc];refine xQ s (by simp[vY]) rfl λh3 s3=>?_;rw[LF]at s3;have g3:=s3.get;simp only[EE,zw,zh,WL,Us,oW,g3,BG,NX,mx];refine xQ s3 (by simp[vY]) rfl λh4 s4=>?_;rw[Sy]at s4;simp only[EE];have e:w4 lim S n=({S with stack:=S.stack+n,sw:=max S.sw (S.stack+n)},true):=by unfold w4;rw[aak hc]
  rw[e];exact⟨rfl,s4⟩
end
theorem i7(l:List Fr):∀r,r∈l.map uM->r.length=7:=qL (f:=uM) (λ_=>rfl) l
section
variable {lo:yQ}{h:za}{L:List HP}{b mb wb:Nat}{p:Pg}{S:St}{lv ev lk gl cl:Value}{lim:Int}
theorem EF(s:Sat lo h [pt b (xL p lv mb wb S ev lk gl cl lim),kg 134 7 cl (S.calls.map uM)])(hs:PR lim S)(hc:(S.calls.length+1)*56<=2^47)(f:Nat) :
  DC Tryz.prog 65 [xN b,.int .i64 (f:Nat)] h (λ_ h'=>∃cl',Sat lo h' [pt b (xL p lv mb wb (vB lim S f) ev lk gl cl' lim),kg 134 7 cl' ((vB lim S f).calls.map uM)]):=by
 apply Cs;unfold pX xN;refine yb (by kernel_rfl) rfl (I4 s hs (n:=8) (by decide) (by decide)) ?_;rintro v h2 ⟨rfl,s2⟩;have en:(w4 lim S 8).1.calls=S.calls:=by unfold w4;split <;> rfl
 cases hg:(w4 lim S 8).2 with
 |false=>
  simp only[EE,Qo];have e:vB lim S f=(w4 lim S 8).1:=by unfold vB;rw[hg];rfl
  rw[e,en];exact⟨cl,s2⟩
 |true=>
  have e:vB lim S f = { (w4 lim S 8).1 with calls:=S.calls++[⟨f,0,0,0,v0⟩]}:=by unfold vB;rw[hg,aam rfl,en]
  have gm:=s2.get;unfold xL at gm;have n0:=uL (s2.p 1);have s3:=s2.push (.cells (uM ⟨f,0,0,0,v0⟩) 134);obtain⟨b',c',h4,a1,s4⟩:=V3 (s3.p 2) (i7 _) (uM ⟨f,0,0,0,v0⟩) rfl (by decide) 56 (by rw[aaD];exact hc);rw[aaD]at a1 s4
  have ha:∀r,zk Tryz.prog .append [106,106] r [cl,.slice (some ⟨h2.next,0,none⟩) 1 3] (h2.push (.cells [.int .i64 (f:Nat),.int .i64 0,.int .i64 0,.int .i64 0,.int .i64 0,.int .i64 0,.int .i64 0] 134))=some (.slice (some ⟨b',0,none⟩) (S.calls.length+1) c',h4):=λr=>by
   rw[Ok r _ _ 1 (uM ⟨f,0,0,0,v0⟩) _ rfl (by simp only[vE,zO];rfl) rfl rfl];exact a1
  simp only[EE,zw,rH,Ij,Ir,C8,aV,nq,gm,EX,n0,ha];refine xQ (s4.p 2) (by simp[vY]) rfl λh5 s5=>?_;rw[N0]at s5;simp only[Qo];refine⟨.slice (some ⟨b',0,none⟩) (S.calls.length+1) c',?_⟩;have e1:(vB lim S f).calls.map uM=S.calls.map uM++[uM ⟨f,0,0,0,v0⟩]:=by rw[e];simp
  rw[e1,e];exact s5.k [0,1]
theorem sD{to:Int}(h0:0<=to)(h1:to<16)(hl:S.Xm.length=16)(o:Option V):zf (vC p lv mb wb S ev lk gl cl lim) (14+to.toNat*3) [.int .i64 (o.getD v0).k,.int .i64 (o.getD v0).n,.int .i64 (o.getD v0).b]=vC p lv mb wb (vL S to o).1 ev lk gl cl lim:=mf h0 h1 hl (o.getD v0)
theorem eR(s:Sat lo h (pt b (xL p lv mb wb S ev lk gl cl lim)::L))(hl:S.Xm.length=16){to:Int}(h0:0<=to)(h1:to<16)(op:Int)(a c:V) :
  DC Tryz.prog 86 [xN b,.int .i64 op,.int .i64 to,vv a,vv c] h (λv h'=>v=.bool (vL S to (yw op a c)).2/\Sat lo h' (pt b (xL p lv mb wb (vL S to (yw op a c)).1 ev lk gl cl lim)::L)):=by
 apply HF;unfold HD xN;simp only[EE,Value.cells];refine vp s λb1 h2 s2=>?_;simp only[EE,yg,zq];refine vp s2 λb2 h3 s3=>?_;have g1:=(s3.p 1).get;have g2:=s3.get;simp only[EE,aac,Nat.reduceAdd,yg,zq,g1,g2];refine zi (by kernel_rfl) rfl (Iw op a c _) ?_;rw[xt];simp only[EE,Value.cells,vT,Ei];refine vp s3 λb3 h4 s4=>?_;simp only[EE,Nat.reduceAdd,zM];refine xQ s4 (by simp) rfl λh5 s5=>?_;have g3:=s5.get;have gm:=(s5.p 3).get;unfold xL at gm;simp only[EE,zf,aac,Nat.reduceAdd,yg,zq,zM,xY,qT,g3,h0,h1];refine xQ (s5.p 3) (by rw[vY];simp;omega) rfl λh6 s6=>?_;rw[sD h0 h1 hl]at s6;simp only[EE];exact⟨rfl,((((s6.p 1).drop.p 1).drop).p 1).drop⟩
theorem SH(s:Sat lo h (pt b (xL p lv mb wb S ev lk gl cl lim)::L))(hl:S.Xm.length=16){to:Int}(h0:0<=to)(h1:to<16)(op:Int)(a:V) :
  DC Tryz.prog 88 [xN b,.int .i64 op,.int .i64 to,vv a] h (λv h'=>v=.bool (vL S to (fA op a)).2/\Sat lo h' (pt b (xL p lv mb wb (vL S to (fA op a)).1 ev lk gl cl lim)::L)):=by
 apply Mg;unfold Oe xN;simp only[EE,Value.cells];refine vp s λb1 h2 s2=>?_;have g1:=s2.get;simp only[EE,aac,Nat.reduceAdd,yg,zq,g1];refine zi (by kernel_rfl) rfl (TN op a _) ?_;rw[xt];simp only[EE,Value.cells,vT,HO];refine vp s2 λb3 h4 s4=>?_;simp only[EE,Nat.reduceAdd,zM];refine xQ s4 (by simp) rfl λh5 s5=>?_;have g3:=s5.get;have gm:=(s5.p 2).get;unfold xL at gm;simp only[EE,zf,aac,Nat.reduceAdd,yg,zq,zM,xY,qT,g3,h0,h1];refine xQ (s5.p 2) (by rw[vY];simp;omega) rfl λh6 s6=>?_;rw[sD h0 h1 hl]at s6;simp only[EE];exact⟨rfl,((s6.p 1).drop.p 1).drop⟩
end
theorem LG(a:V)(h:za):vH Tryz.prog 89 [vv a] h (vv (Uz a)):=by
 apply jn rfl;apply FO;unfold CK;have s0:Sat ⟨λ_=>none,h.lock.ro⟩ h.lock []:=⟨rfl,aal _,λb x e=>by cases e⟩;simp only[EE,Value.cells,vT];refine vp s0 λb1 h2 s2=>?_;simp only[EE,zw,yR,wx];refine vp s2 λb2 h3 s3=>?_;have g1:=(s3.p 1).get;simp only[EE,Int.reduceLE,Int.reduceToNat,g1];rw[show min 63 IntKind.i64.bits=63 from rfl];refine zi (by kernel_rfl) rfl (ZZ _ h3) ?_;simp only[EE,Nat.reduceAdd,zM];refine xQ s3 (by simp) rfl λh4 s4=>?_;have g4:=s4.get;simp only[EE,zf,aac,Nat.reduceAdd,yg,zq,g4];rfl
theorem PA(n:Int):Xl (Go.Rm.Yo n):=by
 unfold Go.Rm.Yo Xl;simp only[IntKind.wrap,IntKind.bits,IntKind.signed]
 constructor <;> simp <;> omega
theorem Mh{a q:V}{k:Int}(ha:vb a)(h:yw 11 a (qN k)=some q)(h2:q.k=2):q.ok:=by
 have hb:=Kg ha (Qz k) h;have hi:isInt (qN k)=true:=rfl;have hp:uN (qN k)=false:=rfl
 have hn:Xl q.n:=by
  unfold yw at h;rw[hi,hp]at h;cases h1:isInt a with
  |true=>
   rw[h1]at h;have h:some (qN (Go.Rm.Yo (a.n+(qN k).n)))=some q:=h;cases h;cases h2
  |false=>
   rw[h1]at h;cases h3:uN a with
   |true=>
    rw[h3]at h;have h:some (oK a.b (Go.Rm.Yo (a.n+(qN k).n)))=some q:=h;cases h;unfold oK;split
    ·exact Ua
    ·exact PA _
   |false=>
    rw[h3]at h;have h:(none:Option V)=some q:=h;cases h
 exact⟨by rw[h2];exact⟨by decide,by decide⟩,hn,hb⟩
section
variable {lo:yQ}{h:za}{L:List HP}{b mb wb:Nat}{p:Pg}{S:St}{lv ev lk gl cl:Value}{lim:Int}{i:wZ}
theorem Aq(s:Sat lo h [pt b (xL p lv mb wb S ev lk gl cl lim),kg 80 3 lk (S.lk.map qU),Xh mb S.mem])(hL:(S.lk.length+1)*24<=2^47)(hl:S.Xm.length=16)(hv:∀r,vb (zB S r))(hs:small S.mem)(hsub:Xl i.sub)(m0:0<=i.m)(m1:i.m<16)(r0:0<=i.r)(r1:i.r<16) :
  DC Tryz.prog 85 [xN b,i.val] h (λv h'=>v=.bool (yW S i).2 /\ ∃lk',Sat lo h' [pt b (xL p lv mb wb (yW S i).1 ev lk' gl cl lim),kg 80 3 lk' ((yW S i).1.lk.map qU),Xh mb (yW S i).1.mem]):=by
 apply Y3;intro wf;apply tN;unfold gx xN;simp only[EE,Value.cells];refine EU s wf λb1 h2 wf2 s2=>?_;have g1:=s2.get;have gm:=(s2.p 1).get;unfold xL at gm;simp only[EE,aac,yg,zw,yR,zh,zq,xY,xM,zV,qT,g1,gm,m0,m1,j8 m1,j7 m0 m1];refine ka (by kernel_rfl) rfl (ZZ i.k _) ?_;refine ka (by kernel_rfl) rfl (Iw 11 (zB S i.m) (qN i.k) _) ?_;rw[xt];simp only[EE,Value.cells,vT,gD];cases hb:yw 11 (zB S i.m) (qN i.k) with
 |none=>
  have e:yW S i=(S,false):=by unfold yW;rw[hb]
  rw[e];simp only[Option.getD_none,v0];refine vp s2 λb3 h3 s3=>?_;simp only[EE,Nat.reduceAdd,zM];refine xQ s3 (by simp) rfl λh4 s4=>?_;simp only[EE,UM,Option.isSome_none];exact⟨lk,s4.k [2,3,4]⟩
 |some q=>
  simp only[ab7];refine EU s2 wf2 λb3 h3 wf3 s3=>?_;simp only[EE,Nat.reduceAdd,zM];refine xQ s3 (by simp) rfl λh4 s4=>?_;have g4:=s4.get;by_cases hk:q.k=2
  ·have hq:=Mh (hv i.m) hb hk;simp only[EE,zf,Nat.reduceAdd,zw,yR,zh,wA,wx,uR,gC,UM,Option.isSome_some,g4,hk];obtain⟨lo1,l1,s5,fr⟩:=(s4.f [2,3]).call (L2:=[pt b (xL p lv mb wb S ev lk gl cl lim),kg 80 3 lk (S.lk.map qU)]);refine yb (by kernel_rfl) rfl ((sh s5 hL 2 q.b q.n).RY λv h' x w=>And.intro x w) ?_;rintro v h5 ⟨⟨lk',s6⟩,wf5⟩;have s7:=fr _ _ s6;have g3:=(s7.p 2).get;have g1:=(s7.p 3).get;have gm:=s7.get;unfold xL at gm;by_cases h4:i.op=4
   ·have e1:Vx S.mem i.sub q (zB S i.r)=none->yW S i=(ql S 2 q.b q.n,false):=λz=>by unfold yW;rw[hb];simp only[aam hk,aam h4,z]
    have e2:∀M,Vx S.mem i.sub q (zB S i.r)=some M->yW S i=({ql S 2 q.b q.n with mem:=M},true):=λM z=>by unfold yW;rw[hb];simp only[aam hk,aam h4,z]
    simp only[EE,yg,zw,dz,zh,zq,Ut,zg,zF,gy,Jp,g1,h4];simp only[EE,zf,aac,Nat.reduceAdd,yg,zw,zh,zq,xY,wJ,qT,g1,g3,gm,GV,r0,r1,j8 r1,j7 r0 r1];obtain⟨lo2,l2,s8,fr2⟩:=(s7.f [4]).call (L2:=[Xh mb S.mem]);refine qM (by kernel_rfl) rfl (Nj (v:=zB S i.r) s8 hs hsub hq) ?_;rintro v h6 ⟨rfl,s9⟩;have s10:=fr2 _ _ s9;simp only[EE];cases hst:Vx S.mem i.sub q (zB S i.r) with
    |none=>rw[hst]at s10;rw[e1 hst];exact⟨rfl,lk',s10.k [1,2,0]⟩
    |some M=>rw[hst]at s10;rw[e2 M hst];exact⟨rfl,lk',s10.k [1,2,0]⟩
   ·have e0:yW S i=vL (ql S 2 q.b q.n) i.r (Q5 S.mem i.sub q):=(by unfold yW;rw[hb];simp only[aam hk,aak h4]);simp only[EE,yg,zw,dz,zh,zq,Ut,zg,wJ,zF,gB,Jp,g1,h4];simp only[EE,zf,aac,Nat.reduceAdd,g3,gm,GV];refine rN (by kernel_rfl) rfl wf5 (s7.f [4]) (OY (s7.f [4]) hs hsub hq) ?_;rintro v h6 ⟨rfl,s8⟩ back _;have s9:=back _ s8;clear back;rw[ack]at s9;have gm:=(s9.p 1).get;unfold xL at gm;rw[xt];simp only[EE,aac,Nat.reduceAdd,zM,xY,qT,gz,r0,r1];refine xQ (s9.p 1) (by rw[vY];simp;omega) rfl λh7 s10=>?_;rw[sD r0 r1 (S:=ql S 2 q.b q.n) hl]at s10;simp only[EE];rw[e0];exact⟨rfl,lk',s10.k [0,2,1]⟩
  ·have e:yW S i=(S,false):=by unfold yW;rw[hb];simp only[aak hk]
   rw[e];simp only[EE,zf,Nat.reduceAdd,zw,zh,wA,UM,Option.isSome_some,g4,hk];exact⟨lk,s4.k [2,3,4]⟩
end
theorem ID:Nat.beq (Tryz.prog.cellsOf 134) 7=true:=by kernel_rfl
theorem Mt{c:Nat}(hc:c≠0):JH c 0=c:=by
 match c with
 |0=>exact absurd rfl hc
 |1=>rfl
 |k+2=>rfl
section
variable {lo:yQ}{h:za}{L:List HP}{b mb wb:Nat}{p:Pg}{S:St}{lv ev lk gl cl:Value}{lim:Int}{i:wZ}{mv:V}
theorem sC:((vC p lv mb wb S ev lk gl cl lim).drop 14).take 3=[.int .i64 (zB S 0).k,.int .i64 (zB S 0).n,.int .i64 (zB S 0).b]:=j7 (r:=0) (by decide) (by decide)
theorem M6:((vC p lv mb wb S ev lk gl cl lim).drop 20).take 3=[.int .i64 (zB S 2).k,.int .i64 (zB S 2).n,.int .i64 (zB S 2).b]:=j7 (r:=2) (by decide) (by decide)
theorem M7:((vC p lv mb wb S ev lk gl cl lim).drop 26).take 3=[.int .i64 (zB S 4).k,.int .i64 (zB S 4).n,.int .i64 (zB S 4).b]:=j7 (r:=4) (by decide) (by decide)
theorem M5:((vC p lv mb wb S ev lk gl cl lim).drop 17).take 3=[.int .i64 (zB S 1).k,.int .i64 (zB S 1).n,.int .i64 (zB S 1).b]:=j7 (r:=1) (by decide) (by decide)
theorem IH(s:Sat lo h [pt b (xL p lv mb wb S ev lk gl cl lim),kg 80 3 lk (S.lk.map qU)])(hL:(S.lk.length+1)*24<=2^47)(hl:S.Xm.length=16) :
  DC Tryz.prog 90 [xN b,vv mv] h (λv h'=>v=.bool (Yj S mv).2 /\ ∃lk',Sat lo h' [pt b (xL p lv mb wb (Yj S mv).1 ev lk' gl cl lim),kg 80 3 lk' ((Yj S mv).1.lk.map qU)]):=by
 apply tP;unfold gS xN;simp only[EE,Value.cells,aac,Nat.reduceAdd,Nat.reduceMul,Int.reduceLT,Int.reduceLE,Int.reduceToNat,yg,zq,vT,xY,qT];refine vp s λb1 h2 s2=>?_;have gm:=(s2.p 1).get;unfold xL at gm;simp only[EE,aac,Nat.reduceLeDiff,gm,bU,sC];refine vp s2 λb2 h3 s3=>?_;simp only[EE,Nat.reduceAdd,zM];refine xQ s3 (by simp) rfl λh4 s4=>?_;have g2:=s4.get;have g1:=(s4.p 1).get;by_cases k1:(zB S 0).k=1
 ·by_cases k2:mv.k=1
  ·simp only[EE,zf,Nat.reduceAdd,zw,yR,zh,wA,wx,gV,UR,g1,g2,k1,k2];obtain⟨lo1,l1,s5,fr⟩:=(s4.f [2,3]).call (L2:=[pt b (xL p lv mb wb S ev lk gl cl lim),kg 80 3 lk (S.lk.map qU)]);refine yb (by kernel_rfl) rfl (sh s5 hL 3 (zB S 0).n mv.n) ?_;rintro v h5 ⟨lk',s6⟩;have s7:=fr _ _ s6;have gm:=s7.get;unfold xL at gm;have g2:=(s7.p 2).get;have g1:=(s7.p 3).get;have e2:zB (ql S 3 (zB S 0).n mv.n) 2=zB S 2:=rfl;simp only[EE,zf,aac,Nat.reduceAdd,Nat.reduceLeDiff,Nat.reduceMul,Int.reduceLT,Int.reduceLE,Int.reduceToNat,yg,zq,xY,qT,gU,gm,g2,bU,M6,e2,k1];have sq:=LG (zB S 0) h5;unfold vv at sq;rw[k1]at sq;refine ka (by kernel_rfl) rfl sq ?_;have hv:=SX (zB S 2) (Uz (zB S 0));by_cases c2:zB S 2=Uz (zB S 0)
   ·have hv:_=true:=hv.trans (ach c2);simp only[EE,zf,aac,Nat.reduceAdd,yg,zq,Lj,gT,JA,hv,g1,g2,k1,k2];have B1:=eR (to:=0) s7 hl (by decide) (by decide) 14 (zB S 0) mv;unfold vv at B1;rw[k1,k2]at B1;refine yb (by kernel_rfl) rfl B1 ?_;rintro v h6 ⟨rfl,s8⟩;have g2:=(s8.p 2).get;have g1:=(s8.p 3).get;cases hr:(vL (ql S 3 (zB S 0).n mv.n) 0 (yw 14 (zB S 0) mv)).2 with
    |false=>
     have e:Yj S mv=vL (ql S 3 (zB S 0).n mv.n) 0 (yw 14 (zB S 0) mv):=(by unfold Yj;rw[aam ⟨k1,k2⟩,aam c2,aak (by rw[hr];simp)]);rw[e,hr];simp only[EE,Jy,Jz];exact⟨lk',s8.k [0,1]⟩
    |true=>
     have e:Yj S mv=vL (vL (ql S 3 (zB S 0).n mv.n) 0 (yw 14 (zB S 0) mv)).1 2 (yw 15 (zB S 0) mv):=(by unfold Yj;rw[aam ⟨k1,k2⟩,aam c2,aam hr]);rw[e];simp only[EE,zf,aac,Nat.reduceAdd,yg,zq,Jy,Jz,g1,g2];have B2:=eR (to:=2) s8 (by show(List.set _ _ _).length=16;rw[abf];exact hl) (by decide) (by decide) 15 (zB S 0) mv;unfold vv at B2;rw[k1,k2]at B2;refine yb (by kernel_rfl) rfl B2 ?_;rintro v h7 ⟨rfl,s9⟩;simp only[EE];exact⟨lk',s9.k [0,1]⟩
   ·have hv:_=false:=hv.trans (abQ c2);have e:Yj S mv=(ql S 3 (zB S 0).n mv.n,false):=by unfold Yj;rw[aam ⟨k1,k2⟩,aak c2]
    rw[e];simp only[EE,Lj,JA,hv];exact⟨lk',s7.k [0,1]⟩
  ·have e:Yj S mv=(S,false):=by unfold Yj;rw[aak (λq=>k2 q.2)]
   rw[e];simp only[EE,zf,Nat.reduceAdd,zw,zh,wA,UR,g1,g2,k1,k2];exact⟨lk,s4.k [2,3]⟩
 ·have e:Yj S mv=(S,false):=by unfold Yj;rw[aak (λq=>k1 q.1)]
  rw[e];simp only[EE,zf,Nat.reduceAdd,zw,zh,wA,UR,g2,k1];exact⟨lk,s4.k [2,3]⟩
theorem FZ{b c k:Nat}{h:za}{cs:List Value}(hc:c≠0)(hg:h.get b=some (.cells cs 134)):Il Tryz.prog 106 (.slice (some ⟨b,0,none⟩) (k+1) c) none (some (.int .i64 (k:Nat))) h=some (.slice (some ⟨b,0,none⟩) k c):=by
 have h1:(0:Int)<=(k:Int)/\(k:Int)<=((k+1:Nat):Int):=by omega
 rw[Ps,Vc,aam h1,aaQ,QO,aaQ,Nr hg,ID,aax,Mt hc];simp
theorem Nd{ty:TypeId}{n q k c:Nat}{rows:List (List Value)}{row:List Value}(hn:∀r,r∈rows++[row]->r.length=n)(hk:k=rows.length)(s:Sat lo h (kg ty n (.slice (some ⟨q,0,none⟩) (k+1) c) (rows++[row])::L)):c≠0/\(∃cs,h.get q=some (.cells cs ty))/\Sat lo h (kg ty n (.slice (some ⟨q,0,none⟩) k c) rows::L):=by
 rcases Z0 s with⟨e,_⟩|⟨b',c',cs,e,hc,hl,ht,s⟩
 ·cases e
 ·simp only[abS,aab,acb,abg]at e;obtain⟨rfl,_,rfl⟩:=e;have hlen:(rows++[row]).length=rows.length+1:=by simp
  have hr:row.length=n:=hn row (by simp);rw[hlen,acx]at hl ht;rw[hk];refine⟨hc,⟨cs,s.get⟩,ml hc (by omega) ?_ s⟩;have h2:=congrArg (List.take (rows.length*n)) ht;rw[List.take_take,Nat.min_eq_left (by omega)]at h2;rw[h2,List.flatten_append,List.take_append_of_le_length (by rw[wu λr q=>hn r (by simp[q])];exact aal _),ab5 (by rw[wu λr q=>hn r (by simp[q])];exact aal _)]
theorem MT{q cp:Nat}{c:Fr}{ini:List Fr}(s:Sat lo h (pt b (xL p lv mb wb S ev lk gl cl lim)::kg 134 7 cl (S.calls.map uM)::L))(hcl:cl=.slice (some ⟨q,0,none⟩) (ini.length+1) cp)(hc:S.calls=ini++[c])(hn1:ini.length<4611686018427387900)(hs:PR lim S) :
  DC Tryz.prog 93 [xN b,.pointer (some ⟨q,ini.length*7,none⟩)] h (λv h'=>v=.bool (Yv S c).2 /\ ∃cl',Sat lo h' (pt b (xL p lv mb wb (Yv S c).1 ev lk gl cl' lim)::kg 134 7 cl' ((Yv S c).1.calls.map uM)::L)):=by
 apply CE;unfold p7 xN;have hrow:(S.calls.map uM)[ini.length]? = some (uM c):=by rw[aaw,hc];simp
 obtain⟨q',c',cs',e1,gq,wq,ltq,lq,tq,kq,_⟩:=mj (s.p 1) (i7 _) hrow;rw[hcl]at e1;simp only[abS,aab,acb,abg]at e1;obtain⟨rfl,_,rfl⟩:=e1;have k2:=kq 2 (by decide);have k2:cs'[ini.length*7+2]? = some (.int .i64 c.YR):=k2;have hdl:S.calls.dropLast=ini:=by rw[hc,abZ]
 by_cases hb:c.YR=0
 ·have w1:IntKind.wrap .i64 (S.stack-8)=S.stack-8:=Go.Mem.Yo (by have:=hs.s0;omega) (by have:=hs.s1;omega);simp only[EE,zw,zh,Ml,Wc,Vk,nS,gq,k2,hb];refine xQ s (by simp[vY]) rfl λh2 s2=>?_;rw[E4]at s2;have g2:=s2.get;simp only[EE,zw,zh,WL,Us,g2,BG,w1];refine xQ s2 (by simp[vY]) rfl λh3 s3=>?_;rw[LF]at s3;have g3:=s3.get;have e3:S.calls.map uM=ini.map uM++[uM c]:=by rw[hc];simp
  rw[hcl,e3]at s3;obtain⟨hc0,⟨cs,gq3⟩,s4⟩:=Nd (by rw[<- e3];exact i7 _) (by simp) (s3.p 1);have w2:IntKind.wrap .i64 (((ini.length+1:Nat):Int)-1)=(ini.length:Nat):=by rw[show(((ini.length+1:Nat):Int)-1)=(ini.length:Nat) by omega];exact Go.Mem.Yo (by omega) (by omega)
  have sl:=FZ (k:=ini.length) hc0 gq3;simp only[EE,aax,zw,rH,Ij,aV,sj,g3,EX,hcl,w2,sl];refine xQ (s4.p 1) (by simp[vY]) rfl λh5 s5=>?_;rw[N0]at s5;have g5:=s5.get;simp only[EE,zw,rH,aV,sj,g5,EX];by_cases hi:(ini.length:Int)>0
  ·have e:Yv S c=({S with flags:=false,stack:=S.stack-8,calls:=ini},true):=by
    unfold Yv;rw[aak (λq=>q hb),hdl,aam (by intro q;rw[q]at hi;simp at hi)]
   simp only[EE,hi];rw[e];exact⟨rfl,_,s5⟩
  ·have hi0:ini=[]:=abv (by omega);simp only[EE,Value.cells,aac,Nat.reduceAdd,Nat.reduceMul,Int.reduceLT,Int.reduceLE,Int.reduceToNat,yg,zq,vT,xY,qT,nR,hi];simp only[EE,aac,Nat.reduceLeDiff,g5,bU,sC];refine vp s5 λb6 h6 s6=>?_;simp only[EE,Nat.reduceAdd,zM];refine xQ s6 (by simp) rfl λh7 s7=>?_;have g7:=s7.get;by_cases hk:(zB S 0).k=1
   ·have e:Yv S c=({S with flags:=false,stack:=S.stack-8,calls:=[],kind:=1,exit:=(zB S 0).n},true):=by
     unfold Yv;rw[aak (λq=>q hb),hdl,aak (by rw[hi0];simp),aam hk]
    have hne:b6≠b:=s7.ne;have hne2:b≠b6:=λq=>hne q.symm;have ek:∀X,zB ({S with flags:=false,stack:=S.stack-8}:St) X=zB S X:=λ_=>rfl;simp only[EE,zf,Nat.reduceAdd,Nat.reduceLeDiff,ne_eq,zw,yR,zh,WL,Zd,XM,wA,wx,nQ,g7,ek,hk,AH,hne2,ne_eq,true_or];refine xQ (s7.p 1) (by simp[vY]) rfl λh8 s8=>?_;rw[Pn]at s8;have g8:=s8.get;simp only[EE,Nat.reduceAdd,S7,Zd,rP];refine xQ s8 (by simp[vY]) rfl λh9 s9=>?_;rw[TL]at s9;simp only[EE];rw[e];rw[hi0]at s9;exact⟨rfl,_,(s9.p 1).drop⟩
   ·have e:Yv S c=({S with flags:=false,stack:=S.stack-8,calls:=[]},false):=by
     unfold Yv;rw[aak (λq=>q hb),hdl,aak (by rw[hi0];simp),aak hk]
    have ek:∀X,zB ({S with flags:=false,stack:=S.stack-8}:St) X=zB S X:=λ_=>rfl;simp only[EE,zf,Nat.reduceAdd,zw,zh,wA,g7,ek,hk];rw[e];rw[hi0]at s7;exact⟨rfl,_,s7.drop⟩
 ·have e:Yv S c=(S,false):=by unfold Yv;rw[aam hb]
  rw[e];simp only[EE,zw,zh,Vk,gq,k2,hb];exact⟨cl,s⟩
end
section
variable {lo:yQ}{h:za}{L:List HP}{b mb wb:Nat}{p:Pg}{S:St}{lv ev lk gl cl:Value}{lim:Int}{i:wZ}
theorem WT{q cp:Nat}{c:Fr}{ini:List Fr}(s:Sat lo h (kg 134 7 cl ((ini++[c]).map uM)::L))(hcl:cl=.slice (some ⟨q,0,none⟩) (ini.length+1) cp):∃cs,h.get q=some (.cells cs 134)/\h.ro<=q/\q<h.next/\ini.length*7+7<=cs.length/\cs[ini.length*7]? = some (.int .i64 (c.f:Nat))/\cs[ini.length*7+1]? = some (.int .i64 c.pt)/\cs[ini.length*7+2]? = some (.int .i64 c.YR)/\cs[ini.length*7+3]? = some (.int .i64 c.size)/\(cs.drop (ini.length*7+4)).take 3=[.int .i64 c.l6.k,.int .i64 c.l6.n,.int .i64 c.l6.b]:=by
 have hrow:((ini++[c]).map uM)[ini.length]? = some (uM c):=by rw[aaw];simp
 obtain⟨q',c',cs,e1,gq,wq,ltq,lq,tq,kq,_⟩:=mj s (i7 _) hrow;rw[hcl]at e1;simp only[abS,aab,acb,abg]at e1;obtain⟨rfl,_,rfl⟩:=e1;have k0:=kq 0 (by decide);rw[acf]at k0;refine⟨cs,gq,wq,ltq,lq,k0,kq 1 (by decide),kq 2 (by decide),kq 3 (by decide),?_⟩
 have:(cs.drop (ini.length*7+4)).take 3=((cs.drop (ini.length*7)).take 7).drop 4:=by
  rw[List.drop_take,List.drop_drop]
 rw[this,tq];rfl
theorem bY{q cp:Nat}{c c':Fr}{ini:List Fr}{K:za->Prop}(s:Sat lo h (kg 134 7 cl ((ini++[c]).map uM)::L))(hcl:cl=.slice (some ⟨q,0,none⟩) (ini.length+1) cp){j:Nat}{vs:List Value}(hj:j+vs.length<=7)(hc:vs.all wi=true)(e:zf (uM c) j vs=uM c')(k:∀h',Sat lo h' (kg 134 7 cl ((ini++[c']).map uM)::L)->K h'):opt (vi h q (ini.length*7+j) vs) K:=by
 have hrow:((ini++[c]).map uM)[ini.length]? = some (uM c):=by rw[aaw];simp
 obtain⟨q',c1,cs,e1,gq,wq,ltq,lq,tq,kq,s2⟩:=mj s (i7 _) hrow;rw[hcl]at e1;simp only[abS,aab,acb,abg]at e1;obtain⟨rfl,_,rfl⟩:=e1;refine Lw gq wq lq s2 hj hc λh' s'=>k h' ?_;rw[e]at s'
 have:((ini++[c]).map uM).set ini.length (uM c')=(ini++[c']).map uM:=by
  rw[<- List.map_set,List.set_append_right _ _ (aal _)];simp
 rw[this]at s';exact s'
theorem E5(hl:S.Xm.length=16)(v:V):zf (vC p lv mb wb S ev lk gl cl lim) 26 [.int .i64 v.k,.int .i64 v.n,.int .i64 v.b]=vC p lv mb wb (vQ S 4 v) ev lk gl cl lim:=mf (r:=4) (by decide) (by decide) hl v
theorem EJ{q cp:Nat}{c:Fr}{ini:List Fr}(s:Sat lo h [pt b (xL p lv mb wb S ev lk gl cl lim),kg 134 7 cl (S.calls.map uM),Xh mb S.mem])(hcl:cl=.slice (some ⟨q,0,none⟩) (ini.length+1) cp)(hc:S.calls=ini++[c])(hs:PR lim S)(hl:S.Xm.length=16)(hL:S.mem.length<=100000)(hb:c.YR<9223372036854775808)(hz:0<=c.size/\c.size<=65536)(k0:0<=i.k)(k1:i.k<=65536)(ho:i.op=23\/i.op=24) :
  DC Tryz.prog 94 [xN b,.pointer (some ⟨q,ini.length*7,none⟩),i.val] h (λv h'=>v=.bool (w8 lim S c i).2/\Sat lo h' [pt b (xL p lv mb wb (w8 lim S c i).1 ev lk gl cl lim),kg 134 7 cl ((w8 lim S c i).1.calls.map uM),Xh mb (w8 lim S c i).1.mem]):=by
 apply Cx;unfold p6 xN;rw[hc]at s;simp only[EE,Value.cells];refine vp s λb5 h2 s2=>?_;have g5:=s2.get;obtain⟨cs,gq,wq,ltq,lq,kf,kp,kb,kz,kr⟩:=WT (s2.p 2) hcl;by_cases h24:i.op=24
 ·simp only[EE,zw,zh,Vk,zg,nv,g5,h24];by_cases hb0:c.YR=0
  ·have e:w8 lim S c i=(S,false):=by unfold w8;rw[aam h24,aam (.inl hb0)]
   rw[e];simp only[EE,Kz,KA,KB,gq,kb,hb0];rw[hc];exact s2.k [1,2,3]
  ·by_cases hz0:c.size=i.k
   ·simp only[EE,zw,dz,yR,zh,Ut,Vk,aX,zV,nu,Kz,KA,KB,gq,kb,kz,g5,hb0,hz0];have gm:=(s2.p 1).get;unfold xL at gm;simp only[EE,gm,GV];obtain⟨lo1,l1,s3,fr⟩:=(s2.f [3]).call (L2:=[Xh mb S.mem]);refine qM (by kernel_rfl) rfl (ON s3 hL hb) ?_;rintro v h3 ⟨rfl,s4⟩;have s5:=fr _ _ s4;clear gq kf kp kb kz kr gm;obtain⟨cs,gq,wq,ltq,lq,kf,kp,kb,kz,kr⟩:=WT (s5.p 3) hcl;have gm:=(s5.p 2).get;unfold xL at gm;have w1:IntKind.wrap .i64 (S.stack-c.size)=S.stack-c.size:=Go.Mem.Yo (by have:=hs.s0;omega) (by have:=hs.s1;omega);simp only[EE,zw,zh,WL,Us,aX,nt,gm,gq,kz,BG,w1];refine xQ (s5.p 2) (by simp[vY]) rfl λh6 s6=>?_;rw[LF]at s6;obtain⟨cs2,gq2,_,_,lq2,_,_,_,_,kr2⟩:=WT (s6.p 3) hcl;have lr:ini.length*7+4+3<=cs2.length:=by omega
    have lr2:ini.length*7+7<=cs2.length:=lq2;simp only[EE,aac,Nat.reduceAdd,Nat.reduceMul,Int.reduceLT,Int.reduceLE,Int.reduceToNat,yg,zq,zM,xY,A9,qT,gq2,kr2,lr];refine xQ s6 (by simp[vY]) rfl λh7 s7=>?_;rw[E5 (S:={S with stack:=S.stack-c.size}) hl]at s7;simp only[EE,WL,Vk];refine bY (c':={c with YR:=0}) (s7.p 3) hcl (j:=2) (by simp) rfl rfl λh8 s8=>?_;simp only[EE]
    have e:w8 lim S c i=(Za (vQ {S with mem:=(Ux S.mem c.YR).getD S.mem,stack:=S.stack-c.size} 4 c.l6) {c with YR:=0},true):=by
     unfold w8;rw[aam h24,aak (by rintro(q|q);exact hb0 q;exact q hz0)]
    have ec:(Za (vQ {S with mem:=(Ux S.mem c.YR).getD S.mem,stack:=S.stack-c.size} 4 c.l6) {c with YR:=0}).calls=ini++[{c with YR:=0}]:=by
     show S.calls.dropLast++[_]=_;rw[hc,abZ]
    rw[e];refine⟨rfl,?_⟩;rw[ec];exact s8.k [1,0,2]
   ·have e:w8 lim S c i=(S,false):=(by unfold w8;rw[aam h24,aam (.inr hz0)]);rw[e];simp only[EE,zw,yR,zh,aX,zV,Kz,KA,KB,gq,kb,kz,g5,hb0,hz0];rw[hc];exact s2.k [1,2,3]
 ·simp only[EE,zw,zh,Vk,zg,hE,g5,h24,gq,kb];by_cases hb0:c.YR=0
  ·simp only[EE,zw,yR,zV,gZ,g5,hb0]
   have e0:w8 lim S c i=if (w4 lim S i.k).2=true then
     (Za (vQ { (w4 lim S i.k).1 with mem:=(w7 S.mem i.k).1} 4 (oK (w7 S.mem i.k).2.1 0)) {c with YR:=(w7 S.mem i.k).2.1,size:=i.k,l6:=zB S 4},decide ((w7 S.mem i.k).2.2=0))
    else ((w4 lim S i.k).1,true):=by unfold w8;rw[aak h24,aak (λq=>q hb0)]
   have ec:(w4 lim S i.k).1.calls=S.calls:=by unfold w4;split <;> rfl
   have em:(w4 lim S i.k).1.mem=S.mem:=by unfold w4;split <;> rfl
   have er:(w4 lim S i.k).1.Xm=S.Xm:=by unfold w4;split <;> rfl
   refine yb (by kernel_rfl) rfl (I4 (s2.f [1]) hs k0 (by omega)) ?_;rintro v h3 ⟨rfl,s3⟩;cases hg:(w4 lim S i.k).2 with
   |false=>
    rw[aak (by rw[hg];simp)]at e0;rw[e0];simp only[EE];rw[ec,em,hc];exact s3.k [0,2,3]
   |true=>
    rw[aam hg]at e0;have g5:=(s3.p 1).get;have gm:=s3.get;unfold xL at gm;simp only[EE,zw,dz,yR,Ut,zV,nC,gm,g5,GV];obtain⟨lo1,l1,s4,fr⟩:=(s3.f [3]).call (L2:=[Xh mb S.mem]);refine qM (by kernel_rfl) rfl (Er s4 i.k) ?_;rintro v h4 ⟨rfl,s5⟩;have s6:=fr _ _ s5;obtain⟨M',rB,rE,hA⟩:∃M' rB rE,w7 S.mem i.k=(M',rB,rE):=⟨_,_,_,rfl⟩;rw[hA]at s6 e0 ⊢;have g5:=(s6.p 2).get;have gm:=(s6.p 1).get;unfold xL at gm
    have hne:b5≠q:=by
     intro e;obtain⟨cs,gq,_⟩:=WT (s6.p 3) hcl;rw[<- e,g5]at gq;cases gq
    have hne2:q≠b5:=λq=>hne q.symm;have eg:zB (w4 lim S i.k).1 4=zB S 4:=by unfold zB;rw[er]
    simp only[EE,aac,Nat.reduceAdd,Nat.reduceLeDiff,Nat.reduceMul,Int.reduceLT,Int.reduceLE,Int.reduceToNat,ne_eq,yg,zw,yR,zq,WL,xY,Vk,zV,qT,nB,gm,g5,bU,M7,eg,AH,hne2,ne_eq,true_or];refine bY (c':={c with YR:=rB}) (s6.p 3) hcl (j:=2) (by simp) rfl rfl λh7 s7=>?_;simp only[EE,WL,aX];refine bY (c':={c with YR:=rB,size:=i.k}) s7 hcl (j:=3) (by simp) rfl rfl λh8 s8=>?_;simp only[EE,Nat.reduceAdd,zM,A9];refine bY (c':={c with YR:=rB,size:=i.k,l6:=zB S 4}) s8 hcl (j:=4) (by simp) rfl rfl λh9 s9=>?_;simp only[];refine ka (by kernel_rfl) rfl (Im rB 0 _) ?_;simp only[EE,aac,Nat.reduceAdd,Nat.reduceMul,Int.reduceLT,Int.reduceLE,Int.reduceToNat,zM,xY,qT,nz];refine xQ (s9.p 2) (by simp[vY]) rfl λh10 s10=>?_;rw[E5 (by rw[er];exact hl)]at s10;simp only[EE]
    have ec2:(Za (vQ { (w4 lim S i.k).1 with mem:=M'} 4 (oK rB 0)) {c with YR:=rB,size:=i.k,l6:=zB S 4}).calls=ini++[{c with YR:=rB,size:=i.k,l6:=zB S 4}]:=by
     show(w4 lim S i.k).1.calls.dropLast++[_]=_;rw[ec,hc,abZ]
    rw[e0];refine⟨rfl,?_⟩;show Sat lo h10 [pt b (xL p lv mb wb (Za (vQ { (w4 lim S i.k).1 with mem:=M'} 4 (oK rB 0)) {c with YR:=rB,size:=i.k,l6:=zB S 4}) ev lk gl cl lim),kg 134 7 cl ((Za (vQ { (w4 lim S i.k).1 with mem:=M'} 4 (oK rB 0)) {c with YR:=rB,size:=i.k,l6:=zB S 4}).calls.map uM),Xh mb M'];rw[ec2];exact s10.k [0,1,2]
  ·have e:w8 lim S c i=(S,false):=by unfold w8;rw[aak h24,aam hb0]
   rw[e];simp only[EE,hb0];rw[hc];exact s2.k [1,2,3]
end
def V6(p:Pg)(b mb wb:Nat)(wn:Value)(world:List Int)(lim:Int)(lv gl:Value)(S:St)(ev lk cl:Value):List HP :=
 [pt b (xL p lv mb wb S ev lk gl cl lim),kg 80 3 lk (S.lk.map qU),kg 85 2 ev (S.ev.map Zc),kg 134 7 cl (S.calls.map uM),Xh mb S.mem,pt wb (.cells [wn,.int .i64 S.used] 151),kg 2 1 wn (world.map w9)]
def ZO(lo:yQ)(p:Pg)(b mb wb:Nat)(wn:Value)(world:List Int)(lim:Int)(lv gl:Value)(S:St)(h:za):Prop := ∃ev lk cl,Sat lo h (V6 p b mb wb wn world lim lv gl S ev lk cl)
structure J2 (lim:Int) (S:St):Prop where
 hl:S.Xm.length=16
 hv:∀r,vb (zB S r)
 N5:PR lim S
 lk:(S.lk.length+1)*24<=2^47
 ev:(S.ev.length+1)*16<=2^47
 cs:(S.calls.length+1)*56<=2^47
 mem:small S.mem/\S.mem.length<=100000
 used:0<=S.used/\S.used<4611686018427387904
structure SN (c:Fr):Prop where
 YR:c.YR<9223372036854775808
 size:0<=c.size/\c.size<=65536
section
variable {lo:yQ}{h:za}{L:List HP}{b mb wb:Nat}{p:Pg}{S:St}{wn lv gl ev lk cl:Value}{world:List Int}{lim:Int}{i:wZ}{c:Fr}{q j:Nat}
theorem sJ{X:List HP}{r:Int}{K:za->Prop}(s:Sat lo h (pt b (xL p lv mb wb S ev lk gl cl lim)::X))(hl:S.Xm.length=16)(h0:0<=r)(h1:r<16)(v:V)(k:∀h',Sat lo h' (pt b (xL p lv mb wb (vQ S r v) ev lk gl cl lim)::X)->K h'):opt (vi h b (14+r.toNat*3) [.int .i64 v.k,.int .i64 v.n,.int .i64 v.b]) K:=by
 refine xQ s (by rw[vY];simp;omega) rfl λh' s'=>?_;have e:zf (vC p lv mb wb S ev lk gl cl lim) (14+r.toNat*3) [.int .i64 v.k,.int .i64 v.n,.int .i64 v.b]=vC p lv mb wb (vQ S r v) ev lk gl cl lim:=mf h0 h1 hl v;rw[e]at s';exact k h' s'
theorem VL(S:St)(i:wZ):(yW S i).1.ev=S.ev/\(yW S i).1.calls=S.calls/\(yW S i).1.used=S.used:=by
 unfold yW;split
 ·exact⟨rfl,rfl,rfl⟩
 ·split
  ·split
   ·split <;> exact⟨rfl,rfl,rfl⟩
   ·exact⟨rfl,rfl,rfl⟩
  ·exact⟨rfl,rfl,rfl⟩
theorem Tt(s:Sat lo h (V6 p b mb wb wn world lim lv gl S ev lk cl))(B:J2 lim S)(hk:i.op=1)(r0:0<=i.r)(r1:i.r<16)(m0:0<=i.m)(m1:i.m<16) :
  DC Tryz.prog 66 [xN b,.pointer (some ⟨q,j,none⟩),i.val] h (λv h'=>v=.bool true/\ZO lo p b mb wb wn world lim lv gl (vQ S i.r (zB S i.m)) h'):=by
 apply wz;unfold u2 xN;simp only[EE,Value.cells];refine vp s λb5 h2 s2=>?_;have g5:=s2.get;have gm:=(s2.p 1).get;unfold xL at gm;simp only[EE,↓yy,aac,Nat.reduceAdd,yg,zw,zh,zq,zM,xY,zg,wJ,xM,qT,ow,xx,g5,gm,hk,m0,m1,j8 m1,j7 m0 m1,r0,r1];refine sJ (s2.p 1) B.hl r0 r1 _ λh3 s3=>?_;simp only[EE];exact⟨ev,lk,cl,(s3.p 1).drop⟩
theorem Tu(s:Sat lo h (V6 p b mb wb wn world lim lv gl S ev lk cl))(B:J2 lim S)(hk:i.op=2)(r0:0<=i.r)(r1:i.r<16) :
  DC Tryz.prog 66 [xN b,.pointer (some ⟨q,j,none⟩),i.val] h (λv h'=>v=.bool true/\ZO lo p b mb wb wn world lim lv gl (vQ S i.r (qN i.k)) h'):=by
 apply wz;unfold u2 xN;simp only[EE,Value.cells];refine vp s λb5 h2 s2=>?_;have g5:=s2.get;have gm:=(s2.p 1).get;unfold xL at gm;simp only[EE,↓yy,Int.reduceEq,zw,yR,zh,zg,wJ,zV,ov,xP,xx,g5,hk];refine ka (by kernel_rfl) rfl (ZZ i.k _) ?_;simp only[EE,aac,Nat.reduceAdd,zM,xY,qT,Af,r0,r1];refine sJ (s2.p 1) B.hl r0 r1 _ λh3 s3=>?_;simp only[EE];exact⟨ev,lk,cl,(s3.p 1).drop⟩
theorem Tv(s:Sat lo h (V6 p b mb wb wn world lim lv gl S ev lk cl))(B:J2 lim S)(hk:i.op=3)(r0:0<=i.r)(r1:i.r<16)(m0:0<=i.m)(m1:i.m<16)(hsub:Xl i.sub) :
  DC Tryz.prog 66 [xN b,.pointer (some ⟨q,j,none⟩),i.val] h (λv h'=>v=.bool (yW S i).2/\ZO lo p b mb wb wn world lim lv gl (yW S i).1 h'):=by
 apply wz;unfold u2 xN;simp only[EE,Value.cells];refine vp s λb5 h2 s2=>?_;have g5:=s2.get;have gm:=(s2.p 1).get;unfold xL at gm;simp only[EE,nth,↓yy,aac,Nat.reduceAdd,Int.reduceEq,yg,zw,zh,v8,zg,wg,wh,xP,xx,g5,hk];have ei:i.val=.agg #[.int .i64 3,.int .i64 i.r,.int .i64 i.m,.int .i64 i.sub,.int .i64 i.cc,.int .i64 i.l,.int .i64 i.k]:=by rw[<- hk]
 rw[<- ei];obtain⟨lo1,l1,s3,fr⟩:=(s2.f [1,2,5]).call (L2:=[pt b (xL p lv mb wb S ev lk gl cl lim),kg 80 3 lk (S.lk.map qU),Xh mb S.mem]);refine yb (by kernel_rfl) rfl (Aq (i:=i) s3 B.lk B.hl B.hv B.mem.1 hsub m0 m1 r0 r1) ?_;rintro v h4 ⟨rfl,lk',s4⟩;have s5:=fr _ _ s4;simp only[EE];have ee:(yW S i).1.ev=S.ev/\(yW S i).1.calls=S.calls/\(yW S i).1.used=S.used:=VL S i;refine⟨ev,lk',cl,?_⟩;unfold V6;rw[ee.1,ee.2.1,ee.2.2];exact s5.k [0,1,4,5,2,6,7]
theorem Tw(s:Sat lo h (V6 p b mb wb wn world lim lv gl S ev lk cl))(B:J2 lim S)(hk:i.op=4)(r0:0<=i.r)(r1:i.r<16)(m0:0<=i.m)(m1:i.m<16)(hsub:Xl i.sub) :
  DC Tryz.prog 66 [xN b,.pointer (some ⟨q,j,none⟩),i.val] h (λv h'=>v=.bool (yW S i).2/\ZO lo p b mb wb wn world lim lv gl (yW S i).1 h'):=by
 apply wz;unfold u2 xN;simp only[EE,Value.cells];refine vp s λb5 h2 s2=>?_;have g5:=s2.get;have gm:=(s2.p 1).get;unfold xL at gm;simp only[EE,nth,↓yy,aac,Nat.reduceAdd,Int.reduceEq,yg,zw,zh,v8,zg,wg,wh,xP,xx,g5,hk];have ei:i.val=.agg #[.int .i64 4,.int .i64 i.r,.int .i64 i.m,.int .i64 i.sub,.int .i64 i.cc,.int .i64 i.l,.int .i64 i.k]:=by rw[<- hk]
 rw[<- ei];obtain⟨lo1,l1,s3,fr⟩:=(s2.f [1,2,5]).call (L2:=[pt b (xL p lv mb wb S ev lk gl cl lim),kg 80 3 lk (S.lk.map qU),Xh mb S.mem]);refine yb (by kernel_rfl) rfl (Aq (i:=i) s3 B.lk B.hl B.hv B.mem.1 hsub m0 m1 r0 r1) ?_;rintro v h4 ⟨rfl,lk',s4⟩;have s5:=fr _ _ s4;simp only[EE];have ee:(yW S i).1.ev=S.ev/\(yW S i).1.calls=S.calls/\(yW S i).1.used=S.used:=VL S i;refine⟨ev,lk',cl,?_⟩;unfold V6;rw[ee.1,ee.2.1,ee.2.2];exact s5.k [0,1,4,5,2,6,7]
theorem Tx(s:Sat lo h (V6 p b mb wb wn world lim lv gl S ev lk cl))(B:J2 lim S)(hk:i.op=5)(r0:0<=i.r)(r1:i.r<16)(m0:0<=i.m)(m1:i.m<16) :
  DC Tryz.prog 66 [xN b,.pointer (some ⟨q,j,none⟩),i.val] h (λv h'=>v=.bool (vL S i.r (yw 11 (zB S i.m) (qN i.k))).2/\ZO lo p b mb wb wn world lim lv gl (vL S i.r (yw 11 (zB S i.m) (qN i.k))).1 h'):=by
 apply wz;unfold u2 xN;simp only[EE,Value.cells];refine vp s λb5 h2 s2=>?_;have g5:=s2.get;have gm:=(s2.p 1).get;unfold xL at gm;simp only[EE,nth,↓yy,aac,Nat.reduceAdd,Int.reduceEq,yg,zw,yR,zh,v8,zq,xY,zg,wJ,xM,zV,qT,ou,wG,wg,wh,xP,xx,g5,gm,hk,m0,m1,j8 m1,j7 m0 m1];refine ka (by kernel_rfl) rfl (ZZ i.k _) ?_;refine qM (by kernel_rfl) rfl (eR (s2.p 1) B.hl r0 r1 11 (zB S i.m) (qN i.k)) ?_;rintro v h3 ⟨rfl,s3⟩;simp only[EE];exact⟨ev,lk,cl,(s3.p 1).drop⟩
theorem Ty(s:Sat lo h (V6 p b mb wb wn world lim lv gl S ev lk cl))(B:J2 lim S)(hk:i.op=6)(r0:0<=i.r)(r1:i.r<16)(s0:0<=i.sub)(s1:i.sub<S.gl.length)(hg:Rd lo (zD · gl S.gl)) :
  DC Tryz.prog 66 [xN b,.pointer (some ⟨q,j,none⟩),i.val] h (λv h'=>v=.bool true/\ZO lo p b mb wb wn world lim lv gl (vQ S i.r (oK (S.gl.getD i.sub.toNat 0) i.k)) h'):=by
 apply wz;unfold u2 xN;simp only[EE,Value.cells];refine vp s λb5 h2 s2=>?_;have g5:=s2.get;have gm:=(s2.p 1).get;unfold xL at gm;obtain⟨z,hz⟩:∃z,S.gl[i.sub.toNat]? = some z:=⟨_,aae (by omega)⟩;obtain⟨bb,o,cs,t,hix,hb,hgt,hat0⟩:=fo (hg.at s2) hz;rw[show((i.sub.toNat:Nat):Int)=i.sub from Int.toNat_of_nonneg s0]at hix;have gn:=(hg.at s2).Y0;rw[show S.gl.getD i.sub.toNat 0=z by rw[aaR,hz];rfl];simp only[EE,nth,↓yy,aac,Nat.reduceAdd,Int.reduceEq,yg,zw,yR,u5,zh,v8,A8,zg,wJ,zF,zV,ot,wY,wG,wg,wh,xP,xx,g5,gm,hk,NT,hix,hgt,hat0];refine ka (by kernel_rfl) rfl (Im z i.k _) ?_;simp only[EE,aac,Nat.reduceAdd,zM,xY,qT,Ag,r0,r1];refine sJ (s2.p 1) B.hl r0 r1 _ λh3 s3=>?_;simp only[];exact⟨ev,lk,cl,(s3.p 1).drop⟩
theorem Tz(s:Sat lo h (V6 p b mb wb wn world lim lv gl S ev lk cl))(B:J2 lim S)(hk:i.op=7)(r0:0<=i.r)(r1:i.r<16)(m0:0<=i.m)(m1:i.m<16) :
  DC Tryz.prog 66 [xN b,.pointer (some ⟨q,j,none⟩),i.val] h (λv h'=>v=.bool (vL S i.r (yw i.sub (zB S i.r) (zB S i.m))).2/\ZO lo p b mb wb wn world lim lv gl (vL S i.r (yw i.sub (zB S i.r) (zB S i.m))).1 h'):=by
 apply wz;unfold u2 xN;simp only[EE,Value.cells];refine vp s λb5 h2 s2=>?_;have g5:=s2.get;have gm:=(s2.p 1).get;unfold xL at gm;simp only[EE,nth,↓yy,aac,Nat.reduceAdd,Int.reduceEq,yg,zw,zh,v8,zq,xY,zg,wJ,xM,zF,qT,oq,w6,wY,wG,wg,wh,xP,xx,g5,gm,hk,m0,m1,j8 m1,j7 m0 m1,r0,r1,j8 r1,j7 r0 r1];refine qM (by kernel_rfl) rfl (eR (s2.p 1) B.hl r0 r1 i.sub (zB S i.r) (zB S i.m)) ?_;rintro v h3 ⟨rfl,s3⟩;simp only[EE];exact⟨ev,lk,cl,(s3.p 1).drop⟩
theorem TA(s:Sat lo h (V6 p b mb wb wn world lim lv gl S ev lk cl))(B:J2 lim S)(hk:i.op=8)(r0:0<=i.r)(r1:i.r<16) :
  DC Tryz.prog 66 [xN b,.pointer (some ⟨q,j,none⟩),i.val] h (λv h'=>v=.bool (vL S i.r (yw i.sub (zB S i.r) (qN i.k))).2/\ZO lo p b mb wb wn world lim lv gl (vL S i.r (yw i.sub (zB S i.r) (qN i.k))).1 h'):=by
 apply wz;unfold u2 xN;simp only[EE,Value.cells];refine vp s λb5 h2 s2=>?_;have g5:=s2.get;have gm:=(s2.p 1).get;unfold xL at gm;simp only[EE,nth,↓yy,aac,Nat.reduceAdd,Int.reduceEq,yg,zw,yR,zh,v8,zq,xY,zg,wJ,zF,zV,qT,dy,vf,w6,wY,wG,wg,wh,xP,xx,g5,gm,hk,r0,r1,j8 r1,j7 r0 r1];refine ka (by kernel_rfl) rfl (ZZ i.k _) ?_;refine qM (by kernel_rfl) rfl (eR (s2.p 1) B.hl r0 r1 i.sub (zB S i.r) (qN i.k)) ?_;rintro v h3 ⟨rfl,s3⟩;simp only[EE];exact⟨ev,lk,cl,(s3.p 1).drop⟩
theorem R5(s:Sat lo h (V6 p b mb wb wn world lim lv gl S ev lk cl))(B:J2 lim S)(hk:i.op=11)(r0:0<=i.r)(r1:i.r<16) :
  DC Tryz.prog 66 [xN b,.pointer (some ⟨q,j,none⟩),i.val] h (λv h'=>v=.bool (vL S i.r (yw i.sub (zB S i.r) (qN i.k))).2/\ZO lo p b mb wb wn world lim lv gl (vL S i.r (yw i.sub (zB S i.r) (qN i.k))).1 h'):=by
 apply wz;unfold u2 xN;simp only[EE,Value.cells];refine vp s λb5 h2 s2=>?_;have g5:=s2.get;have gm:=(s2.p 1).get;unfold xL at gm;simp only[EE,nth,↓yy,aac,Nat.reduceAdd,Int.reduceEq,yg,zw,yR,zh,v8,zq,xY,zg,wJ,zF,zV,qT,dy,vf,w6,wY,wG,wg,wh,xP,xx,g5,gm,hk,r0,r1,j8 r1,j7 r0 r1];refine ka (by kernel_rfl) rfl (ZZ i.k _) ?_;refine qM (by kernel_rfl) rfl (eR (s2.p 1) B.hl r0 r1 i.sub (zB S i.r) (qN i.k)) ?_;rintro v h3 ⟨rfl,s3⟩;simp only[EE];exact⟨ev,lk,cl,(s3.p 1).drop⟩
theorem TB(s:Sat lo h (V6 p b mb wb wn world lim lv gl S ev lk cl))(B:J2 lim S)(hk:i.op=9)(r0:0<=i.r)(r1:i.r<16) :
  DC Tryz.prog 66 [xN b,.pointer (some ⟨q,j,none⟩),i.val] h (λv h'=>v=.bool (vL S i.r (fA i.sub (zB S i.r))).2/\ZO lo p b mb wb wn world lim lv gl (vL S i.r (fA i.sub (zB S i.r))).1 h'):=by
 apply wz;unfold u2 xN;simp only[EE,Value.cells];refine vp s λb5 h2 s2=>?_;have g5:=s2.get;have gm:=(s2.p 1).get;unfold xL at gm;simp only[EE,nth,↓yy,aac,Nat.reduceAdd,Int.reduceEq,yg,zw,zh,v8,zq,xY,zg,wJ,zF,qT,om,vF,vf,w6,wY,wG,wg,wh,xP,xx,g5,gm,hk,r0,r1,j8 r1,j7 r0 r1];refine qM (by kernel_rfl) rfl (SH (s2.p 1) B.hl r0 r1 i.sub (zB S i.r)) ?_;rintro v h3 ⟨rfl,s3⟩;simp only[EE];exact⟨ev,lk,cl,(s3.p 1).drop⟩
theorem R4(s:Sat lo h (V6 p b mb wb wn world lim lv gl S ev lk cl))(B:J2 lim S)(hk:i.op=10)(r0:0<=i.r)(r1:i.r<16)(m0:0<=i.m)(m1:i.m<16) :
  DC Tryz.prog 66 [xN b,.pointer (some ⟨q,j,none⟩),i.val] h (λv h'=>v=.bool (vL S i.r (fA i.sub (zB S i.m))).2/\ZO lo p b mb wb wn world lim lv gl (vL S i.r (fA i.sub (zB S i.m))).1 h'):=by
 apply wz;unfold u2 xN;simp only[EE,Value.cells];refine vp s λb5 h2 s2=>?_;have g5:=s2.get;have gm:=(s2.p 1).get;unfold xL at gm;simp only[EE,nth,↓yy,aac,Nat.reduceAdd,Int.reduceEq,yg,zw,zh,v8,zq,xY,zg,wJ,xM,zF,qT,oj,vP,vF,vf,w6,wY,wG,wg,wh,xP,xx,g5,gm,hk,m0,m1,j8 m1,j7 m0 m1];refine qM (by kernel_rfl) rfl (SH (s2.p 1) B.hl r0 r1 i.sub (zB S i.m)) ?_;rintro v h3 ⟨rfl,s3⟩;simp only[EE];exact⟨ev,lk,cl,(s3.p 1).drop⟩
end
def UG(p:Pg)(lv:Value)(h:za):Prop := ∃ls:List Nat,zT h lv 1 (ls.map λq=>[.map (some q)])/\ls.length=p.funcs.length /\ ∀(k q:Nat) (f:Fn),ls[k]? = some q->p.funcs[k]? = some f->h.get q=some (Q6 (VX f.code 0 []))
section
variable {lo:yQ}{h:za}{L:List HP}{b mb wb:Nat}{p:Pg}{S:St}{wn lv gl ev lk cl:Value}{world:List Int}{lim:Int}{i:wZ}{c:Fr}{ini:List Fr}{q j cp:Nat}
theorem PZ(n:Int):IntKind.wrap .i64 (BitVec.ofInt IntKind.i64.bits n &&& BitVec.ofInt IntKind.i64.bits 63).toNat=Wx (· &&& ·) n 63:=rfl
theorem Nc(hl:S.Xm.length=16)(v:V):zf (vC p lv mb wb S ev lk gl cl lim) 20 [.int .i64 v.k,.int .i64 v.n,.int .i64 v.b]=vC p lv mb wb (vQ S 2 v) ev lk gl cl lim:=mf (r:=2) (by decide) (by decide) hl v
theorem Nb(hl:S.Xm.length=16)(v:V):zf (vC p lv mb wb S ev lk gl cl lim) 14 [.int .i64 v.k,.int .i64 v.n,.int .i64 v.b]=vC p lv mb wb (vQ S 0 v) ev lk gl cl lim:=mf (r:=0) (by decide) (by decide) hl v
theorem Sz(v:V):zf (vC p lv mb wb S ev lk gl cl lim) 63 [.int .i64 v.k,.int .i64 v.n,.int .i64 v.b]=vC p lv mb wb {S with a:=v} ev lk gl cl lim:=Sw v
theorem SA(v:V):zf (vC p lv mb wb S ev lk gl cl lim) 66 [.int .i64 v.k,.int .i64 v.n,.int .i64 v.b]=vC p lv mb wb {S with b:=v} ev lk gl cl lim:=Sx v
theorem RL{r r':Int}{v:V}(h0:0<=r)(h1:0<=r')(hn:r≠r'):zB (vQ S r v) r'=zB S r':=by
 unfold zB vQ;rw[ld h1,ld h1];show(S.Xm.set r.toNat v).getD r'.toNat v0=_;rw[aaR,aaR,abo (by omega)]
theorem AV(S:St)(m:V):(Yj S m).1.ev=S.ev/\(Yj S m).1.calls=S.calls/\(Yj S m).1.used=S.used/\(Yj S m).1.mem=S.mem:=by
 unfold Yj;split
 ·split
  ·split <;> exact⟨rfl,rfl,rfl,rfl⟩
  ·exact⟨rfl,rfl,rfl,rfl⟩
 ·exact⟨rfl,rfl,rfl,rfl⟩
theorem R6(s:Sat lo h (V6 p b mb wb wn world lim lv gl S ev lk cl))(B:J2 lim S)(hk:i.op=12)(r0:0<=i.r)(r1:i.r<16) :
  DC Tryz.prog 66 [xN b,.pointer (some ⟨q,j,none⟩),i.val] h (λv h'=>v=.bool (if (zB S 1).k=1 then (vL S i.r (yw i.sub (zB S i.r) (qN (Wx (· &&& ·) (zB S 1).n 63)))) else (S,false)).2/\ZO lo p b mb wb wn world lim lv gl (if (zB S 1).k=1 then (vL S i.r (yw i.sub (zB S i.r) (qN (Wx (· &&& ·) (zB S 1).n 63)))) else (S,false)).1 h'):=by
 apply wz;unfold u2 xN;simp only[EE,Value.cells];refine vp s λb5 h2 s2=>?_;have g5:=s2.get;have gm:=(s2.p 1).get;unfold xL at gm;simp only[EE,nth,Value.cells,↓yy,aac,Nat.reduceAdd,Nat.reduceLeDiff,Nat.reduceMul,Int.reduceEq,Int.reduceLT,Int.reduceLE,Int.reduceToNat,yg,zw,zh,v8,zq,vT,xY,zg,qT,oh,ud,vP,vF,vf,w6,wY,wG,wg,wh,xP,xx,g5,gm,hk,bU,M5];refine vp s2 λb6 h3 s3=>?_;simp only[EE,Nat.reduceAdd,zM];refine xQ s3 (by simp) rfl λh4 s4=>?_;have g6:=s4.get;have g5:=(s4.p 1).get;have gm:=(s4.p 2).get;unfold xL at gm;by_cases k1:(zB S 1).k=1
 ·rw[aam k1];simp only[EE,zf,aac,Nat.reduceAdd,yg,zw,yR,zh,zq,xY,wJ,zF,wA,wx,qT,ic,ie,ig,ij,ik,il,cZ,g5,g6,gm,k1,r0,r1,j8 r1,j7 r0 r1];rw[PZ];refine ka (by kernel_rfl) rfl (ZZ (Wx (· &&& ·) (zB S 1).n 63) _) ?_;simp only[EE,hZ];refine qM (by kernel_rfl) rfl (eR (s4.p 2) B.hl r0 r1 i.sub (zB S i.r) (qN (Wx (· &&& ·) (zB S 1).n 63))) ?_;rintro v h3 ⟨rfl,s3⟩;simp only[EE];exact⟨ev,lk,cl,s3.k [0,3,4,5,6,7,8]⟩
 ·rw[aak k1];simp only[EE,zf,Nat.reduceAdd,zw,zh,wA,hZ,ic,ie,ig,ij,ik,il,cZ,g6,k1];exact⟨ev,lk,cl,s4.drop.drop⟩
theorem R7(s:Sat lo h (V6 p b mb wb wn world lim lv gl S ev lk cl))(B:J2 lim S)(hk:i.op=13)  :
  DC Tryz.prog 66 [xN b,.pointer (some ⟨q,j,none⟩),i.val] h (λv h'=>v=.bool (decide ((zB S 0).k=1))/\ZO lo p b mb wb wn world lim lv gl (vQ S 2 (Uz (zB S 0))) h'):=by
 apply wz;unfold u2 xN;simp only[EE,Value.cells];refine vp s λb5 h2 s2=>?_;have g5:=s2.get;have gm:=(s2.p 1).get;unfold xL at gm;simp only[EE,nth,↓yy,aac,Nat.reduceAdd,Nat.reduceLeDiff,Nat.reduceMul,Int.reduceEq,Int.reduceLT,Int.reduceLE,Int.reduceToNat,yg,zw,zh,v8,zq,xY,zg,qT,og,uE,ud,vP,vF,vf,w6,wY,wG,wg,wh,xP,xx,g5,gm,hk,bU,sC];refine ka (by kernel_rfl) rfl (LG (zB S 0) _) ?_;simp only[EE,aac,Nat.reduceAdd,Nat.reduceMul,Int.reduceLT,Int.reduceLE,Int.reduceToNat,zM,xY,qT,nT];refine xQ (s2.p 1) (by simp[vY]) rfl λh3 s3=>?_;rw[Nc B.hl (Uz (zB S 0))]at s3;have gm:=s3.get;unfold xL at gm;have e0:zB (vQ S 2 (Uz (zB S 0))) 0=zB S 0:=RL (by decide) (by decide) (by decide);simp only[EE,aac,Nat.reduceMul,Int.reduceLT,Int.reduceLE,Int.reduceToNat,zw,zh,xY,wA,qT,gm];refine⟨rfl,?_,ev,lk,cl,(s3.p 1).drop⟩;show Value.bool ((zB (vQ S 2 (Uz (zB S 0))) 0).k == 1)=_;rw[e0];rfl
theorem R8(s:Sat lo h (V6 p b mb wb wn world lim lv gl S ev lk cl))(B:J2 lim S)(hk:i.op=14)(m0:0<=i.m)(m1:i.m<16) :
  DC Tryz.prog 66 [xN b,.pointer (some ⟨q,j,none⟩),i.val] h (λv h'=>v=.bool (Yj S (zB S i.m)).2/\ZO lo p b mb wb wn world lim lv gl (Yj S (zB S i.m)).1 h'):=by
 apply wz;unfold u2 xN;simp only[EE,Value.cells];refine vp s λb5 h2 s2=>?_;have g5:=s2.get;have gm:=(s2.p 1).get;unfold xL at gm;simp only[EE,nth,↓yy,aac,Nat.reduceAdd,Int.reduceEq,yg,zw,zh,v8,zq,xY,zg,xM,qT,oe,uZ,uE,ud,vP,vF,vf,w6,wY,wG,wg,wh,xP,xx,g5,gm,hk,m0,m1,j8 m1,j7 m0 m1];obtain⟨lo1,l1,s3,fr⟩:=(s2.f [1,2]).call (L2:=[pt b (xL p lv mb wb S ev lk gl cl lim),kg 80 3 lk (S.lk.map qU)]);refine qM (by kernel_rfl) rfl (IH (mv:=zB S i.m) s3 B.lk B.hl) ?_;rintro v h4 ⟨rfl,lk',s4⟩;have s5:=fr _ _ s4;simp only[EE];obtain⟨e1,e2,e3,e4⟩:=AV S (zB S i.m);refine⟨ev,lk',cl,?_⟩;unfold V6;rw[e1,e2,e3,e4];exact s5.k [0,1,3,4,5,6,7]
theorem R9(s:Sat lo h (V6 p b mb wb wn world lim lv gl S ev lk cl))(B:J2 lim S)(hk:i.op=15)(r0:0<=i.r)(r1:i.r<16)(m0:0<=i.m)(m1:i.m<16) :
  DC Tryz.prog 66 [xN b,.pointer (some ⟨q,j,none⟩),i.val] h (λv h'=>v=.bool true/\ZO lo p b mb wb wn world lim lv gl {S with flags:=true,a:=zB S i.r,b:=zB S i.m} h'):=by
 apply wz;unfold u2 xN;simp only[EE,Value.cells];refine vp s λb5 h2 s2=>?_;have g5:=s2.get;have gm:=(s2.p 1).get;unfold xL at gm;simp only[EE,nth,↓yy,aac,Nat.reduceAdd,Int.reduceEq,yg,zw,zh,v8,zq,Ml,xY,Wc,zg,wJ,xM,qT,od,qe,uZ,uE,ud,vP,vF,vf,w6,wY,wG,wg,wh,xP,xx,g5,gm,hk,m0,m1,j8 m1,j7 m0 m1,r0,r1,j8 r1,j7 r0 r1];refine xQ (s2.p 1) (by simp[vY]) rfl λh3 s3=>?_;rw[E4]at s3;simp only[EE,Nat.reduceAdd,zM,aW];refine xQ s3 (by simp[vY]) rfl λh4 s4=>?_;rw[Sz]at s4;simp only[EE,Nat.reduceAdd,zM,KO];refine xQ s4 (by simp[vY]) rfl λh5 s5=>?_;rw[SA (zB S i.m)]at s5;simp only[];exact⟨ev,lk,cl,(s5.p 1).drop⟩
theorem Sa(s:Sat lo h (V6 p b mb wb wn world lim lv gl S ev lk cl))(B:J2 lim S)(hk:i.op=16)(r0:0<=i.r)(r1:i.r<16) :
  DC Tryz.prog 66 [xN b,.pointer (some ⟨q,j,none⟩),i.val] h (λv h'=>v=.bool true/\ZO lo p b mb wb wn world lim lv gl {S with flags:=true,a:=zB S i.r,b:=qN i.k} h'):=by
 apply wz;unfold u2 xN;simp only[EE,Value.cells];refine vp s λb5 h2 s2=>?_;have g5:=s2.get;have gm:=(s2.p 1).get;unfold xL at gm;simp only[EE,nth,↓yy,aac,Nat.reduceAdd,Int.reduceEq,yg,zw,yR,zh,v8,zq,xY,zg,wJ,zV,qT,oc,qD,qe,uZ,uE,ud,vP,vF,vf,w6,wY,wG,wg,wh,xP,xx,g5,gm,hk,r0,r1,j8 r1,j7 r0 r1];refine ka (by kernel_rfl) rfl (ZZ i.k _) ?_;simp only[EE,Ml,Wc,nU];refine xQ (s2.p 1) (by simp[vY]) rfl λh3 s3=>?_;rw[E4]at s3;simp only[EE,Nat.reduceAdd,zM,aW];refine xQ s3 (by simp[vY]) rfl λh4 s4=>?_;rw[Sz]at s4;simp only[EE,Nat.reduceAdd,zM,KO];refine xQ s4 (by simp[vY]) rfl λh5 s5=>?_;rw[SA (qN i.k)]at s5;simp only[];exact⟨ev,lk,cl,(s5.p 1).drop⟩
theorem Sb(s:Sat lo h (V6 p b mb wb wn world lim lv gl S ev lk cl))(B:J2 lim S)(hk:i.op=17)(r0:0<=i.r)(r1:i.r<16) :
  DC Tryz.prog 66 [xN b,.pointer (some ⟨q,j,none⟩),i.val] h (λv h'=>v=.bool (if S.flags=true then (vL S i.r (yw i.cc S.a S.b)) else (S,false)).2/\ZO lo p b mb wb wn world lim lv gl (if S.flags=true then (vL S i.r (yw i.cc S.a S.b)) else (S,false)).1 h'):=by
 apply wz;unfold u2 xN;simp only[EE,Value.cells];refine vp s λb5 h2 s2=>?_;have g5:=s2.get;have gm:=(s2.p 1).get;unfold xL at gm;cases hf:S.flags with
 |false=>
  rw[aak (by decide)];simp only[EE,nth,↓yy,aac,Nat.reduceAdd,Int.reduceEq,yg,zw,zh,CW,v8,Wc,zg,dk,dm,dp,dq,dr,dt,du,dx,qY,qD,qe,uZ,uE,ud,vP,vF,vf,w6,wY,wG,wg,wh,xP,xx,g5,gm,hk,EY,hf];exact⟨ev,lk,cl,s2.drop⟩
 |true=>
  rw[aam rfl];simp only[EE,nth,↓yy,aac,Nat.reduceAdd,Nat.reduceLeDiff,Int.reduceEq,yg,zw,zh,CW,v8,zq,KO,Wc,aW,zg,wJ,U9,dk,dm,dp,dq,dr,dt,du,dx,qY,qD,qe,uZ,uE,ud,vP,vF,vf,w6,wY,wG,wg,wh,xP,xx,g5,gm,hk,EY,hf,bU,NU,NV];refine qM (by kernel_rfl) rfl (eR (s2.p 1) B.hl r0 r1 i.cc S.a S.b) ?_;rintro v h3 ⟨rfl,s3⟩;simp only[EE];exact⟨ev,lk,cl,(s3.p 1).drop⟩
theorem Se(s:Sat lo h (V6 p b mb wb wn world lim lv gl S ev lk cl))(B:J2 lim S)(hk:i.op=20)  :
  DC Tryz.prog 66 [xN b,.pointer (some ⟨q,j,none⟩),i.val] h (λv h'=>v=.bool true/\ZO lo p b mb wb wn world lim lv gl S h'):=by
 apply wz;unfold u2 xN;simp only[EE,Value.cells];refine vp s λb5 h2 s2=>?_;have g5:=s2.get;have gm:=(s2.p 1).get;unfold xL at gm;simp only[EE,nth,↓yy,aac,Nat.reduceAdd,Int.reduceEq,yg,zw,zh,v8,zg,KH,Uj,Xw,Xx,YO,ZW,Zh,jr,qY,qD,qe,uZ,uE,ud,vP,vF,vf,w6,wY,wG,wg,wh,xP,xx,g5,hk];exact⟨ev,lk,cl,s2.drop⟩
end
section
variable {lo:yQ}{h:za}{L:List HP}{b mb wb:Nat}{p:Pg}{S:St}{wn lv gl ev lk cl:Value}{world:List Int}{lim:Int}{i:wZ}{c:Fr}{ini:List Fr}{q j cp:Nat}
theorem sd{f:Fn}{n:Nat}(hL:UG p lv h)(hf:p.funcs[n]? = some f)(l:Int):yo lv=false /\ ∃bb o cs t qm,zA Tryz.prog 103 lv (.int .i64 (n:Nat))=some (.pointer (some ⟨bb,o,none⟩))/\h.get bb=some (.cells cs t)/\cs[o]? = some (.map (some qm))/\Ym Tryz.prog 129 (.map (some qm)) (.int .i64 l) false h=some (.int .i64 (jv p n l)):=by
 obtain⟨ls,S,hlen,hm⟩:=hL
 have hn:n<ls.length:=by
  rw[hlen];rcases aaA n p.funcs.length with a|a
  ·exact a
  ·rw[aao a]at hf;cases hf
 have hq:ls[n]? = some ls[n]:=aae hn;have hr:(ls.map λq=>[Value.map (some q)])[n]? = some [.map (some ls[n])]:=by rw[aaw,hq];rfl
 refine⟨S.Y0,?_⟩;obtain⟨bb,o,cs,t,⟨off,cp,rfl,rfl⟩,hi,hb,hg,hl,ht,hk⟩:=S.spot hr rfl;have h1:0<=(n:Int)/\(n:Int)<((ls.map λq=>[Value.map (some q)]).length:Int):=by omega
 refine⟨bb,off+n*1,cs,t,ls[n],by simp only[OS,h1,aaE,and_self,aac],hg,hk 0 (by decide),?_⟩;rw[Br (kt:=3) (et:=3) (kind := .i64) (z := .int .i64 0) (by kernel_rfl) (by kernel_rfl) (by kernel_rfl) (hm n _ f hq hf) l false];have hp:=lC f.code l 0 0 [] (.inr ⟨rfl,rfl⟩);have e:jv p n l=Ws f.code l 0 0:=by unfold jv;rw[hf]
 rw[e];rcases hp with hp|⟨hp,hz⟩
 ·rw[hp];rfl
 ·rw[hp,hz];rfl
theorem EM{X:List HP}(hcl:cl=.slice (some ⟨q,0,none⟩) (ini.length+1) cp)(hc:S.calls=ini++[c])(s:Sat lo h (kg 134 7 cl (S.calls.map uM)::X))(z:Int){K:za->Prop}(k:∀h',Sat lo h' (kg 134 7 cl ((Za S {c with pt:=z}).calls.map uM)::X)->K h'):opt (vi h q (ini.length*7+1) [.int .i64 z]) K:=by
 rw[hc]at s;refine bY (c':={c with pt:=z}) s hcl (j:=1) (by simp) rfl rfl λh' s'=>k h' ?_
 have e:(Za S {c with pt:=z}).calls=ini++[{c with pt:=z}]:=by
  show S.calls.dropLast++[_]=_;rw[hc,abZ]
 rw[e];exact s'
theorem Sc(s:Sat lo h (V6 p b mb wb wn world lim lv gl S ev lk cl))(B:J2 lim S)(hk:i.op=18)(hcl:cl=.slice (some ⟨q,0,none⟩) (ini.length+1) cp)(hc:S.calls=ini++[c]){f:Fn}(hL:Rd lo (UG p lv))(hf:p.funcs[c.f]? = some f) :
  DC Tryz.prog 66 [xN b,.pointer (some ⟨q,ini.length*7,none⟩),i.val] h (λv h'=>v=.bool true/\ZO lo p b mb wb wn world lim lv gl (Za S {c with pt:=jv p c.f i.l}) h'):=by
 apply wz;unfold u2 xN;simp only[EE,Value.cells];refine vp s λb5 h2 s2=>?_;have g5:=s2.get;have gm:=(s2.p 1).get;unfold xL at gm;obtain⟨ln,bb,o,cs,t,qm,hix,hgt,hat0,hlk⟩:=sd (hL.at s2) hf i.l;have s2':=s2;unfold V6 at s2';rw[hc]at s2';obtain⟨cs2,gq,wq,ltq,lq,kf,kp,kb,kz,kr⟩:=WT (s2'.p 4) hcl;simp only[EE,nth,↓yy,aac,Nat.reduceAdd,Int.reduceEq,yg,zw,CV,H4,zh,v8,WL,iT,iU,Uu,zg,vh,oa,jr,qY,qD,qe,uZ,uE,ud,vP,vF,vf,w6,wY,wG,wg,wh,xP,xx,g5,gm,gq,kf,hk,Pe,hix,hgt,hat0,hlk];refine EM hcl hc (s2.p 4) _ λh3 s3=>?_;simp only[];exact⟨ev,lk,cl,s3.k [2,3,4,0,5,6,7]⟩
theorem Sd(s:Sat lo h (V6 p b mb wb wn world lim lv gl S ev lk cl))(B:J2 lim S)(hk:i.op=19)(hcl:cl=.slice (some ⟨q,0,none⟩) (ini.length+1) cp)(hc:S.calls=ini++[c]){f:Fn}(hL:Rd lo (UG p lv))(hff:p.funcs[c.f]? = some f) :
  DC Tryz.prog 66 [xN b,.pointer (some ⟨q,ini.length*7,none⟩),i.val] h (λv h'=>v=.bool (VA p S c i).2/\ZO lo p b mb wb wn world lim lv gl (VA p S c i).1 h'):=by
 apply wz;unfold u2 xN;simp only[EE,Value.cells];refine vp s λb5 h2 s2=>?_;have g5:=s2.get;have gm:=(s2.p 1).get;unfold xL at gm;obtain⟨ln,bb,o,cs,t,qm,hix,hgt,hat0,hlk⟩:=sd (hL.at s2) hff i.l;simp only[EE,nth,↓yy,aac,Nat.reduceAdd,Nat.reduceLeDiff,Int.reduceEq,yg,zw,zh,v8,zq,KO,aW,zg,U9,n9,Zh,jr,qY,qD,qe,uZ,uE,ud,vP,vF,vf,w6,wY,wG,wg,wh,xP,xx,g5,gm,hk,bU,NU,NV];refine ka (by kernel_rfl) rfl (Iw i.cc S.a S.b _) ?_;rw[xt];simp only[EE,Value.cells,vT,nX];cases hb:yw i.cc S.a S.b with
 |none=>
  have e:VA p S c i=(S,false):=by unfold VA;rw[hb]
  rw[e];simp only[Option.getD_none,v0];refine vp s2 λb6 h3 s3=>?_;simp only[EE,Nat.reduceAdd,zM];refine xQ s3 (by simp) rfl λh4 s4=>?_;simp only[EE,KE,KF,KG,Option.isSome_none];exact⟨ev,lk,cl,s4.drop.drop⟩
 |some v=>
  simp only[ab7];refine vp s2 λb6 h3 s3=>?_;simp only[EE,Nat.reduceAdd,zM];refine xQ s3 (by simp) rfl λh4 s4=>?_;have g6:=s4.get;have g5:=(s4.p 1).get;have gm:=(s4.p 2).get;unfold xL at gm;cases hf:S.flags with
  |false=>
   have e:VA p S c i=(S,false):=by unfold VA;rw[hb];simp only[hf,abc,aat]
   rw[e];simp only[EE,zw,CW,Wc,KE,KF,KG,gm,EY,hf,Option.isSome_some];exact⟨ev,lk,cl,s4.drop.drop⟩
  |true=>
   have e:VA p S c i=((if v.n=0 then ql S 1 v.n 0 else Za (ql S 1 v.n 0) {c with pt:=jv p c.f i.l}),true):=by unfold VA;rw[hb];simp only[hf,aac]
   rw[e];simp only[EE,zf,Nat.reduceAdd,zw,yR,CW,Wc,wx,nW,KE,KF,KG,g6,gm,EY,hf,Option.isSome_some];obtain⟨lo1,l1,s5,fr⟩:=(s4.f [2,3]).call (L2:=[pt b (xL p lv mb wb S ev lk gl cl lim),kg 80 3 lk (S.lk.map qU)]);refine yb (by kernel_rfl) rfl (sh s5 B.lk 1 v.n 0) ?_;rintro r h5 ⟨lk',s6⟩;have s7:=fr _ _ s6;have g6:=(s7.p 2).get;have g5:=(s7.p 3).get;have gm:=s7.get;unfold xL at gm;by_cases hv:v.n=0
   ·rw[aam hv];simp only[EE,zf,Nat.reduceAdd,zw,yR,wx,dv,g6,hv];rw[hv]at s7;exact⟨ev,lk',cl,s7.k [0,1,4,5,6,7,8]⟩
   ·rw[aak hv];obtain⟨ln,bb,o,cs,t,qm,hix,hgt,hat0,hlk⟩:=sd (hL.at s7) hff i.l;have s7':=s7;rw[hc]at s7';obtain⟨cs2,gq,wq,ltq,lq,kf,kp,kb,kz,kr⟩:=WT (s7'.p 5) hcl;simp only[EE,zf,Nat.reduceAdd,zw,CV,H4,yR,zh,WL,iT,iU,Uu,vh,wx,nV,dv,g5,g6,gm,gq,kf,hv,Pe,hix,hgt,hat0,hlk];refine EM (S:=ql S 1 v.n 0) hcl hc (s7.p 5) _ λh3 s3=>?_;simp only[EE];exact⟨ev,lk',cl,s3.k [1,2,5,0,6,7,8]⟩
theorem iQ(lim:Int)(S:St)(f:Nat):(vB lim S f).ev=S.ev/\(vB lim S f).lk=S.lk/\(vB lim S f).used=S.used/\(vB lim S f).mem=S.mem:=by
 unfold vB w4;by_cases hc:lim-S.stack<8
 ·rw[aam hc];exact⟨rfl,rfl,rfl,rfl⟩
 ·rw[aak hc];exact⟨rfl,rfl,rfl,rfl⟩
theorem LC(S:St)(c:Fr):(Yv S c).1.ev=S.ev/\(Yv S c).1.lk=S.lk/\(Yv S c).1.used=S.used/\(Yv S c).1.mem=S.mem:=by
 unfold Yv;split
 ·exact⟨rfl,rfl,rfl,rfl⟩
 ·split
  ·exact⟨rfl,rfl,rfl,rfl⟩
  ·split <;> exact⟨rfl,rfl,rfl,rfl⟩
theorem i9(lim:Int)(S:St)(c:Fr)(i:wZ):(w8 lim S c i).1.ev=S.ev/\(w8 lim S c i).1.lk=S.lk/\(w8 lim S c i).1.used=S.used:=by
 unfold w8 w4;split
 ·split <;> exact⟨rfl,rfl,rfl⟩
 ·split
  ·exact⟨rfl,rfl,rfl⟩
  ·by_cases hc:lim-S.stack<i.k
   ·rw[aam hc];exact⟨rfl,rfl,rfl⟩
   ·rw[aak hc];exact⟨rfl,rfl,rfl⟩
theorem Sf(s:Sat lo h (V6 p b mb wb wn world lim lv gl S ev lk cl))(B:J2 lim S)(hk:i.op=21)(hs0:0<=i.sub) :
  DC Tryz.prog 66 [xN b,.pointer (some ⟨q,j,none⟩),i.val] h (λv h'=>v=.bool true/\ZO lo p b mb wb wn world lim lv gl (vB lim (ql {S with flags:=false} 4 i.sub 0) i.sub.toNat) h'):=by
 apply wz;unfold u2 xN;simp only[EE,Value.cells];refine vp s λb5 h2 s2=>?_;have g5:=s2.get;have gm:=(s2.p 1).get;unfold xL at gm;obtain⟨fn,hfn⟩:∃fn:Nat,i.sub=fn:=⟨i.sub.toNat,by omega⟩;rw[hfn,aaE];simp only[EE,nth,↓yy,aac,Nat.reduceAdd,Int.reduceEq,yg,zw,zh,v8,Ml,Wc,zg,n7,ZW,Zh,jr,qY,qD,qe,uZ,uE,ud,vP,vF,vf,w6,wY,wG,wg,wh,xP,xx,g5,hk];refine xQ (s2.p 1) (by simp[vY]) rfl λh3 s3=>?_;rw[E4]at s3;simp only[EE,zw,zh,zF];have g5:=(s3.p 1).get;simp only[EE,g5,hfn];obtain⟨lo1,l1,s4,fr⟩:=(s3.f [0,2]).call (L2:=[pt b (xL p lv mb wb {S with flags:=false} ev lk gl cl lim),kg 80 3 lk (S.lk.map qU)]);refine yb (by kernel_rfl) rfl (sh (S:={S with flags:=false}) s4 B.lk 4 fn 0) ?_;rintro r h5 ⟨lk',s6⟩;have s7:=fr _ _ s6;have g5:=(s7.p 2).get;simp only[EE,zw,zh,zF,nY,g5,hfn];obtain⟨lo2,l2,s8,fr2⟩:=(s7.f [0,4]).call (L2:=[pt b (xL p lv mb wb (ql {S with flags:=false} 4 fn 0) ev lk' gl cl lim),kg 134 7 cl (S.calls.map uM)]);refine yb (by kernel_rfl) rfl (EF (S:=ql {S with flags:=false} 4 fn 0) s8 ⟨B.N5.l0,B.N5.l1,B.N5.s0,B.N5.s1⟩ B.cs fn) ?_;rintro r h9 ⟨cl',s10⟩;have s11:=fr2 _ _ s10;simp only[];obtain⟨e1,e2,e3,e4⟩:=iQ lim (ql {S with flags:=false} 4 fn 0) fn;refine⟨ev,lk',cl',?_⟩;unfold V6;rw[e1,e2,e3,e4];exact s11.k [0,2,4,1,5,6,7]
theorem Sg(s:Sat lo h (V6 p b mb wb wn world lim lv gl S ev lk cl))(B:J2 lim S)(hk:i.op=22)(hcl:cl=.slice (some ⟨q,0,none⟩) (ini.length+1) cp)(hc:S.calls=ini++[c])(hn1:ini.length<4611686018427387900) :
  DC Tryz.prog 66 [xN b,.pointer (some ⟨q,ini.length*7,none⟩),i.val] h (λv h'=>v=.bool (Yv S c).2/\ZO lo p b mb wb wn world lim lv gl (Yv S c).1 h'):=by
 apply wz;unfold u2 xN;simp only[EE,Value.cells];refine vp s λb5 h2 s2=>?_;have g5:=s2.get;have gm:=(s2.p 1).get;unfold xL at gm;simp only[EE,nth,↓yy,aac,Nat.reduceAdd,Int.reduceEq,yg,zw,zh,v8,zg,YO,ZW,Zh,jr,qY,qD,qe,uZ,uE,ud,vP,vF,vf,w6,wY,wG,wg,wh,xP,xx,g5,hk];refine yb (by kernel_rfl) rfl (MT (s2.f [1,4]) hcl hc hn1 B.N5) ?_;rintro v h4 ⟨rfl,cl',s4⟩;simp only[EE];obtain⟨e1,e2,e3,e4⟩:=LC S c;refine⟨ev,lk,cl',?_⟩;unfold V6;rw[e1,e2,e3,e4];exact s4.k [0,3,4,1,5,6,7]
theorem Sh(s:Sat lo h (V6 p b mb wb wn world lim lv gl S ev lk cl))(B:J2 lim S)(hk:i.op=23)(hcl:cl=.slice (some ⟨q,0,none⟩) (ini.length+1) cp)(hc:S.calls=ini++[c])(hF:SN c)(k0:0<=i.k)(k1:i.k<=65536) :
  DC Tryz.prog 66 [xN b,.pointer (some ⟨q,ini.length*7,none⟩),i.val] h (λv h'=>v=.bool (w8 lim S c i).2/\ZO lo p b mb wb wn world lim lv gl (w8 lim S c i).1 h'):=by
 apply wz;unfold u2 xN;simp only[EE,Value.cells];refine vp s λb5 h2 s2=>?_;have g5:=s2.get;have gm:=(s2.p 1).get;unfold xL at gm;simp only[EE,nth,↓yy,aac,Nat.reduceAdd,Int.reduceEq,yg,zw,zh,v8,zg,Xw,Xx,YO,ZW,Zh,jr,qY,qD,qe,uZ,uE,ud,vP,vF,vf,w6,wY,wG,wg,wh,xP,xx,g5,hk];have ei:i.val=.agg #[.int .i64 23,.int .i64 i.r,.int .i64 i.m,.int .i64 i.sub,.int .i64 i.cc,.int .i64 i.l,.int .i64 i.k]:=by rw[<- hk]
 rw[<- ei];obtain⟨lo1,l1,s3,fr⟩:=(s2.f [1,4,5]).call (L2:=[pt b (xL p lv mb wb S ev lk gl cl lim),kg 134 7 cl (S.calls.map uM),Xh mb S.mem]);refine yb (by kernel_rfl) rfl (EJ (i:=i) s3 hcl hc B.N5 B.hl B.mem.2 hF.YR hF.size k0 k1 (by omega)) ?_;rintro v h4 ⟨rfl,s4⟩;have s5:=fr _ _ s4;simp only[EE];obtain⟨e1,e2,e3⟩:=i9 lim S c i;refine⟨ev,lk,cl,?_⟩;unfold V6;rw[e1,e2,e3];exact s5.k [0,4,5,1,2,6,7]
theorem Si(s:Sat lo h (V6 p b mb wb wn world lim lv gl S ev lk cl))(B:J2 lim S)(hk:i.op=24)(hcl:cl=.slice (some ⟨q,0,none⟩) (ini.length+1) cp)(hc:S.calls=ini++[c])(hF:SN c)(k0:0<=i.k)(k1:i.k<=65536) :
  DC Tryz.prog 66 [xN b,.pointer (some ⟨q,ini.length*7,none⟩),i.val] h (λv h'=>v=.bool (w8 lim S c i).2/\ZO lo p b mb wb wn world lim lv gl (w8 lim S c i).1 h'):=by
 apply wz;unfold u2 xN;simp only[EE,Value.cells];refine vp s λb5 h2 s2=>?_;have g5:=s2.get;have gm:=(s2.p 1).get;unfold xL at gm;simp only[EE,nth,↓yy,aac,Nat.reduceAdd,Int.reduceEq,yg,zw,zh,v8,zg,Xw,Xx,YO,ZW,Zh,jr,qY,qD,qe,uZ,uE,ud,vP,vF,vf,w6,wY,wG,wg,wh,xP,xx,g5,hk];have ei:i.val=.agg #[.int .i64 24,.int .i64 i.r,.int .i64 i.m,.int .i64 i.sub,.int .i64 i.cc,.int .i64 i.l,.int .i64 i.k]:=by rw[<- hk]
 rw[<- ei];obtain⟨lo1,l1,s3,fr⟩:=(s2.f [1,4,5]).call (L2:=[pt b (xL p lv mb wb S ev lk gl cl lim),kg 134 7 cl (S.calls.map uM),Xh mb S.mem]);refine yb (by kernel_rfl) rfl (EJ (i:=i) s3 hcl hc B.N5 B.hl B.mem.2 hF.YR hF.size k0 k1 (by omega)) ?_;rintro v h4 ⟨rfl,s4⟩;have s5:=fr _ _ s4;simp only[EE];obtain⟨e1,e2,e3⟩:=i9 lim S c i;refine⟨ev,lk,cl,?_⟩;unfold V6;rw[e1,e2,e3];exact s5.k [0,4,5,1,2,6,7]
theorem Sj(s:Sat lo h (V6 p b mb wb wn world lim lv gl S ev lk cl))(B:J2 lim S)(hk:i.op=25)(hwl:world.length<4611686018427387904) :
  DC Tryz.prog 66 [xN b,.pointer (some ⟨q,j,none⟩),i.val] h (λv h'=>v=.bool true/\ZO lo p b mb wb wn world lim lv gl (vQ {jt S 1 (Yl world S.used) with used:=S.used+1} 0 (qN (Yl world S.used))) h'):=by
 apply wz;unfold u2 xN;simp only[EE,Value.cells];refine vp s λb5 h2 s2=>?_;have g5:=s2.get;have gm:=(s2.p 1).get;unfold xL at gm;simp only[EE,nth,↓yy,aac,Nat.reduceAdd,Int.reduceEq,yg,zw,Oh,zh,v8,IP,zg,n6,Uj,Xw,Xx,YO,ZW,Zh,jr,qY,qD,qe,uZ,uE,ud,vP,vF,vf,w6,wY,wG,wg,wh,xP,xx,g5,gm,hk,TF];obtain⟨lo1,l1,s3,fr⟩:=(s2.f [6,7]).call (L2:=[pt wb (.cells [wn,.int .i64 S.used] 151),kg 2 1 wn (world.map w9)]);refine yb (by kernel_rfl) rfl (O8 s3 B.used.1 B.used.2 hwl) ?_;rintro r h2 ⟨rfl,s4⟩;have s5:=fr _ _ s4;simp only[];obtain⟨lo2,l2,s6,fr2⟩:=(s5.f [3,5]).call (L2:=[pt b (xL p lv mb wb S ev lk gl cl lim),kg 85 2 ev (S.ev.map Zc)]);refine yb (by kernel_rfl) rfl (EH s6 B.ev 1 (Yl world S.used)) ?_;rintro r h5 ⟨ev',s7⟩;have s8:=fr2 _ _ s7;simp only[];refine ka (by kernel_rfl) rfl (ZZ (Yl world S.used) _) ?_;simp only[EE,aac,Nat.reduceAdd,Nat.reduceMul,Int.reduceLT,Int.reduceLE,Int.reduceToNat,zM,xY,qT,nZ];refine xQ s8 (by simp[vY]) rfl λh9 s9=>?_;rw[Nb (S:=jt S 1 (Yl world S.used)) B.hl (qN (Yl world S.used))]at s9;simp only[];exact⟨ev',lk,cl,s9.k [0,5,1,6,7,2,3]⟩
theorem Sk(s:Sat lo h (V6 p b mb wb wn world lim lv gl S ev lk cl))(B:J2 lim S)(hk:i.op=26)  :
  DC Tryz.prog 66 [xN b,.pointer (some ⟨q,j,none⟩),i.val] h (λv h'=>v=.bool (if (zB S 0).k=1 then (jt S 2 (zB S 0).n,true) else (S,false)).2/\ZO lo p b mb wb wn world lim lv gl (if (zB S 0).k=1 then (jt S 2 (zB S 0).n,true) else (S,false)).1 h'):=by
 apply wz;unfold u2 xN;simp only[EE,Value.cells];refine vp s λb5 h2 s2=>?_;have g5:=s2.get;have gm:=(s2.p 1).get;unfold xL at gm;have e14:(vC p lv mb wb S ev lk gl cl lim)[14]? = some (.int .i64 (zB S 0).k):=by kernel_rfl
 have e15:(vC p lv mb wb S ev lk gl cl lim)[15]? = some (.int .i64 (zB S 0).n):=by kernel_rfl
 by_cases k1:(zB S 0).k=1
 ·rw[aam k1];simp only[EE,nth,↓yy,aac,Nat.reduceAdd,Nat.reduceMul,Int.reduceEq,Int.reduceLT,Int.reduceLE,Int.reduceToNat,yg,zw,yR,zh,v8,xY,zg,wA,wx,qT,n5,dw,KH,Uj,Xw,Xx,YO,ZW,Zh,jr,qY,qD,qe,uZ,uE,ud,vP,vF,vf,w6,wY,wG,wg,wh,xP,xx,g5,gm,hk,e14,e15,k1];obtain⟨lo2,l2,s6,fr2⟩:=(s2.f [1,3]).call (L2:=[pt b (xL p lv mb wb S ev lk gl cl lim),kg 85 2 ev (S.ev.map Zc)]);refine yb (by kernel_rfl) rfl (EH s6 B.ev 2 (zB S 0).n) ?_;rintro r h5 ⟨ev',s7⟩;have s8:=fr2 _ _ s7;simp only[];exact⟨ev',lk,cl,s8.k [0,3,1,4,5,6,7]⟩
 ·rw[aak k1];simp only[EE,nth,↓yy,aac,Nat.reduceAdd,Nat.reduceMul,Int.reduceEq,Int.reduceLT,Int.reduceLE,Int.reduceToNat,yg,zw,zh,v8,xY,zg,wA,qT,dw,KH,Uj,Xw,Xx,YO,ZW,Zh,jr,qY,qD,qe,uZ,uE,ud,vP,vF,vf,w6,wY,wG,wg,wh,xP,xx,g5,gm,hk,e14,k1];exact⟨ev,lk,cl,s2.drop⟩
end
structure sV (p:Pg) (i:wZ):Prop where
 lo:1<=i.op
 hi:i.op<=26
 r:sr i.op=true->0<=i.r/\i.r<16
 m:bR i.op=true->0<=i.m/\i.m<16
 sub:i.op=3\/i.op=4->Xl i.sub
 To:i.op=6->0<=i.sub/\i.sub<p.globals.length
 frame:i.op=23\/i.op=24->0<=i.k/\i.k<=65536
 call:i.op=21->0<=i.sub/\i.sub<p.funcs.length
theorem MP{p:Pg}{i:wZ}{m:List (Int×Value)}(h:Z7 p.globals i=true)(hh:Wq p.funcs.length m i=true):sV p i:=by
 unfold Z7 at h;simp only[aah,aaU]at h;obtain⟨h1,h2,h3,h4⟩:=h;unfold YX at h3;simp only[aah]at h3;obtain⟨h5,h6⟩:=h3;refine⟨h1,h2,λq=>?_,λq=>?_,λq=>?_,λq=>?_,λq=>?_,λq=>?_⟩
 ·rw[q]at h5;simp at h5;omega
 ·rw[q]at h6;simp at h6;omega
 ·unfold yi at h4;rw[aam q]at h4;simp at h4;obtain⟨h7,_⟩:=h4;unfold Xl;omega
 ·unfold yi at h4;rw[aak (by omega),aak (by omega),aam q]at h4;simp at h4;omega
 ·unfold yi at h4;rw[aak (by omega),aak (by omega),aak (by omega),aak (by omega),aak (by omega),aak (by omega),aak (by omega),aak (by omega),aak (by omega),aak (by omega),aak (by omega),aam q]at h4;simp at h4;omega
 ·unfold Wq at hh;rw[q]at hh;simp at hh;omega
section
variable {lo:yQ}{h:za}{b mb wb:Nat}{p:Pg}{S:St}{wn lv gl ev lk cl:Value}{world:List Int}{lim:Int}{i:wZ}{c:Fr}{ini:List Fr}{q cp:Nat}{f:Fn}
theorem Pu(s:Sat lo h (V6 p b mb wb wn world lim lv gl S ev lk cl))(B:J2 lim S)(hF:SN c)(hcl:cl=.slice (some ⟨q,0,none⟩) (ini.length+1) cp)(hc:S.calls=ini++[c])(hn1:ini.length<4611686018427387900)(hwl:world.length<4611686018427387904)(hg:Rd lo (zD · gl S.gl))(hgl:S.gl.length=p.globals.length)(hL:Rd lo (UG p lv))(hf:p.funcs[c.f]? = some f)(G:sV p i) :
  DC Tryz.prog 66 [xN b,.pointer (some ⟨q,ini.length*7,none⟩),i.val] h (λv h'=>v=.bool (zl p lim world S c i).2/\ZO lo p b mb wb wn world lim lv gl (zl p lim world S c i).1 h'):=by
 have hd:i.op=1\/i.op=2\/i.op=3\/i.op=4\/i.op=5\/i.op=6\/i.op=7\/i.op=8\/i.op=9\/i.op=10\/i.op=11\/i.op=12\/i.op=13\/i.op=14\/i.op=15\/i.op=16\/i.op=17\/i.op=18\/i.op=19\/i.op=20\/i.op=21\/i.op=22\/i.op=23\/i.op=24\/i.op=25\/i.op=26:=by have:=G.lo;have:=G.hi;omega
 rcases hd with hk|hk|hk|hk|hk|hk|hk|hk|hk|hk|hk|hk|hk|hk|hk|hk|hk|hk|hk|hk|hk|hk|hk|hk|hk|hk
 ·have e:zl p lim world S c i=(vQ S i.r (zB S i.m),true):=by unfold zl;simp only[hk,Int.reduceEq,aaC,aaO,aaP,aac,aat]
  rw[e];exact Tt s B hk (G.r (by rw[hk];rfl)).1 (G.r (by rw[hk];rfl)).2 (G.m (by rw[hk];rfl)).1 (G.m (by rw[hk];rfl)).2
 ·have e:zl p lim world S c i=(vQ S i.r (qN i.k),true):=by unfold zl;simp only[hk,Int.reduceEq,aaC,aaO,aaP,aac,aat]
  rw[e];exact Tu s B hk (G.r (by rw[hk];rfl)).1 (G.r (by rw[hk];rfl)).2
 ·have e:zl p lim world S c i=yW S i:=by unfold zl;simp only[hk,Int.reduceEq,aaC,aaO,aaP,aac,aat]
  rw[e];exact Tv s B hk (G.r (by rw[hk];rfl)).1 (G.r (by rw[hk];rfl)).2 (G.m (by rw[hk];rfl)).1 (G.m (by rw[hk];rfl)).2 (G.sub (.inl hk))
 ·have e:zl p lim world S c i=yW S i:=by unfold zl;simp only[hk,Int.reduceEq,aaC,aaO,aaP,aac,aat]
  rw[e];exact Tw s B hk (G.r (by rw[hk];rfl)).1 (G.r (by rw[hk];rfl)).2 (G.m (by rw[hk];rfl)).1 (G.m (by rw[hk];rfl)).2 (G.sub (.inr hk))
 ·have e:zl p lim world S c i=vL S i.r (yw 11 (zB S i.m) (qN i.k)):=by unfold zl;simp only[hk,Int.reduceEq,aaC,aaO,aaP,aac,aat]
  rw[e];exact Tx s B hk (G.r (by rw[hk];rfl)).1 (G.r (by rw[hk];rfl)).2 (G.m (by rw[hk];rfl)).1 (G.m (by rw[hk];rfl)).2
 ·have e:zl p lim world S c i=(vQ S i.r (oK (S.gl.getD i.sub.toNat 0) i.k),true):=by unfold zl;simp only[hk,Int.reduceEq,aaC,aaO,aaP,aac,aat]
  rw[e];exact Ty s B hk (G.r (by rw[hk];rfl)).1 (G.r (by rw[hk];rfl)).2 (G.To hk).1 (by rw[hgl];exact(G.To hk).2) hg
 ·have e:zl p lim world S c i=vL S i.r (yw i.sub (zB S i.r) (zB S i.m)):=by unfold zl;simp only[hk,Int.reduceEq,aaC,aaO,aaP,aac,aat]
  rw[e];exact Tz s B hk (G.r (by rw[hk];rfl)).1 (G.r (by rw[hk];rfl)).2 (G.m (by rw[hk];rfl)).1 (G.m (by rw[hk];rfl)).2
 ·have e:zl p lim world S c i=vL S i.r (yw i.sub (zB S i.r) (qN i.k)):=by unfold zl;simp only[hk,Int.reduceEq,aaC,aaO,aaP,aac,aat]
  rw[e];exact TA s B hk (G.r (by rw[hk];rfl)).1 (G.r (by rw[hk];rfl)).2
 ·have e:zl p lim world S c i=vL S i.r (fA i.sub (zB S i.r)):=by unfold zl;simp only[hk,Int.reduceEq,aaC,aaO,aaP,aac,aat]
  rw[e];exact TB s B hk (G.r (by rw[hk];rfl)).1 (G.r (by rw[hk];rfl)).2
 ·have e:zl p lim world S c i=vL S i.r (fA i.sub (zB S i.m)):=by unfold zl;simp only[hk,Int.reduceEq,aaC,aaO,aaP,aac,aat]
  rw[e];exact R4 s B hk (G.r (by rw[hk];rfl)).1 (G.r (by rw[hk];rfl)).2 (G.m (by rw[hk];rfl)).1 (G.m (by rw[hk];rfl)).2
 ·have e:zl p lim world S c i=vL S i.r (yw i.sub (zB S i.r) (qN i.k)):=by unfold zl;simp only[hk,Int.reduceEq,aaC,aaO,aaP,aac,aat]
  rw[e];exact R5 s B hk (G.r (by rw[hk];rfl)).1 (G.r (by rw[hk];rfl)).2
 ·have e:zl p lim world S c i=(if (zB S 1).k=1 then vL S i.r (yw i.sub (zB S i.r) (qN (Wx (· &&& ·) (zB S 1).n 63))) else (S,false)):=by unfold zl;simp only[hk,Int.reduceEq,aaC,aaO,aaP,aac,aat]
  rw[e];exact R6 s B hk (G.r (by rw[hk];rfl)).1 (G.r (by rw[hk];rfl)).2
 ·have e:zl p lim world S c i=(vQ S 2 (Uz (zB S 0)),decide ((zB S 0).k=1)):=by unfold zl;simp only[hk,Int.reduceEq,aaC,aaO,aaP,aac,aat]
  rw[e];exact R7 s B hk
 ·have e:zl p lim world S c i=Yj S (zB S i.m):=by unfold zl;simp only[hk,Int.reduceEq,aaC,aaO,aaP,aac,aat]
  rw[e];exact R8 s B hk (G.m (by rw[hk];rfl)).1 (G.m (by rw[hk];rfl)).2
 ·have e:zl p lim world S c i=({S with flags:=true,a:=zB S i.r,b:=zB S i.m},true):=by unfold zl;simp only[hk,Int.reduceEq,aaC,aaO,aaP,aac,aat]
  rw[e];exact R9 s B hk (G.r (by rw[hk];rfl)).1 (G.r (by rw[hk];rfl)).2 (G.m (by rw[hk];rfl)).1 (G.m (by rw[hk];rfl)).2
 ·have e:zl p lim world S c i=({S with flags:=true,a:=zB S i.r,b:=qN i.k},true):=by unfold zl;simp only[hk,Int.reduceEq,aaC,aaO,aaP,aac,aat]
  rw[e];exact Sa s B hk (G.r (by rw[hk];rfl)).1 (G.r (by rw[hk];rfl)).2
 ·have e:zl p lim world S c i=(if S.flags=true then vL S i.r (yw i.cc S.a S.b) else (S,false)):=by unfold zl;simp only[hk,Int.reduceEq,aaC,aaO,aaP,aac,aat]
  rw[e];exact Sb s B hk (G.r (by rw[hk];rfl)).1 (G.r (by rw[hk];rfl)).2
 ·have e:zl p lim world S c i=(Za S {c with pt:=jv p c.f i.l},true):=by unfold zl;simp only[hk,Int.reduceEq,aaC,aaO,aaP,aac,aat]
  rw[e];exact Sc s B hk hcl hc hL hf
 ·have e:zl p lim world S c i=VA p S c i:=by unfold zl;simp only[hk,Int.reduceEq,aaC,aaO,aaP,aac,aat]
  rw[e];exact Sd s B hk hcl hc hL hf
 ·have e:zl p lim world S c i=(S,true):=by unfold zl;simp only[hk,Int.reduceEq,aaC,aaO,aaP,aac,aat]
  rw[e];exact Se s B hk
 ·have e:zl p lim world S c i=(vB lim (ql {S with flags:=false} 4 i.sub 0) i.sub.toNat,true):=by unfold zl;simp only[hk,Int.reduceEq,aaC,aaO,aaP,aac,aat]
  rw[e];exact Sf s B hk (G.call hk).1
 ·have e:zl p lim world S c i=Yv S c:=by unfold zl;simp only[hk,Int.reduceEq,aaC,aaO,aaP,aac,aat]
  rw[e];exact Sg s B hk hcl hc hn1
 ·have e:zl p lim world S c i=w8 lim S c i:=by unfold zl;simp only[hk,Int.reduceEq,aaC,aaO,aaP,aac,aat]
  rw[e];exact Sh s B hk hcl hc hF (G.frame (.inl hk)).1 (G.frame (.inl hk)).2
 ·have e:zl p lim world S c i=w8 lim S c i:=by unfold zl;simp only[hk,Int.reduceEq,aaC,aaO,aaP,aac,aat]
  rw[e];exact Si s B hk hcl hc hF (G.frame (.inr hk)).1 (G.frame (.inr hk)).2
 ·have e:zl p lim world S c i=(vQ {jt S 1 (Yl world S.used) with used:=S.used+1} 0 (qN (Yl world S.used)),true):=by unfold zl;simp only[hk,Int.reduceEq,aaC,aaO,aaP,aac,aat]
  rw[e];exact Sj s B hk hwl
 ·have e:zl p lim world S c i=(if (zB S 0).k=1 then (jt S 2 (zB S 0).n,true) else (S,false)):=by unfold zl;simp only[hk,Int.reduceEq,aaC,aaO,aaP,aac,aat]
  rw[e];exact Sk s B hk
end
structure Fg (p:Pg) (c:Fr):Prop where
 YR:Xl c.YR
 size:0<=c.size/\c.size<=65536
 l6:vb c.l6
 at_:∃f,p.funcs[c.f]? = some f/\0<=c.pt/\c.pt<=f.code.length
structure Z6 (p:Pg) (lim n:Int) (S:St):Prop where
 n0:0<=n
 hl:S.Xm.length=16
 hv:∀r,vb (zB S r)
 va:vb S.a
 sS:vb S.b
 fr:∀c,c∈S.calls->Fg p c
 l0:0<=lim
 l1:lim<4294967296
 s0 : -(65536*n)<=S.stack
 s1:S.stack<=lim
 lk:(S.lk.length:Int)<=n
 ev:(S.ev.length:Int)<=n
 cs:(S.calls.length:Int)<=n+1
 used:0<=S.used/\S.used<=n
 mem:JO S.mem
 gl:∀z,z∈S.gl->Xl z
 ll:S.gl.length=p.globals.length
theorem TP{o:Option V}(h:∀v,o=some v->vb v):vb (o.getD v0):=by
 cases o with
 |none=>exact bZ
 |some v=>exact h v rfl
section
variable {p:Pg}{lim n:Int}{S:St}{c:Fr}{i:wZ}{ini:List Fr}
theorem Z6.up(I:Z6 p lim n S):Z6 p lim (n+1) S :=
 ⟨by have:=I.n0;omega,I.hl,I.hv,I.va,I.sS,I.fr,I.l0,I.l1,by have:=I.s0;omega,I.s1,by have:=I.lk;omega,by have:=I.ev;omega,by have:=I.cs;omega,⟨I.used.1,by have:=I.used.2;omega⟩,I.mem,I.gl,I.ll⟩
theorem Z6.set(I:Z6 p lim n S){v:V}(r:Int)(hv:vb v):Z6 p lim n (vQ S r v):=by
 refine⟨I.n0,by unfold vQ;rw[<- I.hl];exact abf ..,λr'=>?_,I.va,I.sS,I.fr,I.l0,I.l1,I.s0,I.s1,I.lk,I.ev,I.cs,I.used,I.mem,I.gl,I.ll⟩;unfold zB vQ;unfold Dm;split
 ·exact bZ
 ·show vb ((S.Xm.set r.toNat v).getD r'.toNat v0);rw[aaR,acj];split
  ·split
   ·exact hv
   ·exact bZ
  ·have:=I.hv r';unfold zB Dm at this;rw[aak (by assumption),aaR]at this;exact this
theorem Z6.res(I:Z6 p lim n S){o:Option V}(r:Int)(h:∀v,o=some v->vb v):Z6 p lim n (vL S r o).1:=I.set r (TP h)
theorem Z6.top(I:Z6 p lim n S)(hne:S.calls≠[])(h:Fg p c):Z6 p lim n (Za S c):=by
 have hpos:0<S.calls.length:=List.length_pos_iff.2 hne;refine⟨I.n0,I.hl,I.hv,I.va,I.sS,λd hd=>?_,I.l0,I.l1,I.s0,I.s1,I.lk,I.ev,?_,I.used,I.mem,I.gl,I.ll⟩
 ·rcases aa2.1 hd with q|q
  ·exact I.fr d (List.dropLast_subset _ q)
  ·simp only[abn]at q;subst q;exact h
 ·show((S.calls.dropLast++[c]).length:Int)<=n+1;have:=I.cs;simp only[acu,List.length_dropLast,List.length_singleton];omega
theorem Z6.Dt(I:Z6 p lim n S)(k a b:Int):Z6 p lim (n+1) (ql S k a b) :=
 ⟨I.up.n0,I.hl,I.hv,I.va,I.sS,I.fr,I.l0,I.l1,I.up.s0,I.s1,by show((S.lk++[(k,a,b)]).length:Int)<=n+1;have:=I.lk;simp;omega,I.up.ev,I.up.cs,I.up.used,I.mem,I.gl,I.ll⟩
theorem Z6.event(I:Z6 p lim n S)(k a:Int):Z6 p lim (n+1) (jt S k a) :=
 ⟨I.up.n0,I.hl,I.hv,I.va,I.sS,I.fr,I.l0,I.l1,I.up.s0,I.s1,I.up.lk,by show((S.ev++[(k,a)]).length:Int)<=n+1;have:=I.ev;simp;omega,I.up.cs,I.up.used,I.mem,I.gl,I.ll⟩
theorem Z6.grow(I:Z6 p lim n S){k:Int}(h:0<=k):Z6 p lim n (w4 lim S k).1:=by
 unfold w4;split
 ·exact⟨I.n0,I.hl,I.hv,I.va,I.sS,I.fr,I.l0,I.l1,I.s0,I.s1,I.lk,I.ev,I.cs,I.used,I.mem,I.gl,I.ll⟩
 ·exact⟨I.n0,I.hl,I.hv,I.va,I.sS,I.fr,I.l0,I.l1,by have:=I.s0;show _<=S.stack+k;omega,by show S.stack+k<=lim;omega,I.lk,I.ev,I.cs,I.used,I.mem,I.gl,I.ll⟩
theorem Qe(lim:Int)(S:St)(k:Int):(w4 lim S k).1.calls=S.calls/\(w4 lim S k).1.mem=S.mem:=by unfold w4;split <;> exact⟨rfl,rfl⟩
theorem Z6.enter(I:Z6 p lim n S){f:Nat}{g:Fn}(hf:p.funcs[f]? = some g)(hcs:(S.calls.length:Int)<=n):Z6 p lim n (vB lim S f):=by
 have G:=I.grow (k:=8) (by decide);unfold vB;split
 ·refine⟨G.n0,G.hl,G.hv,G.va,G.sS,λd hd=>?_,G.l0,G.l1,G.s0,G.s1,G.lk,G.ev,?_,G.used,G.mem,G.gl,G.ll⟩
  ·rcases aa2.1 hd with q|q
   ·exact G.fr d q
   ·simp only[abn]at q;subst q;exact⟨Ua,⟨acC 0,by show(0:Int)<=65536;decide⟩,bZ,g,hf,acC 0,Int.natCast_nonneg _⟩
  ·show(((w4 lim S 8).1.calls++[_]).length:Int)<=n+1;rw[(Qe lim S 8).1];simp only[acu,List.length_singleton];omega
 ·exact G
theorem Z6.access(I:Z6 p lim n S)(i:wZ):Z6 p lim (n+1) (yW S i).1:=by
 unfold yW;split
 ·exact I.up
 ·rename_i q hq;split
  ·split
   ·split
    ·exact I.Dt 2 q.b q.n
    ·rename_i M hM;have L:=I.Dt 2 q.b q.n;exact⟨L.n0,L.hl,L.hv,L.va,L.sS,L.fr,L.l0,L.l1,L.s0,L.s1,L.lk,L.ev,L.cs,L.used,Dz I.mem (I.hv i.r) hM,L.gl,L.ll⟩
   ·exact(I.Dt 2 q.b q.n).res i.r λv e=>GH I.mem e
  ·exact I.up
theorem Z6.div(I:Z6 p lim n S){m:V}(hm:vb m):Z6 p lim (n+1) (Yj S m).1:=by
 unfold Yj;split
 ·have L:=I.Dt 3 (zB S 0).n m.n;have h1:∀o,∀v,yw o (zB S 0) m=some v->vb v:=λo v e=>Kg (I.hv 0) hm e;split
  ·split
   ·exact(L.res 0 (h1 14)).res 2 (h1 15)
   ·exact L.res 0 (h1 14)
  ·exact L
 ·exact I.up
theorem Z6.ret(I:Z6 p lim n S)(c:Fr):Z6 p lim (n+1) (Yv S c).1:=by
 have D:∀(k e:Int),Z6 p lim (n+1) {S with flags:=false,stack:=S.stack-8,calls:=S.calls.dropLast,kind:=k,exit:=e}:=λk e=>by
  refine⟨I.up.n0,I.hl,I.hv,I.va,I.sS,λd hd=>I.fr d (List.dropLast_subset _ hd),I.l0,I.l1,by have:=I.s0;show _<=S.stack-8;omega,by have:=I.s1;show S.stack-8<=lim;omega,I.up.lk,I.up.ev,?_,I.up.used,I.mem,I.gl,I.ll⟩;show((S.calls.dropLast).length:Int)<=_;have:=I.cs;rw[List.length_dropLast];omega
 unfold Yv;split
 ·exact I.up
 ·split
  ·exact D S.kind S.exit
  ·rename_i h2
   have e:S.calls.dropLast=[]:=by
    cases h:S.calls.dropLast with
    |nil=>rfl
    |cons a l=>exact absurd h (λq=>h2 (by rw[q];simp))
   split
   ·have:=D 1 (zB S 0).n;rw[e]at this;exact this
   ·have:=D S.kind S.exit;rw[e]at this;exact this
theorem Z6.frame(I:Z6 p lim n S)(hne:S.calls≠[])(hc:Fg p c){i:wZ}(k0:0<=i.k)(k1:i.k<=65536):Z6 p lim (n+1) (w8 lim S c i).1:=by
 unfold w8;split
 ·split
  ·exact I.up
  ·refine Z6.top (c:={c with YR:=0}) ?_ hne ⟨Ua,hc.size,hc.l6,hc.at_⟩;refine Z6.set ?_ 4 hc.l6;have hs:=hc.size;refine⟨I.up.n0,I.hl,I.hv,I.va,I.sS,I.fr,I.l0,I.l1,by have:=I.s0;show _<=S.stack-c.size;omega,by have:=I.s1;show S.stack-c.size<=lim;omega,I.up.lk,I.up.ev,I.up.cs,I.up.used,GG I.mem,I.gl,I.ll⟩
 ·split
  ·exact I.up
  ·have G:=I.up.grow k0;have ha:=JP i.k I.mem;split
   ·refine Z6.top (c:={c with YR:=(w7 S.mem i.k).2.1,size:=i.k,l6:=zB S 4}) ?_ (by show(w4 lim S i.k).1.calls≠[];rw[(Qe lim S i.k).1];exact hne) ⟨ha.2,⟨k0,k1⟩,I.hv 4,hc.at_⟩;refine Z6.set ?_ 4 (BW ha.2);exact⟨G.n0,G.hl,G.hv,G.va,G.sS,G.fr,G.l0,G.l1,G.s0,G.s1,G.lk,G.ev,G.cs,G.used,ha.1,G.gl,G.ll⟩
   ·exact G
theorem BE:∀(xs:List wZ) (l k z m:Int),0<=k->m=k+xs.length->0<=z->z<=m->0<=Ws xs l k z/\Ws xs l k z<=m
 |[],l,k,z,m,_,_,h0,h1=>⟨h0,h1⟩
 |x::xs,l,k,z,m,hk,hm,h0,h1=>by
  have hm:m=k+((xs.length+1:Nat):Int):=hm;refine BE xs l (k+1) _ m (by omega) (by omega) ?_ ?_
  ·split <;> omega
  ·split <;> omega
theorem Fg.yV(h:Fg p c)(l:Int):Fg p {c with pt:=jv p c.f l}:=by
 obtain⟨f,hf,_,_⟩:=h.at_;refine⟨h.YR,h.size,h.l6,f,hf,?_⟩;have e:jv p c.f l=Ws f.code l 0 0:=by unfold jv;rw[hf]
 show 0<=jv p c.f l/\jv p c.f l<=f.code.length;rw[e];exact BE f.code l 0 0 _ (by decide) (by omega) (by decide) (Int.natCast_nonneg _)
theorem Z6.T9(I:Z6 p lim n S)(hne:S.calls≠[])(hc:Fg p c)(i:wZ):Z6 p lim (n+1) (VA p S c i).1:=by
 unfold VA;split
 ·exact I.up
 ·rename_i v hv;split
  ·show Z6 p lim (n+1) (if v.n=0 then _ else _);split
   ·exact I.Dt 1 v.n 0
   ·exact(I.Dt 1 v.n 0).top hne (hc.yV i.l)
  ·exact I.up
theorem Z6.flag(I:Z6 p lim n S)(f:Bool){a b:V}(ha:vb a)(hb:vb b):Z6 p lim n {S with flags:=f,a:=a,b:=b} :=
 ⟨I.n0,I.hl,I.hv,ha,hb,I.fr,I.l0,I.l1,I.s0,I.s1,I.lk,I.ev,I.cs,I.used,I.mem,I.gl,I.ll⟩
theorem Pt(I:Z6 p lim n S)(world:List Int)(hne:S.calls≠[])(hc:Fg p c)(hcs:(S.calls.length:Int)<=n+1)(G:sV p i):Z6 p lim (n+1) (zl p lim world S c i).1:=by
 have hd:i.op=1\/i.op=2\/i.op=3\/i.op=4\/i.op=5\/i.op=6\/i.op=7\/i.op=8\/i.op=9\/i.op=10\/i.op=11\/i.op=12\/i.op=13\/i.op=14\/i.op=15\/i.op=16\/i.op=17\/i.op=18\/i.op=19\/i.op=20\/i.op=21\/i.op=22\/i.op=23\/i.op=24\/i.op=25\/i.op=26:=by have:=G.lo;have:=G.hi;omega
 rcases hd with hk|hk|hk|hk|hk|hk|hk|hk|hk|hk|hk|hk|hk|hk|hk|hk|hk|hk|hk|hk|hk|hk|hk|hk|hk|hk
 ·have e:zl p lim world S c i=(vQ S i.r (zB S i.m),true):=by unfold zl;simp only[hk,Int.reduceEq,aaC,aaO,aaP,aac,aat]
  rw[e];exact I.up.set _ (I.hv _)
 ·have e:zl p lim world S c i=(vQ S i.r (qN i.k),true):=by unfold zl;simp only[hk,Int.reduceEq,aaC,aaO,aaP,aac,aat]
  rw[e];exact I.up.set _ (Qz _)
 ·have e:zl p lim world S c i=yW S i:=by unfold zl;simp only[hk,Int.reduceEq,aaC,aaO,aaP,aac,aat]
  rw[e];exact I.access i
 ·have e:zl p lim world S c i=yW S i:=by unfold zl;simp only[hk,Int.reduceEq,aaC,aaO,aaP,aac,aat]
  rw[e];exact I.access i
 ·have e:zl p lim world S c i=vL S i.r (yw 11 (zB S i.m) (qN i.k)):=by unfold zl;simp only[hk,Int.reduceEq,aaC,aaO,aaP,aac,aat]
  rw[e];exact I.up.res _ (λv e=>Kg (I.hv _) (Qz _) e)
 ·have e:zl p lim world S c i=(vQ S i.r (oK (S.gl.getD i.sub.toNat 0) i.k),true):=by unfold zl;simp only[hk,Int.reduceEq,aaC,aaO,aaP,aac,aat]
  rw[e];refine I.up.set _ (BW ?_);have s0:=G.To hk;rw[aaR,aae (by rw[I.ll];omega)];exact I.gl _ (List.getElem_mem _)
 ·have e:zl p lim world S c i=vL S i.r (yw i.sub (zB S i.r) (zB S i.m)):=by unfold zl;simp only[hk,Int.reduceEq,aaC,aaO,aaP,aac,aat]
  rw[e];exact I.up.res _ (λv e=>Kg (I.hv _) (I.hv _) e)
 ·have e:zl p lim world S c i=vL S i.r (yw i.sub (zB S i.r) (qN i.k)):=by unfold zl;simp only[hk,Int.reduceEq,aaC,aaO,aaP,aac,aat]
  rw[e];exact I.up.res _ (λv e=>Kg (I.hv _) (Qz _) e)
 ·have e:zl p lim world S c i=vL S i.r (fA i.sub (zB S i.r)):=by unfold zl;simp only[hk,Int.reduceEq,aaC,aaO,aaP,aac,aat]
  rw[e];exact I.up.res _ (λv e=>N9 e)
 ·have e:zl p lim world S c i=vL S i.r (fA i.sub (zB S i.m)):=by unfold zl;simp only[hk,Int.reduceEq,aaC,aaO,aaP,aac,aat]
  rw[e];exact I.up.res _ (λv e=>N9 e)
 ·have e:zl p lim world S c i=vL S i.r (yw i.sub (zB S i.r) (qN i.k)):=by unfold zl;simp only[hk,Int.reduceEq,aaC,aaO,aaP,aac,aat]
  rw[e];exact I.up.res _ (λv e=>Kg (I.hv _) (Qz _) e)
 ·have e:zl p lim world S c i=(if (zB S 1).k=1 then vL S i.r (yw i.sub (zB S i.r) (qN (Wx (· &&& ·) (zB S 1).n 63))) else (S,false)):=by unfold zl;simp only[hk,Int.reduceEq,aaC,aaO,aaP,aac,aat]
  rw[e];split
  ·exact I.up.res _ (λv e=>Kg (I.hv _) (Qz _) e)
  ·exact I.up
 ·have e:zl p lim world S c i=(vQ S 2 (Uz (zB S 0)),decide ((zB S 0).k=1)):=by unfold zl;simp only[hk,Int.reduceEq,aaC,aaO,aaP,aac,aat]
  rw[e];exact I.up.set _ (Qz _)
 ·have e:zl p lim world S c i=Yj S (zB S i.m):=by unfold zl;simp only[hk,Int.reduceEq,aaC,aaO,aaP,aac,aat]
  rw[e];exact I.div (I.hv _)
 ·have e:zl p lim world S c i=({S with flags:=true,a:=zB S i.r,b:=zB S i.m},true):=by unfold zl;simp only[hk,Int.reduceEq,aaC,aaO,aaP,aac,aat]
  rw[e];exact I.up.flag true (I.hv _) (I.hv _)
 ·have e:zl p lim world S c i=({S with flags:=true,a:=zB S i.r,b:=qN i.k},true):=by unfold zl;simp only[hk,Int.reduceEq,aaC,aaO,aaP,aac,aat]
  rw[e];exact I.up.flag true (I.hv _) (Qz _)
 ·have e:zl p lim world S c i=(if S.flags=true then vL S i.r (yw i.cc S.a S.b) else (S,false)):=by unfold zl;simp only[hk,Int.reduceEq,aaC,aaO,aaP,aac,aat]
  rw[e];split
  ·exact I.up.res _ (λv e=>Kg I.va I.sS e)
  ·exact I.up
 ·have e:zl p lim world S c i=(Za S {c with pt:=jv p c.f i.l},true):=by unfold zl;simp only[hk,Int.reduceEq,aaC,aaO,aaP,aac,aat]
  rw[e];exact I.up.top hne (hc.yV _)
 ·have e:zl p lim world S c i=VA p S c i:=by unfold zl;simp only[hk,Int.reduceEq,aaC,aaO,aaP,aac,aat]
  rw[e];exact I.T9 hne hc i
 ·have e:zl p lim world S c i=(S,true):=by unfold zl;simp only[hk,Int.reduceEq,aaC,aaO,aaP,aac,aat]
  rw[e];exact I.up
 ·have e:zl p lim world S c i=(vB lim (ql {S with flags:=false} 4 i.sub 0) i.sub.toNat,true):=by unfold zl;simp only[hk,Int.reduceEq,aaC,aaO,aaP,aac,aat]
  rw[e];obtain⟨g,hg⟩:∃g,p.funcs[i.sub.toNat]? = some g:=⟨_,aae (by have:=G.call hk;omega)⟩;exact((I.flag false I.va I.sS).Dt 4 i.sub 0).enter hg hcs
 ·have e:zl p lim world S c i=Yv S c:=by unfold zl;simp only[hk,Int.reduceEq,aaC,aaO,aaP,aac,aat]
  rw[e];exact I.ret c
 ·have e:zl p lim world S c i=w8 lim S c i:=by unfold zl;simp only[hk,Int.reduceEq,aaC,aaO,aaP,aac,aat]
  rw[e];exact I.frame hne hc (G.frame (.inl hk)).1 (G.frame (.inl hk)).2
 ·have e:zl p lim world S c i=w8 lim S c i:=by unfold zl;simp only[hk,Int.reduceEq,aaC,aaO,aaP,aac,aat]
  rw[e];exact I.frame hne hc (G.frame (.inr hk)).1 (G.frame (.inr hk)).2
 ·have e:zl p lim world S c i=(vQ {jt S 1 (Yl world S.used) with used:=S.used+1} 0 (qN (Yl world S.used)),true):=by unfold zl;simp only[hk,Int.reduceEq,aaC,aaO,aaP,aac,aat]
  rw[e];have E:=I.event 1 (Yl world S.used);exact Z6.set (S:={jt S 1 (Yl world S.used) with used:=S.used+1}) ⟨E.n0,E.hl,E.hv,E.va,E.sS,E.fr,E.l0,E.l1,E.s0,E.s1,E.lk,E.ev,E.cs,⟨by have:=I.used;show 0<=S.used+1;omega,by have:=I.used;show S.used+1<=n+1;omega⟩,E.mem,E.gl,E.ll⟩ 0 (Qz _)
 ·have e:zl p lim world S c i=(if (zB S 0).k=1 then (jt S 2 (zB S 0).n,true) else (S,false)):=by unfold zl;simp only[hk,Int.reduceEq,aaC,aaO,aaP,aac,aat]
  rw[e];split
  ·exact I.event 2 _
  ·exact I.up
theorem JW(S:St)(c:Fr):(Za S c).calls≠[]:=by unfold Za;simp
theorem Ni{world:List Int}(hne:S.calls≠[])(G:sV p i)(h1:(zl p lim world S c i).2=true)(h2:(zl p lim world S c i).1.kind=0):(zl p lim world S c i).1.calls≠[]:=by
 have hd:i.op=1\/i.op=2\/i.op=3\/i.op=4\/i.op=5\/i.op=6\/i.op=7\/i.op=8\/i.op=9\/i.op=10\/i.op=11\/i.op=12\/i.op=13\/i.op=14\/i.op=15\/i.op=16\/i.op=17\/i.op=18\/i.op=19\/i.op=20\/i.op=21\/i.op=22\/i.op=23\/i.op=24\/i.op=25\/i.op=26:=by have:=G.lo;have:=G.hi;omega
 rcases hd with hk|hk|hk|hk|hk|hk|hk|hk|hk|hk|hk|hk|hk|hk|hk|hk|hk|hk|hk|hk|hk|hk|hk|hk|hk|hk
 ·have e:zl p lim world S c i=(vQ S i.r (zB S i.m),true):=by unfold zl;simp only[hk,Int.reduceEq,aaC,aaO,aaP,aac,aat]
  rw[e];exact hne
 ·have e:zl p lim world S c i=(vQ S i.r (qN i.k),true):=by unfold zl;simp only[hk,Int.reduceEq,aaC,aaO,aaP,aac,aat]
  rw[e];exact hne
 ·have e:zl p lim world S c i=yW S i:=by unfold zl;simp only[hk,Int.reduceEq,aaC,aaO,aaP,aac,aat]
  rw[e];rw[(VL S i).2.1];exact hne
 ·have e:zl p lim world S c i=yW S i:=by unfold zl;simp only[hk,Int.reduceEq,aaC,aaO,aaP,aac,aat]
  rw[e];rw[(VL S i).2.1];exact hne
 ·have e:zl p lim world S c i=vL S i.r (yw 11 (zB S i.m) (qN i.k)):=by unfold zl;simp only[hk,Int.reduceEq,aaC,aaO,aaP,aac,aat]
  rw[e];exact hne
 ·have e:zl p lim world S c i=(vQ S i.r (oK (S.gl.getD i.sub.toNat 0) i.k),true):=by unfold zl;simp only[hk,Int.reduceEq,aaC,aaO,aaP,aac,aat]
  rw[e];exact hne
 ·have e:zl p lim world S c i=vL S i.r (yw i.sub (zB S i.r) (zB S i.m)):=by unfold zl;simp only[hk,Int.reduceEq,aaC,aaO,aaP,aac,aat]
  rw[e];exact hne
 ·have e:zl p lim world S c i=vL S i.r (yw i.sub (zB S i.r) (qN i.k)):=by unfold zl;simp only[hk,Int.reduceEq,aaC,aaO,aaP,aac,aat]
  rw[e];exact hne
 ·have e:zl p lim world S c i=vL S i.r (fA i.sub (zB S i.r)):=by unfold zl;simp only[hk,Int.reduceEq,aaC,aaO,aaP,aac,aat]
  rw[e];exact hne
 ·have e:zl p lim world S c i=vL S i.r (fA i.sub (zB S i.m)):=by unfold zl;simp only[hk,Int.reduceEq,aaC,aaO,aaP,aac,aat]
  rw[e];exact hne
 ·have e:zl p lim world S c i=vL S i.r (yw i.sub (zB S i.r) (qN i.k)):=by unfold zl;simp only[hk,Int.reduceEq,aaC,aaO,aaP,aac,aat]
  rw[e];exact hne
 ·have e:zl p lim world S c i=(if (zB S 1).k=1 then vL S i.r (yw i.sub (zB S i.r) (qN (Wx (· &&& ·) (zB S 1).n 63))) else (S,false)):=by unfold zl;simp only[hk,Int.reduceEq,aaC,aaO,aaP,aac,aat]
  rw[e];split <;> exact hne
 ·have e:zl p lim world S c i=(vQ S 2 (Uz (zB S 0)),decide ((zB S 0).k=1)):=by unfold zl;simp only[hk,Int.reduceEq,aaC,aaO,aaP,aac,aat]
  rw[e];exact hne
 ·have e:zl p lim world S c i=Yj S (zB S i.m):=by unfold zl;simp only[hk,Int.reduceEq,aaC,aaO,aaP,aac,aat]
  rw[e];rw[(AV S _).2.1];exact hne
 ·have e:zl p lim world S c i=({S with flags:=true,a:=zB S i.r,b:=zB S i.m},true):=by unfold zl;simp only[hk,Int.reduceEq,aaC,aaO,aaP,aac,aat]
  rw[e];exact hne
 ·have e:zl p lim world S c i=({S with flags:=true,a:=zB S i.r,b:=qN i.k},true):=by unfold zl;simp only[hk,Int.reduceEq,aaC,aaO,aaP,aac,aat]
  rw[e];exact hne
 ·have e:zl p lim world S c i=(if S.flags=true then vL S i.r (yw i.cc S.a S.b) else (S,false)):=by unfold zl;simp only[hk,Int.reduceEq,aaC,aaO,aaP,aac,aat]
  rw[e];split <;> exact hne
 ·have e:zl p lim world S c i=(Za S {c with pt:=jv p c.f i.l},true):=by unfold zl;simp only[hk,Int.reduceEq,aaC,aaO,aaP,aac,aat]
  rw[e];exact JW S _
 ·have e:zl p lim world S c i=VA p S c i:=by unfold zl;simp only[hk,Int.reduceEq,aaC,aaO,aaP,aac,aat]
  rw[e];unfold VA;split
  ·exact hne
  ·split
   ·show(if _=0 then _ else _:St).calls≠[];split
    ·exact hne
    ·exact JW _ _
   ·exact hne
 ·have e:zl p lim world S c i=(S,true):=by unfold zl;simp only[hk,Int.reduceEq,aaC,aaO,aaP,aac,aat]
  rw[e];exact hne
 ·have e:zl p lim world S c i=(vB lim (ql {S with flags:=false} 4 i.sub 0) i.sub.toNat,true):=by unfold zl;simp only[hk,Int.reduceEq,aaC,aaO,aaP,aac,aat]
  rw[e];unfold vB;split
  ·simp
  ·rw[(Qe lim _ 8).1];exact hne
 ·have e:zl p lim world S c i=Yv S c:=by unfold zl;simp only[hk,Int.reduceEq,aaC,aaO,aaP,aac,aat]
  rw[e];rw[e]at h1 h2;unfold Yv at h1 h2 ⊢;by_cases a:c.YR≠0
  ·rw[aam a]at h1;cases h1
  ·rw[aak a]at h1 h2 ⊢;by_cases b:S.calls.dropLast≠[]
   ·rw[aam b];exact b
   ·rw[aak b]at h1 h2 ⊢;by_cases d:(zB S 0).k=1
    ·rw[aam d]at h2;cases h2
    ·rw[aak d]at h1;cases h1
 ·have e:zl p lim world S c i=w8 lim S c i:=by unfold zl;simp only[hk,Int.reduceEq,aaC,aaO,aaP,aac,aat]
  rw[e];unfold w8;rw[aak (by omega)];split
  ·exact hne
  ·split
   ·exact JW _ _
   ·rw[(Qe lim S _).1];exact hne
 ·have e:zl p lim world S c i=w8 lim S c i:=by unfold zl;simp only[hk,Int.reduceEq,aaC,aaO,aaP,aac,aat]
  rw[e];unfold w8;rw[aam hk];split
  ·exact hne
  ·exact JW _ _
 ·have e:zl p lim world S c i=(vQ {jt S 1 (Yl world S.used) with used:=S.used+1} 0 (qN (Yl world S.used)),true):=by unfold zl;simp only[hk,Int.reduceEq,aaC,aaO,aaP,aac,aat]
  rw[e];exact hne
 ·have e:zl p lim world S c i=(if (zB S 0).k=1 then (jt S 2 (zB S 0).n,true) else (S,false)):=by unfold zl;simp only[hk,Int.reduceEq,aaC,aaO,aaP,aac,aat]
  rw[e];split <;> exact hne
theorem rZ(lim:Int)(S:St)(k:Int):(w4 lim S k).1.gl=S.gl/\(w4 lim S k).1.steps=S.steps:=by unfold w4;split <;> exact⟨rfl,rfl⟩
theorem oC(S:St)(i:wZ):(yW S i).1.gl=S.gl/\(yW S i).1.steps=S.steps:=by
 unfold yW;split
 ·exact⟨rfl,rfl⟩
 ·split
  ·split
   ·split <;> exact⟨rfl,rfl⟩
   ·exact⟨rfl,rfl⟩
  ·exact⟨rfl,rfl⟩
theorem OK(S:St)(m:V):(Yj S m).1.gl=S.gl/\(Yj S m).1.steps=S.steps:=by
 unfold Yj;split
 ·split
  ·split <;> exact⟨rfl,rfl⟩
  ·exact⟨rfl,rfl⟩
 ·exact⟨rfl,rfl⟩
theorem Pk(S:St)(c:Fr):(Yv S c).1.gl=S.gl/\(Yv S c).1.steps=S.steps:=by
 unfold Yv;split
 ·exact⟨rfl,rfl⟩
 ·split
  ·exact⟨rfl,rfl⟩
  ·split <;> exact⟨rfl,rfl⟩
theorem Bd(lim:Int)(S:St)(c:Fr)(i:wZ):(w8 lim S c i).1.gl=S.gl/\(w8 lim S c i).1.steps=S.steps:=by
 unfold w8;split
 ·split <;> exact⟨rfl,rfl⟩
 ·split
  ·exact⟨rfl,rfl⟩
  ·split
   ·exact rZ lim S i.k
   ·exact rZ lim S i.k
theorem OW(p:Pg)(S:St)(c:Fr)(i:wZ):(VA p S c i).1.gl=S.gl/\(VA p S c i).1.steps=S.steps:=by
 unfold VA;split
 ·exact⟨rfl,rfl⟩
 ·split
  ·show(if _=0 then _ else _:St).gl=_/\(if _=0 then _ else _:St).steps=_;split <;> exact⟨rfl,rfl⟩
  ·exact⟨rfl,rfl⟩
theorem AZ(lim:Int)(S:St)(f:Nat):(vB lim S f).gl=S.gl/\(vB lim S f).steps=S.steps:=by
 unfold vB;split <;> exact rZ lim S 8
theorem Nh(lim:Int)(world:List Int)(S:St)(c:Fr)(G:sV p i):(zl p lim world S c i).1.gl=S.gl/\(zl p lim world S c i).1.steps=S.steps:=by
 have hd:i.op=1\/i.op=2\/i.op=3\/i.op=4\/i.op=5\/i.op=6\/i.op=7\/i.op=8\/i.op=9\/i.op=10\/i.op=11\/i.op=12\/i.op=13\/i.op=14\/i.op=15\/i.op=16\/i.op=17\/i.op=18\/i.op=19\/i.op=20\/i.op=21\/i.op=22\/i.op=23\/i.op=24\/i.op=25\/i.op=26:=by have:=G.lo;have:=G.hi;omega
 rcases hd with hk|hk|hk|hk|hk|hk|hk|hk|hk|hk|hk|hk|hk|hk|hk|hk|hk|hk|hk|hk|hk|hk|hk|hk|hk|hk
 ·have e:zl p lim world S c i=(vQ S i.r (zB S i.m),true):=by unfold zl;simp only[hk,Int.reduceEq,aaC,aaO,aaP,aac,aat]
  rw[e];exact⟨rfl,rfl⟩
 ·have e:zl p lim world S c i=(vQ S i.r (qN i.k),true):=by unfold zl;simp only[hk,Int.reduceEq,aaC,aaO,aaP,aac,aat]
  rw[e];exact⟨rfl,rfl⟩
 ·have e:zl p lim world S c i=yW S i:=by unfold zl;simp only[hk,Int.reduceEq,aaC,aaO,aaP,aac,aat]
  rw[e];exact oC S i
 ·have e:zl p lim world S c i=yW S i:=by unfold zl;simp only[hk,Int.reduceEq,aaC,aaO,aaP,aac,aat]
  rw[e];exact oC S i
 ·have e:zl p lim world S c i=vL S i.r (yw 11 (zB S i.m) (qN i.k)):=by unfold zl;simp only[hk,Int.reduceEq,aaC,aaO,aaP,aac,aat]
  rw[e];exact⟨rfl,rfl⟩
 ·have e:zl p lim world S c i=(vQ S i.r (oK (S.gl.getD i.sub.toNat 0) i.k),true):=by unfold zl;simp only[hk,Int.reduceEq,aaC,aaO,aaP,aac,aat]
  rw[e];exact⟨rfl,rfl⟩
 ·have e:zl p lim world S c i=vL S i.r (yw i.sub (zB S i.r) (zB S i.m)):=by unfold zl;simp only[hk,Int.reduceEq,aaC,aaO,aaP,aac,aat]
  rw[e];exact⟨rfl,rfl⟩
 ·have e:zl p lim world S c i=vL S i.r (yw i.sub (zB S i.r) (qN i.k)):=by unfold zl;simp only[hk,Int.reduceEq,aaC,aaO,aaP,aac,aat]
  rw[e];exact⟨rfl,rfl⟩
 ·have e:zl p lim world S c i=vL S i.r (fA i.sub (zB S i.r)):=by unfold zl;simp only[hk,Int.reduceEq,aaC,aaO,aaP,aac,aat]
  rw[e];exact⟨rfl,rfl⟩
 ·have e:zl p lim world S c i=vL S i.r (fA i.sub (zB S i.m)):=by unfold zl;simp only[hk,Int.reduceEq,aaC,aaO,aaP,aac,aat]
  rw[e];exact⟨rfl,rfl⟩
 ·have e:zl p lim world S c i=vL S i.r (yw i.sub (zB S i.r) (qN i.k)):=by unfold zl;simp only[hk,Int.reduceEq,aaC,aaO,aaP,aac,aat]
  rw[e];exact⟨rfl,rfl⟩
 ·have e:zl p lim world S c i=(if (zB S 1).k=1 then vL S i.r (yw i.sub (zB S i.r) (qN (Wx (· &&& ·) (zB S 1).n 63))) else (S,false)):=by unfold zl;simp only[hk,Int.reduceEq,aaC,aaO,aaP,aac,aat]
  rw[e];split <;> exact⟨rfl,rfl⟩
 ·have e:zl p lim world S c i=(vQ S 2 (Uz (zB S 0)),decide ((zB S 0).k=1)):=by unfold zl;simp only[hk,Int.reduceEq,aaC,aaO,aaP,aac,aat]
  rw[e];exact⟨rfl,rfl⟩
 ·have e:zl p lim world S c i=Yj S (zB S i.m):=by unfold zl;simp only[hk,Int.reduceEq,aaC,aaO,aaP,aac,aat]
  rw[e];exact OK S _
 ·have e:zl p lim world S c i=({S with flags:=true,a:=zB S i.r,b:=zB S i.m},true):=by unfold zl;simp only[hk,Int.reduceEq,aaC,aaO,aaP,aac,aat]
  rw[e];exact⟨rfl,rfl⟩
 ·have e:zl p lim world S c i=({S with flags:=true,a:=zB S i.r,b:=qN i.k},true):=by unfold zl;simp only[hk,Int.reduceEq,aaC,aaO,aaP,aac,aat]
  rw[e];exact⟨rfl,rfl⟩
 ·have e:zl p lim world S c i=(if S.flags=true then vL S i.r (yw i.cc S.a S.b) else (S,false)):=by unfold zl;simp only[hk,Int.reduceEq,aaC,aaO,aaP,aac,aat]
  rw[e];split <;> exact⟨rfl,rfl⟩
 ·have e:zl p lim world S c i=(Za S {c with pt:=jv p c.f i.l},true):=by unfold zl;simp only[hk,Int.reduceEq,aaC,aaO,aaP,aac,aat]
  rw[e];exact⟨rfl,rfl⟩
 ·have e:zl p lim world S c i=VA p S c i:=by unfold zl;simp only[hk,Int.reduceEq,aaC,aaO,aaP,aac,aat]
  rw[e];exact OW p S c i
 ·have e:zl p lim world S c i=(S,true):=by unfold zl;simp only[hk,Int.reduceEq,aaC,aaO,aaP,aac,aat]
  rw[e];exact⟨rfl,rfl⟩
 ·have e:zl p lim world S c i=(vB lim (ql {S with flags:=false} 4 i.sub 0) i.sub.toNat,true):=by unfold zl;simp only[hk,Int.reduceEq,aaC,aaO,aaP,aac,aat]
  rw[e];exact AZ lim _ _
 ·have e:zl p lim world S c i=Yv S c:=by unfold zl;simp only[hk,Int.reduceEq,aaC,aaO,aaP,aac,aat]
  rw[e];exact Pk S c
 ·have e:zl p lim world S c i=w8 lim S c i:=by unfold zl;simp only[hk,Int.reduceEq,aaC,aaO,aaP,aac,aat]
  rw[e];exact Bd lim S c i
 ·have e:zl p lim world S c i=w8 lim S c i:=by unfold zl;simp only[hk,Int.reduceEq,aaC,aaO,aaP,aac,aat]
  rw[e];exact Bd lim S c i
 ·have e:zl p lim world S c i=(vQ {jt S 1 (Yl world S.used) with used:=S.used+1} 0 (qN (Yl world S.used)),true):=by unfold zl;simp only[hk,Int.reduceEq,aaC,aaO,aaP,aac,aat]
  rw[e];exact⟨rfl,rfl⟩
 ·have e:zl p lim world S c i=(if (zB S 0).k=1 then (jt S 2 (zB S 0).n,true) else (S,false)):=by unfold zl;simp only[hk,Int.reduceEq,aaC,aaO,aaP,aac,aat]
  rw[e];split <;> exact⟨rfl,rfl⟩
end
end Go.As
