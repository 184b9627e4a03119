/- A part of the proof. -/
import Derived.Test.YtfhacoddmpbgnaaGreatDoorTO
import Derived.Test.YtfhacoddmpbgnaaGreatDoorTP
import Derived.Test.YtfhacoddmpbgnaaGreatDoorTK
set_option linter.unusedVariables false
set_option linter.unusedSimpArgs false
set_option maxRecDepth 100000
namespace Go.Dm
open Go.Ai Go.Proofs Go.Mem Go.Rm
open Go.Rtl (xG Pg zB wG qP wF zL zE Old inc ZW uz)
theorem zar:Nat.beq (Tryz.prog.cellsOf 116) 5=true:=by kernel_rfl
theorem Bg{b c k:Nat}{h:za}{cs:List aaa}(hc:c≠0)(hg:h.get b=some (.cells cs 116)):Gw pu 62 (.slice (some ⟨b,0,none⟩) (k+1) c) none (some (pm (k:Nat))) h=some (.slice (some ⟨b,0,none⟩) k c):=by
 have h1:(0:Int)<=k/\(k:Int)<=((k+1:Nat):Int):=by omega
 rw[zgr,Xq,aai h1,aaI,eQ,aaI,Gt hg,zar,aaB,FF hc];simp
def fX(l:List V):Nat->List V
 |0=>l
 |k+1=>if VZ k=true then fX l k else (fX l k).set k v0
theorem JZ(l:List V):∀k,(fX l k).length=l.length
 |0=>rfl
 |k+1=>by unfold fX;split <;> simp[JZ l k]
def Bk(ltl:Bool)(l:List V)(dst:Int)(v:V):List V:=if dst ≥ 0 then (fX l (if ltl=true then 16 else 0)).set dst.toNat v else fX l (if ltl=true then 16 else 0)
section
variable {lo:yP}{h:za}{b mb nn:Nat}{p:Pg}{S:St}{ev lk wv sv gv rv rvb:aaa}{ltl:Bool}{d bk:sW}{M:MM}{rvs:List aaa}{ds:List sW}
theorem Ri(s:Sat lo h [pt b (xK p mb S ev lk wv sv gv ltl),yW 116 5 sv ([]++[kL rv d]),kU mb M nn])(hM:M.length<=100000)(rn:zU rv=false)(rc:cellOk rv=true)(v:V) :
  DC pu 62 [yB b,vv v] h (λr h'=>∃sv',r=.bool (decide (v.k=1))/\Sat lo h' [pt b (xK p mb (if v.k=1 then {S with kind:=1,exit:=v.n} else S) ev lk wv sv' gv ltl)]):=by
 apply DM;unfold L8 yB;simp only[EE,Value.cells,zw,iR,Vu];refine uL s λb3 h1 s1=>?_;have gm:=(s1.p 1).get;unfold xK yB at gm;have SK:=yY (s1.p 2) (λr hr=>by simp at hr;subst hr;rfl);have kn:=SK.wO;have kl:=RU SK 3;obtain⟨q,c,cs,hsv,gq,wq,ltq,lq,tq,kq,_⟩:=ZT (s1.p 2) (λr hr=>by simp at hr;subst hr;rfl) (i:=0) (j:=0) (row:=kL rv d) rfl (by decide);have hsv':sv=.slice (some ⟨q,0,none⟩) 1 c:=hsv;subst hsv';have w1:IntKind.wrap .i64 (((1:Nat):Int)-1)=0:=rfl;have l1:(0:Int)<((1:Nat):Int):=by decide
 have kl':zv pu .len [62] 3 [.slice (some ⟨q,0,none⟩) 1 c] h1=some (pm ((1:Nat):Int),h1):=kl h1;rw[acO]at lq tq;rw[abA]at tq;unfold kL at tq;have wf1:(0:Nat)+5<=cs.length:=lq;simp only[EE,Value.cells,aad,Nat.reduceMul,Int.reduceLE,Int.reduceToNat,ya,TM,zae,Pb,gm,kn,kl',w1,l1,gq,lq,tq];refine uL s1 λb5 h5 s5=>?_;simp only[EE,Nat.reduceAdd,T8];refine yw s5 (by simp) (by simp[rc];exact⟨rfl,rfl,rfl,rfl⟩) λh6 s6=>?_;have g5:=s6.get;have gm6:=(s6.p 2).get;unfold xK yB at gm6;simp only[EE,zb,Nat.reduceAdd,zw,zj,Bd,BD,bX,gm6,g5];obtain⟨lo1,l2,s7,fr⟩:=(s6.f [4]).call (L2:=[kU mb M nn]);refine Iu (zaW s7 hM d.kS) ?_;rintro w h7 ⟨rfl,s8⟩;have s9:=fr _ _ s8;have gm9:=(s9.p 3).get;unfold xK yB at gm9;obtain⟨q2,c2,cs2,hsv2,hc2,gq2,s10⟩:=tG (s9.p 4) (λr hr=>by cases hr);simp only[aba,aab,abv,abc]at hsv2;obtain⟨rfl,-,rfl⟩:=hsv2;have as':Gw pu 62 (.slice (some ⟨q,0,none⟩) 1 c) none (some (pm 0)) h7=some (.slice (some ⟨q,0,none⟩) 0 c):=Bg (k:=0) hc2 gq2;have kl9:zv pu .len [62] 3 [.slice (some ⟨q,0,none⟩) 1 c] h7=some (pm ((1:Nat):Int),h7):=kl h7;simp only[EE,aaB,zw,iR,zac,Vu,pr,gm9,kl9,w1,as'];refine yw (s10.p 4) (by simp) rfl λh11 s11=>?_;have gm11:=s11.get;have g3:=(s11.p 4).get;have kl11:zv pu .len [62] 3 [.slice (some ⟨q,0,none⟩) 0 c] h11=some (pm 0,h11):=RU (yY (s11.p 1) (λr hr=>by cases hr)) 3 h11;simp only[EE,zb,zw,zj,iR,Vu,zQ,Ht,gm11,kl11,g3];by_cases k1:v.k=1
 ·simp only[EE,Ws,jY,YN,Hs,k1];refine yw s11 (by simp[zb]) rfl λh12 s12=>?_;have g3:=(s12.p 4).get;simp only[EE,Nat.reduceAdd,zw,xi,zfN,FJ,YN,yf,g3];refine yw s12 (by simp[zb]) rfl λh13 s13=>?_;simp only[EE,aad,k1];exact⟨_,s13.zO 1⟩
 ·simp only[EE,abj,k1];exact⟨_,s11.zO 1⟩
theorem Rj(s:Sat lo h [pt b (xK p mb S ev lk wv sv gv ltl),yW 116 5 sv ((qS rvs ds++[kL rvb bk])++[kL rv d]),kU mb M nn,yW 69 3 rvb (bk.zf.map V.zY)])(hds:rvs.length=ds.length)(hmany:ds.length<=1000000)(hM:M.length<=100000)(rn:zU rv=false)(rc:cellOk rv=true)
  (h16:ltl=true->16<=bk.zf.length) (hdst:d.dst<bk.zf.length) (v:V) :
  DC pu 62 [yB b,vv v] h (λr h'=>∃sv',r=.bool true/\Sat lo h' [pt b (xK p mb S ev lk wv sv' gv ltl),yW 116 5 sv' (qS rvs ds++[kL rvb bk]),kU mb ((qE M d.kS).getD M) nn,yW 69 3 rvb ((Bk ltl bk.zf d.dst v).map V.zY)]):=by
 apply DM;unfold L8 yB
 have hr1:∀r,r∈qS rvs ds++[kL rvb bk]->r.length=5:=λr hr=>by
  rcases aaQ.1 hr with q|q
  ·exact iC _ _ r q
  ·simp only[aaR]at q;subst q;rfl
 have hr2:∀r,r∈(qS rvs ds++[kL rvb bk])++[kL rv d]->r.length=5:=λr hr=>by
  rcases aaQ.1 hr with q|q
  ·exact hr1 r q
  ·simp only[aaR]at q;subst q;rfl
 have hl1:(qS rvs ds++[kL rvb bk]).length=ds.length+1:=by rw[abS,ZS hds];rfl
 have hl2:((qS rvs ds++[kL rvb bk])++[kL rv d]).length=ds.length+1+1:=by rw[abS,hl1];rfl
 simp only[EE,Value.cells,zw,iR,Vu];refine uL s λb3 h1 s1=>?_;have gm:=(s1.p 1).get;unfold xK yB at gm;have SK:=yY (s1.p 2) hr2;have kn:=SK.wO;have kl:=RU SK 3;rw[hl2]at kl;obtain⟨q,c,cs,hsv,gq,wq,ltq,lq,tq,kq,_⟩:=ZT (s1.p 2) hr2 (i:=ds.length+1) (j:=0) (row:=kL rv d) (by rw[aa4 (by rw[hl1];exact aam _),hl1,acN];rfl) (by decide);rw[hl2]at hsv;subst hsv;have w1:IntKind.wrap .i64 (((ds.length+1+1:Nat):Int)-1)=((ds.length+1:Nat):Int):=NH (by omega);have l0:(0:Int)<=((ds.length+1:Nat):Int):=by omega
 have l1:((ds.length+1:Nat):Int)<((ds.length+1+1:Nat):Int):=by omega
 unfold kL at tq;simp only[EE,Value.cells,aad,ya,TM,zae,Pb,gm,kn,kl,w1,l0,l1,gq,lq,tq,aax];refine uL s1 λb5 h5 s5=>?_;simp only[EE,Nat.reduceAdd,T8];refine yw s5 (by simp) (by simp[rc];exact⟨rfl,rfl,rfl,rfl⟩) λh6 s6=>?_;have g5:=s6.get;have gm6:=(s6.p 2).get;unfold xK yB at gm6;simp only[EE,zb,Nat.reduceAdd,zw,zj,Bd,BD,bX,gm6,g5];obtain⟨lo1,l2,s7,fr⟩:=(s6.f [4]).call (L2:=[kU mb M nn]);refine Iu (zaW s7 hM d.kS) ?_;rintro w h7 ⟨rfl,s8⟩;have s9:=fr _ _ s8;have gm9:=(s9.p 3).get;unfold xK yB at gm9;obtain⟨q2,c2,cs2,hsv2,hc2,gq2,s10⟩:=tG (s9.p 4) hr1;rw[hl1]at hsv2 s10;simp only[aba,aab,abv,abc,abP]at hsv2;obtain⟨rfl,rfl⟩:=hsv2;have as':=Bg (k:=ds.length+1) hc2 gq2;simp only[EE,aaB,zw,iR,zac,Vu,pr,gm9,kl,w1,as'];refine yw (s10.p 4) (by simp) rfl λh11 s11=>?_;have gm11:=s11.get;have g3:=(s11.p 4).get
 have kl11:∀H,zv pu .len [62] 3 [.slice (some ⟨q,0,none⟩) (ds.length+1) c] H=some (pm ((ds.length+1:Nat):Int),H):=λH=>by
  have:=RU (yY (s11.p 1) hr1) 3 H;rw[hl1]at this;exact this
 have w2:IntKind.wrap .i64 (((ds.length+1:Nat):Int)-1)=(ds.length:Int):=NH (by omega);have l3:(0:Int)<=(ds.length:Int):=by omega
 have l4:(ds.length:Int)<((ds.length+1:Nat):Int):=by omega
 have l5:¬((ds.length+1:Nat):Int)=0:=by omega
 simp only[EE,↓BK,zb,aad,zw,iR,Vu,Pb,DL,gm11,kl11,w2,l3,l4,l5,aax];obtain⟨K,hK⟩:∃K,K=(if ltl=true then 16 else 0):=⟨_,rfl⟩;refine qQ (λr vs h'=>∃j:Nat,j<=K/\r=K-j/\vs=[pm j]/\Sat lo h' [pt b (xK p mb S ev lk wv (.slice (some ⟨q,0,none⟩) (ds.length+1) c) gv ltl),yW 116 5 (.slice (some ⟨q,0,none⟩) (ds.length+1) c) (qS rvs ds++[kL rvb bk]),kU mb ((qE M d.kS).getD M) nn,pt b5 (.cells [pm d.f,pm d.pt,rv,pm d.kS,pm d.dst] 116),pt b3 (.cells [pm v.k,pm v.n,pm v.b] 69),yW 69 3 rvb ((fX bk.zf j).map V.zY)]) K ⟨0,aa8 _,rfl,rfl,s11⟩ ?_;rintro r vs h' ⟨j,hj,rfl,rfl,s12⟩;have gm12:=s12.get;unfold xK yB at gm12;obtain⟨y1,y2,y3,y4,gq3,wq3,ltq3,lq3,tq3,kq3,_⟩:=ZT (s12.p 1) hr1 (i:=ds.length) (j:=0) (row:=kL rvb bk) (by rw[aa4 (by rw[ZS hds];exact aam _),ZS hds,acN];rfl) (by decide);rw[hl1]at y4;simp only[aba,aab,abv,abc,abP]at y4;obtain⟨rfl,rfl⟩:=y4;have k2:=kq3 2 (by decide);unfold kL at k2;have bn:=xN (s12.p 5);by_cases go:ltl=true/\(j:Int)<16
 ·obtain⟨hlt,hj16⟩:=go;subst hlt;rw[aai rfl]at hK;subst hK;have h16:=h16 rfl;simp only[EE,nth,↓BK,zw,Vc,FM,Hv,Hw,mN,mO,gm12,hj16];refine yp (zeA _ _) ?_;cases hkp:VZ (j:Int) with
  |true=>
   simp only[EE,nth,inc (show j<4611686018427387904 by omega)];refine⟨16-(j+1),by omega,j+1,by omega,rfl,rfl,?_⟩;rw[show fX bk.zf (j+1)=fX bk.zf j by simp only[fX,hkp,aad]];exact s12
  |false=>
   obtain⟨z1,z2,z3,z4,gb,wb,lb,s13⟩:=YS (s12.p 5) (wP _) (i:=j) (by rw[aaf,JZ];omega);rw[aaf,JZ]at z4;subst z4;have q1:(0:Int)<=j:=by omega
   have q2:(j:Int)<(bk.zf.length:Int):=by omega
   simp only[EE,nth,aad,Nat.reduceAdd,zw,Ys,zo,zN,jv,X4,Hu,gq3,k2,q1,q2,aax];refine Vz gb wb lb s13 rfl rfl λh14 s14=>?_;simp only[EE,nth,inc (show j<4611686018427387904 by omega)];refine⟨16-(j+1),by omega,j+1,by omega,rfl,rfl,?_⟩;rw[show fX bk.zf (j+1)=(fX bk.zf j).set j v0 by simp only[fX,hkp];rfl,ab4];exact s14.f [1,2,3,4,5,0]
 ·have hjK:j=K:=by
   rw[hK];cases ltl with
   |true=>rw[aai rfl]at hK ⊢;simp at go;omega
   |false=>rw[hK]at hj;simp at hj;subst hj;rfl
  subst hjK
  have out:mP (pi b5) (.pointer (some ⟨q,ds.length*5,none⟩)) (pi b3) (λr h'=>∃sv',r=.bool true/\Sat lo h' [pt b (xK p mb S ev lk wv sv' gv ltl),yW 116 5 sv' (qS rvs ds++[kL rvb bk]),kU mb ((qE M d.kS).getD M) nn,yW 69 3 rvb ((Bk ltl bk.zf d.dst v).map V.zY)]) [] h':=by
   have g5':=(s12.p 3).get;have g3':=(s12.p 4).get;unfold Bk;rw[<- hK];by_cases hd:d.dst ≥ 0
   ·rw[aai hd];obtain⟨z1,z2,z3,z4,gb,wb,lb,s13⟩:=YS (s12.p 5) (wP _) (i:=d.dst.toNat) (by rw[aaf,JZ];omega);rw[aaf,JZ]at z4;subst z4;have q2:d.dst<(bk.zf.length:Int):=hdst;have q1:0<=d.dst:=hd;simp only[EE,aad,Nat.reduceAdd,ya,zw,zj,Ys,zh,zo,jv,IF,X4,Hx,mP,g5',g3',hd,gq3,k2,q2];refine Vz gb wb lb s13 rfl rfl λh14 s14=>?_;simp only[EE];refine⟨.slice (some ⟨q,0,none⟩) (ds.length+1) c,?_⟩;rw[ab4];exact s14.k [1,2,3,0]
   ·rw[aac hd];simp only[EE,zw,zj,IF,mP,g5',hd];exact⟨_,s12.k [0,1,2,5]⟩
  cases ltl with
  |false=>
   simp only[EE,zw,Vc,FM,mN,mO,gm12];exact out
  |true=>
   have:¬(j:Int)<16:=λq=>go ⟨rfl,q⟩;simp only[EE,nth,zw,Vc,FM,mN,mO,gm12,this];exact out
end
theorem LN(l:List V)(j:Nat):∀k,(fX l k)[j]? = if j<k/\VZ (j:Int)=false then (l[j]?).map (λ_=>v0) else l[j]?
 |0=>by rw[aac (by omega)];rfl
 |k+1=>by
  unfold fX;have ih:=LN l j k;cases hk:VZ (k:Int) with
  |true=>
   rw[aai rfl,ih];by_cases q:j=k
   ·subst q;rw[aac (by omega),aac (by rw[hk];simp)]
   ·by_cases q2:j<k/\VZ (j:Int)=false
    ·rw[aai q2,aai ⟨by omega,q2.2⟩]
    ·rw[aac q2,aac (λz=>q2 ⟨by omega,z.2⟩)]
  |false=>
   rw[aac (by simp),ab0,ih,JZ];by_cases q:k=j
   ·subst q;rw[aai rfl];by_cases q3:k<l.length
    ·rw[aai q3,aai ⟨by omega,hk⟩,aae q3];rfl
    ·rw[aac q3,aai ⟨by omega,hk⟩,aal (by omega)];rfl
   ·rw[aac q];by_cases q2:j<k/\VZ (j:Int)=false
    ·rw[aai q2,aai ⟨by omega,q2.2⟩]
    ·rw[aac q2,aac (λz=>q2 ⟨by omega,z.2⟩)]
theorem zdi{n:Nat}{l:List V}(hl:l.length<=n):fX (uo n l) 16=uo n (kN (some VZ) l):=by
 apply aa9;intro j;rw[LN];unfold uo kN;by_cases q:j<l.length
 ·rw[abf q,abf (by simp;exact q),aaq,List.getElem?_range q,aae q];simp only[abV];cases hk:VZ (j:Int) with
  |true=>rw[aac (by simp),aai rfl,aaA,aae q];rfl
  |false=>
   have:j<16:=by
    unfold VZ at hk;simp at hk;omega
   rw[aai ⟨this,rfl⟩,aac (by simp)]
 ·rw[aa4 (by omega),aa4 (by simp;omega)];simp only[aaf,List.length_range];rw[abZ]
  repeat' split
  all_goals rfl
theorem zag{ltl:Bool}{n:Nat}{l:List V}{d:Int}{v:V}(hl:l.length<=n)(hd:d<n):Bk ltl (uo n l) d v=uo n (um (kN (if ltl=true then some VZ else none) l) d v):=by
 have e:fX (uo n l) (if ltl=true then 16 else 0)=uo n (kN (if ltl=true then some VZ else none) l):=by
  cases ltl with
  |true=>exact zdi hl
  |false=>rfl
 have hk:(kN (if ltl=true then some VZ else none) l).length<=n:=by rw[BX];exact hl
 unfold Bk;rw[e];by_cases q:d ≥ 0
 ·rw[aai q,Gq q hd hk]
 ·rw[aac q];generalize kN _ _=X at hk ⊢;unfold um;rw[aai (by omega)]
open Go.Rtl (wr Xw jy X7 V7 Kl Ku xA iJ uF lA lB lC Qw KL)
def vn(v:V):Prop:=wg v.n
theorem rK:vn v0:=Vk
theorem LG(t:Bool):vn (qN t):=by
 unfold qN;split
 ·exact⟨by decide,by decide⟩
 ·exact Vk
theorem LF{b n:Int}(h:wg n):vn (sO b n):=by
 unfold sO;split
 ·exact Vk
 ·exact h
theorem zfe{c:Prop}[Decidable c]{x y:Option V}{v:V}(hx:x=some v->vn v)(hy:y=some v->vn v):(if c then x else y)=some v->vn v:=by
 intro h;by_cases hc:c
 ·rw[aai hc]at h;exact hx h
 ·rw[aac hc]at h;exact hy h
theorem zcL{a b:Int}(h:wg a):wg (a.tmod b):=by
 obtain⟨h1,h2⟩:=h;have e:=Int.natAbs_tmod a b;have l:=Nat.mod_le a.natAbs b.natAbs;rcases Int.le_total 0 a with q|q
 ·have:=Int.tmod_nonneg b q
  constructor <;> omega
 ·have:a.tmod b<=0:=by
   have:=Int.tmod_nonneg b (a := -a) (by omega);rw[Int.neg_tmod]at this;omega
  constructor <;> omega
theorem zdd{op a b:Int}(ha:wg a){v:V}(h:ub op a b=some v):vn v:=by
 have wn:∀n,vn (u6 (Go.Rm.v9 n)):=λn=>FW n;have bn:∀f,vn (u6 (Wy f a b)):=λf=>FW _
 revert h
 unfold ub
 repeat' apply zfe
 all_goals intro h
 all_goals first
  |(cases h;done)
  |(have e:=abN h;rw[<- e];first|exact wn _|exact bn _|exact LG _|exact zcL ha|exact O9 ha _)
theorem zfd{op:Int}{a b v:V}(ha:vn a)(hb:vn b)(h:yF op a b=some v):vn v:=by
 unfold yF at h;split at h
 ·exact zdd ha h
 split at h
 ·simp only[aab]at h;subst h;exact LF (FW _)
 split at h
 ·simp only[aab]at h;subst h;exact LF (FW _)
 split at h
 ·simp only[aab]at h;subst h;exact LF (FW _)
 split at h
 ·unfold wH at h;split at h
  ·simp only[aab]at h;subst h;exact LG _
  ·cases h
 ·cases h
theorem zcr{op:Int}{a b v:V}(h0:21<=op)(h1:op<=26)(h:yF op a b=some v):v.n=0\/v.n=1:=by
 have tr:∀t,(qN t).n=0\/(qN t).n=1:=λt=>by unfold qN;split;exact .inr rfl;exact .inl rfl
 unfold yF at h;split at h
 ·unfold ub at h;rw[aac (by omega),aac (by omega),aac (by omega),aac (by omega),aac (by omega),aac (by omega),aac (by omega),aac (by omega)]at h
  repeat' (split at h)
  all_goals first
   |(have e:=abN h;rw[<- e];exact tr _)
   |(exfalso;omega)
 split at h
 ·rename_i q;simp at q;omega
 split at h
 ·rename_i q;simp at q;omega
 split at h
 ·rename_i q;simp at q;omega
 split at h
 ·unfold wH at h;split at h
  ·have e:=abN h;rw[<- e];exact tr _
  ·cases h
 ·cases h
theorem zgx{op:Int}{a v:V}(h:iY op a=some v):vn v:=by
 have wn:∀n,vn (u6 (Go.Rm.v9 n)):=λn=>FW n;have nn:∀n,vn (u6 (Go.Rm.notM n)):=λn=>FW _;unfold iY at h
 repeat' (split at h)
 all_goals first
  |(cases h;done)
  |(have e:=abN h;rw[<- e];first|exact wn _|exact nn _)
theorem zb7{l:List V}(h:∀v,v∈l->vn v)(r:Int):vn (zS l r):=by
 unfold zS;split
 ·exact rK
 ·rw[aaA];cases e:l[r.toNat]? with
  |none=>exact rK
  |some v=>exact h v (aau e)
theorem NG{l:List V}(h:∀v,v∈l->vn v)(r:Int){w:V}(hw:vn w):∀v,v∈um l r w->vn v:=by
 intro v hv;unfold um at hv;split at hv
 ·exact h v hv
 ·rcases acy hv with q|rfl
  ·rcases aaQ.1 q with q|q
   ·exact h v q
   ·rw[List.eq_of_mem_replicate q];exact rK
  ·exact hw
theorem CC:∀(ps:List Int) (al l:List V),(∀v,v∈al->vn v)->(∀v,v∈l->vn v)->∀v,v∈wt ps al l->vn v
 |[],al,l,_,h=>by cases al <;> exact h
 |p::ps,[],l,_,h=>h
 |p::ps,a::al,l,ha,h=>CC ps al _ (λv hv=>ha v (by simp[hv])) (NG h p (ha a (by simp)))
theorem zde(kept:Option (Int->Bool)){l:List V}(h:∀v,v∈l->vn v):∀v,v∈kN kept l->vn v:=by
 intro v hv;cases kept with
 |none=>exact h v hv
 |some K=>
  unfold kN at hv;simp only[abm]at hv;obtain⟨k,_,rfl⟩:=hv;split
  ·rw[aaA];cases e:l[k]? with
   |none=>exact rK
   |some w=>exact h w (aau e)
  ·exact rK
def fJ(M:MM):Prop := ∀(i:Nat) B,M[i]? = some B->∀a,vn (B.byte a).p
theorem R5{M:MM}{c:Int}{p v:V}(h:fJ M)(e:kP M c p=some v):vn v:=by
 unfold kP at e;split at e
 ·cases e
 ·rename_i i hi;simp only[aat]at e;obtain⟨B,hB,rfl⟩:=e;unfold cR;split
  ·show wg (if _ then _ else _);split
   ·exact FW _
   ·split <;> exact FW _
  split
  ·exact h i B hB _
  ·exact rK
theorem B5{M:MM}{i:Nat}{B:MB}(h:fJ M)(hp:∀a,vn (B.byte a).p):fJ (M.set i B):=λj C hC a=>by
 rw[ab0]at hC;split at hC
 ·split at hC
  ·cases hC;exact hp a
  ·cases hC
 ·exact h j C hC a
theorem Nd{M M':MM}{c:Int}{p v:V}(h:fJ M)(hv:vn v)(e:wR M c p v=some M'):fJ M':=by
 unfold wR at e;split at e
 ·cases e
 split at e
 ·cases e
 ·rename_i i hi;simp only[aat]at e;obtain⟨B,hB,rfl⟩:=e;refine B5 h λa=>?_;show vn ((if _ then cellOf (norm v) _ else B.byte a).p);split
  ·unfold cellOf norm
   repeat' split
   all_goals first|exact hv|exact rK
  ·exact h i B hB a
theorem pZ{M:MM}{n:Int}(h:fJ M):fJ ((qE M n).getD M):=by
 cases e:qE M n with
 |none=>exact h
 |some M'=>
  unfold qE at e;simp only[abY,aat]at e;obtain⟨i,hi,B,hB,rfl⟩:=e;exact B5 h λa=>rK
theorem R6{M:MM}{n:Int}(h:fJ M):fJ ((YW M n).getD M):=by
 cases e:YW M n with
 |none=>exact h
 |some M'=>
  unfold YW at e;simp only[abY,aat]at e;obtain⟨i,hi,B,hB,rfl⟩:=e;refine B5 h λa=>?_;show vn ((if a<_ then zc else B.byte a).p);split
  ·exact rK
  ·exact h i B hB a
theorem cC{M:MM}(n:Int)(h:fJ M):fJ (zV M n).1:=by
 unfold zV;split
 ·exact h
 split
 ·exact h
 ·intro i B hB a;rw[ab9]at hB;split at hB
  ·exact h i B hB a
  ·cases hq:i-M.length with
   |zero=>rw[hq]at hB;simp at hB;subst hB;exact rK
   |succ k=>rw[hq]at hB;simp at hB
def xo(p:Pg)(k:Nat):Nat:=((p.funcs[k]?).map (λf=>f.zf.toNat)).getD 0
def inR(n r:Int):Prop:=(0<=r/\r<n)\/r = -1
structure GI (f:Go.Rtl.Fn) (x:xG):Prop where
 a:Qw x.op=true->inR f.zf x.a
 b:KL x.op=true->inR f.zf x.b
 na:(x.op=3\/x.op=4\/x.op=5\/x.op=6\/x.op=7\/x.op=11\/x.op=14)->0<=x.a/\x.a<f.zf
 nb:x.op=7->0<=x.b/\x.b<f.zf
 args:x.op=10->∀r,r∈x.args->0<=r/\r<f.zf
 d:wr x.op=true->inR f.zf x.d
 k:wg x.k
 cond:x.op=11->21<=x.sub/\x.sub<=26
structure GF (f:Go.Rtl.Fn):Prop where
 ins:∀x,x∈f.code->GI f x
 par:∀r,r∈f.params->0<=r/\r<f.zf
 zf:0<=f.zf/\f.zf<=5000
structure StN (p:Pg) (S:St):Prop where
 fr:∀c,c∈S.calls->c.zf.length<=xo p c.f /\ ∀v,v∈c.zf->vn v
 mem:fJ S.mem
theorem iq{p:Pg}{c:Fr}{i:xG}(h:jT p c=some i):∃f,p.funcs[c.f]? = some f/\f∈p.funcs/\i∈f.code/\xo p c.f=f.zf.toNat:=by
 unfold jT at h;cases e:p.funcs[c.f]? with
 |none=>rw[e]at h;cases h
 |some f=>
  rw[e]at h;simp only[aaI]at h;split at h
  ·cases h
  ·exact⟨f,rfl,aau e,aau h,by unfold xo;rw[e];rfl⟩
section
variable {p:Pg}{S:St}{world:List Int}{kept:Option (Int->Bool)}
theorem Pe{l:List V}{n:Nat}{d:Int}{v:V}(hl:l.length<=n)(hd:d<n):(um l d v).length<=n:=by
 have:=Cy l d v;by_cases h:d<0
 ·unfold um;rw[aai h];exact hl
 ·omega
theorem ze3(g:∀f,f∈p.funcs->GF f)(hw:∀z,z∈world->wg z)(low:∀c,c∈S.calls.dropLast->∃i,jT p c=some i/\i.op=10)(x:StN p S):StN p (kH p world kept {S with steps:=S.steps+1}).1:=by
 obtain⟨T,hT⟩:∃T:St,T = {S with steps:=S.steps+1}:=⟨_,rfl⟩;have xT:StN p T:=by rw[hT];exact⟨x.fr,x.mem⟩
 have low:∀c,c∈T.calls.dropLast->∃i,jT p c=some i/\i.op=10:=by rw[hT];exact low
 rw[<- hT];clear hT x;unfold kH;cases hc:T.calls.getLast? with
 |none=>exact xT
 |some c=>
 simp only;have hcm:c∈T.calls:=List.mem_of_getLast? hc;obtain⟨cl,cv⟩:=xT.fr c hcm;cases hi:jT p c with
 |none=>exact xT
 |some i=>
 simp only;obtain⟨f,hf,fm,im,er⟩:=iq hi;have gf:=g f fm;have gi:=gf.ins i im
 have top:∀(T':St) (c':Fr),T'.calls=T.calls->fJ T'.mem->c'.f=c.f->c'.zf.length<=xo p c.f->(∀v,v∈c'.zf->vn v)->StN p (Sx T' c'):=by
  intro T' c' h1 h2 h3 h4 h5;refine⟨λd hd=>?_,h2⟩;have hd:d∈T'.calls.dropLast++[c']:=hd;rw[h1]at hd;rcases aaQ.1 hd with q|q
  ·exact xT.fr d (List.dropLast_subset _ q)
  ·simp only[aaR]at q;subst q;rw[h3];exact⟨h4,h5⟩
 have wd:zB i<xo p c.f:=by
  rw[er];unfold zB;split
  ·rename_i h;rcases gi.d h with q|q <;> have:=gf.zf <;> omega
  ·have:=gf.zf;omega
 have done:∀(T':St) (v:V),T'.calls=T.calls->fJ T'.mem->vn v->StN p (vZ T' c i v):=λT' v h1 h2 h3=>top T' _ h1 h2 rfl (Pe cl wd) (NG cv _ h3);have ga:∀r,vn (zS c.zf r):=zb7 cv;have go:vn (yC c i):=by unfold yC;split;exact gi.k;exact ga _
 unfold xj;by_cases h2:i.op=2
 ·rw[aai h2];exact done _ _ rfl xT.mem gi.k
 rw[aac h2];by_cases h3:i.op=3
 ·rw[aai h3];exact done _ _ rfl xT.mem (ga _)
 rw[aac h3];by_cases h4:i.op=4
 ·rw[aai h4];cases hu:iY i.sub (zS c.zf i.a) with
  |none=>exact xT
  |some u=>exact done _ _ rfl xT.mem (zgx hu)
 rw[aac h4];by_cases h5:i.op=5
 ·rw[aai h5];cases hu:yF i.sub (zS c.zf i.a) (yC c i) with
  |none=>simp only[hu];split <;> exact⟨xT.fr,xT.mem⟩
  |some u=>simp only[hu];split <;> exact done _ _ rfl xT.mem (zfd (ga _) go hu)
 rw[aac h5];by_cases h6:i.op=6
 ·rw[aai h6];cases yQ c i with
  |none=>exact xT
  |some q=>
   simp only;cases hu:kP T.mem i.sub q with
   |none=>exact⟨xT.fr,xT.mem⟩
   |some u=>exact done _ _ rfl xT.mem (R5 xT.mem hu)
 rw[aac h6];by_cases h7:i.op=7
 ·rw[aai h7];cases yQ c i with
  |none=>exact xT
  |some q=>
   simp only;cases hu:wR T.mem i.sub q (zS c.zf i.b) with
   |none=>exact⟨xT.fr,xT.mem⟩
   |some M=>exact done {xf T 2 q.b q.n with mem:=M} _ rfl (Nd xT.mem (ga _) hu) rK
 rw[aac h7];by_cases h8:i.op=8
 ·rw[aai h8];exact done _ _ rfl xT.mem (LF gi.k)
 rw[aac h8];by_cases h9:i.op=9
 ·rw[aai h9];exact done _ _ rfl xT.mem (LF gi.k)
 rw[aac h9];by_cases h10:i.op=10
 ·rw[aai h10];unfold wI;split
  ·exact⟨xT.fr,xT.mem⟩
  split
  ·exact⟨xT.fr,xT.mem⟩
  rename_i f2 hf2;have er2:xo p i.sub.toNat=f2.zf.toNat:=by unfold xo;rw[hf2];rfl
  split
  ·refine⟨λd hd=>?_,cC _ xT.mem⟩;rcases aaQ.1 hd with q|q
   ·exact xT.fr d q
   ·simp only[aaR]at q;subst q;refine⟨?_,CC _ _ _ (λv hv=>by simp only[abm]at hv;obtain⟨r,_,rfl⟩:=hv;exact ga r) (λv hv=>by cases hv)⟩;show(wt f2.params _ []).length<=xo p i.sub.toNat;rw[er2];exact Xt _ _ _ (by simp) λr hr=>by have:=(g f2 (aau hf2)).par r hr;omega
  ·exact⟨xT.fr,cC _ xT.mem⟩
 rw[aac h10];by_cases h11:i.op=11
 ·rw[aai h11];unfold fo;split
  ·exact xT
  ·exact top _ _ rfl xT.mem rfl cl cv
 rw[aac h11];by_cases h12:i.op=12
 ·rw[aai h12];unfold u5;split
  ·exact xT
  split
  ·split
   ·exact⟨λd hd=>(by cases hd),pZ xT.mem⟩
   ·exact⟨λd hd=>(by cases hd),pZ xT.mem⟩
  ·rename_i bk hbk;split
   ·exact xT
   ·rename_i bi hbi;refine⟨λd hd=>?_,pZ xT.mem⟩;have hd:d∈T.calls.dropLast.dropLast++[({bk with zf:=um (kN kept bk.zf) bi.d (zS c.zf i.a),pt:=bi.s}:Fr)]:=hd;rcases aaQ.1 hd with q|q
    ·exact xT.fr d (List.dropLast_subset _ (List.dropLast_subset _ q))
    ·simp only[aaR]at q;subst q;obtain⟨bl,bv⟩:=xT.fr bk (List.dropLast_subset _ (List.mem_of_getLast? hbk));refine⟨?_,NG (zde kept bv) _ (ga _)⟩;show(um (kN kept bk.zf) bi.d _).length<=xo p bk.f;obtain⟨bi2,e2,h10'⟩:=low bk (List.mem_of_getLast? hbk);rw[hbi]at e2;cases e2;obtain⟨f3,hf3,fm3,im3,er3⟩:=iq hbi;refine Pe (by rw[BX];exact bl) ?_;rw[er3];rcases ((g f3 fm3).ins bi im3).d (by rw[h10'];rfl) with q|q <;> have:=(g f3 fm3).zf <;> omega
 rw[aac h12];by_cases h13:i.op=13
 ·rw[aai h13];refine done _ _ rfl xT.mem ?_;show wg (Zs world T.used);unfold Zs;split
  ·exact Vk
  ·rw[aaA];cases e:world[T.used.toNat]? with
   |none=>exact Vk
   |some z=>exact hw z (aau e)
 rw[aac h13];by_cases h14:i.op=14
 ·rw[aai h14];split
  ·exact done _ _ rfl xT.mem rK
  ·exact xT
 rw[aac h14];exact done _ _ rfl xT.mem rK
end
open Go.Rtl (Qv)
def atD(p:Pg)(c:Fr):Int:=((jT p c).map (λi=>i.s)).getD 0
def MR(p:Pg)(o:Option Fr):Int:=match o with
 |none => -1
 |some b=>((jT p b).map (λi=>i.d)).getD (-1)
def nU(p:Pg)(o:Option Fr)(c:Fr):sW:=⟨c.f,atD p c,uo (xo p c.f) c.zf,c.kS,MR p o⟩
def Uo(p:Pg)(o:Option Fr)(c:Fr):sW:=⟨c.f,c.pt,uo (xo p c.f) c.zf,c.kS,MR p o⟩
def Zk(p:Pg):Option Fr->List Fr->List sW
 |_,[]=>[]
 |o,c::cs=>nU p o c::Zk p (some c) cs
theorem Yz(p:Pg):∀(o:Option Fr) (l:List Fr),(Zk p o l).length=l.length
 |_,[]=>rfl
 |o,c::cs=>by simp only[Zk,aaD,Yz p (some c) cs]
theorem pW(p:Pg)(c:Fr):∀(o:Option Fr) (l:List Fr),Zk p o (l++[c])=Zk p o l++[nU p (l.getLast?.or o) c]
 |o,[]=>rfl
 |o,d::cs=>by
  simp only[abJ,Zk,pW p c (some d) cs];cases cs with
  |nil=>rfl
  |cons e es=>rw[List.getLast?_cons_cons];cases h:(e::es).getLast? <;> simp at h ⊢
section
variable {lo:yP}{h:za}{b mb nn:Nat}{p:Pg}{S S1:St}{ev lk wv sv gv rv:aaa}{ltl:Bool}{ini:List Fr}{c:Fr}{rvs:List aaa}{R:List HP}{i:xG}{b4 b5:Nat}
def Wh(p:Pg)(b mb nn:Nat)(wv gv:aaa)(ltl:Bool)(S:St)(ev lk sv:aaa)(rows:List (List aaa))(rv:aaa)(zf:List V):List HP :=
 [pt b (xK p mb S ev lk wv sv gv ltl),yW 97 2 ev (S.ev.map qC),yW 74 3 lk (S.lk.map wk),yW 116 5 sv rows,yW 69 3 rv (zf.map V.zY),kU mb S.mem nn,yW 3 1 gv (S.gl.map yb)]
def qH(p:Pg)(rvs:List aaa)(ini:List Fr)(rv:aaa)(c:Fr):List (List aaa):=qS rvs (Zk p none ini)++[kL rv (Uo p ini.getLast? c)]
def zcd(lo:yP)(h:za)(p:Pg)(b mb nn:Nat)(wv gv:aaa)(ltl:Bool)(S:St):Prop := ∃ev lk sv rvs rv ini c,S.calls=ini++[c]/\rvs.length=ini.length/\Sat lo h (Wh p b mb nn wv gv ltl S ev lk sv (qH p rvs ini rv c) rv (uo (xo p c.f) c.zf)++JU rvs (Zk p none ini))
structure zfs (ok:Bool) (S':St) (r:St×Bool):Prop where
 kind:(if ok=false/\S'.kind=0 then 3 else S'.kind)=(KB r).kind
 exit:S'.exit=r.1.exit
 ev:S'.ev=r.1.ev
 lk:S'.lk=r.1.lk
 steps:S'.steps=r.1.steps
def tL(lo:yP)(p:Pg)(b mb nn:Nat)(wv gv:aaa)(ltl:Bool)(r:St×Bool)(v:aaa)(h':za):Prop := ∃ok,v=.bool ok/\if r.2=true/\r.1.kind=0 then ok=true/\zcd lo h' p b mb nn wv gv ltl r.1
 else ∃S' ev lk sv,Sat lo h' [pt b (xK p mb S' ev lk wv sv gv ltl),yW 97 2 ev (S'.ev.map qC),yW 74 3 lk (S'.lk.map wk)]/\zfs ok S' r
theorem YQ(p:Pg)(rvs:List aaa)(ini:List Fr)(rv:aaa)(c:Fr):∀r,r∈qH p rvs ini rv c->r.length=5:=λr hr=>by
 rcases aaQ.1 hr with q|q
 ·exact iC _ _ r q
 ·simp only[aaR]at q;subst q;rfl
theorem X9(hl:rvs.length=ini.length):(qH p rvs ini rv c).length=ini.length+1:=by
 unfold qH;rw[abS,ZS (by rw[hl,Yz]),Yz];rfl
theorem Wa(hl:rvs.length=ini.length):(qH p rvs ini rv c)[ini.length]? = some (kL rv (Uo p ini.getLast? c)):=by
 unfold qH;have e:(qS rvs (Zk p none ini)).length=ini.length:=by rw[ZS (by rw[hl,Yz]),Yz]
 rw[aa4 (by omega),e,acN];rfl
theorem ES(hl:rvs.length=ini.length)(row:List aaa):(qH p rvs ini rv c).set ini.length row=qS rvs (Zk p none ini)++[row]:=by
 unfold qH;have e:(qS rvs (Zk p none ini)).length=ini.length:=by rw[ZS (by rw[hl,Yz]),Yz]
 rw[List.set_append_right _ _ (by omega),e,acN];rfl
theorem Cs(hl:rvs.length=ini.length)(z:Int):(qH p rvs ini rv c).set ini.length ((kL rv (Uo p ini.getLast? c)).set 1 (pm z))=qH p rvs ini rv {c with pt:=z}:=by rw[ES hl];rfl
def KG(i:xG):wm := .cells [pm i.op,pm i.sub,pm i.a,pm i.b,pm i.d,pm i.k,i.av,pm i.s,pm i.t] 53
theorem zfR{wv:aaa}{zs:List Int}(S:zL h wv zs){i:Nat}{z:Int}(hz:zs[i]? = some z):∃q o cp c t,wv=.slice (some ⟨q,o,none⟩) zs.length cp/\q<h.next/\h.get q=some (.cells c t)/\c[o+i]? = some (pm z):=by
 rcases S with⟨_,rfl⟩|⟨q,o,cp,rfl,hk⟩
 ·cases hz
 ·obtain⟨c,t,h1,h2,h3⟩:=hk (by rintro rfl;cases hz);exact⟨q,o,cp,c,t,rfl,h1,h2,h3 _ _ hz⟩
theorem zaI{L:List HP}{l:List (Int×Int)}(s:Sat lo h (yW 97 2 ev (l.map qC)::L))(hb:(l.length+1)*16<=2^47)(k_ a:Int):∃b' c' h2,(∀r,zv pu .append [30,30] r [ev,.slice (some ⟨h.next,0,none⟩) 1 3] (h.push (.cells [pm k_,pm a] 97))=some (.slice (some ⟨b',0,none⟩) (l.length+1) c',h2))/\Sat lo h2 (yW 97 2 (.slice (some ⟨b',0,none⟩) (l.length+1) c') ((l++[(k_,a)]).map qC)::L):=by
 have s1:=s.push (.cells [pm k_,pm a] 97);obtain⟨b',c',h2,a1,s2⟩:=jz (s1.p 1) (uB (f:=qC) (λ_=>rfl) _) [pm k_,pm a] rfl (by decide) 16 (by rw[aaf];exact hb);rw[aaf]at a1 s2;refine⟨b',c',h2,λr=>?_,?_⟩
 ·rw[zdw r _ _ 1 [pm k_,pm a] _ rfl (by simp only[wJ,zk];rfl) rfl rfl];exact a1
 ·rw[abp];exact(s2.p 1).drop
theorem Px{L:List HP}{l:List V}(s:Sat lo h (yW 69 3 sv (l.map V.zY)::L))(hb:(l.length+1)*24<=2^47)(v:V):∃b' c' h2,(∀r,zv pu .append [59,59] r [sv,.slice (some ⟨h.next,0,none⟩) 1 3] (h.push (.cells [pm v.k,pm v.n,pm v.b] 69))=some (.slice (some ⟨b',0,none⟩) (l.length+1) c',h2))/\Sat lo h2 (yW 69 3 (.slice (some ⟨b',0,none⟩) (l.length+1) c') ((l++[v]).map V.zY)::L):=by
 have s1:=s.push (.cells [pm v.k,pm v.n,pm v.b] 69);obtain⟨b',c',h2,a1,s2⟩:=jz (s1.p 1) (wP _) [pm v.k,pm v.n,pm v.b] rfl (by decide) 24 (by rw[aaf];exact hb);rw[aaf]at a1 s2;refine⟨b',c',h2,λr=>?_,?_⟩
 ·rw[H8 r _ _ 1 [pm v.k,pm v.n,pm v.b] _ rfl (by simp only[wJ,zk];rfl) rfl rfl];exact a1
 ·rw[abp];exact(s2.p 1).drop
theorem zbM(A X:List HP){y:HP}(s:Sat lo h (A++(X++[y]))):Sat lo h (y::(A++X)):=s.perm (by
 show(A++(X++[y])).Perm ([y]++(A++X));rw[<- ace];exact abB)
theorem zc3(A X:List HP){y:HP}(s:Sat lo h (y::(A++X))):Sat lo h (A++(X++[y])):=s.perm (by
 exact(abB (l₁:=[y]) (l₂:=A++X)).trans (by rw[ace]))
theorem Qt{w:V}{x:aaa}{q:Nat}(hn:zU i.av=false)(e:S.calls=ini++[c])(hl:rvs.length=ini.length)(hS:S.kind=0)(hrl:c.zf.length<=xo p c.f)(hwd:zB i<xo p c.f)
  (s:Sat lo h (pt b5 (.cells w.zY 69)::pt b4 (KG i)::(Wh p b mb nn wv gv ltl S ev lk sv (qH p rvs ini rv c) rv (uo (xo p c.f) c.zf)++JU rvs (Zk p none ini)))) (hq:∃cp,sv=.slice (some ⟨q,0,none⟩) (ini.length+1) cp) :
  xU (tL lo p b mb nn wv gv ltl (vZ S c i w,true)) (pi b4) (.pointer (some ⟨q,ini.length*5,none⟩)) (pi b5) [x,.bool true] h:=by
 obtain⟨cp,rfl⟩:=hq;unfold xU;have g4:=(s.p 1).get;have g5:=s.get;unfold KG at g4;simp only[EE,nth,aad,Nat.reduceAdd,ya,jr,g4];refine Bv (by simp only[yD];rfl) (Qv i hn _) ?_
 have fin:∀H,Sat lo H (pt b5 (.cells w.zY 69)::pt b4 (KG i)::(Wh p b mb nn wv gv ltl S ev lk (.slice (some ⟨q,0,none⟩) (ini.length+1) cp) (qH p rvs ini rv c) rv (uo (xo p c.f) (um c.zf (zB i) w))++JU rvs (Zk p none ini))) ->
   uI (pi b4) (.pointer (some ⟨q,ini.length*5,none⟩)) (tL lo p b mb nn wv gv ltl (vZ S c i w,true)) [] H:=by
  intro H s2;unfold uI;have g4:=(s2.p 1).get;unfold KG at g4;obtain⟨y1,y2,y3,y4,gq3,wq3,ltq3,lq3,tq3,kq3,s3⟩:=ZT (s2.p 5) (YQ p rvs ini rv c) (i:=ini.length) (j:=1) (Wa hl) (by decide);rw[X9 hl]at y4;simp only[aba,aab,abv,abc,abP]at y4;obtain⟨rfl,rfl⟩:=y4;simp only[EE,zw,zj,Ws,fw,YM,g4];rw[rC gq3,aai ⟨by simp;omega,wq3,rfl⟩];have s4:=s3 (pm i.s);simp only[EE,zb];refine⟨true,rfl,?_⟩;rw[aai ⟨rfl,hS⟩];refine⟨rfl,ev,lk,.slice (some ⟨q,0,none⟩) (ini.length+1) cp,rvs,rv,ini,{c with zf:=um c.zf (zB i) w,pt:=i.s},?_,hl,?_⟩
  ·show S.calls.dropLast++[_]=_;rw[e,aaY]
  ·rw[ES hl]at s4;exact(s4.f [1,2,3,4,5,0,6,7,8]).drop.drop
 unfold Jy;by_cases h0:zB i ≥ 0
 ·obtain⟨y1,y2,y3,y4,gq3,wq3,ltq3,lq3,tq3,kq3,_⟩:=ZT (s.p 5) (YQ p rvs ini rv c) (i:=ini.length) (j:=1) (Wa hl) (by decide);rw[X9 hl]at y4;simp only[aba,aab,abv,abc,abP]at y4;obtain⟨rfl,rfl⟩:=y4;have k2:=kq3 2 (by decide);unfold kL at k2;have rn:=xN (s.p 6);have hpl:=JR hrl;obtain⟨z1,z2,z3,z4,gb,wb,lb,s13⟩:=YS (s.p 6) (wP _) (i:=(zB i).toNat) (by rw[aaf,hpl];omega);rw[aaf,hpl]at z4;subst z4;unfold V.zY at g5;simp only[EE,aad,Nat.reduceAdd,ya,zw,jr,Ys,jv,Jx,h0,gq3,k2,g4];refine zcw (by simp only[yD];rfl) (Qv i hn _) ?_;unfold qx;have hwd':zB i<((xo p c.f:Nat):Int):=hwd;simp only[EE,aad,Nat.reduceAdd,ya,zh,zo,X4,h0,hwd',g5];refine Vz gb wb lb s13 rfl rfl λh14 s14=>?_;refine fin _ ?_;rw[<- Gq h0 hwd hrl];unfold Wh;rw[ab4];exact s14.f [1,2,3,4,5,6,0]
 ·simp only[EE,h0];refine fin _ ?_;rw[show um c.zf (zB i) w=c.zf by unfold um;rw[aai (by omega)]];exact s
theorem ze8{L:List HP}{q cp:Nat}(hl:rvs.length=ini.length)(s:Sat lo h (yW 116 5 (.slice (some ⟨q,0,none⟩) (ini.length+1) cp) (qH p rvs ini rv c)::yW 69 3 rv ((uo (xo p c.f) c.zf).map V.zY)::L)) :
  ∃lo1,lo.Le lo1/\Rd lo1 (λh=>sM h q (ini.length*5) (Uo p ini.getLast? c) rv)/\Sat lo1 h L /\ ∀h' L',Sat lo1 h' L'->Sat lo h' (yW 116 5 (.slice (some ⟨q,0,none⟩) (ini.length+1) cp) (qH p rvs ini rv c)::yW 69 3 rv ((uo (xo p c.f) c.zf).map V.zY)::L'):=by
 obtain⟨lo1,l1,r1,s1,b1⟩:=ry s (YQ p rvs ini rv c);obtain⟨lo2,l2,r2,s2,b2⟩:=ry s1 (wP _);refine⟨lo2,l1.trans l2,λh' bs=>?_,s2,λh' L' z=>b1 _ _ (b2 _ _ z)⟩;have R1:=r1 h' (bs.mono l2);have R2:=r2 h' bs;obtain⟨b',o,cs,t,⟨off,cp',e1,rfl⟩,_,hb,hg,hlq,ht,hk⟩:=R1.spot (Wa hl) rfl;simp only[aba,aab,abv,abc]at e1;obtain⟨⟨rfl,rfl⟩,_⟩:=e1;rw[aay]at ht hlq;simp only[aay]at hk;exact⟨⟨cs,t,hg,hlq,ht,hk⟩,hb,R2⟩
end
section
variable {lo:yP}{h:za}{b mb nn:Nat}{p:Pg}{S:St}{wv gv:aaa}{ltl:Bool}{world:List Int}{kept:Option (Int->Bool)}
theorem ze4(hp:Rd lo (wG · p))(hw:Rd lo (zL · wv world))(g:NO p)(gf:∀f,f∈p.funcs->GF f)(ok:zd2 p S)(xn:StN p S)(hw64:∀z,z∈world->wg z)(hwl:world.length<=2^47)(hk:S.kind=0)(hnn:nn<=20000000)(hkept:kept=if ltl=true then some VZ else none)(h16:ltl=true->∀f,f∈p.funcs->16<=f.zf)
  (r:zcd lo h p b mb nn wv gv ltl S):DC pu 28 [yB b] h (tL lo p b mb (nn+1) wv gv ltl (kH p world kept S)):=by
 obtain⟨ev,lk,sv,rvs,rv,ini,c,e,hl,s⟩:=r;have hcm:c∈S.calls:=by rw[e];simp
 obtain⟨i,hi,ig⟩:=ok.at_ c hcm;obtain⟨f,hf,fm,im,er⟩:=iq hi;have gi:=(gf f fm).ins i im;obtain⟨hlen,hvb,hblk⟩:=ok.fr c hcm;obtain⟨hrl,hvn⟩:=xn.fr c hcm;have hregs:=(gf f fm).zf
 obtain⟨hpt0,hpt⟩:0<=c.pt/\f.code[c.pt.toNat]? = some i:=by
  unfold jT at hi;rw[hf]at hi;simp only[aaI]at hi;split at hi
  ·cases hi
  ·exact⟨by omega,hi⟩
 have es:kH p world kept S=xj p world kept S c i:=by
  unfold kH;rw[e,abH];simp only[hi]
 rw[es];apply pE;unfold pD yB;have gm:=s.get;unfold xK yB at gm;have SK:=yY (s.p 3) (YQ p rvs ini rv c);have kn:=SK.wO;have kl:=RU SK 3;rw[X9 hl]at kl;obtain⟨q,cp,cs,hsv,gq,wq,ltq,lq,tq,kq,_⟩:=ZT (s.p 3) (YQ p rvs ini rv c) (i:=ini.length) (j:=1) (Wa hl) (by decide);rw[X9 hl]at hsv;have hil:ini.length<20000:=by have:=ok.many;rw[e]at this;simp at this;omega
 have w1:IntKind.wrap .i64 (((ini.length+1:Nat):Int)-1)=(ini.length:Int):=NH (by omega);have l0:(0:Int)<=(ini.length:Int):=by omega
 have l1:(ini.length:Int)<((ini.length+1:Nat):Int):=by omega
 have k0:cs[ini.length*5]? = some (pm (c.f:Nat)):=kq 0 (by decide);have k1:cs[ini.length*5+1]? = some (pm c.pt):=kq 1 (by decide);have hP:=hp.at s;obtain⟨bf,o,cf,tf,hix,hbf,hgf,hof,htf,hkf⟩:=zE.eY hP.funcs (i:=c.f) (r:=f.row) (by rw[aaq,hf];rfl) rfl;have F:=hP.fns f fm;obtain⟨bc,oc,cc,tc,hixc,hbc,hgc,hoc,htc,hkc⟩:=zE.FB F.code (i:=c.pt.toNat) (r:=i.row) (by rw[aaq,hpt];rfl) rfl;have fvn:=hP.funcs.wO;have cvn:=F.code.wO;have kf5:=hkf 5 (by decide);have an:=(F.ins i im).args.wO;have ac:=(F.ins i im).args.iH;have hpe:((c.pt.toNat:Nat):Int)=c.pt:=abW hpt0;rw[hpe]at hixc;have htc':(cc.drop oc).take 9=[pm i.op,pm i.sub,pm i.a,pm i.b,pm i.d,pm i.k,i.av,pm i.s,pm i.t]:=htc;rw[hsv]at gm kl kn;simp only[EE,Value.cells,aad,ya,zw,ur,zj,qz,jr,iR,Bj,zaO,fw,xB,x0,O0,Vu,Pb,gm,kn,kl,w1,l0,l1,gq,k0,k1,hix,hgf,kf5,hixc,hgc,hoc,htc',aax];refine uL s λb4 h3 s3=>?_;simp only[EE,Nat.reduceAdd,Ib];refine yw s3 (by simp) (by simp[ac];exact⟨rfl,rfl,rfl,rfl,rfl,rfl,rfl,rfl⟩) λh5 s5=>?_;simp only[EE,Value.cells,y5,zN];refine uL s5 λb5 h7 s7=>?_;simp only[EE,Nat.reduceAdd,zo];refine yw s7 (by simp) rfl λhh s9=>?_;have g4:=(s9.p 1).get;simp only[EE,↓BK,zb,Nat.reduceAdd,zw,zj,zA,g4];have s9:Sat lo hh (pt b5 (.cells v0.zY 69)::pt b4 (KG i)::(Wh p b mb nn wv gv ltl S ev lk sv (qH p rvs ini rv c) rv (uo (xo p c.f) c.zf)++JU rvs (Zk p none ini))):=s9;have g5:=s9.get;have hsv2:∃cp,sv=.slice (some ⟨q,0,none⟩) (ini.length+1) cp:=⟨cp,hsv⟩
 have wd:zB i<xo p c.f:=by
  rw[er];unfold zB;split
  ·rename_i h;rcases gi.d h with q|q <;> omega
  ·omega
 have up:∀{H:za} {A B:HP} {S1:St} {ev lk rv:aaa} {rows:List (List aaa)} {zf:List V} {R:List HP},Sat lo H (A::B::(Wh p b mb nn wv gv ltl S1 ev lk sv rows rv zf++R))->Sat lo H (A::B::(Wh p b mb (nn+1) wv gv ltl S1 ev lk sv rows rv zf++R)):=λz=>(bR (z.p 7) (abr _)).f [1,2,3,4,5,6,7,0];have hpl:(uo (xo p c.f) c.zf).length=xo p c.f:=JR hrl
 have TV:∀{H:za} {A B:HP} {S1:St} {ev lk:aaa} {R:List HP},Sat lo H (A::B::(Wh p b mb nn wv gv ltl S1 ev lk sv (qH p rvs ini rv c) rv (uo (xo p c.f) c.zf)++R))->sM H q (ini.length*5) (Uo p ini.getLast? c) rv:=by
  intro H A B S1 ev lk R z;obtain⟨y1,y2,y3,y4,gq3,wq3,ltq3,lq3,tq3,kq3,_⟩:=ZT (z.p 5) (YQ p rvs ini rv c) (i:=ini.length) (j:=1) (Wa hl) (by decide);rw[X9 hl,hsv]at y4;simp only[aba,aab,abv,abc,abP]at y4;obtain⟨rfl,rfl⟩:=y4;exact⟨⟨_,_,gq3,lq3,tq3,kq3⟩,ltq3,yY (z.p 6) (wP _)⟩
 have gR:∀r,r<f.zf->zS (Uo p ini.getLast? c).zf r=zS c.zf r:=λr hr=>zaZ (by rw[er];omega);have iD:∀r,0<=r/\r<f.zf->inD (Uo p ini.getLast? c) r:=λr hr=>⟨hr.1,by show r<((uo _ _).length:Int);rw[hpl,er];omega⟩;have nreg:((Uo p ini.getLast? c).zf.length:Int)=f.zf:=by show((uo _ _).length:Int)=_;rw[hpl,er];omega
 have ga:∀r,vn (zS c.zf r):=zb7 hvn
 have rd:∀{H:za} {A B:HP} {S1:St} {ev lk:aaa} {R:List HP},Sat lo H (A::B::(Wh p b mb nn wv gv ltl S1 ev lk sv (qH p rvs ini rv c) rv (uo (xo p c.f) c.zf)++R))->∀r,0<=r/\r<f.zf->∃cs1 t1 rb ro rc cc1 t2,H.get q=some (.cells cs1 t1)/\cs1[ini.length*5+2]? = some rv/\rv=.slice (some ⟨rb,ro,none⟩) (xo p c.f) rc/\H.get rb=some (.cells cc1 t2)/\ro+r.toNat*3+3<=cc1.length/\(cc1.drop (ro+r.toNat*3)).take 3=[pm (zS c.zf r).k,pm (zS c.zf r).n,pm (zS c.zf r).b]/\r<((xo p c.f:Nat):Int)/\cc1[ro+r.toNat*3]? = some (pm (zS c.zf r).k)/\cc1[ro+r.toNat*3+1]? = some (pm (zS c.zf r).n):=by
  intro H A B S1 ev lk R z r hr;obtain⟨cs1,t1,gq1,kq1,rb,ro,rc,cc1,t2,er1,hrb,hgr,hlr,htr,hkr⟩:=Nr (TV z) (iD r hr);rw[gR r hr.2]at htr hkr;have:(Uo p ini.getLast? c).zf.length=xo p c.f:=hpl;rw[this]at er1;exact⟨cs1,t1,rb,ro,rc,cc1,t2,gq1,kq1,er1,hgr,hlr,htr,by rw[er];omega,(hkr 0 (by decide)).trans rfl,(hkr 1 (by decide)).trans rfl⟩
 by_cases h2:i.op=2
 ·have es:xj p world kept S c i=(vZ S c i (u6 i.k),true):=by unfold xj;rw[aai h2]
  rw[es];simp only[EE,zb,Nat.reduceAdd,zw,xi,vI,k7,wU,h2,g4];refine yp (Z0 i.k _) ?_;simp only[EE,Nat.reduceAdd,zo];refine yw s9 (by simp[V.zY]) rfl λh10 s10=>?_;exact Qt an e hl hk hrl wd (up s10) hsv2
 by_cases h3:i.op=3
 ·have es:xj p world kept S c i=(vZ S c i (zS c.zf i.a),true):=by unfold xj;rw[aac h2,aai h3]
  rw[es];have na:=gi.na (by omega);obtain⟨cs1,t1,rb,ro,rc,cc1,t2,gq1,kq1,er1,hgr,hlr,htr,n1,_,_⟩:=rd s9 i.a na;have n0:=na.1;simp only[EE,zb,aad,Nat.reduceAdd,Int.reduceEq,ya,zw,zj,Ys,zh,zo,jv,xC,X4,Jw,xH,wU,h3,g4,gq1,kq1,er1,n0,n1,hgr,hlr,htr];refine yw s9 (by simp[V.zY]) rfl λh10 s10=>?_;exact Qt an e hl hk hrl wd (up s10) hsv2
 by_cases h4:i.op=4
 ·have es:xj p world kept S c i=(match iY i.sub (zS c.zf i.a) with
   |none=>(S,false)
   |some v=>(vZ S c i v,true)):=by unfold xj;rw[aac h2,aac h3,aai h4];rfl
  have na:=gi.na (by omega);obtain⟨cs1,t1,rb,ro,rc,cc1,t2,gq1,kq1,er1,hgr,hlr,htr,n1,_,_⟩:=rd s9 i.a na;have n0:=na.1;simp only[EE,zb,aad,Nat.reduceAdd,Int.reduceEq,ya,zw,zj,Ys,zh,jv,yi,xC,X4,Jv,xZ,xH,wU,h4,g4,gq1,kq1,er1,n0,n1,hgr,hlr,htr];refine CJ (zgt i.sub (zS c.zf i.a) _) ?_;unfold wQ;simp only[EE,Nat.reduceAdd,zo];refine yw s9 (by simp[V.zY]) rfl λh10 s10=>?_;cases hu:iY i.sub (zS c.zf i.a) with
  |none=>
   rw[hu]at es;rw[es];simp only[EE,nth,xU,aa6];exact⟨false,rfl,by rw[aac (by simp)];exact⟨S,ev,lk,sv,(s10.k [2,3,4]),⟨by simp[hk,KB],rfl,rfl,rfl,rfl⟩⟩⟩
  |some u=>
   rw[hu]at es s10;rw[es];exact Qt an e hl hk hrl wd (up s10) hsv2
 have bad:∀{S1:St} {H:za} {ev' lk' sv':aaa},S1.kind=0->Sat lo H [pt b (xK p mb S1 ev' lk' wv sv' gv ltl),yW 97 2 ev' (S1.ev.map qC),yW 74 3 lk' (S1.lk.map wk)]->tL lo p b mb (nn+1) wv gv ltl (S1,false) (.bool false) H:=λ{S1 H ev' lk' sv'} z1 z2=>⟨false,rfl,by rw[aac (by simp)];exact⟨S1,ev',lk',sv',z2,⟨by simp[z1,KB],rfl,rfl,rfl,rfl⟩⟩⟩;have go:vn (yC c i):=by unfold yC;split;exact gi.k;exact ga _
 have hL:(S.lk.length+1)*24<=2^47:=by have:=ok.lk;omega
 have hE:(S.ev.length+1)*16<=2^47:=by have:=ok.ev;omega
 have opE:KL i.op=true->(if i.b = -1 then u6 i.k else zS (Uo p ini.getLast? c).zf i.b)=yC c i:=λhb=>by
  unfold yC;split
  ·rfl
  ·rename_i z;rcases gi.b hb with q|q
   ·exact gR _ q.2
   ·exact absurd q z
 have opR:KL i.op=true->i.b = -1\/(0<=i.b/\i.b<(Uo p ini.getLast? c).zf.length):=λhb=>by
  rcases gi.b hb with q|q
  ·exact .inr (iD _ q)
  ·exact .inl q
 by_cases h5:i.op=5
 ·have hub:KL i.op=true:=by rw[h5];rfl
  have na:=gi.na (by omega);obtain⟨cs1,t1,rb,ro,rc,cc1,t2,gq1,kq1,er1,hgr,hlr,htr,n1,_,_⟩:=rd s9 i.a na;have n0:=na.1;simp only[EE,Value.cells,zb,aad,Nat.reduceAdd,Int.reduceEq,ya,zw,zj,Ys,zh,y5,jv,xC,X4,Ju,wD,xZ,xH,wU,h5,g4,gq1,kq1,er1,n0,n1,hgr,hlr,htr];refine uL s9 λb7 h10 s10=>?_;simp only[EE,Nat.reduceAdd,zo];refine yw s10 (by simp) rfl λh11 s11=>?_;have g4:=(s11.p 2).get;have g7:=s11.get;unfold KG at g4;simp only[EE,aad,Nat.reduceAdd,ya,jr,g4,h5];have SQ:=Lv (TV s11.drop) (i:=i) an (opR hub);rw[opE hub]at SQ;unfold Go.Rtl.xG.val at SQ;rw[h5]at SQ;refine Bv (by simp only[yD];rfl) SQ ?_;obtain⟨o,ho⟩:∃o,o=yC c i:=⟨_,rfl⟩;rw[<- ho]at go ⊢;simp only[EE,Value.cells,y5,Zh,vv];refine uL s11 λb8 h12 s12=>?_;simp only[EE,Nat.reduceAdd,zo];refine yw s12 (by simp) rfl λh13 s13=>?_;have g8:=s13.get;have g7:=(s13.p 1).get;have g4:=(s13.p 3).get;unfold KG at g4;obtain⟨S1,hS1⟩:∃S1,S1=if (i.sub=14\/i.sub=15)/\(zS c.zf i.a).k=1/\o.k=1 then xf S 3 (zS c.zf i.a).n o.n else S:=⟨_,rfl⟩
  have es:xj p world kept S c i=(match yF i.sub (zS c.zf i.a) o with
   |none=>(S1,false)
   |some v=>(vZ S1 c i v,true)):=by unfold xj;rw[aac h2,aac h3,aac h4,aai h5,hS1,ho];rfl
  have end5:∀{H:za} {lk' x:aaa},S1.calls=S.calls->S1.kind=0->Sat lo H (pt b5 (.cells ((yF i.sub (zS c.zf i.a) o).getD v0).zY 69)::pt b4 (KG i)::(Wh p b mb nn wv gv ltl S1 ev lk' sv (qH p rvs ini rv c) rv (uo (xo p c.f) c.zf)++JU rvs (Zk p none ini))) ->
    xU (tL lo p b mb (nn+1) wv gv ltl (xj p world kept S c i)) (pi b4) (.pointer (some ⟨q,ini.length*5,none⟩)) (pi b5) [x,.bool (yF i.sub (zS c.zf i.a) o).isSome] H:=by
   intro H lk' x z1 z2 z3;cases hu:yF i.sub (zS c.zf i.a) o with
   |none=>
    rw[hu]at es;rw[es];simp only[EE,nth,xU,aa6];exact bad z2 (z3.k [2,3,4])
   |some u=>
    rw[hu]at es z3;rw[es];exact Qt an (z1.trans e) hl z2 hrl wd (up z3) hsv2
  obtain⟨lo1,l1,s14,fr⟩:=(s13.f [4,6]).call (L2:=[pt b (xK p mb S ev lk wv sv gv ltl),yW 74 3 lk (S.lk.map wk)]);have LK:=F5 s14 hL 3 (zS c.zf i.a).n o.n;have BQ:∀H,yX pu 59 [pm i.sub,vv (zS c.zf i.a),vv o] H (wQ (yF i.sub (zS c.zf i.a) o)):=λH=>MC (ga _) go H;unfold vv wQ at BQ;have hSb:S1=if ((decide (i.sub=14)||decide (i.sub=15))&&(decide ((zS c.zf i.a).k=1)&&decide (o.k=1)))=true then xf S 3 (zS c.zf i.a).n o.n else S:=by rw[hS1];simp
  clear hS1
  cases d14:decide (i.sub=14) <;> cases d15:decide (i.sub=15) <;> cases dk:decide ((zS c.zf i.a).k=1) <;> cases d1k:decide (o.k=1) <;> rw[d14,d15,dk,d1k]at hSb <;> simp only[abg,acJ,Bool.or_true,Bool.or_false,aad,abj,abo]at hSb <;> subst hSb <;>
   simp only[EE,zb,aad,Nat.reduceAdd,ya,zw,xi,zj,zh,yi,zQ,yf,eO,U5,VU,Zd,Ze,Zf,Zg,g4,g7,g8,d14,d15,dk,d1k]
  all_goals first
   |(refine CK LK ?_
     rintro v h15 ⟨lk',s15⟩;have s16:=(fr _ _ s15).f [4,5,0,6,1,7,8,9,10,2,3];have g8:=(s16.p 9).get;have g7:=(s16.p 10).get;have g4:=(s16.p 1).get;unfold KG at g4;simp only[EE,zb,aad,Nat.reduceAdd,ya,zw,zj,zh,yi,U5,g4,g7,g8];refine yp (BQ _) ?_;simp only[EE,Nat.reduceAdd,zo];refine yw s16 (by simp[V.zY]) rfl λh17 s17=>?_;simp only[nth];exact end5 rfl hk ((s17.p 9).drop.p 9).drop)
   |(refine yp (BQ _) ?_
     simp only[EE,Nat.reduceAdd,zo];refine yw (s13.p 2) (by simp[V.zY]) rfl λh17 s17=>?_;simp only[nth];exact end5 rfl hk ((s17.p 1).drop.p 1).drop)
 by_cases h67:i.op=6\/i.op=7
 ·have na:=gi.na (by omega);have eA:Wu (Uo p ini.getLast? c) i=yQ c i:=by unfold Wu yQ;rw[gR _ na.2];cases yF 11 (zS c.zf i.a) (u6 i.k) <;> rfl
  have eB:i.op=7->zS (Uo p ini.getLast? c).zf i.b=zS c.zf i.b:=λz=>gR _ (gi.nb z).2;subst hsv;obtain⟨lo1,l1,T,s10,bk⟩:=ze8 hl (s9.f [5,6]);obtain⟨lo2,l2,s11,fr⟩:=(s10.f [2,4,5]).call (L2:=[pt b (xK p mb S ev lk wv (.slice (some ⟨q,0,none⟩) (ini.length+1) cp) gv ltl),yW 74 3 lk (S.lk.map wk),kU mb S.mem nn]);have AC:=TF (T.mono l2) s11 hL (i:=i) an ac ok.mem.2 ok.mem.1 (by omega) (iD _ na) (λz=>iD _ (gi.nb z)) h67 gi.k (by rw[gR _ na.2];exact ga _) (ig.zb0 h67) (by rw[eA];exact Fj hvb);rw[eA]at AC;unfold Go.Rtl.xG.val yB at AC
  have back:∀{H:za} {S1:St} {lk' w:aaa} {M:MM} {v:V},M=S1.mem->S1.ev=S.ev->S1.gl=S.gl->Sat lo2 H [pt b (xK p mb S1 ev lk' wv (.slice (some ⟨q,0,none⟩) (ini.length+1) cp) gv ltl),yW 74 3 lk' (S1.lk.map wk),kU mb M (nn+1)]->Sat lo H (pt b5 (.cells v0.zY 69)::pt b4 (KG i)::(Wh p b mb (nn+1) wv gv ltl S1 ev lk' (.slice (some ⟨q,0,none⟩) (ini.length+1) cp) (qH p rvs ini rv c) rv (uo (xo p c.f) c.zf)++JU rvs (Zk p none ini))):=by
   intro H S1 lk' w M v z1 z2 z3 z4;have s12:=bk _ _ ((fr _ _ z4).f [3,4,0,5,1,2,6]);subst z1;unfold Wh;rw[z2,z3];exact s12.f [2,3,4,5,6,0,1,7,8]
  rcases h67 with h6|h7
  ·have es:xj p world kept S c i=(match yQ c i with
    |none=>(S,false)
    |some q=>(match kP S.mem i.sub q with
     |none=>(xf S 2 q.b q.n,false)
     |some v=>(vZ (xf S 2 q.b q.n) c i v,true))):=by unfold xj;rw[aac h2,aac h3,aac h4,aac h5,aai h6];rfl
   rw[h6]at AC;simp only[EE,nth,zb,aad,Nat.reduceAdd,Int.reduceEq,ya,jr,XY,wT,wD,xZ,xH,wU,h6,g4];refine nD (by simp only[yD];rfl) AC ?_;rintro v h12 ⟨rfl,lk',s12⟩;cases hA:yQ c i with
   |none=>
    rw[hA]at es s12;rw[es];have s13:=back (S1:=S) (w := .nilFunc) (v:=v0) rfl rfl rfl s12;simp only[EE,Nat.reduceAdd,zo,CP,vv];refine yw s13 (by simp[V.zY]) rfl λh14 s14=>?_;simp only[EE,nth,xU];exact bad hk (s14.k [2,3,4])
   |some a=>
    rw[hA]at es s12;dsimp only at es;have s13:=back (S1:=xf S 2 a.b a.n) (w := .nilFunc) (v:=v0) (by simp only[Fe,aai h6];rfl) rfl rfl s12;have eV:CP S.mem i (zS (Uo p ini.getLast? c).zf i.b) (some a)=wQ (kP S.mem i.sub a):=by simp only[CP,aai h6]
    rw[eV];unfold wQ;simp only[EE,Nat.reduceAdd,zo,vv];refine yw s13 (by simp[V.zY]) rfl λh14 s14=>?_;cases hu:kP S.mem i.sub a with
    |none=>
     rw[hu]at es;rw[es];simp only[EE,nth,xU,aa6];exact bad hk (s14.k [2,3,4])
    |some u=>
     rw[hu]at es s14;rw[es];exact Qt an e hl hk hrl wd s14 ⟨cp,rfl⟩
  ·have es:xj p world kept S c i=(match yQ c i with
    |none=>(S,false)
    |some q=>(match wR S.mem i.sub q (zS c.zf i.b) with
     |none=>(xf S 2 q.b q.n,false)
     |some M=>(vZ {xf S 2 q.b q.n with mem:=M} c i v0,true))):=by unfold xj;rw[aac h2,aac h3,aac h4,aac h5,aac (by omega),aai h7];rfl
   rw[eB h7,h7]at AC;have n6:¬i.op=6:=by omega
   simp only[EE,nth,zb,aad,Nat.reduceAdd,Int.reduceEq,ya,jr,XY,wT,wD,xZ,xH,wU,h7,g4];refine nD (by simp only[yD];rfl) AC ?_;rintro v h12 ⟨rfl,lk',s12⟩;cases hA:yQ c i with
   |none=>
    rw[hA]at es s12;rw[es];have s13:=back (S1:=S) (w := .nilFunc) (v:=v0) rfl rfl rfl s12;simp only[EE,Nat.reduceAdd,zo,CP,vv];refine yw s13 (by simp[V.zY]) rfl λh14 s14=>?_;simp only[EE,nth,xU];exact bad hk (s14.k [2,3,4])
   |some a=>
    rw[hA]at es s12;dsimp only at es;have eV:CP S.mem i (zS c.zf i.b) (some a)=.tuple #[vv v0,.bool (wR S.mem i.sub a (zS c.zf i.b)).isSome]:=by simp only[CP,aac n6]
    have eM:Fe S.mem i (zS c.zf i.b) (some a)=(wR S.mem i.sub a (zS c.zf i.b)).getD S.mem:=(by simp only[Fe,aac n6]);rw[eM]at s12;rw[eV];cases hu:wR S.mem i.sub a (zS c.zf i.b) with
    |none=>
     rw[hu]at es s12;rw[es];have s13:=back (S1:=xf S 2 a.b a.n) (w := .nilFunc) (v:=v0) rfl rfl rfl s12;simp only[EE,Nat.reduceAdd,zo,vv];refine yw s13 (by simp[V.zY]) rfl λh14 s14=>?_;simp only[EE,nth,xU,aa6];exact bad hk (s14.k [2,3,4])
    |some M=>
     rw[hu]at es s12;rw[es];have s13:=back (S1:={xf S 2 a.b a.n with mem:=M}) (w := .nilFunc) (v:=v0) rfl rfl rfl s12;simp only[EE,Nat.reduceAdd,zo,vv];refine yw s13 (by simp[V.zY]) rfl λh14 s14=>?_;exact Qt an e hl hk hrl wd s14 ⟨cp,rfl⟩
 have h6:¬i.op=6:=λz=>h67 (.inl z);have h7:¬i.op=7:=λz=>h67 (.inr z);by_cases h8:i.op=8
 ·have es:xj p world kept S c i=(vZ S c i (sO (S.gl.getD i.sub.toNat 0) i.k),true):=by unfold xj;rw[aac h2,aac h3,aac h4,aac h5,aac h6,aac h7,aai h8]
  rw[es];obtain⟨z0,z1⟩:=ig.zgs h8;have gm9:=(s9.p 2).get;unfold xK yB at gm9;obtain⟨z,hz⟩:∃z,S.gl[i.sub.toNat]? = some z:=⟨_,aae (by have:=ok.gl;omega)⟩;obtain⟨qg,og,cg,csg,tg,rfl,hqg,hgg,hkg⟩:=zam (yY (s9.p 8) (Uk _)) hz;have gz:=hkg _ _ hz;have z2:i.sub<(S.gl.length:Int):=by have:=ok.gl;omega
  have e8:S.gl.getD i.sub.toNat 0=z:=by rw[aaA,hz];rfl
  rw[e8];simp only[EE,nth,zb,aad,Nat.reduceAdd,Int.reduceEq,zw,xi,yV,zj,yi,vI,O2,cP,UI,uk,wT,wD,xZ,xH,wU,h8,g4,gm9,z0,z2,hgg,gz,abh];refine CJ (Ic z i.k _) ?_;simp only[EE,Nat.reduceAdd,zo,vv];refine yw s9 (by simp[V.zY]) rfl λh10 s10=>?_;exact Qt an e hl hk hrl wd (up s10) hsv2
 by_cases h9:i.op=9
 ·have es:xj p world kept S c i=(vZ S c i (sO c.kS i.k),true):=by unfold xj;rw[aac h2,aac h3,aac h4,aac h5,aac h6,aac h7,aac h8,aai h9]
  rw[es];obtain⟨⟨csT,tT,gT,lT,_,kT⟩,_,_⟩:=TV s9;have k3:csT[ini.length*5+3]? = some (pm c.kS):=kT 3 (by decide);simp only[EE,nth,zb,Nat.reduceAdd,Int.reduceEq,zw,xi,zj,BD,vI,Jt,ke,uk,wT,wD,xZ,xH,wU,h9,g4,gT,k3];refine CJ (Ic c.kS i.k _) ?_;simp only[EE,Nat.reduceAdd,zo,vv];refine yw s9 (by simp[V.zY]) rfl λh10 s10=>?_;exact Qt an e hl hk hrl wd (up s10) hsv2
 by_cases h10:i.op=10
 ·obtain⟨f2,z0,hf2,hal,hpl2,hpr⟩:=ig.call h10;have fm2:=aau hf2;have er2:xo p i.sub.toNat=f2.zf.toNat:=by unfold xo;rw[hf2];rfl
  have hr2:=(gf f2 fm2).zf;have hcl:S.calls.length=ini.length+1:=by rw[e];simp
  have es:xj p world kept S c i=if 20000<=S.calls.length then (xf S 4 i.sub 0,false) else if (zV S.mem f2.frame).2.2=0 then ({xf S 4 i.sub 0 with mem:=(zV S.mem f2.frame).1,calls:=S.calls++[⟨i.sub.toNat,wt f2.params (i.args.map (zS c.zf)) [],(zV S.mem f2.frame).2.1,f2.entry⟩]},true) else ({xf S 4 i.sub 0 with mem:=(zV S.mem f2.frame).1},false):=by
   unfold xj;rw[aac h2,aac h3,aac h4,aac h5,aac h6,aac h7,aac h8,aac h9,aai h10];unfold wI;rw[hf2];rfl
  rw[es];simp only[EE,nth,↓BK,Int.reduceEq,kZ,ke,uk,wT,wD,xZ,xH,wU,h10];refine qQ (λr vs h'=>∃(j:Nat) (sl:aaa),j<=i.args.length/\r=i.args.length-j/\vs=[sl,pm j]/\Sat lo h' (yW 69 3 sl (((i.args.take j).map (zS c.zf)).map V.zY)::pt b5 (.cells v0.zY 69)::pt b4 (KG i)::(Wh p b mb nn wv gv ltl S ev lk sv (qH p rvs ini rv c) rv (uo (xo p c.f) c.zf)++JU rvs (Zk p none ini)))) i.args.length ⟨0,pp,aa8 _,rfl,rfl,vK _ _ s9⟩ ?_;rintro r vs h' ⟨j,sl,hj,rfl,rfl,s10⟩;have g4':=(s10.p 2).get;unfold KG at g4';have AR:=(((hp.at s10).fns f fm).ins i im).args;have al:∀H,zv pu .len [22] 3 [i.av] H=some (pm i.args.length,H):=λH=>AR.len H;have sn:=xN s10;by_cases hc2:(j:Int)<(i.args.length:Int)
  ·obtain⟨r,hr⟩:∃r,i.args[j]? = some r:=⟨_,aae (by omega)⟩;obtain⟨qa,oa,ca,ta,ixa,lta,ga',ka⟩:=AR.at hr;have na:=gi.args h10 r (aau hr);obtain⟨cs1,t1,rb,ro,rc,cc1,t2,gq1,kq1,er1,hgr,hlr,htr,n1,_,_⟩:=rd s10.drop r na;have n0:=na.1;have hlen:(i.args.take j).length=j:=by simp;omega
   obtain⟨b',c',h2,ha,s11⟩:=Px s10 (by rw[aaf,hlen];omega) (zS c.zf r);have e3:((i.args.take j).map (zS c.zf))++[zS c.zf r]=(i.args.take (j+1)).map (zS c.zf):=by rw[ab1,hr];simp
   rw[e3,aaf]at s11;subst er1;simp only[EE,nth,↓BK,aad,ya,zw,yV,zj,Ys,zh,UJ,jv,jZ,X4,eP,Jp,W5,g4',an,al,hc2,ixa,ga',ka,gq1,kq1,n0,n1,hgr,hlr,htr,sn,ha,inc (show j<4611686018427387904 by omega)];exact⟨i.args.length-(j+1),by omega,j+1,_,by omega,rfl,rfl,s11⟩
  ·have hj2:j=i.args.length:=by omega
   subst hj2;rw[acj]at s10;simp only[EE,nth,zw,yV,zj,yi,jZ,W5,UA,g4',an,al,hc2];obtain⟨lo1,l1,s11,fr⟩:=(s10.f [3,5]).call (L2:=[pt b (xK p mb S ev lk wv sv gv ltl),yW 74 3 lk (S.lk.map wk)]);refine CK (F5 s11 hL 4 i.sub 0) ?_;rintro w h12 ⟨lk',s12⟩;have s13:=fr _ _ s12;have g4':=(s13.p 4).get;unfold KG at g4';obtain⟨y1,y2,y3,y4,gq3,wq3,ltq3,lq3,tq3,kq3,s14⟩:=ZT (s13.p 6) (YQ p rvs ini rv c) (i:=ini.length) (j:=1) (Wa hl) (by decide);rw[X9 hl,hsv]at y4;simp only[aba,aab,abv,abc,abP]at y4;obtain⟨rfl,rfl⟩:=y4;simp only[EE,zw,zj,Ws,fw,YM,W6,g4'];refine FP gq3 wq3 lq3 (by decide) s14 rfl λh15 s15=>?_;rw[Cs hl]at s15;have g4':=(s15.p 5).get;unfold KG at g4';simp only[EE,nth,zw,zj,yi,wj,g4'];obtain⟨lo2,l2,r2,s16,bk2⟩:=ry (s15.p 3) (wP _);have eL:Zk p none (ini++[c])=Zk p none ini++[nU p ini.getLast? c]:=by rw[pW];cases ini.getLast? <;> rfl
   have hds:rvs.length=(Zk p none ini).length:=by rw[Yz];exact hl
   have eR:qH p rvs ini rv {c with pt:=i.s} = qS (rvs++[rv]) (Zk p none (ini++[c])):=by
    rw[eL,ri hds];have:atD p c=i.s:=by unfold atD;rw[hi];rfl
    unfold qH kL nU Uo;simp only[this]
   have eG:JU (rvs++[rv]) (Zk p none (ini++[c]))=JU rvs (Zk p none ini)++[yW 69 3 rv ((uo (xo p c.f) c.zf).map V.zY)]:=by
    rw[eL,Co hds];rfl
   rw[eR]at s16;obtain⟨lo3,l3,s17,fr2⟩:=(s16.f [1,0,7]).call (L2:=[pt b (xK p mb (xf S 4 i.sub 0) ev lk' wv sv gv ltl),yW 116 5 sv (qS (rvs++[rv]) (Zk p none (ini++[c]))),kU mb S.mem nn]);have esub:i.sub=((i.sub.toNat:Nat):Int):=(abW z0).symm;have hdl:(Zk p none (ini++[c])).length=ini.length+1:=by rw[Yz];simp
   have EN:=OU (dst:=i.d) (hp.mono (l2.trans l3)) (r2.mono l3) s17 hf2 (by rw[aaf];exact hal) (by rw[hdl];simp[hl]) (by omega) (gf f2 fm2).par ⟨hr2.1,by omega⟩ hpl2;rw[<- esub,hdl]at EN;refine nD (by simp only[yD,sn,aaJ];rfl) EN ?_;intro w h18 s18;refine⟨true,rfl,?_⟩;by_cases q:(zV S.mem f2.frame).2.2=0/\ini.length+1<20000
   ·rw[aai q]at s18;obtain⟨rv2,sv2,s18⟩:=s18;have s19:=fr2 _ _ s18;have n20:¬20000<=S.calls.length:=by omega
    rw[aac n20,aai q.1,aai ⟨rfl,hk⟩];refine⟨rfl,ev,lk',sv2,rvs++[rv],rv2,ini++[c],⟨i.sub.toNat,wt f2.params (i.args.map (zS c.zf)) [],(zV S.mem f2.frame).2.1,f2.entry⟩,by show S.calls++_=_;rw[e],by simp[hl],?_⟩;have s20:=((bk2 _ _ s19).drop.f [5,6]).drop.drop;have e1:MR p (some c)=i.d:=by show((jT p c).map _).getD (-1)=_;rw[hi];rfl
    have eW:qH p (rvs++[rv]) (ini++[c]) rv2 ⟨i.sub.toNat,wt f2.params (i.args.map (zS c.zf)) [],(zV S.mem f2.frame).2.1,f2.entry⟩=qS (rvs++[rv]) (Zk p none (ini++[c]))++[kL rv2 ⟨i.sub,f2.entry,uo f2.zf.toNat (wt f2.params (i.args.map (zS c.zf)) []),(zV S.mem f2.frame).2.1,i.d⟩]:=by
     unfold qH;rw[abH];show _++[kL rv2 ⟨((i.sub.toNat:Nat):Int),f2.entry,uo (xo p i.sub.toNat) _,_,MR p (some c)⟩]=_;rw[e1,er2,<- esub]
    rw[eG,eW];refine zc3 _ _ ?_;show Sat lo h18 (_::(Wh p b mb (nn+1) wv gv ltl _ ev lk' sv2 _ rv2 (uo (xo p i.sub.toNat) _)++_));rw[er2];exact(bR (s20.p 2) (abr _)).f [6,1,5,4,2,3,0,7]
   ·rw[aac q]at s18;have s19:=bk2 _ _ (fr2 _ _ s18);have ee:∀{T:St},T.ev=S.ev->T.exit=S.exit->T.lk=(xf S 4 i.sub 0).lk->T.steps=S.steps->∃S' ev' lk'' sv',Sat lo h18 [pt b (xK p mb S' ev' lk'' wv sv' gv ltl),yW 97 2 ev' (S'.ev.map qC),yW 74 3 lk'' (S'.lk.map wk)]/\zfs true S' (T,false):=λa1 a2 a3 a4=>⟨{xf S 4 i.sub 0 with kind:=3},ev,lk',_,s19.k [1,5,2],⟨by simp[KB],a2.symm,a1.symm,a3.symm,a4.symm⟩⟩;by_cases q1:20000<=S.calls.length
    ·rw[aai q1,aac (by simp)];exact ee rfl rfl rfl rfl
    ·have n0:¬(zV S.mem f2.frame).2.2=0:=λz=>q ⟨z,by omega⟩;rw[aac q1,aac n0,aac (by simp)];exact ee rfl rfl rfl rfl
 by_cases h11:i.op=11
 ·have hub:KL i.op=true:=by rw[h11];rfl
  have na:=gi.na (by omega);obtain⟨cs1,t1,rb,ro,rc,cc1,t2,gq1,kq1,er1,hgr,hlr,htr,n1,_,_⟩:=rd s9 i.a na;have n0:=na.1;have es:xj p world kept S c i=fo S c i:=by unfold xj;rw[aac h2,aac h3,aac h4,aac h5,aac h6,aac h7,aac h8,aac h9,aac h10,aai h11]
  have SQ:=Lv (TV s9) (i:=i) an (opR hub);rw[opE hub]at SQ;unfold Go.Rtl.xG.val at SQ;rw[h11]at SQ;simp only[EE,nth,zb,aad,Nat.reduceAdd,Int.reduceEq,ya,zw,zj,jr,Ys,zh,jv,yi,xC,X4,Js,Zc,kZ,ke,uk,wT,wD,xZ,xH,wU,h11,g4,gq1,kq1,er1,n0,n1,hgr,hlr,htr];refine zcw (by simp only[yD];rfl) SQ ?_;refine CJ (MC (op:=i.sub) (ga i.a) go _) ?_;unfold fo at es;unfold UE wQ;cases hu:yF i.sub (zS c.zf i.a) (yC c i) with
  |none=>
   rw[hu]at es;rw[es];simp only[EE,Value.cells,y5,aca,aa6,vv,v0];refine uL s9 λb11 h12 s12=>?_;simp only[EE,Nat.reduceAdd,zo];refine yw s12 (by simp) rfl λh13 s13=>?_;simp only[EE];exact bad hk (s13.k [3,4,5])
  |some w=>
   rw[hu]at es;dsimp only at es;have wb:=zcr (gi.cond h11).1 (gi.cond h11).2 hu;simp only[EE,Value.cells,y5,abG,abd,vv];refine uL s9 λb11 h12 s12=>?_;simp only[EE,Nat.reduceAdd,zo];refine yw s12 (by simp) rfl λh13 s13=>?_;have g11:=s13.get;simp only[EE,zb,Nat.reduceAdd,zw,xi,yf,UD,g11];obtain⟨lo1,l1,s14,fr⟩:=(s13.f [3,5]).call (L2:=[pt b (xK p mb S ev lk wv sv gv ltl),yW 74 3 lk (S.lk.map wk)]);refine CK (F5 s14 hL 1 w.n 0) ?_;rintro v h15 ⟨lk',s15⟩;have s16:Sat lo h15 (pt b11 (.cells (zb [Value.int .i64 0,pm 0,pm 0] 0 [pm w.k,pm w.n,pm w.b]) 69)::pt b5 (.cells v0.zY 69)::pt b4 (KG i)::(Wh p b mb nn wv gv ltl (xf S 1 w.n 0) ev lk' sv (qH p rvs ini rv c) rv (uo (xo p c.f) c.zf)++JU rvs (Zk p none ini))):=(fr _ _ s15).f [2,3,4,0,5,1,6,7,8,9];have g4:=(s16.p 2).get;have g11:=s16.get;unfold KG at g4;obtain⟨y1,y2,y3,y4,gq3,wq3,ltq3,lq3,tq3,kq3,s17⟩:=ZT (s16.p 6) (YQ p rvs ini rv c) (i:=ini.length) (j:=1) (Wa hl) (by decide);rw[X9 hl,hsv]at y4;simp only[aba,aab,abv,abc,abP]at y4;obtain⟨rfl,rfl⟩:=y4;simp only[EE,zw,zj,Ws,fw,bW,UC,g4];refine FP gq3 wq3 lq3 (by decide) s17 rfl λh18 s18=>?_;rw[Cs hl]at s18;have g11':=(s18.p 1).get;have g4':=(s18.p 3).get;unfold KG at g4'
   have fin:∀{H:za} (z:Int),(if w.n=0 then i.t else i.s)=z->Sat lo H (yW 116 5 sv (qH p rvs ini rv {c with pt:=z})::pt b11 (.cells (zb [Value.int .i64 0,pm 0,pm 0] 0 [pm w.k,pm w.n,pm w.b]) 69)::pt b5 (.cells v0.zY 69)::pt b4 (KG i)::pt b (xK p mb (xf S 1 w.n 0) ev lk' wv sv gv ltl)::yW 97 2 ev (S.ev.map qC)::yW 74 3 lk' ((xf S 1 w.n 0).lk.map wk)::yW 69 3 rv ((uo (xo p c.f) c.zf).map V.zY)::kU mb S.mem nn::yW 3 1 gv (S.gl.map yb)::JU rvs (Zk p none ini))->tL lo p b mb (nn+1) wv gv ltl (xj p world kept S c i) (.bool true) H:=by
    intro H z hz z2;rw[es];refine⟨true,rfl,?_⟩;rw[aai ⟨rfl,hk⟩];refine⟨rfl,ev,lk',sv,rvs,rv,ini,{c with pt:=if w.n=0 then i.t else i.s},?_,hl,?_⟩
    ·show S.calls.dropLast++[_]=_;rw[e,aaY]
    ·rw[hz];have z3:=((((z2.p 1).drop.p 1).drop.p 1).drop);exact(bR (z3.p 5) (abr _)).f [2,3,4,1,5,0,6]
   by_cases w0:w.n=1
   ·simp only[EE,zb,Nat.reduceAdd,zw,xi,zj,Ws,fw,YM,yf,UB,g11',w0,g4'];obtain⟨y1,y2,y3,y4,gq5,wq5,ltq5,lq5,tq5,kq5,s19⟩:=ZT s18 (YQ p rvs ini rv {c with pt:=i.t}) (i:=ini.length) (j:=1) (Wa hl) (by decide);rw[X9 hl,hsv]at y4;simp only[aba,aab,abv,abc,abP]at y4;obtain⟨rfl,rfl⟩:=y4;refine FP gq5 wq5 lq5 (by decide) s19 rfl λh20 s20=>?_;rw[Cs hl]at s20;simp only[EE];exact fin i.s (by rw[aac (by omega)]) s20
   ·simp only[EE,zb,Nat.reduceAdd,zw,xi,yf,g11',w0];exact fin i.t (by rw[aai (by omega)]) s18
 by_cases h12:i.op=12
 ·have es:xj p world kept S c i=u5 p kept S (zS c.zf i.a):=by unfold xj;rw[aac h2,aac h3,aac h4,aac h5,aac h6,aac h7,aac h8,aac h9,aac h10,aac h11,aai h12]
  have ia:=gi.a (by rw[h12];rfl)
  have RQ:=zgl (TV s9) (r:=i.a) (by
   rcases ia with q|q
   ·exact .inr (iD _ q)
   ·exact .inl q)
  rw[gR i.a (by rcases ia with q|q <;> omega)]at RQ;unfold u5 at es;rw[e,abH,aaY]at es;obtain⟨v,hv⟩:∃v,v=zS c.zf i.a:=⟨_,rfl⟩;rw[<- hv]at RQ es;have rn:=xN (s9.p 6);have rc:=ZB (s9.p 6);simp only[EE,nth,zb,Nat.reduceAdd,Int.reduceEq,zw,zj,xC,Jr,ZP,Zc,kZ,ke,uk,wT,wD,xZ,xH,wU,h12,g4];refine yp RQ ?_;rcases abF ini with hini|⟨ini',bk,hini⟩
  ·subst hini;have:rvs=[]:=abI hl;subst this;obtain⟨lo1,l1,s10,fr⟩:=(s9.f [2,5,7]).call (L2:=[pt b (xK p mb S ev lk wv sv gv ltl),yW 116 5 sv ([]++[kL rv (Uo p none c)]),kU mb S.mem nn]);refine CK (Ri s10 ok.mem.2 rn rc v) ?_;rintro w h11 ⟨sv',rfl,s11⟩;have s12:=fr _ _ s11;simp only[List.getLast?_nil]at es;by_cases k1:v.k=1
   ·rw[aai k1]at es s12;rw[es];refine⟨rfl,true,by rw[show decide (v.k=1)=true by simp[k1]];rfl,?_⟩;rw[aac (by simp)];exact⟨{S with kind:=1,exit:=v.n},ev,lk,sv',s12.k [0,3,4],⟨by simp[KB],rfl,rfl,rfl,rfl⟩⟩
   ·rw[aac k1]at es s12;rw[es];refine⟨rfl,false,by rw[show decide (v.k=1)=false by simp[k1]];rfl,?_⟩;rw[aac (by simp)];exact⟨S,ev,lk,sv',s12.k [0,3,4],⟨by simp[hk,KB],rfl,rfl,rfl,rfl⟩⟩
  ·rw[abL]at hini;subst hini
   obtain⟨rvs',rvb,rfl⟩:∃rvs' rvb,rvs=rvs'++[rvb]:=by
    rcases abF rvs with q|⟨r1,r2,q⟩
    ·subst q;simp at hl
    ·exact⟨r1,r2,by rw[q,abL]⟩
   have hl':rvs'.length=ini'.length:=by simpa using hl
   obtain⟨bi,hbi,hb10⟩:=ok.low bk (by rw[e,aaY];simp);obtain⟨f3,hf3,fm3,im3,er3⟩:=iq hbi;have gi3:=(gf f3 fm3).ins bi im3;have hr3:=(gf f3 fm3).zf;have bkl:=(xn.fr bk (by rw[e];simp)).1;rw[abH]at es;simp only[hbi,aaY]at es
   have hdst:bi.d<((xo p bk.f:Nat):Int):=by
    rw[er3];rcases gi3.d (by rw[hb10];rfl) with q|q <;> omega
   have e1:MR p (some bk)=bi.d:=by show((jT p bk).map _).getD (-1)=_;rw[hbi];rfl
   have e2:atD p bk=bi.s:=by unfold atD;rw[hbi];rfl
   have hds:rvs'.length=(Zk p none ini').length:=by rw[Yz];exact hl'
   have eL:Zk p none (ini'++[bk])=Zk p none ini'++[nU p ini'.getLast? bk]:=by rw[pW];cases ini'.getLast? <;> rfl
   have eR:qH p (rvs'++[rvb]) (ini'++[bk]) rv c=(qS rvs' (Zk p none ini')++[kL rvb (nU p ini'.getLast? bk)])++[kL rv (Uo p (some bk) c)]:=by
    unfold qH;rw[eL,ri hds,abH]
   have eG:JU (rvs'++[rvb]) (Zk p none (ini'++[bk]))=JU rvs' (Zk p none ini')++[yW 69 3 rvb ((uo (xo p bk.f) bk.zf).map V.zY)]:=by
    rw[eL,Co hds];rfl
   rw[eR,eG]at s9;have hbl:(uo (xo p bk.f) bk.zf).length=xo p bk.f:=JR bkl;have s10:Sat lo hh (yW 69 3 rvb ((uo (xo p bk.f) bk.zf).map V.zY)::pt b5 (.cells v0.zY 69)::pt b4 (KG i)::(Wh p b mb nn wv gv ltl S ev lk sv ((qS rvs' (Zk p none ini')++[kL rvb (nU p ini'.getLast? bk)])++[kL rv (Uo p (some bk) c)]) rv (uo (xo p c.f) c.zf)++JU rvs' (Zk p none ini'))):=zbM (pt b5 (.cells v0.zY 69)::pt b4 (KG i)::Wh p b mb nn wv gv ltl S ev lk sv ((qS rvs' (Zk p none ini')++[kL rvb (nU p ini'.getLast? bk)])++[kL rv (Uo p (some bk) c)]) rv (uo (xo p c.f) c.zf)) (JU rvs' (Zk p none ini')) s9;obtain⟨lo1,l1,s11,fr⟩:=(s10.f [3,6,8,0]).call (L2:=[pt b (xK p mb S ev lk wv sv gv ltl),yW 116 5 sv ((qS rvs' (Zk p none ini')++[kL rvb (nU p ini'.getLast? bk)])++[kL rv (Uo p (some bk) c)]),kU mb S.mem nn,yW 69 3 rvb ((nU p ini'.getLast? bk).zf.map V.zY)])
   refine CK (Rj (d:=Uo p (some bk) c) (bk:=nU p ini'.getLast? bk) s11 hds (by rw[Yz];simp at hil;omega) ok.mem.2 rn rc (λz=>by
    have h1:=h16 z f3 fm3;show 16<=(uo _ _).length;rw[hbl,er3];omega) (by
    show MR p (some bk)<((uo _ _).length:Int);rw[e1,hbl];exact hdst) v) ?_
   rintro w h12 ⟨sv',rfl,s12⟩;have s13:=fr _ _ s12;rw[es];refine⟨rfl,true,rfl,?_⟩;rw[aai ⟨rfl,hk⟩];refine⟨rfl,ev,lk,sv',rvs',rvb,ini',{bk with zf:=um (kN kept bk.zf) bi.d v,pt:=bi.s},rfl,hl',?_⟩
   have eB:Bk ltl (nU p ini'.getLast? bk).zf (Uo p (some bk) c).dst v=uo (xo p bk.f) (um (kN kept bk.zf) bi.d v):=by
    rw[hkept];show Bk ltl (uo _ _) (MR p (some bk)) v=_;rw[e1];exact zag bkl hdst
   have eW:qS rvs' (Zk p none ini')++[kL rvb (nU p ini'.getLast? bk)]=qH p rvs' ini' rvb {bk with zf:=um (kN kept bk.zf) bi.d v,pt:=bi.s}:=by
    unfold qH kL nU Uo;simp only[e2]
   rw[eB,eW]at s13;have s14:=(((s13.f [4,5,8]).drop.drop.drop).f [0,4,5,1,3,2,6]);exact(bR (s14.p 5) (abr _)).f [1,2,3,4,5,0,6]
 by_cases h13:i.op=13
 ·have es:xj p world kept S c i=(vZ {qT S 1 (Zs world S.used) with used:=S.used+1} c i (u6 (Zs world S.used)),true):=by unfold xj;rw[aac h2,aac h3,aac h4,aac h5,aac h6,aac h7,aac h8,aac h9,aac h10,aac h11,aac h12,aai h13]
  rw[es];have gm9:=(s9.p 2).get;unfold xK yB at gm9;have WV:=hw.at s9;have wn:=WV.wO
  have wl:∀r H,zv pu .len [26] r [wv] H=some (pm world.length,H):=λr H=>by
   rcases WV with⟨rfl,rfl⟩|⟨_,_,_,rfl,_⟩
   ·simp only[fH,aaz]
   ·simp only[fH]
  obtain⟨u0,u1⟩:=ok.used;have e13:((S.used.toNat:Nat):Int)=S.used:=abW u0;have iu:IntKind.wrap .i64 (S.used+1)=S.used+1:=by have:=inc (show S.used.toNat<4611686018427387904 by omega);rw[e13]at this;omega
  have fin13:∀{H:za} {z:Int},z=Zs world S.used->Sat lo H (pt b5 (.cells v0.zY 69)::pt b4 (KG i)::(Wh p b mb nn wv gv ltl S ev lk sv (qH p rvs ini rv c) rv (uo (xo p c.f) c.zf)++JU rvs (Zk p none ini))) ->
    W7 (pi b) (pi b5) (λvs H=>xU (tL lo p b mb (nn+1) wv gv ltl (vZ {qT S 1 (Zs world S.used) with used:=S.used+1} c i (u6 (Zs world S.used)),true)) (pi b4) (.pointer (some ⟨q,ini.length*5,none⟩)) (pi b5) [nth vs 0,.bool true] H) [pm z] H:=by
   intro H z hz z1;subst hz;unfold W7;have gm:=(z1.p 2).get;unfold xK yB at gm;simp only[EE,zw,zj,Ws,FL,gm,iu];refine yw (z1.p 2) (by simp) rfl λH1 z2=>?_;have gm2:=z2.get;have en:=xN (z2.p 3);obtain⟨b',c',h2,ha,z3⟩:=zaI (z2.p 3) hE 1 (Zs world S.used);simp only[EE,nth,zb,Nat.reduceAdd,zw,Oz,zab,pM,pN,tl,YN,gm2,en,ha];refine yw (z3.p 1) (by simp[zb]) rfl λH3 z4=>?_;simp only[nth];refine yp (Z0 _ _) ?_;simp only[EE,Nat.reduceAdd,zo,vv];refine yw (z4.p 2) (by simp[V.zY]) rfl λh10 z5=>?_;exact Qt (S:={qT S 1 (Zs world S.used) with used:=S.used+1}) an e hl hk hrl wd (up (S1:={qT S 1 (Zs world S.used) with used:=S.used+1}) (z5.f [0,3,1,2,4,5,6,7,8])) hsv2
  by_cases u2:S.used<(world.length:Int)
  ·obtain⟨z,hz⟩:∃z,world[S.used.toNat]? = some z:=⟨_,aae (by omega)⟩;obtain⟨qw,ow,pw,cw,tw,hwv,ltw,gw,kw⟩:=zfR WV hz;subst hwv;simp only[EE,nth,aad,Int.reduceEq,zw,xi,Oy,zj,O1,FL,Pa,UF,UH,YK,ZP,Zc,kZ,ke,uk,wT,wD,xZ,xH,wU,h13,gm9,wn,wl,u0,u2,gw,kw,abh];exact fin13 (z:=z) (by unfold Zs;rw[aac (by omega),aaA,hz];rfl) s9
  ·simp only[EE,nth,Int.reduceEq,zw,Oy,zj,O1,FL,UH,YK,ZP,Zc,kZ,ke,uk,wT,wD,xZ,xH,wU,h13,gm9,wn,wl,u2];exact fin13 (by unfold Zs;rw[aac (by omega),aaA,aal (by omega)];rfl) s9
 by_cases h14:i.op=14
 ·have es:xj p world kept S c i=(if (zS c.zf i.a).k=1 then (vZ (qT S 2 (zS c.zf i.a).n) c i v0,true) else (S,false)):=by unfold xj;rw[aac h2,aac h3,aac h4,aac h5,aac h6,aac h7,aac h8,aac h9,aac h10,aac h11,aac h12,aac h13,aai h14]
  have na:=gi.na (by omega);obtain⟨cs1,t1,rb,ro,rc,cc1,t2,gq1,kq1,er1,hgr,hlr,htr,n1,y0,y1⟩:=rd s9 i.a na;have n0:=na.1;by_cases k1:(zS c.zf i.a).k=1
  ·rw[aai k1]at es;rw[es];have gm9:=(s9.p 2).get;unfold xK yB at gm9;have en:=xN (s9.p 3);obtain⟨b',c',h2,ha,z3⟩:=zaI (s9.p 3) hE 2 (zS c.zf i.a).n;simp only[EE,nth,zb,aad,Nat.reduceAdd,Int.reduceEq,zw,xi,zj,Oz,Ys,zab,pM,pN,jv,tl,xC,YN,zQ,yf,X4,Jq,UG,W8,YK,ZP,Zc,kZ,ke,uk,wT,wD,xZ,xH,wU,h14,g4,gq1,kq1,er1,n0,n1,hgr,y0,y1,k1,gm9,en,ha];refine yw (z3.p 3) (by simp) rfl λH3 z4=>?_;simp only[nth];exact Qt (S:=qT S 2 (zS c.zf i.a).n) an e hl hk hrl wd (up (S1:=qT S 2 (zS c.zf i.a).n) (z4.f [2,3,0,1,4,5,6,7,8])) hsv2
  ·rw[aac k1]at es;rw[es];simp only[EE,nth,zb,aad,Nat.reduceAdd,Int.reduceEq,zw,zj,Ys,jv,xC,zQ,X4,UG,W8,YK,ZP,Zc,kZ,ke,uk,wT,wD,xZ,xH,wU,h14,g4,gq1,kq1,er1,n0,n1,hgr,y0,k1];exact bad hk (s9.k [2,3,4])
 have es:xj p world kept S c i=(vZ S c i v0,true):=by unfold xj;rw[aac h2,aac h3,aac h4,aac h5,aac h6,aac h7,aac h8,aac h9,aac h10,aac h11,aac h12,aac h13,aac h14]
 rw[es];simp only[EE,nth,W8,YK,ZP,Zc,kZ,ke,uk,wT,wD,xZ,xH,wU,h2,h3,h4,h5,h6,h7,h8,h9,h10,h11,h12,h13,h14];exact Qt an e hl hk hrl wd (up s9) hsv2
end
end Go.Dm
namespace Go.Rm
open Go.Ai Go.Proofs Go.Mem
open Go.Rtl (xG Pg zB wG qP wF zL zE Old inc)
def bL(f:Go.Rtl.Fn)(args:List Int)(fuel:Int):Prop:=args.length≠f.params.length\/fuel<0\/10000000<fuel
instance (f:Go.Rtl.Fn)(args:List Int)(fuel:Int):Decidable (bL f args fuel):=by unfold bL;infer_instance
def Uc(kind exit:Int)(ev lk:aaa)(steps:Int):aaa := .agg #[pm kind,pm exit,ev,lk,pm steps]
def GG(h:za)(S:St)(v:aaa)(h':za):Prop := ∃ev lk,v=.tuple #[Uc S.kind S.exit ev lk S.steps,pm 0]/\Sat (.of h) h' [yW 97 2 ev (S.ev.map qC),yW 74 3 lk (S.lk.map wk)]
def GC(h:za)(v:aaa)(h':za):Prop:=v=.tuple #[Uc 0 0 (pp) (pp) 0,pm 1]/\Sat (.of h) h' []
theorem zf3{h:za}{sv:aaa}{l:List Int}(S:zL h sv l)(r:TypeId)(h':za):zv pu .len [26] r [sv] h'=some (pm l.length,h'):=by
 rcases S with⟨rfl,rfl⟩|⟨b,off,cp,rfl,_⟩
 ·simp only[fH,aaz]
 ·simp only[fH]
theorem zL.shape{h:za}{sv:aaa}{l:List Int}(S:zL h sv l):∃a n c,sv=.slice a n c:=by
 rcases S with⟨rfl,_⟩|⟨b,off,cp,rfl,_⟩ <;> exact⟨_,_,_,rfl⟩
theorem zE.shape{h:za}{sv:aaa}{n:Nat}{l:List (List aaa)}(S:zE h sv n l):∃a n c,sv=.slice a n c:=by
 rcases S with⟨rfl,_⟩|⟨b,off,cp,rfl,_⟩ <;> exact⟨_,_,_,rfl⟩
theorem zej(v00:Option Addr)(v00l v00c:Nat)(v01:Option Addr)(v01l v01c:Nat)(v02:Int)(v1:Option Addr)(v2:Option Addr):z9 pu 106 [(0,(.agg #[(.slice v00 v00l v00c),(.slice v01 v01l v01c),(pm v02)])),(1,(.pointer v1)),(2,(.pointer v2)),(6,.nilFunc)]=some (.agg #[(.slice v00 v00l v00c),(.slice v01 v01l v01c),(pm v02),.pointer v1,.pointer v2,pm 0,pm 0,pp,pp,pm 0,pp,pp,.nilFunc]):=zO (by kernel_rfl)
theorem zf2{kv:aaa}{kept:Option (Int->Bool)}(hK:KV kv kept):(zU kv=false/\cellOk kv=true) /\ ∀(v00:Option Addr) (v00l v00c:Nat) (v01:Option Addr) (v01l v01c:Nat) (v02:Int) (v1:Option Addr) (v2:Option Addr),z9 pu 106 [(0,(.agg #[(.slice v00 v00l v00c),(.slice v01 v01l v01c),(pm v02)])),(1,(.pointer v1)),(2,(.pointer v2)),(6,kv)]=some (.agg #[(.slice v00 v00l v00c),(.slice v01 v01l v01c),(pm v02),.pointer v1,.pointer v2,pm 0,pm 0,pp,pp,pm 0,pp,pp,kv]):=by
 unfold KV at hK;cases kept with
 |none=>subst hK;exact⟨⟨rfl,rfl⟩,zej⟩
 |some K=>obtain⟨g,rfl,_⟩:=hK;exact⟨⟨rfl,rfl⟩,λ_ _ _ _ _ _ _ _ _=>Bl _ _ _ _ _ _ _ _ _ _ _ _⟩
section
variable {h:za}{p:Pg}{f:Go.Rtl.Fn}{av wv kv:aaa}{args world:List Int}{fuel:Int}{kept:Option (Int->Bool)}
theorem zeS(P:wG h p)(g:NO p)(hf:p.funcs[p.main.toNat]? = some f)(ha:zL h av args)(hw:zL h wv world)(hwl:world.length*8<=2^47)(hK:KV kv kept) :
  DC pu 22 [p.val,av,wv,pm fuel,kv] h (λv h'=>if bL f args fuel then GC h v h' else GG h (runM p args world kept fuel.toNat) v h'):=by
 apply Wc;intro wf;apply PU;unfold Tf;have s0:Sat (.of h) h []:=Sat.self wf.2;have RP:Rd (.of h) (wG · p):=Rd.of (yP.jS h) P λh' o=>P.old o;have RA:Rd (.of h) (zL · av args):=Rd.of (yP.jS h) ha λh' o=>ha.old o;have RW:Rd (.of h) (zL · wv world):=Rd.of (yP.jS h) hw λh' o=>hw.old o;have gvn:=P.globals.wO;have gvc:=P.globals.iH;have fvn:=P.funcs.wO;have fvc:=P.funcs.iH;have avn:=ha.wO;have avc:=ha.iH;have wvn:=hw.wO;have wvc:=hw.iH;have al:=zf3 ha 3;simp only[EE,Value.cells,Bi];refine Pm s0 wf λb5 h2 wf2 s2=>?_;simp only[];refine Pm s2 wf2 λb10 h4 wf4 s4=>?_;have g5:=(s4.p 1).get;have P4:=RP.at s4;obtain⟨bf,o,cf,tf,hix,hbf,hgf,hof,htf,hkf⟩:=zE.eY P4.funcs (i:=p.main.toNat) (r:=f.row) (by rw[aaq,hf];rfl) rfl;have hmn:((p.main.toNat:Nat):Int)=p.main:=by have:=g.main;omega
 rw[hmn]at hix;have k1:=hkf 1 (by decide);have fm:=aau hf;have pn:=(P4.fns f fm).params.wO;have pl:=(P4.fns f fm).params.Zr 3;simp only[EE,zw,yV,ur,zj,xB,Xe,uP,g5,avn,al,hix,hgf,k1,pn,pl]
 have bad:bL f args fuel->tX (pi b10) h4 (λv h'=>if bL f args fuel then GC h v h' else GG h (runM p args world kept fuel.toNat) v h') (λvs16 h17=>opt (zd pu 25 (pi b5) h17) λt41=>sq pu 45 [] h17 (λt42 h20=>sq pu 46 [wv] h20 (oU t41 t42 kv (pi b5) av (pm fuel) (pi b10) (λv h'=>if bL f args fuel then GC h v h' else GG h (runM p args world kept fuel.toNat) v h')))):=by
  intro hb;simp only[aai hb];unfold tX;simp only[EE,Nat.reduceAdd,eX,Mz];refine yw s4 (by simp) rfl λh5 s5=>?_;have g6:=s5.get;simp only[EE,zb,aad,Nat.reduceAdd,ya,JE,g6];exact⟨rfl,s5.zO 0⟩
 by_cases e1:¬(args.length:Int)=(f.params.length:Int)
 ·simp only[EE,ya,Wv,K7,K8,K9,e1];exact bad (.inl (by omega))
 have e1:(args.length:Int)=(f.params.length:Int):=acf.1 e1;by_cases e2:fuel<0
 ·simp only[EE,ya,Wv,K7,K8,K9,e1,e2];exact bad (.inr (.inl e2))
 by_cases e3:fuel>10000000
 ·simp only[EE,ya,Wv,K7,K8,K9,e1,e2,e3];exact bad (.inr (.inr (by omega)))
 have nb:¬bL f args fuel:=by unfold bL;omega
 clear bad;simp only[EE,aad,Nat.reduceAdd,ya,Wv,K7,K8,K9,e1,e2,e3,g5];refine FE (by kernel_rfl) rfl wf4 s4 (zeK (Sat.self wf4.lock.2)) ?_;rintro v h5 ⟨mb,rfl,s5⟩ back wf6;have s6:=back _ s5;clear back s5;generalize v5 h4 h5=h6 at wf6 s6 ⊢;refine FE (by kernel_rfl) (by simp only[yD,wvn,aaJ]) wf6 s6 (ze7 (RW.at s6).lock hwl (Sat.self wf6.lock.2)) ?_;rintro v h7 ⟨wb,wn,rfl,s7⟩ back wf8;have s8:=back _ s7;clear back s7;generalize v5 h6 h7=h8 at wf8 s8 ⊢;unfold yB;obtain⟨⟨hkn,hkc⟩,hbd⟩:=zf2 hK
 have bd:∀q1 q2,z9 pu 106 [(0,.agg #[p.gv,p.fv,pm p.main]),(1,.pointer q1),(2,.pointer q2),(6,kv)]=some (.agg #[p.gv,p.fv,pm p.main,.pointer q1,.pointer q2,pm 0,pm 0,pp,pp,pm 0,pp,pp,kv]):=by
  obtain⟨a1,n1,c1,q1⟩:=zL.shape P.globals;obtain⟨a2,n2,c2,q2⟩:=zE.shape P.funcs;rw[q1,q2];exact λ_ _=>hbd _ _ _ _ _ _ _ _ _
 simp only[EE,Value.cells,zw,yV,x9,oU,hkn,bd];refine uL s8 λb h9 s9=>?_;have g9:=(s9.p 5).get;have PG:=(RP.at s9).globals;have gl9:=PG.len;simp only[EE,↓BK,g9,gvn,gl9]
 refine qQ (λm vs h'=>∃(i:Nat) (gl:aaa),i<=p.globals.length/\m=p.globals.length-i/\vs=[pm (i:Nat)]/\Sat (.of h) h' [yW 3 1 gl ((xI (p.globals.take i) [] []).2.map yb),pt b (xh p mb wb (uq p) (pp) (pp) gl (pp) kv),pt wb (.cells [wn,pm 0] 141),yW 2 1 wn (world.map yb),ZU mb (xI (p.globals.take i) [] []).1,pt b10 (.cells [pm 0,pm 0,pp,pp,pm 0] 33),pt b5 (.cells p.row 25)])
  p.globals.length ⟨0,pp,aa8 _,rfl,rfl,vK _ _ s9⟩ ?_
 rintro m vs h' ⟨i,gl,hi,rfl,rfl,s10⟩;unfold G5;obtain⟨gm,gll,gb⟩:=tz (p.globals.take i) [] [] B3 (λz h=>by cases h);have g200:=g.globals;have hlen:(p.globals.take i).length=i:=by simp;omega
 by_cases hc:(i:Int)<(p.globals.length:Int)
 ·obtain⟨r,hr1⟩:∃r,p.globals[i]? = some r:=⟨_,aae (by omega)⟩;obtain⟨b11,o11,c11,t11,ix11,lt11,g11,k11⟩:=(RP.at s10).globals.at hr1;have gM:=(s10.p 1).get;unfold xh yB at gM;have et:p.globals.take (i+1)=p.globals.take i++[r]:=by rw[ab1,hr1];rfl
  have e1:=lU (p.globals.take i) r [] [];rw[<- et]at e1;have a:=Qm r gm;simp only[EE,nth,↓BK,zw,lM,zj,Qg,G3,G4,hc,ix11,g11,k11,gM];obtain⟨lo1,l1,s11,fr⟩:=(s10.f [4]).call (L2:=[ZU mb (xI (p.globals.take i) [] []).1]);refine CK (OB s11 r) ?_;rintro v h12 ⟨rfl,s12⟩;have s13:=fr _ _ s12;have gM:=(s13.p 2).get;unfold xh yB at gM;simp only[EE,zw,lM,Qg,GZ,gM];obtain⟨lo2,l2,s14,fr2⟩:=s13.call (L2:=[ZU mb (zV (xI (p.globals.take i) [] []).1 r).1]);refine CK (zfi s14 a.1.1 a.2.2) ?_;rintro v h15 ⟨rfl,s15⟩;have s16:=fr2 _ _ s15;have gM:=(s16.p 2).get;unfold xh yB at gM;have gn:=xN (s16.p 1);have s17:=s16.push (.cells [pm (zV (xI (p.globals.take i) [] []).1 r).2.1] 3);obtain⟨b',c',h18,a1,s18⟩:=jz (s17.p 2) (uB (f:=yb) (λ_=>rfl) _) [pm (zV (xI (p.globals.take i) [] []).1 r).2.1] rfl (by decide) 8 (by rw[aaf,gll];simp;omega);rw[aaf]at a1 s18
  have hap:∀r',zv pu .append [22,22] r' [gl,.slice (some ⟨h15.next,0,none⟩) 1 3] (h15.push (.cells [pm (zV (xI (p.globals.take i) [] []).1 r).2.1] 3))=some (.slice (some ⟨b',0,none⟩) ((xI (p.globals.take i) [] []).2.length+1) c',h18):=λr'=>
   (TW r' _ _ 1 [pm (zV (xI (p.globals.take i) [] []).1 r).2.1] _ rfl (by simp only[wJ,zk];rfl) rfl rfl).trans a1
  simp only[EE,zw,yV,OE,JG,IE,GY,gM,gn,hap];refine yw (s18.p 3) (by simp) rfl λh19 s19=>?_;simp only[EE,nth,inc (show i<4611686018427387904 by omega)];refine⟨p.globals.length-(i+1),by omega,i+1,.slice (some ⟨b',0,none⟩) ((xI (p.globals.take i) [] []).2.length+1) c',by omega,rfl,rfl,?_⟩;rw[e1];rw[abp];exact s19.k [1,0,4,5,3,6,7]
 ·have hi9:i=p.globals.length:=by omega
  subst hi9;rw[acj]at s10;simp only[EE,nth,hc];clear s2 s4 s6 s8 s9 g5 g9;unfold DD;simp only[EE,↓BK,avn,al];have hp1:=g.par f fm
  refine qQ (λm vs h'=>∃(i:Nat) (lv:aaa),i<=args.length/\m=args.length-i/\vs=[lv,pm (i:Nat)]/\Sat (.of h) h' [yW 69 3 lv (((args.take i).map u6).map V.zY),yW 3 1 gl ((xI p.globals [] []).2.map yb),pt b (xh p mb wb (uq p) (pp) (pp) gl (pp) kv),pt wb (.cells [wn,pm 0] 141),yW 2 1 wn (world.map yb),ZU mb (xI p.globals [] []).1,pt b10 (.cells [pm 0,pm 0,pp,pp,pm 0] 33),pt b5 (.cells p.row 25)])
   args.length ⟨0,pp,aa8 _,rfl,rfl,vK _ _ s10⟩ ?_
  rintro m vs h9 ⟨i,lv,hi,rfl,rfl,s11⟩;unfold Dv;by_cases hc2:(i:Int)<(args.length:Int)
  ·obtain⟨r,hr1⟩:∃r,args[i]? = some r:=⟨_,aae (by omega)⟩;have et:args.take (i+1)=args.take i++[r]:=by rw[ab1,hr1];rfl
   have hlen2:(args.take i).length=i:=by simp;omega
   obtain⟨bb,o2,cs,t,⟨off,cp,rfl,rfl⟩,hib,hbb,hgt,hle,htk,hat⟩:=(oq (RA.at s11)).spot (i:=i) (r:=yb r) (by rw[aaq,hr1];rfl) rfl;have hat0:cs[off+i*1]? = some (pm r):=hat 0 (by decide);rw[abh]at hat0;rw[aaf]at *
   have hi8:(0:Int)<=i:=by omega
   simp only[EE,nth,↓BK,aad,zw,xi,Pa,G7,hc2,hi8,hgt,hat0,abh,aax];refine yp (Wn r _) ?_;have s12:=s11.push (.cells [pm (u6 r).k,pm (u6 r).n,pm (u6 r).b] 69);obtain⟨b',c',h18,a1,s18⟩:=jz (s12.p 1) (wP _) (u6 r).zY rfl (by decide) 24 (by simp;omega);rw[aaf,aaf]at a1 s18;have ln:=xN s11
   have hap:∀r',zv pu .append [59,59] r' [lv,.slice (some ⟨h9.next,0,none⟩) 1 3] (h9.push (.cells [pm (u6 r).k,pm (u6 r).n,pm (u6 r).b] 69))=some (.slice (some ⟨b',0,none⟩) ((args.take i).length+1) c',h18):=λr'=>
    (H8 r' _ _ 1 (u6 r).zY _ rfl (by simp only[wJ,zk];rfl) rfl rfl).trans a1
   simp only[EE,nth,UJ,G6,G8,ln,hap,inc (show i<4611686018427387904 by omega)];refine⟨args.length-(i+1),by omega,i+1,_,by omega,rfl,rfl,?_⟩;rw[et,abp,abp];exact s18.k [0,2,3,4,5,6,7,8]
  ·have hi9:i=args.length:=by omega
   subst hi9;rw[acj]at s11;have gb5:=(s11.p 7).get;simp only[EE,nth,zw,zj,Xe,zj,Xe,DA,hc2,gb5];obtain⟨lo1,l1,ra,s12,back⟩:=ry s11 (wP _);have s13:=vK 152 1 s12;obtain⟨lo2,l2,s14,fr⟩:=(s13.f [2,0,5]).call (L2:=[pt b (xh p mb wb (uq p) (pp) (pp) gl (pp) kv),yW 152 1 (pp) [],ZU mb (xI p.globals [] []).1]);have en:=OV (S:=uq p) (n:=p.main.toNat) (fbs:=[]) (args:=args.map u6) (RP.mono (l1.trans l2)) (ra.mono l2) s14 hf (by rw[aaf];omega) rfl hp1.2 hp1.1;rw[hmn]at en;refine nD (by simp only[yD,xN s11,aaJ];rfl) en ?_;rintro v h15 ⟨rfl,x15⟩;have es:wI p (uq p) p.main (args.map u6)=qV p args:=rfl;obtain⟨c1,c2,c3,c4⟩:=Iz (S:=uq p) (args:=args.map u6) hf;rw[es]at x15 c1 c2 c3 c4 ⊢;have c3:(qV p args).1.gl=(xI p.globals [] []).2:=c3;have c4:(qV p args).1.used=0:=c4;obtain⟨k0,st0,ev0,lk0⟩:=sG p args
   have X:∃cl' fbs',fbs'.length=(qV p args).1.calls.length/\Sat lo1 h15 ((x8 p b mb wb world (qV p args).1 (pp) (pp) gl cl' kv wn fbs'++lP p fbs' (qV p args).1.calls)++[pt b10 (.cells [pm 0,pm 0,pp,pp,pm 0] 33),pt b5 (.cells p.row 25)]):=by
    unfold x8;rw[c3,c4,ev0,lk0];by_cases hok:(qV p args).2=true
    ·rw[aai hok]at x15;obtain⟨fb,cl',x15⟩:=x15;have s16:=vK 74 3 (vK 97 2 (fr _ _ x15));refine⟨cl',[fb],by rw[c1 hok];rfl,?_⟩;rw[c1 hok];exact s16.f [2,3,4,0,1,6,7,8,5]
    ·rw[aac hok]at x15;have s16:=vK 74 3 (vK 97 2 (fr _ _ x15));have c2:=c2 (by simpa using hok);refine⟨.slice none 0 0,[],by rw[c2];rfl,?_⟩;rw[c2];exact s16.f [2,3,4,0,1,5,6,7]
   clear x15 s14 s13 s12 s11 s10;obtain⟨cl',fbs',hfl,s18⟩:=X;obtain⟨lo3,l3,s19,fr3⟩:=s18.call (L2:=x8 p b mb wb world (qV p args).1 (pp) (pp) gl cl' kv wn fbs'++lP p fbs' (qV p args).1.calls);unfold Dz;refine zeE (RP.mono (l1.trans l3)) g hK (by omega) (T:=qV p args) ⟨_,_,cl',fbs',hfl,s19⟩ (λq=>⟨Pt g args q,λ_=>by rw[c1 q];simp⟩) st0 (by omega) (by omega) ?_;intro h20 S ok hl x20;obtain⟨ev,lk,cl2,fbs2,hfl2,s20⟩:=x20;have s21:=fr3 _ _ s20
   have fin:∀{h22:za} (S':St),S'.ev=S.ev->S'.lk=S.lk->KB (S,ok)=S'->Sat lo1 h22 ((pt b (xh p mb wb S' ev lk gl cl2 kv)::(x8 p b mb wb world S ev lk gl cl2 kv wn fbs2).tail++lP p fbs2 S.calls)++[pt b10 (.cells [pm 0,pm 0,pp,pp,pm 0] 33),pt b5 (.cells p.row 25)])->oT (pi b) (pi b10) (λv h'=>if bL f args fuel then GC h v h' else GG h (runM p args world kept fuel.toNat) v h') [] h22:=by
    intro h22 S' he hk hend s22;have g22:=s22.get;unfold xh yB at g22;have en:=xN (s22.p 4);have ec:=ZB (s22.p 4);have kn:=xN (s22.p 3);have kc:=ZB (s22.p 3);have s23:=s22.perm abB;simp only[EE,aad,Nat.reduceAdd,Nat.reduceLeDiff,ya,JE,eX,Yx,oT,g22];refine yw s23 (by simp) (by simp[ec,kc];exact⟨rfl,rfl,rfl⟩) λh24 s24=>?_;have g24:=s24.get;simp only[EE,zb,aad,Nat.reduceAdd,ya,JE,g24];rw[aac nb];have er:runM p args world kept fuel.toNat=S':=by unfold runM;rw[hl];exact hend
    rw[er];refine⟨ev,lk,rfl,?_⟩;rw[he,hk];exact(back _ _ (s24.k [6,5])).drop
   cases ok with
   |true=>
    simp only[EE,nth];exact fin S rfl rfl rfl s21
   |false=>
    have g21:=s21.get;unfold xh yB at g21;simp only[EE,nth,Ws,Yx,jY,Dy];refine yw s21 (by simp) rfl λh22 s22=>?_;exact fin {S with kind:=3} rfl rfl rfl s22
end
open Go.Rtl (Xw Gd)
def vJ(p:Pg):Go.Rtl.Fn:=(p.funcs[p.main.toNat]?).getD ⟨⟨#[]⟩,.nilFunc,[],0,0,0,.nilFunc,[]⟩
theorem NO.vJ{p:Pg}(g:NO p):p.funcs[p.main.toNat]? = some (vJ p):=by
 have:=g.main;unfold Go.Rm.vJ;rw[aae (by omega)];rfl
def Lm(p:Pg)(args:List Int)(fuel:Int):Prop:=Xw p=true /\ ¬bL (vJ p) args fuel
instance (p:Pg)(args:List Int)(fuel:Int):Decidable (Lm p args fuel):=by unfold Lm;infer_instance
section
variable {h:za}{p:Pg}{av wv:aaa}{args world:List Int}{fuel:Int}
theorem zdU(P:wG h p)(ha:zL h av args)(hw:zL h wv world)(hwl:world.length*8<=2^47) :
  DC pu 9 [p.val,av,wv,pm fuel] h (λv h'=>if Lm p args fuel then GG h (runM p args world none fuel.toNat) v h' else GC h v h'):=by
 apply Wc;intro wf;apply Af;unfold Hb;have s0:Sat (.of h) h []:=Sat.self wf.2;have RP:Rd (.of h) (wG · p):=Rd.of (yP.jS h) P λh' o=>P.old o;have RA:Rd (.of h) (zL · av args):=Rd.of (yP.jS h) ha λh' o=>ha.old o;have RW:Rd (.of h) (zL · wv world):=Rd.of (yP.jS h) hw λh' o=>hw.old o;have gvn:=P.globals.wO;have gvc:=P.globals.iH;have fvn:=P.funcs.wO;have fvc:=P.funcs.iH;have avn:=ha.wO;have wvn:=hw.wO;simp only[EE,Value.cells,Bi];refine uL s0 λb5 h2 s2=>?_;simp only[EE,ya,Wv];refine uL s2 λb10 h4 s4=>?_;have g5:=(s4.p 1).get;simp only[EE,aad,Nat.reduceAdd,g5];refine Bv (by simp only[yD];rfl) (Gd p h4 (RP.at s4)) ?_;cases hg:Xw p with
 |false=>
  simp only[EE,Nat.reduceAdd,eX,Mz,gj,gu];refine yw s4 (by simp) rfl λh5 s5=>?_;have g6:=s5.get;simp only[EE,zb,aad,Nat.reduceAdd,ya,JE,g6];rw[aac (by unfold Lm;rw[hg];simp)];exact⟨rfl,s5.zO 0⟩
 |true=>
  simp only[EE,aad,Nat.reduceAdd,ya,Wv,gu,g5];have g:=O8 hg;refine nD (by simp only[yD,avn,wvn,aaJ];rfl) (zeS (fuel:=fuel) (kept:=none) (RP.at s4) g g.vJ (RA.at s4) (RW.at s4) hwl rfl) ?_;rintro v h7 hv;by_cases hb:bL (vJ p) args fuel
  ·rw[aai hb]at hv;obtain⟨rfl,s8⟩:=hv;unfold Uc;simp only[EE,Nat.reduceAdd,eX,gk];refine yw (s4.join s8) (by simp) rfl λh9 s9=>?_;have g9:=s9.get;simp only[EE,zb,aad,Nat.reduceAdd,ya,JE,g9];rw[aac (by unfold Lm;rw[hg];simp[hb])];exact⟨rfl,s9.zO 0⟩
  ·rw[aac hb]at hv;obtain⟨ev,lk,rfl,s8⟩:=hv;have en:=xN s8;have ec:=ZB s8;have kn:=xN (s8.p 1);have kc:=ZB (s8.p 1);have s9:=(s4.join s8).p 2;unfold Uc;simp only[EE,Nat.reduceAdd,eX,gk];refine yw s9 (by simp) (by simp[ec,kc];exact⟨rfl,rfl,rfl⟩) λh10 s10=>?_;have g10:=s10.get;simp only[EE,zb,aad,Nat.reduceAdd,ya,JE,g10];rw[aai ⟨hg,hb⟩];exact⟨ev,lk,rfl,s10.k [1,2]⟩
end
end Go.Rm
namespace Go.Dm
open Go.Ai Go.Proofs Go.Mem Go.Rm
open Go.Rtl (xG Pg wG zL zE)
section
variable {lo:yP}{h:za}{b mb:Nat}{p:Pg}{wv gv:aaa}{ltl:Bool}{world:List Int}{kept:Option (Int->Bool)}{fuel:Int}
def zcb(lo:yP)(h:za)(p:Pg)(b mb:Nat)(wv gv:aaa)(ltl:Bool)(R:St):Prop := ∃S' ev lk sv,Sat lo h [pt b (xK p mb S' ev lk wv sv gv ltl),yW 97 2 ev (S'.ev.map qC),yW 74 3 lk (S'.lk.map wk)]/\S'.kind=R.kind/\S'.exit=R.exit/\S'.ev=R.ev/\S'.lk=R.lk/\S'.steps=R.steps
theorem IZ(n:Nat){S:St}{ok:Bool}(q:¬(ok=true/\S.kind=0)):Ql p world kept n (S,ok)=(S,ok):=by
 cases n with
 |zero=>show(if ok=true/\S.kind=0 then ({S with kind:=2},ok) else (S,ok))=_;rw[aac q]
 |succ m=>show(if ok=true/\S.kind=0 then _ else (S,ok))=_;rw[aac q]
theorem zbk(hp:Rd lo (wG · p))(hw:Rd lo (zL · wv world))(g:NO p)(gf:∀f,f∈p.funcs->GF f)(hw64:∀z,z∈world->wg z)(hwl:world.length<=2^47)(hkept:kept=if ltl=true then some VZ else none)(h16:ltl=true->∀f,f∈p.funcs->16<=f.zf)
  (hf0:0<=fuel) (hf1:fuel<=10000000) {S0 R:St} {J:List aaa->za->Prop}
  (x:(zcd lo h p b mb 0 wv gv ltl S0/\LS p S0/\StN p S0/\S0.calls≠[]/\S0.kind=0/\S0.steps=0/\R=KB (Ql p world kept fuel.toNat (S0,true)))\/(zcb lo h p b mb wv gv ltl R/\R.kind≠0))
  (k:∀h',zcb lo h' p b mb wv gv ltl R->J [] h'):LP (tZ (yB b) J (pm fuel)) [] h:=by
 refine qQ (λm vs h'=>vs=[]/\((∃S,zcd lo h' p b mb S.steps.toNat wv gv ltl S/\LS p S/\StN p S/\S.calls≠[]/\S.kind=0/\S.steps+m=fuel/\R=KB (Ql p world kept m (S,true)))\/(zcb lo h' p b mb wv gv ltl R/\R.kind≠0))) fuel.toNat ⟨rfl,?_⟩ ?_
 ·rcases x with⟨x1,x2,x3,x4,x5,x6,x7⟩|x
  ·exact .inl ⟨S0,by rw[x6];exact x1,x2,x3,x4,x5,by omega,x7⟩
  ·exact .inr x
 rintro m vs h' ⟨rfl,x⟩;unfold tZ yB;rcases x with⟨S,x,I,N,hne,hk,hsf,hR⟩|⟨x,hk⟩
 ·obtain⟨ev,lk,sv,rvs,rv,ini,c,e,hl,s⟩:=x;have gm:=s.get;unfold xK yB at gm;cases m with
  |zero=>
   have e9:S.steps=fuel:=by omega
   simp only[EE,↓BK,Nat.reduceAdd,zw,zj,Ws,jY,bV,YN,Hd,tY,gm,hk,e9];refine yw s (by simp) rfl λh2 s2=>?_;refine k h2 ⟨{S with kind:=2},ev,lk,sv,s2.k [0,1,2],?_⟩
   have:R = {S with kind:=2}:=by
    rw[hR];show KB (if true=true/\S.kind=0 then ({S with kind:=2},true) else (S,true))=_;rw[aai ⟨rfl,hk⟩];rfl
   subst this;exact⟨rfl,rfl,rfl,rfl,rfl⟩
  |succ m=>
   have e9:¬S.steps=fuel:=by omega
   have h0:0<=S.steps:=by have:=I.lk;omega
   have hw1:IntKind.wrap .i64 (S.steps+1)=S.steps+1:=Go.Mem.v9 (by omega) (by omega);simp only[EE,↓BK,Nat.reduceAdd,zw,zj,Ws,jY,bV,YN,Hf,tY,gm,hk,e9,hw1];refine yw s (by simp) rfl λh2 s2=>?_;have ok2:=I.ok g (by omega)
   have hR2:R=KB (Ql p world kept m (kH p world kept {S with steps:=S.steps+1})):=by
    rw[hR];show KB (if true=true/\S.kind=0 then _ else (S,true))=_;rw[aai ⟨rfl,hk⟩]
   have sI:=zbW (world:=world) (kept:=kept) g I hne;have sN:=ze3 (world:=world) (kept:=kept) gf hw64 I.low N;have sE:=Pu p world kept {S with steps:=S.steps+1} hk;have sT:=(LA p world kept {S with steps:=S.steps+1}).steps;refine CK (ze4 (nn:=S.steps.toNat) (S:={S with steps:=S.steps+1}) hp hw g gf ⟨ok2.fr,ok2.at_,ok2.low,ok2.many,ok2.lk,ok2.ev,ok2.used,ok2.mem,ok2.gl⟩ ⟨N.fr,N.mem⟩ hw64 hwl hk (by omega) hkept h16 ⟨ev,lk,sv,rvs,rv,ini,c,e,hl,s2⟩) ?_;rintro v h3 ⟨ok,rfl,x3⟩;generalize kH p world kept {S with steps:=S.steps+1} = r at hR2 sI sN sE sT x3;obtain⟨T,b2⟩:=r;dsimp only at sI sN sE sT x3;by_cases q:b2=true/\T.kind=0
   ·rw[aai q]at x3;obtain⟨rfl,x3⟩:=x3;obtain⟨rfl,q⟩:=q;simp only[EE,ne_eq,dF,dG,dH];exact⟨m,by omega,.inl ⟨T,by rw[sT,show(S.steps+1).toNat=S.steps.toNat+1 by omega];exact x3,sI rfl,sN,sE rfl q,q,by rw[sT];omega,hR2⟩⟩
   ·rw[aac q]at x3;obtain⟨S',ev',lk',sv',s3,E⟩:=x3;rw[IZ m q]at hR2
    have hk9:R.kind≠0:=by
     rw[hR2];unfold KB;by_cases hb:b2=true
     ·rw[aai hb];exact λz=>q ⟨hb,z⟩
     ·rw[aac hb];show(3:Int)≠0;decide
    have ex:R.exit=T.exit:=(by rw[hR2];unfold KB;split <;> rfl);have ee:R.ev=T.ev:=(by rw[hR2];unfold KB;split <;> rfl);have el:R.lk=T.lk:=(by rw[hR2];unfold KB;split <;> rfl);have es:R.steps=T.steps:=(by rw[hR2];unfold KB;split <;> rfl);have ek:=E.kind;rw[<- hR2]at ek;have gm3:=s3.get;unfold xK yB at gm3;cases ok with
    |true=>
     rw[aac (by simp)]at ek;simp only[EE,ne_eq,dF,dG,dH];exact⟨m,by omega,.inr ⟨⟨S',ev',lk',sv',s3,ek,E.exit.trans ex.symm,E.ev.trans ee.symm,E.lk.trans el.symm,E.steps.trans es.symm⟩,hk9⟩⟩
    |false=>
     by_cases k0:S'.kind=0
     ·rw[aai ⟨rfl,k0⟩]at ek;simp only[EE,zw,zj,Ws,jY,YN,He,dF,dG,dH,gm3,k0];refine yw s3 (by simp) rfl λh4 s4=>?_;simp only[EE,ne_eq];exact⟨m,by omega,.inr ⟨⟨{S' with kind:=3},ev',lk',sv',s4,ek,E.exit.trans ex.symm,E.ev.trans ee.symm,E.lk.trans el.symm,E.steps.trans es.symm⟩,hk9⟩⟩
     ·rw[aac (λz=>k0 z.2)]at ek;simp only[EE,ne_eq,zw,zj,jY,YN,dF,dG,dH,gm3,k0];exact⟨m,by omega,.inr ⟨⟨S',ev',lk',sv',s3,ek,E.exit.trans ex.symm,E.ev.trans ee.symm,E.lk.trans el.symm,E.steps.trans es.symm⟩,hk9⟩⟩
 ·have xx:=x;obtain⟨S',ev,lk,sv,s,e1,e2,e3,e4,e5⟩:=x;have gm:=s.get;unfold xK yB at gm;have hk:¬S'.kind=0:=by rw[e1];exact hk
  simp only[EE,zw,zj,jY,YN,gm,hk];exact k h' xx
end
open Go.Rtl (qP wF Old inc)
theorem O7:∀(ns:List Int) (M:MM) (l:List Int),fJ M->fJ (xI ns M l).1
 |[],M,l,h=>h
 |n::ns,M,l,h=>O7 ns _ _ (R6 (cC n h))
theorem zbn:fJ []:=λi B h=>(by cases h)
def nX(p:Pg)(args:List Int):Fr:=⟨p.main.toNat,wt (vJ p).params (args.map u6) [],(zV (uq p).mem (vJ p).frame).2.1,(vJ p).entry⟩
theorem start_eq{p:Pg}(g:NO p)(args:List Int):qV p args=if (zV (uq p).mem (vJ p).frame).2.2=0 then ({uq p with mem:=(zV (uq p).mem (vJ p).frame).1,calls:=[nX p args]},true) else ({uq p with mem:=(zV (uq p).mem (vJ p).frame).1},false):=by
 show wI p (uq p) p.main (args.map u6)=_;unfold wI;rw[aac (by show ¬20000<=0;omega),g.vJ];rfl
theorem zc5{p:Pg}{args:List Int}(g:NO p)(gf:∀f,f∈p.funcs->GF f)(ha:∀z,z∈args->wg z):StN p {uq p with mem:=(zV (uq p).mem (vJ p).frame).1,calls:=[nX p args]}:=by
 have fm:=aau g.vJ;refine⟨λc hc=>?_,cC _ (O7 _ _ _ zbn)⟩;have hc:c∈[nX p args]:=hc;simp only[aaR]at hc;subst hc;refine⟨?_,CC _ _ _ (λv hv=>?_) (λv hv=>by cases hv)⟩
 ·have er:xo p (nX p args).f=(vJ p).zf.toNat:=by unfold xo nX;rw[g.vJ];rfl
  rw[er];exact Xt _ _ _ (by simp) λr hr=>by have:=(gf _ fm).par r hr;omega
 ·simp only[abm]at hv;obtain⟨n,hn,rfl⟩:=hv;exact ha n hn
section
variable {lo:yP}{h:za}{L:List HP}{m:Nat}
theorem zaA(s:Sat lo h (pt m (.cells [pp,pp] 61)::L)):Sat lo h (kU m [] 0::L) :=
 Vh (lv := pp) (pv := pp) (bvs:=[]) (bl:=[]) (ps:=[]) ⟨rfl,λi b B h=>(by cases h)⟩ (aam _) ⟨(vK 114 2 (vK 69 3 s)).f [2,0,1],rfl⟩
variable {p:Pg}{av wv:aaa}{args world:List Int}{fuel:Int}{kept:Option (Int->Bool)}{ltl B B0:Bool}
def tM(h:za)(p:Pg)(args world:List Int)(kept:Option (Int->Bool))(fuel:Int)(B:Bool)(v:aaa)(h':za):Prop:=if B=true /\ ¬bL (vJ p) args fuel then GG h (runM p args world kept fuel.toNat) v h' else GC h v h'
theorem zgm(P:wG h p)(ha:zL h av args)(hw:zL h wv world)(hwl:world.length<=2^47)(G0:∀h',Old h h'->yX pu 16 [p.val] h' (.bool B0))(G1:ltl=true->∀h',Old h h'->yX pu 23 [p.val] h' (.bool B))(hB:ltl=false->B=B0)
  (hg:B=true->NO p/\(∀f,f∈p.funcs->GF f)/\(ltl=true->∀f,f∈p.funcs->16<=f.zf)) (hw64:∀z,z∈world->wg z) (ha64:∀z,z∈args->wg z) (hkept:kept=if ltl=true then some VZ else none) :
  DC pu 10 [p.val,av,wv,pm fuel,.bool ltl] h (tM h p args world kept fuel B):=by
 apply Wc;intro wf;apply Af;unfold Hb;have s0:Sat (.of h) h []:=Sat.self wf.2;have RP:Rd (.of h) (wG · p):=Rd.of (yP.jS h) P λh' o=>P.old o;have RA:Rd (.of h) (zL · av args):=Rd.of (yP.jS h) ha λh' o=>ha.old o;have RW:Rd (.of h) (zL · wv world):=Rd.of (yP.jS h) hw λh' o=>hw.old o;have RG:Rd (.of h) (λh'=>yX pu 16 [p.val] h' (.bool B0)):=λh' b=>G0 h' (by obtain⟨a,c,d⟩:=(yP.jS h).old b;exact⟨a,c,d⟩);have gvn:=P.globals.wO;have gvc:=P.globals.iH;have fvn:=P.funcs.wO;have fvc:=P.funcs.iH;have avn:=ha.wO;have avc:=ha.iH;have wvn:=hw.wO;have wvc:=hw.iH
 have al:∀r H,zv pu .len [26] r [av] H=some (pm args.length,H):=λr H=>by
  rcases ha with⟨rfl,rfl⟩|⟨_,_,_,rfl,_⟩
  ·simp only[fH,aaz]
  ·simp only[fH]
 simp only[EE,Value.cells,Bi];refine uL s0 λb5 h2 s2=>?_;simp only[EE,ya,Wv];refine uL s2 λb10 h4 s4=>?_;have g5:=(s4.p 1).get;simp only[EE,aad,Nat.reduceAdd,g5];refine Bv (by simp only[yD];rfl) (RG.at s4) ?_
 have bad:¬(B=true /\ ¬bL (vJ p) args fuel)->∀j,gj (pi b10) h4 (tM h p args world kept fuel B) j:=by
  intro hb j;unfold gj;have hres:∀v H,GC h v H->tM h p args world kept fuel B v H:=λv H z=>by unfold tM;rw[aac hb];exact z
  simp only[EE,Nat.reduceAdd,eX,Mz];refine yw s4 (by simp) rfl λh5 s5=>?_;have g6:=s5.get;simp only[EE,zb,aad,Nat.reduceAdd,ya,JE,g6];exact hres _ _ ⟨rfl,s5.zO 0⟩
 have rest:Ae av (pi b5) (pm fuel) (pi b10) (tM h p args world kept fuel B) wv (.bool ltl) [.bool B] h4:=by
  unfold Ae;cases hBt:B with
  |false=>
   rw[hBt]at bad;simp only[EE,nth,Ja,Jb,t8,Aa,Ab,Ac,Ad];exact bad (by simp) _
  |true=>
  rw[hBt]at bad;obtain⟨g,gf,h16⟩:=hg hBt;have hf:=g.vJ;have P4:=RP.at s4;obtain⟨bf,o,cf,tf,hix,hbf,hgf,hof,htf,hkf⟩:=zE.eY P4.funcs (i:=p.main.toNat) (r:=(vJ p).row) (by rw[aaq,hf];rfl) rfl;have hmn:((p.main.toNat:Nat):Int)=p.main:=by have:=g.main;omega
  rw[hmn]at hix;have k1:=hkf 1 (by decide);have fm:=aau hf;have pn:=(P4.fns _ fm).params.wO;have pl:∀H,zv pu .len [22] 3 [(vJ p).pv] H=some (pm (vJ p).params.length,H):=λH=>(P4.fns _ fm).params.len H;simp only[EE,nth,zw,yV,ur,zj,xB,Xe,uP,t8,Aa,Ab,Ac,Ad,g5,avn,al,hix,hgf,k1,pn,pl];by_cases e1:¬(args.length:Int)=((vJ p).params.length:Int)
  ·simp only[EE,Ja,Jb,e1];exact bad (λz=>z.2 (.inl (by omega))) _
  have e1:(args.length:Int)=((vJ p).params.length:Int):=acf.1 e1;by_cases e2:fuel<0
  ·simp only[EE,Ja,Jb,e1,e2];exact bad (λz=>z.2 (.inr (.inl e2))) _
  by_cases e3:fuel>10000000
  ·simp only[EE,Ja,Jb,e1,e2,e3];exact bad (λz=>z.2 (.inr (.inr (by omega)))) _
  have nb:¬bL (vJ p) args fuel:=by unfold bL;omega
  clear bad
  have bd:∀q1,z9 pu 64 [(0,.agg #[p.gv,p.fv,pm p.main]),(1,.pointer q1),(3,wv),(6,.bool ltl)]=some (.agg #[p.gv,p.fv,pm p.main,.pointer q1,pm 0,pm 0,pp,pp,pm 0,wv,pm 0,pp,.bool ltl,pp]):=by
   obtain⟨a1,n1,c1,q1⟩:=zL.shape P.globals;obtain⟨a2,n2,c2,q2⟩:=zE.shape P.funcs;obtain⟨a3,n3,c3,q3⟩:=zL.shape hw;rw[q1,q2,q3];exact λ_=>CX _ _ _ _ _ _ _ _ _ _ _ _
  simp only[EE,Value.cells,aad,Nat.reduceAdd,ya,Wv,zei,Hh,Ja,Jb,e1,e2,e3,g5];refine uL s4 λmb h6 s6=>?_;simp only[EE,Value.cells,↓BK,wvn,bd];refine uL s6 λb h8 s8=>?_;have s8:=vK 3 1 ((zaA (s8.p 1)));have g9:=(s8.p 4).get;have PG:=(RP.at s8).globals;have gl9:∀H,zv pu .len [22] 3 [p.gv] H=some (pm p.globals.length,H):=λH=>PG.len H;simp only[]
  refine qQ (λm vs h'=>∃(i:Nat) (gl:aaa),i<=p.globals.length/\m=p.globals.length-i/\vs=[pm (i:Nat)]/\Sat (.of h) h' [yW 3 1 gl ((xI (p.globals.take i) [] []).2.map yb),kU mb (xI (p.globals.take i) [] []).1 0,pt b (xK p mb (uq p) (pp) (pp) wv (pp) gl ltl),pt b10 (.cells [pm 0,pm 0,pp,pp,pm 0] 33),pt b5 (.cells p.row 25)])
   p.globals.length ⟨0,pp,aa8 _,rfl,rfl,s8⟩ ?_
  rintro m vs h' ⟨i,gl,hi,rfl,rfl,s10⟩;obtain⟨gm,gll,gb⟩:=tz (p.globals.take i) [] [] B3 (λz h=>by cases h);have g200:=g.globals;have hlen:(p.globals.take i).length=i:=by simp;omega
  have g5':=(s10.p 4).get;unfold N3;by_cases hc:(i:Int)<(p.globals.length:Int)
  ·obtain⟨r,hr1⟩:∃r,p.globals[i]? = some r:=⟨_,aae (by omega)⟩;obtain⟨b11,o11,c11,t11,ix11,lt11,g11,k11⟩:=(RP.at s10).globals.at hr1;have gM:=(s10.p 2).get;unfold xK yB at gM;have et:p.globals.take (i+1)=p.globals.take i++[r]:=by rw[ab1,hr1];rfl
   have e1:=lU (p.globals.take i) r [] [];rw[<- et]at e1;have a:=Qm r gm;simp only[EE,nth,↓BK,zw,yV,zj,Bd,x9,bX,N1,N2,g5',gvn,gl9,hc,ix11,g11,k11,gM];obtain⟨lo1,l1,s11,fr⟩:=(s10.f [1]).call (L2:=[kU mb (xI (p.globals.take i) [] []).1 0]);refine Iu (OA s11 r) ?_;rintro v h12 ⟨rfl,s12⟩;have s13:=fr _ _ s12;have gM:=(s13.p 2).get;unfold xK yB at gM;simp only[EE,zw,Bd,bX,gu,gM];obtain⟨lo2,l2,s14,fr2⟩:=s13.call (L2:=[kU mb (zV (xI (p.globals.take i) [] []).1 r).1 0]);refine CK (zfh s14 a.1.2.1 a.1.1 (zV (xI (p.globals.take i) [] []).1 r).2.1) ?_;rintro v h15 ⟨rfl,s15⟩;have s16:=fr2 _ _ s15;have gM:=(s16.p 2).get;unfold xK yB at gM;have gn:=xN (s16.p 1);have s17:=s16.push (.cells [pm (zV (xI (p.globals.take i) [] []).1 r).2.1] 3);obtain⟨b',c',h18,a1,s18⟩:=jz (s17.p 2) (uB (f:=yb) (λ_=>rfl) _) [pm (zV (xI (p.globals.take i) [] []).1 r).2.1] rfl (by decide) 8 (by rw[aaf,gll];simp;omega);rw[aaf]at a1 s18
   have hap:∀r',zv pu .append [22,22] r' [gl,.slice (some ⟨h15.next,0,none⟩) 1 3] (h15.push (.cells [pm (zV (xI (p.globals.take i) [] []).1 r).2.1] 3))=some (.slice (some ⟨b',0,none⟩) ((xI (p.globals.take i) [] []).2.length+1) c',h18):=λr'=>
    (TW r' _ _ 1 [pm (zV (xI (p.globals.take i) [] []).1 r).2.1] _ rfl (by simp only[wJ,zk];rfl) rfl rfl).trans a1
   simp only[EE,zw,yV,OE,JG,O2,gk,gM,gn,hap];refine yw (s18.p 3) (by simp) rfl λh19 s19=>?_;simp only[EE,nth,inc (show i<4611686018427387904 by omega)];refine⟨p.globals.length-(i+1),by omega,i+1,.slice (some ⟨b',0,none⟩) ((xI (p.globals.take i) [] []).2.length+1) c',by omega,rfl,rfl,?_⟩;rw[e1];rw[abp];exact s19.k [1,3,0,4,5]
  ·have hi9:i=p.globals.length:=by omega
   subst hi9;rw[acj]at s10;simp only[EE,nth,↓BK,zw,yV,x9,g5',gvn,gl9,hc];have hp1:=g.par _ fm
   refine qQ (λm vs h'=>∃(i:Nat) (lv:aaa),i<=args.length/\m=args.length-i/\vs=[lv,pm (i:Nat)]/\Sat (.of h) h' [yW 69 3 lv (((args.take i).map u6).map V.zY),yW 3 1 gl ((xI p.globals [] []).2.map yb),kU mb (xI p.globals [] []).1 0,pt b (xK p mb (uq p) (pp) (pp) wv (pp) gl ltl),pt b10 (.cells [pm 0,pm 0,pp,pp,pm 0] 33),pt b5 (.cells p.row 25)])
    args.length ⟨0,pp,aa8 _,rfl,rfl,vK _ _ s10⟩ ?_
   rintro m vs h9 ⟨i,lv,hi,rfl,rfl,s11⟩;unfold Hc;by_cases hc2:(i:Int)<(args.length:Int)
   ·obtain⟨r,hr1⟩:∃r,args[i]? = some r:=⟨_,aae (by omega)⟩;have et:(args.take i).map u6++[u6 r]=(args.take (i+1)).map u6:=by rw[ab1,hr1];simp
    have hlen2:(args.take i).length=i:=(by simp;omega);obtain⟨qa,oa,pa,ca,ta,hav,lta,ga,ka⟩:=zfR (RA.at s11) hr1;have hi8:(0:Int)<=i:=by omega
    have avn':zU (.slice (some ⟨qa,oa,none⟩) args.length pa)=false:=rfl;have al':∀r H,zv pu .len [26] r [.slice (some ⟨qa,oa,none⟩) args.length pa] H=some (pm args.length,H):=by rw[<- hav];exact al
    rw[hav];simp only[EE,nth,↓BK,aad,zw,xi,Pa,N5,al',hc2,hi8,ga,ka,abh,aax];refine yp (Z0 r _) ?_;have ln:=xN s11;obtain⟨b',c',h2,hap,s18⟩:=Px s11 (by rw[aaf,hlen2];omega) (u6 r);rw[et,aaf]at s18;simp only[EE,nth,UJ,N4,N6,vv,ln,hap,inc (show i<4611686018427387904 by omega)];exact⟨args.length-(i+1),by omega,i+1,_,by omega,rfl,rfl,s18⟩
   ·have hi9:i=args.length:=(by omega);subst hi9;rw[acj]at s11;have gb5:=(s11.p 5).get;have lvn:=xN s11;simp only[EE,nth,↓BK,Int.reduceNeg,zw,zj,Xe,zj,Xe,Hg,al,avn,hc2,gb5];obtain⟨lo1,l1,ra,s12,back⟩:=ry s11 (wP _);have s13:=vK 116 5 s12;obtain⟨lo2,l2,s14,fr⟩:=(s13.f [3,0,2]).call (L2:=[pt b (xK p mb (uq p) (pp) (pp) wv (pp) gl ltl),yW 116 5 (pp) (qS [] []),kU mb (xI p.globals [] []).1 0]);have fr5:=(gf _ fm).zf;have en:=OU (S:=uq p) (k:=p.main.toNat) (rvs:=[]) (ds:=[]) (dst := -1) (args:=args.map u6) (RP.mono (l1.trans l2)) (ra.mono l2) s14 hf (by rw[aaf];omega) rfl (by decide) (gf _ fm).par ⟨fr5.1,by omega⟩ hp1.1;rw[hmn]at en;refine nD (by simp only[yD,lvn,aaJ];rfl) en ?_;intro v h15 x15;have hres:∀v H,GG h (runM p args world kept fuel.toNat) v H->tM h p args world kept fuel true v H:=λv H z=>by unfold tM;rw[aai ⟨rfl,nb⟩];exact z
    have K:∀(lo3:yP) (fr3:∀h' L',Sat lo3 h' L'->Sat lo1 h' (L'++[pt b10 (.cells [pm 0,pm 0,pp,pp,pm 0] 33),pt b5 (.cells p.row 25)])) h',zcb lo3 h' p b mb wv gl ltl (runM p args world kept fuel.toNat)->t7 (pi b) (pi b10) (tM h p args world kept fuel true) [] h':=by
     rintro lo3 fr3 h' ⟨S',ev,lk,sv,s20,e1,e2,e3,e4,e5⟩;have s21:=fr3 _ _ s20;have g22:=s21.get;unfold xK yB at g22;have en:=xN (s21.p 1);have ec:=ZB (s21.p 1);have kn:=xN (s21.p 2);have kc:=ZB (s21.p 2);unfold t7;simp only[EE,aad,Nat.reduceAdd,Nat.reduceLeDiff,ya,JE,eX,YN,g22];refine yw (s21.p 3) (by simp) (by simp[ec,kc];exact⟨rfl,rfl,rfl⟩) λh24 s24=>?_;have g24:=s24.get;simp only[EE,zb,aad,Nat.reduceAdd,ya,JE,g24];refine hres _ _ ⟨ev,lk,by rw[<- e1,<- e2,<- e5];rfl,?_⟩;rw[<- e3,<- e4];exact(back _ _ (s24.k [2,3])).drop
    have RPl:∀{lo3:yP},lo1.Le lo3->Rd lo3 (wG · p):=λl3=>RP.mono (l1.trans l3);have es:=start_eq g args;by_cases ha0:(zV (xI p.globals [] []).1 (vJ p).frame).2.2=0
    ·rw[aai ⟨ha0,by decide⟩]at x15;obtain⟨rv,sv',x15⟩:=x15;rw[aai (show(zV (uq p).mem (vJ p).frame).2.2=0 from ha0)]at es;have s16:=vK 74 3 (vK 97 2 (fr _ _ x15));have er:xo p (nX p args).f=(vJ p).zf.toNat:=by unfold xo nX;rw[hf];rfl
     have hrow:qH p [] [] rv (nX p args)=qS [] []++[kL rv ⟨p.main,(vJ p).entry,uo (vJ p).zf.toNat (wt (vJ p).params (args.map u6) []),(zV (xI p.globals [] []).1 (vJ p).frame).2.1,-1⟩]:=by
      unfold qH Uo kL nX;simp only[hmn];rfl
     obtain⟨S0,hS0⟩:∃S0:St,S0 = {uq p with mem:=(zV (uq p).mem (vJ p).frame).1,calls:=[nX p args]}:=⟨_,rfl⟩
     have s17:Sat lo1 h15 (Wh p b mb 0 wv gl ltl S0 (pp) (pp) sv' (qH p [] [] rv (nX p args)) rv (uo (xo p (nX p args).f) (nX p args).zf)++[pt b10 (.cells [pm 0,pm 0,pp,pp,pm 0] 33),pt b5 (.cells p.row 25)]):=by
      rw[hrow,er,hS0];exact s16.f [2,1,0,3,5,4,6]
     obtain⟨lo3,l3,s19,fr3⟩:=s17.call;refine zbk (RPl l3) (RW.mono (l1.trans l3)) g gf hw64 hwl hkept h16 (by omega) (by omega) (R:=runM p args world kept fuel.toNat) (S0:=S0) (.inl ⟨⟨.slice none 0 0,pp,sv',[],rv,[],nX p args,by rw[hS0];rfl,rfl,s19⟩,?_,by rw[hS0];exact zc5 g gf ha64,by rw[hS0];simp,by rw[hS0];rfl,by rw[hS0];rfl,?_⟩) (K lo3 fr3)
     ·have:=Pt g args (by rw[es]);rw[es]at this;rw[hS0];exact this
     ·unfold runM;rw[es,hS0]
    ·rw[aac (λz=>ha0 z.1)]at x15;rw[aac (show ¬(zV (uq p).mem (vJ p).frame).2.2=0 from ha0)]at es;have s16:=vK 74 3 (vK 97 2 (fr _ _ x15));obtain⟨lo3,l3,s19,fr3⟩:=((s16.k [2,1,0,4,5])).call (L2:=[pt b (xK p mb {uq p with kind:=3} (pp) (pp) wv (pp) gl ltl),yW 97 2 (pp) [],yW 74 3 (pp) []]) (L1:=[pt b10 (.cells [pm 0,pm 0,pp,pp,pm 0] 33),pt b5 (.cells p.row 25)])
     have hR:runM p args world kept fuel.toNat = {uq p with mem:=(zV (uq p).mem (vJ p).frame).1,kind:=3}:=by
      unfold runM;rw[es,IZ _ (by simp)];rfl
     refine zbk (RPl l3) (RW.mono (l1.trans l3)) g gf hw64 hwl hkept h16 (by omega) (by omega) (R:=runM p args world kept fuel.toNat) (S0:=uq p) (.inr ⟨⟨{uq p with kind:=3},pp,pp,pp,s19,?_⟩,?_⟩) (K lo3 fr3)
     ·rw[hR];exact⟨rfl,rfl,rfl,rfl,rfl⟩
     ·rw[hR];show(3:Int)≠0;decide
 unfold Hi;cases ltl with
 |false=>
  have:=hB rfl;subst this;simp only[EE];exact rest
 |true=>
  have RG1:Rd (.of h) (λh'=>yX pu 23 [p.val] h' (.bool B)):=λh' b=>G1 rfl h' (by obtain⟨a,c,d⟩:=(yP.jS h).old b;exact⟨a,c,d⟩);simp only[EE,aad,Nat.reduceAdd,ya,Wv,g5];refine Bv (by simp only[yD];rfl) (RG1.at s4) ?_;exact rest
end
end Go.Dm
namespace Go.Rtl
open Go.Ai Go.Proofs
open Go.Mem (wg)
theorem zdM{z:Int}(h:(Lit.int .i64 z).wf=true):wg z:=by
 have : -9223372036854775808<=z/\z<=9223372036854775807:=by simpa [Lit.wf,IntKind.min,IntKind.max,IntKind.signed,IntKind.bits] using h
 unfold wg;omega
section
variable {h:za}(hw:∀b o,h.get b=some o->b<h.next)
include hw
theorem rd_i64s2{a:aaa}(r:fZ pu h 26 [a]):∃l:List Int,zL h a l/\l.length*8<=140737488351232 /\ ∀z,z∈l->wg z:=by
 rcases Cv Tryz.underlying26 c2 y2 (by decide) r with e|⟨b,off,len,e,hl,hc⟩
 ·simp only[abE,abc]at e;exact⟨[],.inl ⟨e,rfl⟩,aa8 _,λz hz=>(by cases hz)⟩
 ·simp only[abE,abc]at e;subst e;rw[Cn]at hl;by_cases h0:0<len
  ·obtain⟨c,t,hg,hat⟩:=hc h0
   obtain⟨l,e1,e2⟩:=F7 (n:=len) (Q:=λi (z:Int)=>c[off+i]? = some (pm z)/\wg z) λi hi=>by
    obtain⟨h1,h2⟩:=hat i hi;obtain⟨z,hz,kz⟩:=rw_int Tryz.underlying2 h2;rw[abh]at hz;exact⟨z,Lc hz,zdM kz⟩
   refine⟨l,.inr ⟨b,off,0,by rw[e1],λ_=>⟨c,t,hw b _ hg,hg,λi z hz=>(e2 i z hz).1⟩⟩,by omega,λz hz=>?_⟩;obtain⟨k,hk,rfl⟩:=List.getElem_of_mem hz;exact(e2 k _ (aae hk)).2
  ·have:len=0:=by omega
   subst this;exact⟨[],.inr ⟨b,off,0,rfl,λq=>absurd rfl q⟩,aa8 _,λz hz=>(by cases hz)⟩
theorem zc1{cs:List aaa}(r:fZ pu h 53 cs):∃x:xG,cs=x.row/\wF h x/\wg x.k:=by
 obtain⟨hl,hf⟩:=rm Tryz.underlying53 r;rw[c50]at hl
 match cs,hl with
 |[a0,a1,a2,a3,a4,a5,a6,a7,a8],_=>
  have f0:fZ pu h 3 (([a0,a1,a2,a3,a4,a5,a6,a7,a8].drop 0).take (Tryz.prog.cellsOf 3)):=hf _ (aa2 (i:=0) rfl);have f1:fZ pu h 3 (([a0,a1,a2,a3,a4,a5,a6,a7,a8].drop 1).take (Tryz.prog.cellsOf 3)):=hf _ (aa2 (i:=1) rfl);have f2:fZ pu h 3 (([a0,a1,a2,a3,a4,a5,a6,a7,a8].drop 2).take (Tryz.prog.cellsOf 3)):=hf _ (aa2 (i:=2) rfl);have f3:fZ pu h 3 (([a0,a1,a2,a3,a4,a5,a6,a7,a8].drop 3).take (Tryz.prog.cellsOf 3)):=hf _ (aa2 (i:=3) rfl);have f4:fZ pu h 3 (([a0,a1,a2,a3,a4,a5,a6,a7,a8].drop 4).take (Tryz.prog.cellsOf 3)):=hf _ (aa2 (i:=4) rfl);have f5:fZ pu h 2 (([a0,a1,a2,a3,a4,a5,a6,a7,a8].drop 5).take (Tryz.prog.cellsOf 2)):=hf _ (aa2 (i:=5) rfl);have f6:fZ pu h 22 (([a0,a1,a2,a3,a4,a5,a6,a7,a8].drop 6).take (Tryz.prog.cellsOf 22)):=hf _ (aa2 (i:=6) rfl);have f7:fZ pu h 3 (([a0,a1,a2,a3,a4,a5,a6,a7,a8].drop 7).take (Tryz.prog.cellsOf 3)):=hf _ (aa2 (i:=7) rfl);have f8:fZ pu h 3 (([a0,a1,a2,a3,a4,a5,a6,a7,a8].drop 8).take (Tryz.prog.cellsOf 3)):=hf _ (aa2 (i:=8) rfl);simp only[c2,c3,c22,abA,aco,aaV,acI]at f0 f1 f2 f3 f4 f5 f6 f7 f8;obtain⟨z0,e0,_⟩:=rw_int Tryz.underlying3 f0;obtain⟨z1,e1,_⟩:=rw_int Tryz.underlying3 f1;obtain⟨z2,e2,_⟩:=rw_int Tryz.underlying3 f2;obtain⟨z3,e3,_⟩:=rw_int Tryz.underlying3 f3;obtain⟨z4,e4,_⟩:=rw_int Tryz.underlying3 f4;obtain⟨z5,e5,k5⟩:=rw_int Tryz.underlying2 f5;obtain⟨z7,e7,_⟩:=rw_int Tryz.underlying3 f7;obtain⟨z8,e8,_⟩:=rw_int Tryz.underlying3 f8;obtain⟨l,S,hl⟩:=Gf hw f6;simp only[abE,abc]at e0 e1 e2 e3 e4 e5 e7 e8;subst e0 e1 e2 e3 e4 e5 e7 e8;exact⟨⟨z0,z1,z2,z3,z4,z5,a6,l,z7,z8⟩,rfl,⟨S,hl⟩,zdM k5⟩
theorem zeV{cs:List aaa}(r:fZ pu h 45 cs):∃f:Fn,cs=f.row/\qP h f /\ ∀x,x∈f.code->wg x.k:=by
 obtain⟨hl,hf⟩:=rm Tryz.underlying45 r;rw[c45]at hl
 match cs,hl with
 |[a0,a1,a2,a3,a4,a5],_=>
  have f0:fZ pu h 9 (([a0,a1,a2,a3,a4,a5].drop 0).take (Tryz.prog.cellsOf 9)):=hf _ (aa2 (i:=0) rfl);have f1:fZ pu h 22 (([a0,a1,a2,a3,a4,a5].drop 1).take (Tryz.prog.cellsOf 22)):=hf _ (aa2 (i:=1) rfl);have f2:fZ pu h 3 (([a0,a1,a2,a3,a4,a5].drop 2).take (Tryz.prog.cellsOf 3)):=hf _ (aa2 (i:=2) rfl);have f3:fZ pu h 3 (([a0,a1,a2,a3,a4,a5].drop 3).take (Tryz.prog.cellsOf 3)):=hf _ (aa2 (i:=3) rfl);have f4:fZ pu h 3 (([a0,a1,a2,a3,a4,a5].drop 4).take (Tryz.prog.cellsOf 3)):=hf _ (aa2 (i:=4) rfl);have f5:fZ pu h 43 (([a0,a1,a2,a3,a4,a5].drop 5).take (Tryz.prog.cellsOf 43)):=hf _ (aa2 (i:=5) rfl);simp only[c3,c9,c22,c43,abA,aco,aaV,acI]at f0 f1 f2 f3 f4 f5;obtain⟨s,e0,_⟩:=Sl Tryz.underlying9 f0;obtain⟨z2,e2,_⟩:=rw_int Tryz.underlying3 f2;obtain⟨z3,e3,_⟩:=rw_int Tryz.underlying3 f3;obtain⟨z4,e4,_⟩:=rw_int Tryz.underlying3 f4;obtain⟨l,S,hl⟩:=Gf hw f1;obtain⟨code,C,hc,hi⟩:=Pq hw Tryz.underlying43 c50 y50 (by decide) (by decide) (λcs r=>zc1 hw r) f5;simp only[abE,abc]at e0 e2 e3 e4;subst e0 e2 e3 e4;exact⟨⟨s,a1,l,z2,z3,z4,a5,code⟩,rfl,⟨S,hl,C,hc,λx hx=>(hi x hx).1⟩,λx hx=>(hi x hx).2⟩
theorem rd_pg2{cs:List aaa}(r:fZ pu h 25 cs):∃p:Pg,cs=p.row/\wG h p /\ ∀f,f∈p.funcs->∀x,x∈f.code->wg x.k:=by
 obtain⟨hl,hf⟩:=rm Tryz.underlying25 r;rw[c25]at hl
 match cs,hl with
 |[a0,a1,a2],_=>
  have f0:fZ pu h 22 (([a0,a1,a2].drop 0).take (Tryz.prog.cellsOf 22)):=hf _ (aa2 (i:=0) rfl);have f1:fZ pu h 23 (([a0,a1,a2].drop 1).take (Tryz.prog.cellsOf 23)):=hf _ (aa2 (i:=1) rfl);have f2:fZ pu h 3 (([a0,a1,a2].drop 2).take (Tryz.prog.cellsOf 3)):=hf _ (aa2 (i:=2) rfl);simp only[c3,c22,c23,abA,aco,aaV,acI]at f0 f1 f2;obtain⟨l,S,hl⟩:=Gf hw f0;obtain⟨fs,C,hc,hi⟩:=Pq hw Tryz.underlying23 c45 y45 (by decide) (by decide) (λcs r=>zeV hw r) f1;obtain⟨z2,e2,_⟩:=rw_int Tryz.underlying3 f2;simp only[abE,abc]at e2;subst e2;exact⟨⟨a0,l,a1,fs,z2⟩,rfl,⟨S,hl,C,hc,λx hx=>(hi x hx).1⟩,λx hx=>(hi x hx).2⟩
end
end Go.Rtl
namespace Go.Dm
open Go.Ai Go.Proofs Go.Mem Go.Rm
open Go.Rtl (xG Pg zB wr uF u9 Xw jy X7 V7 Kl Ku Wp xA iJ KK me ZA lN ni V0 fK lA lB lC Qw KL)
theorem zfY{p:Pg}(h:Xw p=true)(k:∀f,f∈p.funcs->∀x,x∈f.code->wg x.k):∀f,f∈p.funcs->GF f:=by
 unfold Xw at h;rw[aaj,aaj,aaF,aaF]at h;intro f hf;have h3:=h.2.2 f hf;rw[aaj]at h3;have r:=h3.1;unfold jy at r;rw[aaj,aaj,aaF]at r;have hs:=r.1;unfold KK at hs;simp only[aaj,aaC,aaL]at hs;refine⟨λx hx=>?_,(EJ r.2.1).2,by omega⟩;have q:=r.2.2 x hx;unfold X7 at q;simp only[aaj,aaF]at q;obtain⟨q0,q1,_,u,m⟩:=q;have u:∀r,r∈uF x->0<=r/\r<f.zf:=λr hr=>Qu (u r hr);refine⟨λha=>?_,λhb=>?_,λhn=>?_,λhn=>?_,λh10 r hr=>?_,λhw=>?_,k f hf x hx,λh11=>?_⟩
 ·by_cases e:x.a = -1
  ·exact .inr e
  ·exact .inl (u _ (by unfold uF lA;rw[aai ⟨ha,e⟩];simp))
 ·by_cases e:x.b = -1
  ·exact .inr e
  ·exact .inl (u _ (by unfold uF lB;rw[aai ⟨hb,e⟩];simp))
 ·have ne:¬x.a = -1:=by
   intro e;have m1:=m;unfold V7 lN V0 at m1;rw[e]at m1;rcases hn with z|z|z|z|z|z|z <;> simp[z]at m1
  exact u _ (by unfold uF lA;rw[aai ⟨by unfold Qw;rcases hn with z|z|z|z|z|z|z <;> simp[z],ne⟩];simp)
 ·have ne:¬x.b = -1:=by
   intro e;have m1:=m;unfold V7 ni fK at m1;simp[hn,e]at m1
  exact u _ (by unfold uF lB;rw[aai ⟨by unfold KL;simp[hn],ne⟩];simp)
 ·exact u _ (by unfold uF lC;rw[aai h10];simp[hr])
 ·unfold V7 Kl Ku at m;simp only[aaj,abb,aaT,aaC]at m;rcases m.2.2 with⟨_,e⟩|⟨_,e⟩
  ·exact .inr e
  ·rcases e with e|e
   ·rw[hw]at e;cases e
   ·exact .inl (Qu e)
 ·unfold V7 Kl Wp at m;rw[h11]at m;simp[Go.Rtl.sy]at m;omega
end Go.Dm
