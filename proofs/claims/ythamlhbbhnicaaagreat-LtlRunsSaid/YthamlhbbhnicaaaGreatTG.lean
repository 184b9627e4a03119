/- A part of the proof. -/
import Derived.Test.YthamlhbbhnicaaaGreatTF
set_option linter.unusedVariables false
set_option linter.unusedSimpArgs false
set_option maxRecDepth 100000
namespace Go.Mem
open Go.Ai Go.Proofs
section
variable {h:za}{m:Nat}{bs:aaa}{ps:List Nat}{fs:Nat->Nat->Prop}{M:MM}{F:Nat->Prop}
theorem Gk(x:WT h m bs ps fs M F){n:Int}{i:Nat}(hi:idx M n=some i):n=i+1/\i<M.length /\ ∃q B pg,ps[i]? = some q/\M[i]? = some B/\B.uU=false/\h.get q=some (.cells [pm B.size,pg,.bool B.uU] 123)/\fs i q/\UD h pg B (fs i):=by
 obtain⟨hn,B,hB,hf⟩:=Uw hi
 have hlt:i<M.length:=by
  rcases aar i M.length with a|a
  ·exact a
  ·rw[aal a]at hB;cases hB
 obtain⟨q,hq⟩:∃q,ps[i]? = some q:=⟨_,aae (by rw[x.len];exact hlt)⟩;obtain⟨pg,hbk,fq,hpg⟩:=x.k9 i q B hq hB;exact⟨hn,hlt,q,B,pg,hq,hB,hf,hbk,fq,hpg⟩
theorem WT.swap(x:WT h m bs ps fs M F){h1:za}{i p bb c:Nat}{B:MB}(hbs:bs=.slice (some ⟨bb,0,none⟩) M.length c)(hi:i<M.length)(VS:Xm F h h1)(hp:h.next<=p/\p<h1.next)
  (e1:h1.get m=some (.cells [bs,pm (live (M.set i B))] 116)) (e2:h1.get bb=some (.cells ((ps.set i p).map λp => pi p) 120))
  (e3:h1.get p=some (.cells [pm B.size,pp,.bool B.uU] 123)) (hu:∀k,B.byte k=tZ) (e4:∀b,F b->b≠m->b≠bb->h1.get b=h.get b) :
  WT h1 m bs (ps.set i p) (λk b=>if k=i then b=p else fs k b) (M.set i B) (λb=>F b\/b=p):=by
 have hnew:∀b,h.next<=b->F b->False:=λb hl hb=>by have:=(x.ok b hb).2;omega
 have hlp:=x.len
 have hbb:F bb/\c≠0 /\ ∀i,¬fs i bb:=by
  rcases x.hb with⟨rfl,_⟩|⟨bb',c',r,r1,r2,_,r4⟩
  ·cases hi
  ·rw[hbs]at r;cases r;exact⟨r2,r1,r4⟩
 refine⟨e1,.inl x.fm,by simp[hlp],?_,?_,?_,?_,?_,?_⟩
 ·refine .inr ⟨bb,c,by rw[hbs,aaW],hbb.2.1,.inl hbb.1,e2,λk hk=>?_⟩;split at hk
  ·exact hnew bb (by rw[hk];exact hp.1) hbb.1
  ·exact hbb.2.2 k hk
 ·intro k hk;split at hk
  ·exact hnew m (by rw[hk];exact hp.1) x.fm
  ·exact x.nm k hk
 ·intro k q C hq hC;by_cases e:k=i
  ·subst e;rw[aaM (by omega)]at hq hC;cases hq;cases hC;simp only[aad];exact⟨_,e3,rfl,.empty rfl hu⟩
  ·rw[aa4 (λz=>e z.symm)]at hq hC;simp only[aac e];exact(x.k9 k q C hq hC).zJ (λb hb=>e4 b (x.sub k b hb) (λz=>by subst z;exact x.nm k hb) (λz=>by subst z;exact hbb.2.2 k hb))
 ·intro a b z ha hz;split at ha <;> split at hz
  ·rename_i e1 e2;rw[e1,e2]
  ·exact(hnew z (by rw[ha];exact hp.1) (x.sub b z hz)).elim
  ·exact(hnew z (by rw[hz];exact hp.1) (x.sub a z ha)).elim
  ·exact x.dis a b z ha hz
 ·intro k b hk;split at hk
  ·exact .inr hk
  ·exact .inl (x.sub k b hk)
 ·intro b hb;have n1:=VS.next;have n2:=VS.ro;have o1:=x.ok m x.fm;rcases hb with hb|hb
  ·have:=x.ok b hb;omega
  ·omega
theorem zau{M:MM}{i:Nat}{B B':MB}(h:M[i]? = some B)(hf:B.uU=false)(hf':B'.uU=true):live (M.set i B')+1=live M:=by
 unfold live
 induction M generalizing i with
 |nil=>cases h
 |cons A M ih=>
  cases i with
  |zero=>simp at h;subst h;simp[hf,hf']
  |succ i=>simp at h;simp only[aa9,abS];split <;> simp[<- ih h]
def gone(B:MB):MB:=⟨B.size,true,λ_=>tZ⟩
def qN(M:MM)(n:Int):Option MM:=(idx M n).bind λi=>(M[i]?).map λB=>M.set i (gone B)
def PN(h:za)(m:Nat)(M:MM)(F:Nat->Prop)(n:Int)(r:aaa)(h1:za):Prop:=match qN M n with
 |none=>r=.bool false/\h1=h
 |some M'=>r=.bool true/\Iz h m M' F h1
theorem zeJ(x:WT h m bs ps fs M F)(hL:M.length<=100000){n:Int}(hn:n<9223372036854775808):DC Tryz.prog 96 [pi m,pm n] h (PN h m M F n):=by
 apply Ym;intro hwf;have hro:=hwf.2;apply Tx;unfold zbc;refine y5 (by kernel_rfl) rfl (R8 x hn) ?_;rintro v h1 ⟨rfl,rfl⟩;cases hi:idx M n with
 |none=>
  simp -implicitDefEqProofs only[zD,zN,yg,yZ,wS,qD,Uu,zO,yb,xF,abn,nw,Value.cells,aay,zA,UF,zj,pS,ZP,QT,abn,ZK];unfold PN qN;simp only[hi,abn,and_self]
 |some i=>
  obtain⟨hni,hlt,q,B,pg,hq,hB,hf,hbk,fq,_⟩:=Gk x hi;have hfm:qN M n=some (M.set i (gone B)):=by unfold qN;rw[hi];simp[hB]
  rcases x.hb with⟨rfl,_⟩|⟨bb,c,hbs,hc,fb,hbb,nb⟩
  ·cases hlt
  have hm:=x.hm;have hw:IntKind.wrap .i64 (n-1)=(i:Int):=by rw[ui (by omega) (by omega)];omega
  have hc1:0<=(i:Int)/\(i:Int)<(M.length:Int):=by omega
  have okm:=x.ok m x.fm;have okb:=x.ok bb fb;have hbm:¬bb=m:=by intro e;subst e;rw[hbb]at hm;simp at hm
  have hmb:¬m=bb:=λe=>hbm e.symm;have hb0:¬bb=h1.next:=by omega
  have hm0:¬m=h1.next:=by omega
  have hi1:i+1<=ps.length:=by rw[x.len];omega
  have hlv:=zau (B':=gone B) hB hf rfl;have hl:=SU M;have hll:((live M:Nat):Int)-1=((live (M.set i (gone B)):Nat):Int):=by omega
  have hlw:IntKind.wrap .i64 (((live M:Nat):Int)-1)=((live (M.set i (gone B)):Nat):Int):=by rw[hll];exact ui (by omega) (by omega)
  have hset:∀v:aaa,zb (ps.map λp=>Value.pointer (some ⟨p,0,none⟩)) i [v]=(ps.map λp=>Value.pointer (some ⟨p,0,none⟩)).set i v:=λv=>rfl;rw[hbs]at hm;simp -implicitDefEqProofs only[zD,zN,yg,yr,wS,qD,Uu,zO,yb,xF,yK,qK,lR,aaI,nw,Value.cells,aak,aap,aay,aaE,aaz,aaf,aa6,abC,zb,abl,aa9,aad,abb,Nat.reduceAdd,abg,aam,qC,lY,zt,zK,yJ,zA,aas,UF,zj,zge,WU,Ow,VT,ZP,QT,jD,OW,aaI,ZK,hq,hbk,hm,hw,hc1,hbb,aax,abk,okb,okm,hmb,hi1,hlw];unfold PN;rw[hfm]
  have VS:Xm F h1 (((h1.push (.cells [pm B.size,pp,.bool true] 123)).set bb (some (.cells ((ps.map λp=>Value.pointer (some ⟨p,0,none⟩)).set i (pi h1.next)) 120))).set m
    (some (.cells [.slice (some ⟨bb,0,none⟩) M.length c,pm (live (M.set i (gone B)))] 116))):=(((Xm.refl _ _).push _).set (.inl fb) _).set (.inl x.fm) _
  refine⟨rfl,_,⟨_,_,_,x.swap (p:=h1.next) (B:=gone B) hbs hlt VS ⟨aam _,?_⟩ ?_ ?_ ?_ (λ_=>rfl) ?_⟩,VS,λb hb=>?_⟩
  ·simp only[kf,yD];omega
  ·rw[zR,hbs]
  ·rw[zK hbm,zR,ab5]
  ·have n1:¬h1.next=m:=λe=>hm0 e.symm;have n2:¬h1.next=bb:=λe=>hb0 e.symm;rw[zK n1,zK n2,zk];rfl
  ·intro b hb b1 b2;have:=x.ok b hb;rw[zK b1,zK b2,zt this.2]
  ·rcases hb with hb|hb
   ·exact .inl hb
   ·exact .inr (by omega)
def zc:Cl:=⟨1,0,v0⟩
def UC(B:MB)(k:Nat):MB:={B with byte:=λa=>if a<k then zc else B.byte a}
theorem PK(B:MB):UC B 0=B:=by
 unfold UC
 congr 1
theorem PJ(B:MB)(k:Nat):{UC B k with byte:=Ip (UC B k).byte k zc} = UC B (k+1):=by
 unfold UC Ip;simp only[MB.mk.injEq,abQ]
 funext a
 by_cases e:a=k
 ·subst e;rw[aai rfl,aai (by omega)]
 ·rw[aac e];by_cases e2:a<k
  ·rw[aai e2,aai (by omega)]
  ·rw[aac e2,aac (by omega)]
def Xl(M:MM)(n:Int):Option MM:=(idx M n).bind λi=>(M[i]?).map λB=>M.set i (UC B B.size)
def RT(h:za)(m:Nat)(M:MM)(F:Nat->Prop)(n:Int)(r:aaa)(h1:za):Prop:=match Xl M n with
 |none=>r=.bool false/\h1=h
 |some M'=>r=.bool true/\Iz h m M' F h1
def zhK(h:za)(m:Nat)(bs:aaa)(ps:List Nat)(M:MM)(F:Nat->Prop)(i:Nat)(B:MB)(n:Nat)(vs:List aaa)(h':za):Prop :=
 ∃k fs F',k<=B.size/\n=B.size-k/\vs=[pm k]/\WT h' m bs ps fs (M.set i (UC B k)) F'/\Xm F h h' /\ ∀b,F' b->F b\/h.next<=b
theorem zaT{M:MM}{i:Nat}{A B:MB}:(M.set i A).set i B=M.set i B:=by simp
theorem zfm(x:WT h m bs ps fs M F)(hs:small M){n:Int}(hn:n<9223372036854775808):DC Tryz.prog 36 [pi m,pm n] h (RT h m M F n):=by
 apply Ym;intro hwf;have hro:=hwf.2;apply Tz;unfold zbf;refine y5 (by kernel_rfl) rfl (R8 x hn) ?_;rintro v h1 ⟨rfl,rfl⟩;cases hi:idx M n with
 |none=>
  simp -implicitDefEqProofs only[zD,zN,yg,yZ,qD,zO,yb,xF,yK,abn,BK,Mi,pS,abn,ZK];unfold RT Xl;simp only[hi,abn,and_self]
 |some i=>
  obtain⟨hni,hlt,q,B,pg,hq,hB,hf,hbk,fq,_⟩:=Gk x hi;have hfm:Xl M n=some (M.set i (UC B B.size)):=by unfold Xl;rw[hi];simp[hB]
  have hz:=hs i B hB;simp -implicitDefEqProofs only[zD,zN,yg,yr,wS,qD,zO,yb,xF,yK,aaI,BK,aak,zA,zj,Mi,VT,jD,aaI,ZK,hq,hbk];refine qY (zhK h1 m bs ps M F i B) B.size ⟨0,fs,F,by omega,rfl,rfl,by rw[PK,Nx hB];exact x,.refl _ _,λb hb => .inl hb⟩ ?_;rintro n' vs h2 ⟨k,fs2,F2,hk,rfl,rfl,y,e2,s2⟩;have hmi:(M.set i (UC B k))[i]? = some (UC B k):=aaM hlt;obtain⟨pg2,hbk2,fq2,hpg2⟩:=y.k9 i q _ hq hmi;have hzs:(UC B k).size=B.size:=rfl;have hzf:(UC B k).uU=B.uU:=rfl;by_cases hki:k<B.size
  ·have hki':(k:Int)<(B.size:Int):=by omega
   have hmd:=zdg hbk2 hpg2 fq2 (λb hb=>y.ok b (y.sub i b hb)) (by rw[e2.ro];have:=e2.next;omega) (a:=k) (by omega) (by omega) (by omega);simp -implicitDefEqProofs only[zD,zN,yg,yZ,qJ,Xj,mD,yb,nth,Int.reduceEq,uj,aas,hki'];refine y5 (by kernel_rfl) rfl hmd ?_;rintro v h3 ⟨g,pq,cq,gs,F3,rfl,hbk3,hfull,hgs,fp3,ef3,hsub3,hok3⟩;rw[aax]at hgs;obtain⟨cs,hcs,hle,hput⟩:=hfull.put hgs;have hput':=hput zc;have hr1:(k:Int).tmod 64=((k%64:Nat):Int):=by rw[abx (by omega)];omega
   have hb1:0<=((k%64:Nat):Int)/\((k%64:Nat):Int)<64:=by omega
   have fg:=(hfull.hg _ g hgs).1;have okg:=(hok3 g fg).1;have hw2:IntKind.wrap .i64 ((k:Int)+1)=((k+1:Nat):Int):=by rw[ui (by omega) (by omega)];omega
   simp -implicitDefEqProofs only[zD,wS,qK,aay,aaE,aaz,aa6,abC,zb,aad,abb,Nat.reduceAdd,abg,yJ,gZ,zgF,ZK,hr1,hb1,aax,hcs,hle,okg,hw2];have hne:q≠g:=by intro e;subst e;rw[hcs]at hbk3;simp at hbk3
   generalize hH:h3.set g _=H
   have hfull2:V2 H pq gs (UC B (k+1)) F3:=by
    rw[<- hH,<- PJ];exact hput'
   have ef4:Xm (fs2 i) h2 H:=by
    rw[<- hH];exact ef3.set (hsub3 g fg) _
   have hbk4:H.get q=some (.cells [pm B.size,.slice (some ⟨pq,0,none⟩) gs.length cq,.bool B.uU] 123):=by
    rw[<- hH,zK hne];exact hbk3
   have hok4:∀b,F3 b->H.ro<=b/\b<H.next:=by
    rw[<- hH];exact hok3
   have z:=y.Ip hq hmi (B':=UC B (k+1)) rfl ef4 ⟨_,hbk4,fp3,.full pq cq gs rfl hfull2⟩ hsub3 hok4;rw[zaT]at z;have hcl:∀b,fs2 i b->F b\/h1.next<=b:=λb hb=>s2 b (y.sub i b hb);refine⟨B.size-(k+1),by omega,k+1,_,_,by omega,rfl,rfl,z,e2.more ef4 hcl,λb hb=>?_⟩;rcases hb with hb|hb
   ·exact s2 b hb
   ·rcases hsub3 b hb with q|q
    ·exact hcl b q
    ·exact .inr (by have:=e2.next;omega)
  ·have hkb:k=B.size:=by omega
   subst hkb;have hki':¬(B.size:Int)<(B.size:Int):=by omega
   simp -implicitDefEqProofs only[zD,zN,yg,yr,qJ,Xj,mD,yb,nth,Int.reduceEq,vw,aas,hki'];unfold RT;rw[hfm];exact⟨rfl,_,⟨_,_,_,y⟩,e2,s2⟩
end
def Own(H:za)(F:Nat->Prop)(h':za):Prop:=Xm H6 H h' /\ ∀b,F b->H.next<=b
theorem Own.VS{H h1 h2:za}{F:Nat->Prop}(o:Own H F h1)(e:Xm H6 h1 h2):Own H F h2:=⟨o.1.trans e,o.2⟩
end Go.Mem
