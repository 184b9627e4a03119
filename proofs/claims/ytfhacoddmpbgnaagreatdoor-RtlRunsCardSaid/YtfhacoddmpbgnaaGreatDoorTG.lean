/- A part of the proof. -/
import Derived.Test.YtfhacoddmpbgnaaGreatDoorTF
set_option linter.unusedVariables false
set_option linter.unusedSimpArgs false
set_option maxRecDepth 100000
namespace Go.Mem
open Go.Ai Go.Proofs
section
variable {h:za}{m:Nat}{bs:aaa}{ps:List Nat}{fs:Nat->Nat->Prop}{M:MM}{F:Nat->Prop}
theorem Eo(x:Wr h m bs ps fs M F){n:Int}{i:Nat}(hi:idx M n=some i):n=i+1/\i<M.length /\ ∃q B pg,ps[i]? = some q/\M[i]? = some B/\B.uN=false/\h.get q=some (.cells [pm B.size,pg,.bool B.uN] 145)/\fs i q/\V4 h pg B (fs i):=by
 obtain⟨hn,B,hB,hf⟩:=VX hi
 have hlt:i<M.length:=by
  rcases aas i M.length with a|a
  ·exact a
  ·rw[aal a]at hB;cases hB
 obtain⟨q,hq⟩:∃q,ps[i]? = some q:=⟨_,aae (by rw[x.len];exact hlt)⟩;obtain⟨pg,hbk,fq,hpg⟩:=x.kS i q B hq hB;exact⟨hn,hlt,q,B,pg,hq,hB,hf,hbk,fq,hpg⟩
theorem Wr.swap(x:Wr h m bs ps fs M F){h1:za}{i p bb c:Nat}{B:MB}(hbs:bs=.slice (some ⟨bb,0,none⟩) M.length c)(hi:i<M.length)(Vs:YX F h h1)(hp:h.next<=p/\p<h1.next)
  (e1:h1.get m=some (.cells [bs,pm (live (M.set i B))] 138)) (e2:h1.get bb=some (.cells ((ps.set i p).map λp => pi p) 142))
  (e3:h1.get p=some (.cells [pm B.size,pp,.bool B.uN] 145)) (hu:∀k,B.byte k=rG) (e4:∀b,F b->b≠m->b≠bb->h1.get b=h.get b) :
  Wr h1 m bs (ps.set i p) (λk b=>if k=i then b=p else fs k b) (M.set i B) (λb=>F b\/b=p):=by
 have hnew:∀b,h.next<=b->F b->False:=λb hl hb=>by have:=(x.ok b hb).2;omega
 have hlp:=x.len
 have hbb:F bb/\c≠0 /\ ∀i,¬fs i bb:=by
  rcases x.hb with⟨rfl,_⟩|⟨bb',c',r,r1,r2,_,r4⟩
  ·cases hi
  ·rw[hbs]at r;cases r;exact⟨r2,r1,r4⟩
 refine⟨e1,.inl x.fm,by simp[hlp],?_,?_,?_,?_,?_,?_⟩
 ·refine .inr ⟨bb,c,by rw[hbs,aaW],hbb.2.1,.inl hbb.1,e2,λk hk=>?_⟩;split at hk
  ·exact hnew bb (by rw[hk];exact hp.1) hbb.1
  ·exact hbb.2.2 k hk
 ·intro k hk;split at hk
  ·exact hnew m (by rw[hk];exact hp.1) x.fm
  ·exact x.nm k hk
 ·intro k q C hq hC;by_cases e:k=i
  ·subst e;rw[aaM (by omega)]at hq hC;cases hq;cases hC;simp only[aad];exact⟨_,e3,rfl,.empty rfl hu⟩
  ·rw[aa3 (λz=>e z.symm)]at hq hC;simp only[aac e];exact(x.kS k q C hq hC).zO (λb hb=>e4 b (x.sub k b hb) (λz=>by subst z;exact x.nm k hb) (λz=>by subst z;exact hbb.2.2 k hb))
 ·intro a b z ha hz;split at ha <;> split at hz
  ·rename_i e1 e2;rw[e1,e2]
  ·exact(hnew z (by rw[ha];exact hp.1) (x.sub b z hz)).elim
  ·exact(hnew z (by rw[hz];exact hp.1) (x.sub a z ha)).elim
  ·exact x.dis a b z ha hz
 ·intro k b hk;split at hk
  ·exact .inr hk
  ·exact .inl (x.sub k b hk)
 ·intro b hb;have n1:=Vs.next;have n2:=Vs.ro;have o1:=x.ok m x.fm;rcases hb with hb|hb
  ·have:=x.ok b hb;omega
  ·omega
theorem RX{M:MM}{i:Nat}{B B':MB}(h:M[i]? = some B)(hf:B.uN=false)(hf':B'.uN=true):live (M.set i B')+1=live M:=by
 unfold live
 induction M generalizing i with
 |nil=>cases h
 |cons A M ih=>
  cases i with
  |zero=>simp at h;subst h;simp[hf,hf']
  |succ i=>simp at h;simp only[aa7,abT];split <;> simp[<- ih h]
def gone(B:MB):MB:=⟨B.size,true,λ_=>rG⟩
def qE(M:MM)(n:Int):Option MM:=(idx M n).bind λi=>(M[i]?).map λB=>M.set i (gone B)
def NM(h:za)(m:Nat)(M:MM)(F:Nat->Prop)(n:Int)(r:aaa)(h1:za):Prop:=match qE M n with
 |none=>r=.bool false/\h1=h
 |some M'=>r=.bool true/\GB h m M' F h1
theorem zcH(x:Wr h m bs ps fs M F)(hL:M.length<=100000){n:Int}(hn:n<9223372036854775808):DC Tryz.prog 120 [pi m,pm n] h (NM h m M F n):=by
 apply Wc;intro hwf;have hro:=hwf.2;apply PJ;unfold SX;refine xX (by kernel_rfl) rfl (OH x hn) ?_;rintro v h1 ⟨rfl,rfl⟩;cases hi:idx M n with
 |none=>
  simp -implicitDefEqProofs only[zD,zK,yg,yZ,wK,qu,VV,zP,yc,xz,abn,nw,Value.cells,aay,zw,V6,zj,nG,ZF,Qh,abn,Zz];unfold NM qE;simp only[hi,abn,and_self]
 |some i=>
  obtain⟨hni,hlt,q,B,pg,hq,hB,hf,hbk,fq,_⟩:=Eo x hi;have hfm:qE M n=some (M.set i (gone B)):=by unfold qE;rw[hi];simp[hB]
  rcases x.hb with⟨rfl,_⟩|⟨bb,c,hbs,hc,fb,hbb,nb⟩
  ·cases hlt
  have hm:=x.hm;have hw:IntKind.wrap .i64 (n-1)=(i:Int):=by rw[v9 (by omega) (by omega)];omega
  have hc1:0<=(i:Int)/\(i:Int)<(M.length:Int):=by omega
  have okm:=x.ok m x.fm;have okb:=x.ok bb fb;have hbm:¬bb=m:=by intro e;subst e;rw[hbb]at hm;simp at hm
  have hmb:¬m=bb:=λe=>hbm e.symm;have hb0:¬bb=h1.next:=by omega
  have hm0:¬m=h1.next:=by omega
  have hi1:i+1<=ps.length:=by rw[x.len];omega
  have hlv:=RX (B':=gone B) hB hf rfl;have hl:=Pf M;have hll:((live M:Nat):Int)-1=((live (M.set i (gone B)):Nat):Int):=by omega
  have hlw:IntKind.wrap .i64 (((live M:Nat):Int)-1)=((live (M.set i (gone B)):Nat):Int):=by rw[hll];exact v9 (by omega) (by omega)
  have hset:∀v:aaa,zb (ps.map λp=>Value.pointer (some ⟨p,0,none⟩)) i [v]=(ps.map λp=>Value.pointer (some ⟨p,0,none⟩)).set i v:=λv=>rfl;rw[hbs]at hm;simp -implicitDefEqProofs only[zD,zK,yg,yq,wK,qu,VV,zP,yc,xz,yJ,qB,ij,aaI,nw,Value.cells,aak,aap,aay,aaD,aaz,aaf,abe,abD,zb,abk,aa7,aad,abg,Nat.reduceAdd,abc,aam,qt,iA,zt,zJ,yM,zw,aar,V6,zj,zea,Ws,My,Vt,ZF,Qh,jw,MZ,aaI,Zz,hq,hbk,hm,hw,hc1,hbb,aax,abh,okb,okm,hmb,hi1,hlw];unfold NM;rw[hfm]
  have Vs:YX F h1 (((h1.push (.cells [pm B.size,pp,.bool true] 145)).set bb (some (.cells ((ps.map λp=>Value.pointer (some ⟨p,0,none⟩)).set i (pi h1.next)) 142))).set m
    (some (.cells [.slice (some ⟨bb,0,none⟩) M.length c,pm (live (M.set i (gone B)))] 138))):=(((YX.refl _ _).push _).set (.inl fb) _).set (.inl x.fm) _
  refine⟨rfl,_,⟨_,_,_,x.swap (p:=h1.next) (B:=gone B) hbs hlt Vs ⟨aam _,?_⟩ ?_ ?_ ?_ (λ_=>rfl) ?_⟩,Vs,λb hb=>?_⟩
  ·simp only[qU,yG];omega
  ·rw[zW,hbs]
  ·rw[zJ hbm,zW,ab4]
  ·have n1:¬h1.next=m:=λe=>hm0 e.symm;have n2:¬h1.next=bb:=λe=>hb0 e.symm;rw[zJ n1,zJ n2,zk];rfl
  ·intro b hb b1 b2;have:=x.ok b hb;rw[zJ b1,zJ b2,zt this.2]
  ·rcases hb with hb|hb
   ·exact .inl hb
   ·exact .inr (by omega)
def zc:Cl:=⟨1,0,v0⟩
def V3(B:MB)(k:Nat):MB:={B with byte:=λa=>if a<k then zc else B.byte a}
theorem NJ(B:MB):V3 B 0=B:=by
 unfold V3
 congr 1
theorem NI(B:MB)(k:Nat):{V3 B k with byte:=Gs (V3 B k).byte k zc} = V3 B (k+1):=by
 unfold V3 Gs;simp only[MB.mk.injEq,abP]
 funext a
 by_cases e:a=k
 ·subst e;rw[aai rfl,aai (by omega)]
 ·rw[aac e];by_cases e2:a<k
  ·rw[aai e2,aai (by omega)]
  ·rw[aac e2,aac (by omega)]
def YW(M:MM)(n:Int):Option MM:=(idx M n).bind λi=>(M[i]?).map λB=>M.set i (V3 B B.size)
def Ow(h:za)(m:Nat)(M:MM)(F:Nat->Prop)(n:Int)(r:aaa)(h1:za):Prop:=match YW M n with
 |none=>r=.bool false/\h1=h
 |some M'=>r=.bool true/\GB h m M' F h1
def zfD(h:za)(m:Nat)(bs:aaa)(ps:List Nat)(M:MM)(F:Nat->Prop)(i:Nat)(B:MB)(n:Nat)(vs:List aaa)(h':za):Prop :=
 ∃k fs F',k<=B.size/\n=B.size-k/\vs=[pm k]/\Wr h' m bs ps fs (M.set i (V3 B k)) F'/\YX F h h' /\ ∀b,F' b->F b\/h.next<=b
theorem Sp{M:MM}{i:Nat}{A B:MB}:(M.set i A).set i B=M.set i B:=by simp
theorem zdj(x:Wr h m bs ps fs M F)(hs:small M){n:Int}(hn:n<9223372036854775808):DC Tryz.prog 48 [pi m,pm n] h (Ow h m M F n):=by
 apply Wc;intro hwf;have hro:=hwf.2;apply PL;unfold S3;refine xX (by kernel_rfl) rfl (OH x hn) ?_;rintro v h1 ⟨rfl,rfl⟩;cases hi:idx M n with
 |none=>
  simp -implicitDefEqProofs only[zD,zK,yg,yZ,qu,zP,yc,xz,yJ,abn,BK,Ii,nG,abn,Zz];unfold Ow YW;simp only[hi,abn,and_self]
 |some i=>
  obtain⟨hni,hlt,q,B,pg,hq,hB,hf,hbk,fq,_⟩:=Eo x hi;have hfm:YW M n=some (M.set i (V3 B B.size)):=by unfold YW;rw[hi];simp[hB]
  have hz:=hs i B hB;simp -implicitDefEqProofs only[zD,zK,yg,yq,wK,qu,zP,yc,xz,yJ,aaI,BK,aak,zw,zj,Ii,Vt,jw,aaI,Zz,hq,hbk];refine qQ (zfD h1 m bs ps M F i B) B.size ⟨0,fs,F,by omega,rfl,rfl,by rw[NJ,Lx hB];exact x,.refl _ _,λb hb => .inl hb⟩ ?_;rintro n' vs h2 ⟨k,fs2,F2,hk,rfl,rfl,y,e2,s2⟩;have hmi:(M.set i (V3 B k))[i]? = some (V3 B k):=aaM hlt;obtain⟨pg2,hbk2,fq2,hpg2⟩:=y.kS i q _ hq hmi;have hzs:(V3 B k).size=B.size:=rfl;have hzf:(V3 B k).uN=B.uN:=rfl;by_cases hki:k<B.size
  ·have hki':(k:Int)<(B.size:Int):=by omega
   have hmd:=zbl hbk2 hpg2 fq2 (λb hb=>y.ok b (y.sub i b hb)) (by rw[e2.ro];have:=e2.next;omega) (a:=k) (by omega) (by omega) (by omega);simp -implicitDefEqProofs only[zD,zK,yg,yZ,qA,YU,iT,yc,nth,Int.reduceEq,ua,aar,hki'];refine xX (by kernel_rfl) rfl hmd ?_;rintro v h3 ⟨g,pq,cq,gs,F3,rfl,hbk3,hfull,hgs,fp3,ef3,hsub3,hok3⟩;rw[aax]at hgs;obtain⟨cs,hcs,hle,hput⟩:=hfull.put hgs;have hput':=hput zc;have hr1:(k:Int).tmod 64=((k%64:Nat):Int):=by rw[abw (by omega)];omega
   have hb1:0<=((k%64:Nat):Int)/\((k%64:Nat):Int)<64:=by omega
   have fg:=(hfull.hg _ g hgs).1;have okg:=(hok3 g fg).1;have hw2:IntKind.wrap .i64 ((k:Int)+1)=((k+1:Nat):Int):=by rw[v9 (by omega) (by omega)];omega
   simp -implicitDefEqProofs only[zD,wK,qB,aay,aaD,aaz,abe,abD,zb,aad,abg,Nat.reduceAdd,abc,yM,eU,zez,Zz,hr1,hb1,aax,hcs,hle,okg,hw2];have hne:q≠g:=by intro e;subst e;rw[hcs]at hbk3;simp at hbk3
   generalize hH:h3.set g _=H
   have hfull2:VA H pq gs (V3 B (k+1)) F3:=by
    rw[<- hH,<- NI];exact hput'
   have ef4:YX (fs2 i) h2 H:=by
    rw[<- hH];exact ef3.set (hsub3 g fg) _
   have hbk4:H.get q=some (.cells [pm B.size,.slice (some ⟨pq,0,none⟩) gs.length cq,.bool B.uN] 145):=by
    rw[<- hH,zJ hne];exact hbk3
   have hok4:∀b,F3 b->H.ro<=b/\b<H.next:=by
    rw[<- hH];exact hok3
   have z:=y.Gs hq hmi (B':=V3 B (k+1)) rfl ef4 ⟨_,hbk4,fp3,.full pq cq gs rfl hfull2⟩ hsub3 hok4;rw[Sp]at z;have hcl:∀b,fs2 i b->F b\/h1.next<=b:=λb hb=>s2 b (y.sub i b hb);refine⟨B.size-(k+1),by omega,k+1,_,_,by omega,rfl,rfl,z,e2.more ef4 hcl,λb hb=>?_⟩;rcases hb with hb|hb
   ·exact s2 b hb
   ·rcases hsub3 b hb with q|q
    ·exact hcl b q
    ·exact .inr (by have:=e2.next;omega)
  ·have hkb:k=B.size:=by omega
   subst hkb;have hki':¬(B.size:Int)<(B.size:Int):=by omega
   simp -implicitDefEqProofs only[zD,zK,yg,yq,qA,YU,iT,yc,nth,Int.reduceEq,vm,aar,hki'];unfold Ow;rw[hfm];exact⟨rfl,_,⟨_,_,_,y⟩,e2,s2⟩
end
def Own(H:za)(F:Nat->Prop)(h':za):Prop:=YX F9 H h' /\ ∀b,F b->H.next<=b
theorem Own.Vs{H h1 h2:za}{F:Nat->Prop}(o:Own H F h1)(e:YX F9 h1 h2):Own H F h2:=⟨o.1.trans e,o.2⟩
end Go.Mem
