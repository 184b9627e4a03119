/- A part of the proof. -/
import Derived.Test.YtcecapkbglnejaaGreatDoorTF
set_option linter.unusedVariables false
set_option linter.unusedSimpArgs false
set_option maxRecDepth 100000
namespace Go.Mem
open Go.Ai Go.Proofs
section
variable {h:za}{m:Nat}{bs:Value}{ps:List Nat}{fs:Nat->Nat->Prop}{M:MM}{F:Nat->Prop}
theorem pe(x:Wk h m bs ps fs M F){n:Int}{i:Nat}(hi:idx M n=some i):n=i+1/\i<M.length /\ ∃q B pg,ps[i]? = some q/\M[i]? = some B/\B.jQ=false/\h.get q=some (.cells [.int .i64 B.size,pg,.bool B.jQ] 155)/\fs i q/\Wl h pg B (fs i):=by
 obtain⟨hn,B,hB,hf⟩:=lz hi
 have hlt:i<M.length:=by
  rcases aaA i M.length with a|a
  ·exact a
  ·rw[aao a]at hB;cases hB
 obtain⟨q,hq⟩:∃q,ps[i]? = some q:=⟨_,aae (by rw[x.len];exact hlt)⟩;obtain⟨pg,hbk,fq,hpg⟩:=x.YR i q B hq hB;exact⟨hn,hlt,q,B,pg,hq,hB,hf,hbk,fq,hpg⟩
theorem Wk.swap(x:Wk h m bs ps fs M F){h1:za}{i p bb c:Nat}{B:MB}(hbs:bs=.slice (some ⟨bb,0,none⟩) M.length c)(hi:i<M.length)(Wa:Z5 F h h1)(hp:h.next<=p/\p<h1.next)
  (e1:h1.get m=some (.cells [bs,.int .i64 (live (M.set i B))] 148)) (e2:h1.get bb=some (.cells ((ps.set i p).map λp => .pointer (some ⟨p,0,none⟩)) 152))
  (e3:h1.get p=some (.cells [.int .i64 B.size,.slice none 0 0,.bool B.jQ] 155)) (hu:∀k,B.byte k=fB) (e4:∀b,F b->b≠m->b≠bb->h1.get b=h.get b) :
  Wk h1 m bs (ps.set i p) (λk b=>if k=i then b=p else fs k b) (M.set i B) (λb=>F b\/b=p):=by
 have hnew:∀b,h.next<=b->F b->False:=λb hl hb=>by have:=(x.ok b hb).2;omega
 have hlp:=x.len
 have hbb:F bb/\c≠0 /\ ∀i,¬fs i bb:=by
  rcases x.hb with⟨rfl,_⟩|⟨bb',c',r,r1,r2,_,r4⟩
  ·cases hi
  ·rw[hbs]at r;cases r;exact⟨r2,r1,r4⟩
 refine⟨e1,.inl x.fm,by simp[hlp],?_,?_,?_,?_,?_,?_⟩
 ·refine .inr ⟨bb,c,by rw[hbs,abf],hbb.2.1,.inl hbb.1,e2,λk hk=>?_⟩;split at hk
  ·exact hnew bb (by rw[hk];exact hp.1) hbb.1
  ·exact hbb.2.2 k hk
 ·intro k hk;split at hk
  ·exact hnew m (by rw[hk];exact hp.1) x.fm
  ·exact x.nm k hk
 ·intro k q C hq hC;by_cases e:k=i
  ·subst e;rw[aaZ (by omega)]at hq hC;cases hq;cases hC;simp only[aac];exact⟨_,e3,rfl,.empty rfl hu⟩
  ·rw[abo (λz=>e z.symm)]at hq hC;simp only[aak e];exact(x.YR k q C hq hC).zE (λb hb=>e4 b (x.sub k b hb) (λz=>by subst z;exact x.nm k hb) (λz=>by subst z;exact hbb.2.2 k hb))
 ·intro a b z ha hz;split at ha <;> split at hz
  ·rename_i e1 e2;rw[e1,e2]
  ·exact(hnew z (by rw[ha];exact hp.1) (x.sub b z hz)).elim
  ·exact(hnew z (by rw[hz];exact hp.1) (x.sub a z ha)).elim
  ·exact x.Hc a b z ha hz
 ·intro k b hk;split at hk
  ·exact .inr hk
  ·exact .inl (x.sub k b hk)
 ·intro b hb;have n1:=Wa.next;have n2:=Wa.ro;have o1:=x.ok m x.fm;rcases hb with hb|hb
  ·have:=x.ok b hb;omega
  ·omega
theorem GB{M:MM}{i:Nat}{B B':MB}(h:M[i]? = some B)(hf:B.jQ=false)(hf':B'.jQ=true):live (M.set i B')+1=live M:=by
 unfold live
 induction M generalizing i with
 |nil=>cases h
 |cons A M ih=>
  cases i with
  |zero=>simp at h;subst h;simp[hf,hf']
  |succ i=>simp at h;simp only[aa3,abF];split <;> simp[<- ih h]
def gone(B:MB):MB:=⟨B.size,true,λ_=>fB⟩
def Ux(M:MM)(n:Int):Option MM:=(idx M n).bind λi=>(M[i]?).map λB=>M.set i (gone B)
def D3(h:za)(m:Nat)(M:MM)(F:Nat->Prop)(n:Int)(r:Value)(h1:za):Prop:=match Ux M n with
 |none=>r=.bool false/\h1=h
 |some M'=>r=.bool true/\sX h m M' F h1
theorem MG(x:Wk h m bs ps fs M F)(hL:M.length<=100000){n:Int}(hn:n<9223372036854775808):DC Tryz.prog 114 [.pointer (some ⟨m,0,none⟩),.int .i64 n] h (D3 h m M F n):=by
 apply Y3;intro hwf;have hro:=hwf.2;apply Fk;unfold Hl;refine yb (by kernel_rfl) rfl (Ew x.r hn) ?_;rintro v h1 ⟨rfl,rfl⟩;cases hi:idx M n with
 |none=>
  simp -implicitDefEqProofs only[zu,zG,zU,yS,vm,qS,X8,zH,zS,wB,abb,nw,Value.cells,aau,zw,Wo,zh,aS,Ze,Vl,abb,j6];unfold D3 Ux;simp only[hi,abb,and_self]
 |some i=>
  obtain⟨hni,hlt,q,B,pg,hq,hB,hf,hbk,fq,_⟩:=pe x hi;have hfm:Ux M n=some (M.set i (gone B)):=by unfold Ux;rw[hi];simp[hB]
  rcases x.hb with⟨rfl,_⟩|⟨bb,c,hbs,hc,fb,hbb,nb⟩
  ·cases hlt
  have hm:=x.hm;have hw:IntKind.wrap .i64 (n-1)=(i:Int):=by rw[Yo (by omega) (by omega)];omega
  have hc1:0<=(i:Int)/\(i:Int)<(M.length:Int):=by omega
  have okm:=x.ok m x.fm;have okb:=x.ok bb fb;have hbm:¬bb=m:=by intro e;subst e;rw[hbb]at hm;simp at hm
  have hmb:¬m=bb:=λe=>hbm e.symm;have hb0:¬bb=h1.next:=by omega
  have hm0:¬m=h1.next:=by omega
  have hi1:i+1<=ps.length:=by rw[x.len];omega
  have hlv:=GB (B':=gone B) hB hf rfl;have hl:=EP M;have hll:((live M:Nat):Int)-1=((live (M.set i (gone B)):Nat):Int):=by omega
  have hlw:IntKind.wrap .i64 (((live M:Nat):Int)-1)=((live (M.set i (gone B)):Nat):Int):=by rw[hll];exact Yo (by omega) (by omega)
  have hset:∀v:Value,zf (ps.map λp=>Value.pointer (some ⟨p,0,none⟩)) i [v]=(ps.map λp=>Value.pointer (some ⟨p,0,none⟩)).set i v:=λv=>rfl;rw[hbs]at hm;simp -implicitDefEqProofs only[zu,zG,zU,z7,vm,qS,X8,zH,zS,wB,yO,kd,KM,aaQ,nw,Value.cells,aaf,aaj,aau,aaB,aaz,aaD,aba,abu,zf,aa8,aa3,aac,aa9,Nat.reduceAdd,abg,aal,qz,KV,zL,zP,vi,zw,aaq,Wo,zh,Ot,WL,C4,XL,Ze,Vl,kQ,Dr,aaQ,j6,hq,hbk,hm,hw,hc1,hbb,aaE,abH,okb,okm,hmb,hi1,hlw];unfold D3;rw[hfm]
  have Wa:Z5 F h1 (((h1.push (.cells [.int .i64 B.size,.slice none 0 0,.bool true] 155)).set bb (some (.cells ((ps.map λp=>Value.pointer (some ⟨p,0,none⟩)).set i (.pointer (some ⟨h1.next,0,none⟩))) 152))).set m
    (some (.cells [.slice (some ⟨bb,0,none⟩) M.length c,.int .i64 (live (M.set i (gone B)))] 148))):=(((Z5.refl _ _).push _).set (.inl fb) _).set (.inl x.fm) _
  refine⟨rfl,_,⟨_,_,_,x.swap (p:=h1.next) (B:=gone B) hbs hlt Wa ⟨aal _,?_⟩ ?_ ?_ ?_ (λ_=>rfl) ?_⟩,Wa,λb hb=>?_⟩
  ·simp only[qR,yp];omega
  ·rw[ye,hbs]
  ·rw[zP hbm,ye,List.map_set]
  ·have n1:¬h1.next=m:=λe=>hm0 e.symm;have n2:¬h1.next=bb:=λe=>hb0 e.symm;rw[zP n1,zP n2,zO];rfl
  ·intro b hb b1 b2;have:=x.ok b hb;rw[zP b1,zP b2,zL this.2]
  ·rcases hb with hb|hb
   ·exact .inl hb
   ·exact .inr (by omega)
def zc:Cl:=⟨1,0,v0⟩
def Vy(B:MB)(k:Nat):MB:={B with byte:=λa=>if a<k then zc else B.byte a}
theorem D1(B:MB):Vy B 0=B:=by
 unfold Vy
 congr 1
theorem D0(B:MB)(k:Nat):{Vy B k with byte:=sN (Vy B k).byte k zc} = Vy B (k+1):=by
 unfold Vy sN;simp only[MB.mk.injEq,ace]
 funext a
 by_cases e:a=k
 ·subst e;rw[aam rfl,aam (by omega)]
 ·rw[aak e];by_cases e2:a<k
  ·rw[aam e2,aam (by omega)]
  ·rw[aak e2,aak (by omega)]
def UC(M:MM)(n:Int):Option MM:=(idx M n).bind λi=>(M[i]?).map λB=>M.set i (Vy B B.size)
def Eo(h:za)(m:Nat)(M:MM)(F:Nat->Prop)(n:Int)(r:Value)(h1:za):Prop:=match UC M n with
 |none=>r=.bool false/\h1=h
 |some M'=>r=.bool true/\sX h m M' F h1
def PV(h:za)(m:Nat)(bs:Value)(ps:List Nat)(M:MM)(F:Nat->Prop)(i:Nat)(B:MB)(n:Nat)(vs:List Value)(h':za):Prop :=
 ∃k fs F',k<=B.size/\n=B.size-k/\vs=[.int .i64 k]/\Wk h' m bs ps fs (M.set i (Vy B k)) F'/\Z5 F h h' /\ ∀b,F' b->F b\/h.next<=b
theorem G3{M:MM}{i:Nat}{A B:MB}:(M.set i A).set i B=M.set i B:=by simp
theorem Nt(x:Wk h m bs ps fs M F)(hs:small M){n:Int}(hn:n<9223372036854775808):DC Tryz.prog 63 [.pointer (some ⟨m,0,none⟩),.int .i64 n] h (Eo h m M F n):=by
 apply Y3;intro hwf;have hro:=hwf.2;apply Fm;unfold Ho;refine yb (by kernel_rfl) rfl (Ew x.r hn) ?_;rintro v h1 ⟨rfl,rfl⟩;cases hi:idx M n with
 |none=>
  simp -implicitDefEqProofs only[zu,zG,zU,yS,qS,zH,zS,wB,yO,abb,BK,AK,aS,abb,j6];unfold Eo UC;simp only[hi,abb,and_self]
 |some i=>
  obtain⟨hni,hlt,q,B,pg,hq,hB,hf,hbk,fq,_⟩:=pe x hi;have hfm:UC M n=some (M.set i (Vy B B.size)):=by unfold UC;rw[hi];simp[hB]
  have hz:=hs i B hB;simp -implicitDefEqProofs only[zu,zG,zU,z7,vm,qS,zH,zS,wB,yO,aaQ,BK,aaf,zw,zh,AK,XL,kQ,aaQ,j6,hq,hbk];refine jz (PV h1 m bs ps M F i B) B.size ⟨0,fs,F,by omega,rfl,rfl,by rw[D1,BQ hB];exact x,.refl _ _,λb hb => .inl hb⟩ ?_;rintro n' vs h2 ⟨k,fs2,F2,hk,rfl,rfl,y,e2,s2⟩;have hmi:(M.set i (Vy B k))[i]? = some (Vy B k):=aaZ hlt;obtain⟨pg2,hbk2,fq2,hpg2⟩:=y.YR i q _ hq hmi;have hzs:(Vy B k).size=B.size:=rfl;have hzf:(Vy B k).jQ=B.jQ:=rfl;by_cases hki:k<B.size
  ·have hki':(k:Int)<(B.size:Int):=by omega
   have hmd:=Ld hbk2 hpg2 fq2 (λb hb=>y.ok b (y.sub i b hb)) (by rw[e2.ro];have:=e2.next;omega) (a:=k) (by omega) (by omega) (by omega);simp -implicitDefEqProofs only[zu,zG,zU,yS,qF,Z2,Jb,zS,nth,Int.reduceEq,uH,aaq,hki'];refine yb (by kernel_rfl) rfl hmd ?_;rintro v h3 ⟨g,pq,cq,gs,F3,rfl,hbk3,hfull,hgs,fp3,ef3,hsub3,hok3⟩;rw[aaE]at hgs;obtain⟨cs,hcs,hle,hput⟩:=hfull.put hgs;have hput':=hput zc;have hr1:(k:Int).tmod 64=((k%64:Nat):Int):=by rw[abK (by omega)];omega
   have hb1:0<=((k%64:Nat):Int)/\((k%64:Nat):Int)<64:=by omega
   have fg:=(hfull.hg _ g hgs).1;have okg:=(hok3 g fg).1;have hw2:IntKind.wrap .i64 ((k:Int)+1)=((k+1:Nat):Int):=by rw[Yo (by omega) (by omega)];omega
   simp -implicitDefEqProofs only[zu,vm,kd,aau,aaB,aaz,aba,abu,zf,aac,aa9,Nat.reduceAdd,abg,vi,QS,OV,j6,hr1,hb1,aaE,hcs,hle,okg,hw2];have hne:q≠g:=by intro e;subst e;rw[hcs]at hbk3;simp at hbk3
   generalize hH:h3.set g _=H
   have hfull2:XR H pq gs (Vy B (k+1)) F3:=by
    rw[<- hH,<- D0];exact hput'
   have ef4:Z5 (fs2 i) h2 H:=by
    rw[<- hH];exact ef3.set (hsub3 g fg) _
   have hbk4:H.get q=some (.cells [.int .i64 B.size,.slice (some ⟨pq,0,none⟩) gs.length cq,.bool B.jQ] 155):=by
    rw[<- hH,zP hne];exact hbk3
   have hok4:∀b,F3 b->H.ro<=b/\b<H.next:=by
    rw[<- hH];exact hok3
   have z:=y.sN hq hmi (B':=Vy B (k+1)) rfl ef4 ⟨_,hbk4,fp3,.full pq cq gs rfl hfull2⟩ hsub3 hok4;rw[G3]at z;have hcl:∀b,fs2 i b->F b\/h1.next<=b:=λb hb=>s2 b (y.sub i b hb);refine⟨B.size-(k+1),by omega,k+1,_,_,by omega,rfl,rfl,z,e2.more ef4 hcl,λb hb=>?_⟩;rcases hb with hb|hb
   ·exact s2 b hb
   ·rcases hsub3 b hb with q|q
    ·exact hcl b q
    ·exact .inr (by have:=e2.next;omega)
  ·have hkb:k=B.size:=by omega
   subst hkb;have hki':¬(B.size:Int)<(B.size:Int):=by omega
   simp -implicitDefEqProofs only[zu,zG,zU,z7,qF,Z2,Jb,zS,nth,Int.reduceEq,vJ,aaq,hki'];unfold Eo;rw[hfm];exact⟨rfl,_,⟨_,_,_,y⟩,e2,s2⟩
end
def S4(H:za)(F:Nat->Prop)(h':za):Prop:=Z5 ss H h' /\ ∀b,F b->H.next<=b
theorem S4.Wa{H h1 h2:za}{F:Nat->Prop}(o:S4 H F h1)(e:Z5 ss h1 h2):S4 H F h2:=⟨o.1.trans e,o.2⟩
end Go.Mem
