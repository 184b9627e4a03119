import Derived.Test.YtpjjmindjodknaaGreatTK
set_option linter.unusedVariables false
set_option linter.unusedSimpArgs false
set_option maxRecDepth 100000
namespace Go.Rtl
open Go.Ai Go.Proofs Go.Mem
open Go.Rm (ZG zV yR wJ wD cw xf vq y6 W7 xH Rd Rd.at)
section
variable {lo:yT}{h:za}{L:List HP}{b mb wb fb b1 b2:Nat}{world:List Int}{ev lk gl cl kv wn:aaa}{fi:List Nat}{kept:Option (Int->Bool)}{R:aaa->za->Prop}
theorem zaM{h:za}{sv:aaa}{zs:List Int}(S:zE h sv 1 (zs.map zV)):zK h sv zs:=by
 have T:=S;rcases S with⟨e,e2⟩|⟨b,off,cp,rfl,hc⟩
 ·exact .inl ⟨e,by simpa using e2⟩
 ·refine .inr ⟨b,off,cp,by rw[aau],λhz=>?_⟩;obtain⟨c,t,hb,hg,hat⟩:=hc (by simpa using hz);refine⟨c,t,hb,hg,λi z hiz=>?_⟩;obtain⟨b2,o,c2,t2,⟨off2,cp2,e1,e2⟩,_,_,hg2,_,_,h3⟩:=T.spot (i:=i) (r:=zV z) (by rw[aaH,hiz];rfl) rfl;simp only[ab8,aab,ace]at e1;obtain⟨⟨rfl,rfl,_⟩,_,rfl⟩:=e1;rw[hg]at hg2;cases hg2;have:=h3 0 (by decide);rw[e2,abR,Nat.add_zero]at this;exact this
end
def ints(zs:List Int):List aaa:=zs.map λz => pm z
theorem TB(zs:List Int):(ints zs).all wG=true:=by
 rw[aaB];intro v hv;simp only[ints,aa4]at hv;obtain⟨z,_,rfl⟩:=hv;rfl
theorem bD(c n:Nat):ux c n≠0:=by
 unfold ux;split
 ·cases Nat.ble n _ <;> simp
 ·simp
def KV(lo h:za)(l:aaa)(zs:List Int):Prop:=(l=.slice none 0 0/\zs=[]) \/ ∃b c,l=.slice (some ⟨b,0,none⟩) zs.length c/\c≠0/\lo.next<=b/\b<h.next/\h.ro<=b/\h.get b=some (.cells (ints zs) 3)
section
variable {lo h:za}{l:aaa}{zs:List Int}
theorem SL(S:KV lo h l zs)(e:Old lo h)(hro:h.ro<=h.next){x:aaa}{n:Nat}{ys:List Int}(hn:Kv x=some n)(hy:ys.length=n)(hf:kh h n 1 x=some (ints ys))(hb:zs.length+n<=17592186044416) :
  ∃l' h',zB pu .append [22,22] 22 [l,x] h=some (l',h')/\KV lo h' l' (zs++ys)/\Old lo h'/\h'.ro<=h'.next/\h.next<=h'.next/\(vQ h->vQ h') /\ ∀b,b<lo.next->h'.get b=h.get b:=by
 have hap:=UH 22 l x n (ints ys) h hn hf (TB ys) (by simp[ints,hy]);rw[hap];have n0:=e.next;rcases S with⟨rfl,rfl⟩|⟨b,c,rfl,hc,hb1,hb2,hb3,hg⟩
 ·by_cases h0:n=0
  ·have:ys=[]:=abm.1 (by omega);subst this;exact⟨_,_,by simp only[UJ,h0,abM],.inl ⟨rfl,rfl⟩,e,hro,aaj _,id,λ_ _=>rfl⟩
  ·refine⟨.slice (some ⟨h.next,0,none⟩) n 1,h.push (.cells (ints ys) 3),?_,.inr ⟨h.next,1,by simp[hy],by decide,by omega,aaJ _,hro,by rw[wt];rfl⟩,e.trans (Old.push _ _),abC hro,abz _,λw=>YS w _,λb hb=>yq (by omega)⟩;simp only[UJ,h0,abS];rw[aai (by omega)]
 ·by_cases h0:n=0
  ·have:ys=[]:=abm.1 (by omega);subst this;exact⟨.slice (some ⟨b,0,none⟩) zs.length c,h,by simp only[UJ,h0,abM],.inr ⟨b,c,by simp,hc,hb1,hb2,hb3,by simpa using hg⟩,e,hro,aaj _,id,λ_ _=>rfl⟩
  ·have hroom:roomFor c (zs.length+n) 8=true:=by
    unfold roomFor;cases Nat.beq c 2 <;> simp only[aav,aaw,abY] <;> omega
   have hl:(ints zs).length=zs.length:=by simp[ints]
   refine⟨.slice (some ⟨h.next,0,none⟩) (zs.length+n) (ux c (zs.length+n)),(h.set b none).push (.cells (ints (zs++ys)) 3),?_,.inr ⟨h.next,ux c (zs.length+n),by simp[hy],bD _ _,by omega,aaJ _,hro,wt⟩,?_,abC hro,abz _,λw=>YS (wf_set w hb2 _) _,λb' hb'=>?_⟩
   ·simp only[UJ,h0,abS,hg];rw[aai ⟨hc,trivial,hb3,by rw[hl];omega,hroom,by decide⟩]
    congr 3
    rw[abT,abQ (by rw[hl];omega)];simp[ints]
   ·refine⟨by show lo.next<=h.next+1;omega,e.ro,λb' hb'=>?_⟩;rw[yq (by show b'<h.next;omega),q9 (by omega)];exact e.get b' hb'
   ·rw[yq (by show b'<h.next;omega),q9 (by omega)]
end
section
variable {lo h:za}{l:aaa}{zs:List Int}
theorem zK.first(S:zK h l zs):Kv l=some zs.length/\kh h zs.length 1 l=some (ints zs):=by
 rcases S with⟨rfl,rfl⟩|⟨b,off,cp,rfl,hc⟩
 ·exact⟨rfl,rfl⟩
 ·refine⟨rfl,?_⟩;by_cases h0:zs=[]
  ·subst h0;rfl
  ·obtain⟨c,t,hb,hg,hat⟩:=hc h0;have hne:0<zs.length:=List.length_pos_iff.2 h0
   have hlen:off+zs.length<=c.length:=by
    have:=hat (zs.length-1) _ (aag (by omega));rcases aaN (off+(zs.length-1)) c.length with q|q
    ·omega
    ·rw[aat q]at this;cases this
   simp only[kh,hg];rw[show Nat.beq (zs.length*1) 0=false by cases hz:Nat.beq (zs.length*1) 0 with|false=>rfl|true=>have:=aal hz;omega];rw[show Nat.ble (off+zs.length*1) c.length=true by simpa using hlen];simp only[aaw,aav,aab,abR];apply abL;intro i;by_cases hi:i<zs.length
   ·rw[aaV hi,aaR,hat i _ (aag hi)];simp[ints,hi]
   ·rw[aat (by simp;omega),aat (by simp[ints];omega)]
end
def KU(lo h:za)(t:TypeId)(l:aaa)(rows:List (List aaa)):Prop:=(l=.slice none 0 0/\rows=[]) \/ ∃b c,l=.slice (some ⟨b,0,none⟩) rows.length c/\c≠0/\lo.next<=b/\b<h.next/\h.ro<=b/\h.get b=some (.cells rows.flatten t)
def pS:aaa->List Nat
 | .slice (some a) _ _=>[a.block]
 |_=>[]
section
variable {lo h:za}{l:aaa}{rows:List (List aaa)}{t:TypeId}
theorem Dp{n bz:Nat}(S:KU lo h t l rows)(hro:h.ro<=h.next)(hlo:lo.next<=h.next)(h0n:0<n)(hn:∀r,r∈rows->r.length=n){ys:List (List aaa)}(hb:(rows.length+ys.length)*bz<=2^47) :
  ∃l' h',UJ h t n bz ys.length ys.flatten l=some (l',h')/\KU lo h' t l' (rows++ys)/\h'.ro=h.ro/\h'.ro<=h'.next/\h.next<=h'.next/\(vQ h->vQ h')/\(∀b,b<h.next->b∉pS l->h'.get b=h.get b)/\(∀b,b∈pS l'->b∈pS l\/h.next<=b):=by
 rcases S with⟨rfl,rfl⟩|⟨b,c,rfl,hc,hb1,hb2,hb3,hg⟩
 ·by_cases h0:ys.length=0
  ·have:ys=[]:=abm.1 h0;subst this;exact⟨_,_,by simp only[UJ,abk,abM],.inl ⟨rfl,rfl⟩,rfl,hro,aaj _,id,λ_ _ _=>rfl,λb hb => .inl hb⟩
  ·refine⟨.slice (some ⟨h.next,0,none⟩) ys.length 1,h.push (.cells ys.flatten t),?_,.inr ⟨h.next,1,by simp,by decide,hlo,aaJ _,hro,by rw[wt];rfl⟩,rfl,abC hro,abz _,λw=>YS w _,λb hb _=>yq hb,λb hb=>by simp only[pS,aar]at hb;exact .inr (by omega)⟩;simp only[UJ,h0,abS];have:ys.length*bz<=2^48:=by simp only[abk,abt]at hb;omega
   rw[aai this]
 ·by_cases h0:ys.length=0
  ·have:ys=[]:=abm.1 h0;subst this;exact⟨.slice (some ⟨b,0,none⟩) rows.length c,h,by simp only[UJ,abk,abM],.inr ⟨b,c,by simp,hc,hb1,hb2,hb3,by simpa using hg⟩,rfl,hro,aaj _,id,λ_ _ _=>rfl,λb hb => .inl hb⟩
  ·have hroom:roomFor c (rows.length+ys.length) bz=true:=by
    unfold roomFor;cases Nat.beq c 2 <;> simp only[aav,aaw,abY] <;> omega
   have hl:=vo hn;refine⟨.slice (some ⟨h.next,0,none⟩) (rows.length+ys.length) (ux c (rows.length+ys.length)),(h.set b none).push (.cells (rows++ys).flatten t),?_,.inr ⟨h.next,ux c (rows.length+ys.length),by simp,bD _ _,by omega,aaJ _,hro,wt⟩,rfl,abC hro,abz _,λw=>YS (wf_set w hb2 _) _,λb' hb' hne=>?_,λb hb=>by simp only[pS,aar]at hb;exact .inr (by omega)⟩
   ·simp only[UJ,h0,abS,hg];rw[aai ⟨hc,trivial,hb3,by rw[hl];omega,hroom,by simp⟩]
    congr 3
    rw[abT,abQ (by rw[hl];omega),List.flatten_append]
   ·simp only[pS,aar]at hne;rw[yq (by show b'<h.next;exact hb'),q9 hne]
end
theorem Uq(h h2:za):(vz h h2).ro=h.ro:=rfl
theorem wC(h h2:za):(vz h h2).next=h2.next:=rfl
theorem Ak{h:za}{x:aaa}{zs:List Int}{e:Nat}(S:zK (h.push (.cells [] 3)) x zs)(Ui:zs.length<=17592186043904)(hro:h.ro<=h.next)(he:h.next<e){K:aaa->za->Prop}(k:∀v h6,KV h h6 v zs->Old h h6->h6.ro<=h6.next->K v h6) :
  JA pu [22,22] 22 [.slice (some ⟨h.next,0,none⟩) 0 2,x] (some (h.next,e)) (h.push (.cells [] 3)) (h.push (.cells [] 3)) K:=by
 refine⟨⟨aaj _,he,by rw[wt];simp⟩,?_⟩;have W:KV h (h.push (.cells [] 3)) (.slice (some ⟨h.next,0,none⟩) 0 2) [] := .inr ⟨h.next,2,rfl,by decide,aaj _,aaJ _,hro,wt⟩;obtain⟨l',h',a1,a2,a3,a4,a5,a6,a7⟩:=SL W (Old.push _ _) (abC hro) S.first.1 rfl S.first.2 (by simpa using(by omega:zs.length<=17592186044416));rw[a1,ZW rfl,ZW S.ai,JP];show K l' _;have hr:(vz (JZ (h.push (.cells [] 3)) (.slice (some ⟨h.next,0,none⟩) 0 2) h') h').ro=h.ro:=by rw[Uq,re];rfl
 have a5':h.next+1<=h'.next:=a5
 have gg:∀b,(vz (JZ (h.push (.cells [] 3)) (.slice (some ⟨h.next,0,none⟩) 0 2) h') h').get b=if h.next<=b/\b<h'.next then h'.get b else h.get b:=by
  intro b;rw[vp,KK];show(if h.next+1<=b/\b<h'.next then h'.get b else ((h.push (.cells [] 3)).set h.next (h'.get h.next)).get b)=_;by_cases hb:h.next+1<=b/\b<h'.next
  ·rw[aai hb,aai ⟨by omega,hb.2⟩]
  ·rw[aaf hb];by_cases hb2:b=h.next
   ·subst hb2;rw[YN,aai ⟨aaj _,by omega⟩]
   ·rw[q9 hb2,aaf (by omega),za.vY,aaf hb2]
 refine k _ _ ?_ ⟨by rw[wC];omega,hr,λb hb=>by rw[gg,aaf (by omega)]⟩ ?_
 ·rw[abA]at a2;rcases a2 with q|⟨b,c,q1,q2,q3,q4,q5,q6⟩
  ·exact .inl q
  ·refine .inr ⟨b,c,q1,q2,q3,q4,?_,?_⟩
   ·rw[hr];omega
   ·rw[gg,aai ⟨q3,q4⟩];exact q6
 ·rw[hr,wC];omega
theorem KV.shape{lo h:za}{v:aaa}{zs:List Int}(S:KV lo h v zs):∃a n c,v=.slice a n c:=by
 rcases S with⟨rfl,_⟩|⟨_,_,rfl,_⟩ <;> exact⟨_,_,_,rfl⟩
section
variable {lo:yT}{h h':za}{L:List HP}
theorem vS{A:HP}(s:Sat lo h L)(hA:A∈L):Sat lo h [A]:=by
 obtain⟨a,b,rfl⟩:=aaT hA;exact(s.perm (List.perm_middle)).yN 1
theorem FH{A:HP}{M:List HP}(s:Sat lo h (aj M::L))(hA:A∈M):Sat lo h [A]:=vS s.open (aaK _ hA)
theorem cu{A:HP}{M:List HP}(s:Sat lo h (A::aj M::L)):Sat lo h (aj (M++[A])::L):=by
 apply Sat.close;have s2:=Sat.open (s.f [1,0]);rw[aa1];exact s2
theorem lF(s:Sat lo h L):Sat lo h (aj []::L):=Sat.close (M:=[]) s
theorem Eg(s:Sat lo h L)(e:Old h h')(hr:h'.ro<=h'.next){b:Nat}{o:vr}(h1:h.next<=b)(h2:b<h'.next)(hg:h'.get b=some o):Sat lo h' (pt b o::L):=by
 have rk:=s.base.FE
 have low:∀y z,(yT.of h).get y=some z->y<h.next/\z=h.get y:=λy z q=>by
  unfold yT.of at q;dsimp only at q;split at q
  ·cases q;exact⟨by assumption,rfl⟩
  ·cases q
 refine s.join (L':=[pt b o]) ⟨λy=>if y=b then some o else none,λ_=>rfl,λy p q=>?_,λy p q=>?_,⟨e.ro,hr,λy z q=>?_⟩⟩
 ·dsimp only at q;split at q
  ·rename_i q2;subst q2;unfold yT.of;dsimp only;rw[aaf (by omega)]
  ·cases q
 ·dsimp only at q;split at q
  ·rename_i q2;subst q2;show h.ro<=_;omega
  ·cases q
 ·by_cases q2:y=b
  ·subst q2;rw[yT.qb (o:=o) (by rw[aai rfl])]at q;cases q;exact⟨hg,h2⟩
  ·rw[yT.ki (by rw[aaf q2])]at q;obtain⟨a,rfl⟩:=low y z q;exact⟨e.get y a,aap a e.next⟩
theorem DQ:∀(zs:List Int),ints zs=(zs.map zV).flatten
 |[]=>rfl
 |z::zs=>by
  have:=DQ zs;unfold ints at this ⊢;rw[abq,abq,acr,this];rfl
theorem zaL{v:aaa}{zs:List Int}(W:KV h h' v zs)(e:Old h h')(hr:h'.ro<=h'.next)(s:Sat lo h L):Sat lo h' (ZG 3 1 v (zs.map zV)::L):=by
 rcases W with⟨rfl,rfl⟩|⟨b,c,rfl,hc,h1,h2,h3,h4⟩
 ·exact wJ _ _ (s.TM e.next e.ro e.get)
 ·have:=wD (n:=1) (ty:=3) (rows:=zs.map zV) (c:=c) hc (xH (f:=zV) (λ_=>rfl) zs) (DQ zs) (Eg s e hr h1 h2 h4)
  rwa [aau]at this
theorem MO{t:TypeId}{n:Nat}{v:aaa}{rows:List (List aaa)}(W:KU h h' t v rows)(hn:∀r,r∈rows->r.length=n)(e:Old h h')(hr:h'.ro<=h'.next)(s:Sat lo h L):Sat lo h' (ZG t n v rows::L):=by
 rcases W with⟨rfl,rfl⟩|⟨b,c,rfl,hc,h1,h2,h3,h4⟩
 ·exact wJ _ _ (s.TM e.next e.ro e.get)
 ·exact wD hc hn rfl (Eg s e hr h1 h2 h4)
theorem I3(s:Sat lo h L){v:aaa}{zs:List Int}(hm:ZG 3 1 v (zs.map zV)∈L):zK h v zs:=zaM (y6 (vS s hm) (xH (f:=zV) (λ_=>rfl) zs))
end
end Go.Rtl
namespace Go.Eb
open Go.Ai Go.Proofs
open Go.Rtl (zK zE Old inc pS vS vo bD Uq wC)
open Go.Rm (ZG yR wJ wD cw xf vq y6 xH)
open Go.En (yX u8)
def xO(z:Int):List aaa:=[.int .u8 z]
def vu(v:aaa)(zs:List Int):HP:=ZG 5 1 v (zs.map xO)
def y4(h:za)(v:aaa)(zs:List Int):Prop:=zE h v 1 (zs.map xO)
theorem qi(zs:List Int):∀r,r∈zs.map xO->r.length=1:=xH (f:=xO) (λ_=>rfl) zs
section
variable {lo:yT}{h h':za}{L:List HP}{x y:aaa}{xs ys:List Int}
theorem y9(s:Sat lo h (vu x xs::L)):zS x=false:=xf s
theorem QF(s:Sat lo h (vu x xs::L)):wG x=true:=vq s
theorem yw(s:Sat lo h L)(hm:vu x xs∈L):y4 h x xs:=y6 (vS s hm) (qi xs)
theorem E2(s:Sat lo h L):Sat lo h (vu (.slice none 0 0) []::L):=wJ _ _ s
theorem Xt:∀zs:List Int,(zs.map xO).flatten=zs.map λz=>Value.int .u8 z
 |[]=>rfl
 |z::zs=>by rw[abq,acr,Xt zs];rfl
theorem DB(zs:List Int):(zs.map λz=>Value.int .u8 z).all wG=true:=by
 rw[aaB];intro v hv;obtain⟨z,_,rfl⟩:=aa4.1 hv;rfl
theorem yE(s:Sat lo h L)(zs:List Int)(c:Nat)(hc:c≠0):Sat lo (h.push (.cells (zs.map λz=>Value.int .u8 z) 5)) (vu (.slice (some ⟨h.next,0,none⟩) zs.length c) zs::L):=by
 have:=wD (ty:=5) (n:=1) (rows:=zs.map xO) (c:=c) hc (qi zs) (Xt zs).symm (s.push (.cells (zs.map λz=>Value.int .u8 z) 5))
 rwa [aau]at this
theorem vW(S:y4 h y ys):Kv y=some ys.length/\kh h ys.length 1 y=some (ys.map λz=>Value.int .u8 z):=by
 have a:=S.Ag;have b:=S.first (by decide) (qi ys);rw[aau]at a b;rw[Xt]at b;exact⟨a,b⟩
theorem J8(s:Sat lo h (vu x xs::L))(S:y4 h y ys)(Ui:xs.length+ys.length<=140737488355328) :
  ∃a n c h',(∀r,zB Tryz.prog .append [29,29] r [x,y] h=some (.slice a n c,h'))/\Sat lo h' (vu (.slice a n c) (xs++ys)::L)/\(vQ h->vQ h')/\h.next<=h'.next/\h'.ro=h.ro/\(∀b,b<h.next->b∉pS x->h'.get b=h.get b)/\(∀q,a=some q->q.block∈pS x\/h.next<=q.block):=by
 obtain⟨hn,hf⟩:=vW S;have hap:=λr=>Qy r x y ys.length (ys.map λz=>Value.int .u8 z) h hn hf (DB ys) (by simp);have hr3:=qi (xs++ys);have hlen:((xs++ys).map xO).length=xs.length+ys.length:=by simp
 by_cases h0:ys.length=0
 ·have e0:ys=[]:=abm.1 h0;subst e0;rcases yR s with⟨rfl,e2,s'⟩|⟨b,c,cs,rfl,hc,hl,hf2,s'⟩
  ·have:xs=[]:=by simpa using e2
   subst this;exact⟨none,0,0,h,λr=>by rw[hap];rfl,s,id,aaj _,rfl,λ_ _ _=>rfl,λq hq=>by cases hq⟩
  ·rw[aau]at s hap ⊢;exact⟨some ⟨b,0,none⟩,xs.length,c,h,λr=>by rw[hap];rfl,by rw[aa7];exact s,id,aaj _,rfl,λ_ _ _=>rfl,λq hq=>by cases hq;exact .inl (aar.2 rfl)⟩
 rcases yR s with⟨rfl,e2,s'⟩|⟨b,c,cs,rfl,hc,hl,hf2,s'⟩
 ·have:xs=[]:=by simpa using e2
  subst this;refine⟨some ⟨h.next,0,none⟩,ys.length,1,h.push (.cells (ys.map λz=>Value.int .u8 z) 5),λr=>?_,?_,λw=>Go.Rtl.YS w _,abz _,rfl,λb hb _=>yq hb,λq hq=>by cases hq;exact .inr (aaj _)⟩
  ·rw[hap];simp only[UJ];rw[aaf h0,aai (by simp at Ui;omega)]
  ·have q:=yE s' ys 1 (by decide);rw[abA];exact q
 ·rw[aau]at hl hf2 s hap ⊢
  have hroom:roomFor c (xs.length+ys.length) 1=true:=by
   unfold roomFor;cases Nat.beq c 2 <;> simp only[aav,aaw,abY] <;> omega
  refine⟨some ⟨h.next,0,none⟩,xs.length+ys.length,ux c (xs.length+ys.length),(h.set b none).push (.cells (((cs.drop 0).take (xs.length*1))++(ys.map λz=>Value.int .u8 z)) 5),λr=>?_,?_,λw=>Go.Rtl.YS (Go.Rtl.wf_set w s'.lt _) _,abz _,rfl,λb' hb hne=>?_,λq hq=>by cases hq;exact .inr (aaj _)⟩
  ·rw[hap];simp only[UJ,s'.get];rw[aaf h0,aai ⟨hc,trivial,s'.wr,by omega,hroom,by decide⟩]
  ·have q:=wD (ty:=5) (n:=1) (rows:=(xs++ys).map xO) (c:=ux c (xs.length+ys.length)) (cs:=((cs.drop 0).take (xs.length*1))++(ys.map λz=>Value.int .u8 z)) (bD _ _) hr3 (by rw[abT,hf2,abo,List.flatten_append,Xt ys]) ((s'.forget none).push (.cells (((cs.drop 0).take (xs.length*1))++(ys.map λz=>Value.int .u8 z)) 5));rw[hlen]at q;exact q
  ·simp only[pS,aar]at hne;rw[yq (by show b'<h.next;exact hb),q9 hne]
theorem JB(s:Sat lo h (vu x xs::L))(z:Int)(Ui:xs.length<=140737488300000) :
  ∃a n c h',(∀r,zB Tryz.prog .append [29,29] r [x,.slice (some ⟨h.next,0,none⟩) 1 3] (h.push (.cells [.int .u8 z] 5))=some (.slice a n c,h'))/\Sat lo h' (vu (.slice a n c) (xs++[z])::L)/\(vQ h->vQ h'):=by
 have s1:=(yE s [z] 3 (by decide)).f [1,0];obtain⟨a,n,c,h',a1,s2,w2,_⟩:=J8 (y := .slice (some ⟨h.next,0,none⟩) 1 3) s1 (yw s1 (aaC _ aak)) (by show xs.length+1<=_;omega);exact⟨a,n,c,h',a1,(s2.p 1).drop,λw=>w2 (Go.Rtl.YS w _)⟩
theorem VL{f t:Nat}(s:Sat lo h (vu x xs::L))(hx:∀b,b∈pS x->f<=b/\b<t)(S:y4 h y ys)(Ui:xs.length+ys.length<=140737488355328)(hyn:zS y=false){K:aaa->za->Prop}
  (k:∀a n c h',Sat lo h' (vu (.slice a n c) (xs++ys)::L)->K (.slice a n c) h'):JA Tryz.prog [29,29] 29 [x,y] (some (f,t)) h h K:=by
 obtain⟨a,n,c,h',a1,s2,w2,n2,r2,g2,b2⟩:=J8 s S Ui;refine⟨?_,?_⟩
 ·rcases yR s with⟨rfl,e2,s'⟩|⟨b,c,cs,rfl,hc,hl,hf2,s'⟩
  ·trivial
  ·have:=hx b (aar.2 rfl);exact⟨this.1,this.2,by rw[s'.get];simp⟩
 ·rw[a1,ZW (y9 s),ZW hyn,JP];show K _ _;have gn:(vz (JZ h x h') h').next=h'.next:=wC _ _;have gr:(vz (JZ h x h') h').ro=h'.ro:=by rw[Uq,re,r2]
  refine k a n c _ (s2.TM (Nat.le_of_eq gn.symm) gr λb hb=>?_);rw[vp,KK];by_cases hb1:h.next<=b/\b<h'.next
  ·rw[aai hb1]
  ·rw[aaf hb1];have hlt:b<h.next:=by omega
   by_cases hbx:b∈pS x
   ·rcases yR s with⟨rfl,e2,s'⟩|⟨b3,c,cs,rfl,hc,hl,hf2,s'⟩
    ·cases hbx
    ·have:=aar.1 hbx;subst this;show(h.set b (h'.get b)).get b=_;rw[YN]
   ·have:(JZ h x h').get b=h.get b:=by
     rcases AX h x h' b with q|⟨⟨q,n,m,e1,e2⟩,e3⟩
     ·exact q
     ·subst e1;exact absurd (by rw[e2];exact aar.2 rfl) hbx
    rw[this,g2 b hlt hbx]
theorem Wj{P:Program}{g:FuncId}{args:List aaa}{hv:za}{K R:aaa->za->Prop}(hc:wA P g=true)(hn:yi args=true)(wf:vQ h)(s:Sat lo h L)(vn:hv.next=h.next)(vg:∀b o,hv.get b=some o->h.get b=some o)(d:DC P g args hv.lock R)
  (hk:∀v h2,R v h2->(∀L',Sat (.of hv.lock) h2 L'->Sat lo (vz h h2) (L'++L))->vQ (vz h h2)->K v (vz h h2)):kC P g args hv h K:=by
 have wl:vQ hv.lock:=⟨λb o hb=>by
  have:=wf.1 b o (vg b o hb);show b<hv.next;rw[vn];exact this,aaj _⟩
 obtain⟨v,h1,r,af,t⟩:=d wl;have nx:h.next<=h1.next:=by have:=af.next;rw[<- vn];exact this
 have w1:=wl.af af;have gn:(vz h h1).next=h1.next:=wC _ _;refine⟨hc,hn,v,h1,t,af,hk v h1 r (λL' s2=>?_) ⟨λb o hb=>?_,?_⟩⟩
 ·
  have s3:Sat (.of h.lock) (vz h.lock h1) L':=by
   refine s2.to (λb hb hl=>?_) ?_ ?_ ?_ ?_
   ·unfold yT.of at hl ⊢;dsimp only at hl ⊢;split at hl
    ·cases hl
    ·rename_i q;rw[aaf (by intro q2;exact q (by show b<hv.next;rw[vn];exact q2))]
   ·have:=(Sat.self (h:=h.lock) (aaj _)).TM (h':=vz h.lock h1) (by rw[wC];exact nx) rfl (λb hb=>by rw[vp,aaf (by intro q;exact absurd hb (by have:=q.1;show ¬b<h.next;have:h.next<=b:=this;omega))]);exact this.base
   ·show h.next=hv.next;rw[vn]
   ·rw[wC];exact aaj _
   ·intro b hb hl
    have:¬b<h.next:=by
     intro q;unfold yT.of at hl;dsimp only at hl;rw[aai (by show b<hv.next;rw[vn];exact q)]at hl;cases hl
    rw[vp,aai ⟨by show h.next<=b;omega,hb⟩]
  have s4:=s.vz s3;refine s4.TM ?_ rfl λb hb=>?_
  ·rw[wC,wC,wC];exact aaj _
  ·rw[wC,wC]at hb;rw[vp,vp,vp,wC];by_cases q:h.next<=b/\b<h1.next
   ·rw[aai q,aai q,aai (show h.lock.next<=b/\b<h1.next from q)]
   ·rw[aaf q,aaf q]
 ·rw[vp]at hb;rw[gn];split at hb
  ·rename_i q;exact q.2
  ·exact aap (wf.1 b o hb) nx
 ·rw[gn];exact aaW wf.2 nx
end
end Go.Eb
namespace Go.En
open Go.Ai Go.Proofs
abbrev orU(a b:Int):Int:=IntKind.wrap .u8 (BitVec.ofInt (IntKind.bits .u8) a ||| BitVec.ofInt (IntKind.bits .u8) b).toNat
abbrev orI(a b:Int):Int:=IntKind.wrap .i64 (BitVec.ofInt (IntKind.bits .i64) a ||| BitVec.ofInt (IntKind.bits .i64) b).toNat
abbrev ze1(a:Int):Int:=IntKind.wrap .i64 (BitVec.ofInt (IntKind.bits .i64) a &&& BitVec.ofInt (IntKind.bits .i64) 7).toNat
theorem US{a:Int}{n:Nat}(h0:0<=a)(h1:a<n):∃k:Fin n,a=(k.1:Int):=⟨⟨a.toNat,by omega⟩,by show a=((a.toNat:Nat):Int);omega⟩
theorem EX{a:Int}(h0:0<=a)(h1:a<16):ze1 a=a%8:=by
 obtain⟨k,rfl⟩:=US (n:=16) h0 h1
 revert k;decide
theorem zgb{a b:Int}(a0:0<=a)(a1:a<8)(b0:0<=b)(b1:b<8):orU (orU 192 (IntKind.wrap .u8 (IntKind.wrap .u8 a*2^(min (3:Int).toNat (IntKind.bits .u8))))) (IntKind.wrap .u8 b)=192+a*8+b:=by
 obtain⟨k,rfl⟩:=US (n:=8) a0 a1;obtain⟨j,rfl⟩:=US (n:=8) b0 b1
 revert k j;decide
theorem zfT{a b:Int}(a0:0<=a)(a1:a<8)(b0:0<=b)(b1:b<8):orU (orU 128 (IntKind.wrap .u8 (IntKind.wrap .u8 a*2^(min (3:Int).toNat (IntKind.bits .u8))))) (IntKind.wrap .u8 b)=128+a*8+b:=by
 obtain⟨k,rfl⟩:=US (n:=8) a0 a1;obtain⟨j,rfl⟩:=US (n:=8) b0 b1
 revert k j;decide
theorem zd8{a:Int}(a0:0<=a)(a1:a<8):orU 5 (IntKind.wrap .u8 (IntKind.wrap .u8 a*2^(min (3:Int).toNat (IntKind.bits .u8))))=5+a*8:=by
 obtain⟨k,rfl⟩:=US (n:=8) a0 a1
 revert k;decide
theorem zga{a b:Int}(a0:0<=a)(a1:a<8)(b0:0<=b)(b1:b<8):IntKind.wrap .u8 (orI (orI 192 (IntKind.wrap .i64 (a*2^(min (3:Int).toNat (IntKind.bits .i64))))) b)=192+a*8+b:=by
 obtain⟨k,rfl⟩:=US (n:=8) a0 a1;obtain⟨j,rfl⟩:=US (n:=8) b0 b1
 revert k j;decide
theorem zfS{a b:Int}(a0:0<=a)(a1:a<8)(b0:0<=b)(b1:b<8):IntKind.wrap .u8 (orI (orI 128 (IntKind.wrap .i64 (a*2^(min (3:Int).toNat (IntKind.bits .i64))))) b)=128+a*8+b:=by
 obtain⟨k,rfl⟩:=US (n:=8) a0 a1;obtain⟨j,rfl⟩:=US (n:=8) b0 b1
 revert k j;decide
theorem zd7{a:Int}(a0:0<=a)(a1:a<8):IntKind.wrap .u8 (orI 5 (IntKind.wrap .i64 (a*2^(min (3:Int).toNat (IntKind.bits .i64)))))=5+a*8:=by
 obtain⟨k,rfl⟩:=US (n:=8) a0 a1
 revert k;decide
theorem KI(a:Int):0<=a%8/\a%8<8:=by omega
theorem Oo{i:Nat}(hi:i<8)(v:Int):IntKind.wrap .u8 (v.fdiv (2^(min ((8*(i:Nat):Int)).toNat (IntKind.bits .i64))))=u8 (v.fdiv (2^(8*i))):=by
 have e:min ((8*(i:Nat):Int)).toNat (IntKind.bits .i64)=8*i:=by
  have:IntKind.bits .i64=64:=rfl;rw[this];omega
 rw[e]
theorem Bo(n:Nat)(v:Int):yX (n+1) v=yX n v++[u8 (v.fdiv (2^(8*n)))]:=by
 unfold yX;rw[abG,abo];rfl
abbrev orV(a b:Int):Int:=IntKind.wrap .u64 (BitVec.ofInt (IntKind.bits .u64) a ||| BitVec.ofInt (IntKind.bits .u64) b).toNat
theorem OD{i:Nat}(hi:i<8){v z:Int}(v0:0<=v)(v1:v<2^(8*i))(z0:0<=z)(z1:z<256) :
  orV v (IntKind.wrap .u64 (IntKind.wrap .u64 z*2^(min ((8*(i:Nat):Int)).toNat (IntKind.bits .u64))))=v+z*2^(8*i):=by
 have e:min ((8*(i:Nat):Int)).toNat (IntKind.bits .u64)=8*i:=by
  have:IntKind.bits .u64=64:=rfl;rw[this];omega
 rw[e];obtain⟨a,rfl⟩:=Int.eq_ofNat_of_zero_le v0;obtain⟨c,rfl⟩:=Int.eq_ofNat_of_zero_le z0;have ha:a<2^(8*i):=by exact_mod_cast v1
 have hc:c<256:=by exact_mod_cast z1
 have hp:(2:Nat)^(8*i)*256<=2^64:=by
  have:(256:Nat)=2^8:=rfl;rw[this,<- Nat.pow_add];exact Nat.pow_le_pow_right (by decide) (by omega)
 have hcp:c*2^(8*i)+a<2^64:=by
  have:c*2^(8*i)+2^(8*i)<=256*2^(8*i):=by
   have:=abN (2^(8*i)) (show c+1<=256 by omega);rw[acn,Nat.one_mul]at this;exact this
  omega
 have w1:∀n:Nat,n<2^64->IntKind.wrap .u64 (n:Int)=n:=λn hn=>by
  simp only[IntKind.wrap,IntKind.bits,IntKind.signed];simp;omega
 have w2:IntKind.wrap .u64 (c:Int)=c:=w1 c (by omega);rw[w2];have e2:((c:Int)*2^(8*i))=((c*2^(8*i):Nat):Int):=by push_cast;rfl
 rw[e2,w1 _ (by omega)];show IntKind.wrap .u64 (((BitVec.ofInt 64 (a:Int) ||| BitVec.ofInt 64 ((c*2^(8*i):Nat):Int)).toNat:Nat):Int)=_;rw[BitVec.ofInt_natCast,BitVec.ofInt_natCast,BitVec.toNat_or,BitVec.toNat_ofNat,BitVec.toNat_ofNat,Nat.mod_eq_of_lt (by omega),Nat.mod_eq_of_lt (by omega)]
 have e3:a ||| c*2^(8*i)=c*2^(8*i)+a:=by
  rw[Nat.or_comm,Nat.mul_comm,Nat.two_pow_add_eq_or_of_lt ha]
 rw[e3,w1 _ hcp]
 push_cast
 omega
def VH:List Int->Int
 |[]=>0
 |z::zs=>z+256*VH zs
theorem ri:∀(xs:List Int) (z:Int),VH (xs++[z])=VH xs+z*2^(8*xs.length)
 |[],z=>by show z+256*0=0+z*2^0;omega
 |x::xs,z=>by
  show x+256*VH (xs++[z])=x+256*VH xs+z*2^(8*(xs.length+1));rw[ri xs z]
  have:(2:Int)^(8*(xs.length+1))=256*2^(8*xs.length):=by
   rw[Nat.mul_add,Int.pow_add];show _*(256:Int)=_;rw[Int.mul_comm]
  rw[this,Int.mul_add]
  have:256*(z*2^(8*xs.length))=z*(256*(2:Int)^(8*xs.length)):=by
   rw[<- Int.mul_assoc,<- Int.mul_assoc,Int.mul_comm 256 z]
  omega
theorem nh:∀(xs:List Int),(∀x,x∈xs->0<=x/\x<256)->0<=VH xs/\VH xs<2^(8*xs.length)
 |[],h=>by show(0:Int)<=0/\(0:Int)<1;omega
 |x::xs,h=>by
  have a:=h x aak;have b:=nh xs λy hy=>h y (aaC _ hy)
  have:(2:Int)^(8*(xs.length+1))=256*2^(8*xs.length):=by
   rw[Nat.mul_add,Int.pow_add];show _*(256:Int)=_;rw[Int.mul_comm]
  show 0<=x+256*VH xs/\x+256*VH xs<2^(8*(xs.length+1));rw[this];omega
theorem KR(n:Int):u8 n=n%256:=by
 simp only[u8,IntKind.wrap,IntKind.bits,IntKind.signed];simp
theorem TV(v a:Int)(ha:0<a):v%(a*256)=v%a+v/a%256*a:=by
 have h1:=Int.emod_add_mul_ediv v a;have h2:=Int.emod_add_mul_ediv (v/a) 256;have h3:=Int.emod_nonneg v (show a≠0 by omega);have h4:=Int.emod_lt_of_pos v ha;have h5:0<=v/a%256:=by omega
 have h6:v/a%256<=255:=by omega
 have h7:0<=v/a%256*a:=Int.mul_nonneg h5 (Int.le_of_lt ha);have h8:v/a%256*a<=255*a:=Int.mul_le_mul_of_nonneg_right h6 (Int.le_of_lt ha)
 have e:v=(v%a+v/a%256*a)+a*256*(v/a/256):=by
  have:a*(v/a)=v/a%256*a+a*256*(v/a/256):=by
   conv=>lhs;rw[<- h2]
   rw[Int.mul_add,Int.mul_comm a,Int.mul_assoc]
  omega
 conv=>lhs;rw[e]
 rw[Int.add_mul_emod_self_left,Int.emod_eq_of_lt (by omega) (by omega)]
theorem p9(v:Int):∀n:Nat,VH (yX n v)=v%2^(8*n)
 |0=>by show(0:Int)=v%1;omega
 |n+1=>by
  rw[Bo,ri,xb,p9 v n,KR,Int.fdiv_eq_ediv_of_nonneg _ (by exact Int.le_of_lt (Int.pow_pos (by decide)))]
  have e:(2:Int)^(8*(n+1))=2^(8*n)*256:=by
   rw[Nat.mul_add,Int.pow_add];rfl
  rw[e,TV v _ (Int.pow_pos (by decide))]
open Go.Mem (UW)
def xJ(xs:List Int):Prop := ∀x,x∈xs->0<=x/\x<256
theorem kE(n:Nat)(v:Int):xJ (yX n v):=by
 intro x hx;unfold yX at hx;obtain⟨i,_,rfl⟩:=aa4.1 hx;rw[KR];omega
theorem OT:∀(xs ys:List Int),xs.length=ys.length->xJ xs->xJ ys->VH xs=VH ys->xs=ys
 |[],[],_,_,_,_=>rfl
 |[],y::ys,h,_,_,_=>by cases h
 |x::xs,[],h,_,_,_=>by cases h
 |x::xs,y::ys,h,hx,hy,e=>by
  have a:=hx x aak;have b:=hy y aak;have e:x+256*VH xs=y+256*VH ys:=e;have e1:x=y:=by omega
  have e2:VH xs=VH ys:=by omega
  rw[e1,OT xs ys (by simpa using h) (λz hz=>hx z (aaC _ hz)) (λz hz=>hy z (aaC _ hz)) e2]
theorem TN{n:Nat}{v:Int}{bs:List Int}(hl:bs.length=n)(hb:xJ bs)(h:v%2^(8*n)=VH bs):yX n v=bs :=
 OT _ _ (by rw[xb,hl]) (kE n v) hb (by rw[p9,h])
def Vy(bs:List Int):Int:=IntKind.wrap .i64 (IntKind.wrap .i32 (VH bs))
def QN(bs:List Int):Int:=IntKind.wrap .i64 (VH bs)
theorem P2{bs:List Int}(hl:bs.length=4)(hb:xJ bs):yX 4 (Vy bs)=bs:=by
 have:=nh bs hb;rw[hl]at this;refine TN hl hb ?_;unfold Vy;simp only[IntKind.wrap,IntKind.bits,IntKind.signed];simp;split <;> split <;> omega
theorem P3{bs:List Int}(hl:bs.length=8)(hb:xJ bs):yX 8 (QN bs)=bs:=by
 have:=nh bs hb;rw[hl]at this;refine TN hl hb ?_;unfold QN;simp only[IntKind.wrap,IntKind.bits,IntKind.signed];simp;split <;> omega
theorem dy{k:Int}(h:Go.Ar.zQ k=true):Vy (yX 4 k)=k:=by
 unfold Go.Ar.zQ at h;rw[aad,aaF,aaF]at h;unfold Vy;rw[p9];simp only[IntKind.wrap,IntKind.bits,IntKind.signed];simp;split <;> split <;> omega
theorem PT{k:Int}(h:UW k):QN (yX 8 k)=k:=by
 unfold UW at h;unfold QN;rw[p9];simp only[IntKind.wrap,IntKind.bits,IntKind.signed];simp;split <;> omega
theorem bQ{bs:List Int}(hl:bs.length=4)(hb:xJ bs):Go.Ar.zQ (Vy bs)=true:=by
 have:=nh bs hb;rw[hl]at this;unfold Go.Ar.zQ Vy;rw[aad,aaF,aaF];simp only[IntKind.wrap,IntKind.bits,IntKind.signed];simp;split <;> split <;> omega
end Go.En
namespace Go.Eb
open Go.Ai Go.Proofs
open Go.Rtl (zK zE Old inc xw yz i0 vx)
open Go.En
def i5(n:Int)(v:aaa)(_:za):Prop:=v=.int .u8 n
theorem vR{f:FuncId}{args:List aaa}{h:za}{n:Int}(d:DC Tryz.prog f args h.lock (i5 n)):vt Tryz.prog f args h (.int .u8 n):=vt.of rfl d
theorem N8(k:Int)(h:za):vt Tryz.prog 48 [.int .i64 k] h (.bool (Go.Ar.zQ k)):=by
 apply yz;apply Lo;unfold Na;rw[<- Go.Ar.vX];unfold Go.As.bJ;by_cases hk:k=IntKind.wrap .i64 (IntKind.wrap .i32 k)
 ·simp only[EE,iN,pU];simp[xw]
 ·simp only[EE,iN,pU];simp[xw]
theorem OL{base:Int}(hb:base=72\/base=64)(a b:Int)(h:za):vt Tryz.prog 49 [.int .u8 base,.int .i64 a,.int .i64 b] h (.int .u8 (zj base a b)):=by
 apply vR;apply Sp;unfold zcF i5 zj;rcases hb with rfl|rfl
 ·by_cases h1:a ≥ 8
  ·by_cases h2:b ≥ 8
   ·simp only[EE,nth,Int.reduceAdd,Ud,h1,h2] <;> rfl
   ·simp only[EE,nth,Int.reduceAdd,Ud,h1,h2] <;> rfl
  ·by_cases h2:b ≥ 8
   ·simp only[EE,nth,Int.reduceAdd,Ud,h1,h2] <;> rfl
   ·simp only[EE,nth,Int.reduceAdd,Ud,h1,h2] <;> rfl
 ·by_cases h1:a ≥ 8
  ·by_cases h2:b ≥ 8
   ·simp only[EE,nth,Int.reduceAdd,Ud,h1,h2] <;> rfl
   ·simp only[EE,nth,Int.reduceAdd,Ud,h1,h2] <;> rfl
  ·by_cases h2:b ≥ 8
   ·simp only[EE,nth,Int.reduceAdd,Ud,h1,h2] <;> rfl
   ·simp only[EE,nth,Int.reduceAdd,Ud,h1,h2] <;> rfl
theorem VO{base:Int}(hb:base=72\/base=64)(a b:Int)(h:za):vt Tryz.prog 38 [.int .u8 base,.int .i64 a,.int .i64 b] h (.int .u8 (zj base a b)):=by
 apply vR;apply O7;unfold Sd i5 zj;rcases hb with rfl|rfl
 ·by_cases h1:a ≥ 8
  ·by_cases h2:b ≥ 8
   ·simp only[EE,nth,Int.reduceAdd,X9,h1,h2] <;> rfl
   ·simp only[EE,nth,Int.reduceAdd,X9,h1,h2] <;> rfl
  ·by_cases h2:b ≥ 8
   ·simp only[EE,nth,Int.reduceAdd,X9,h1,h2] <;> rfl
   ·simp only[EE,nth,Int.reduceAdd,X9,h1,h2] <;> rfl
 ·by_cases h1:a ≥ 8
  ·by_cases h2:b ≥ 8
   ·simp only[EE,nth,Int.reduceAdd,X9,h1,h2] <;> rfl
   ·simp only[EE,nth,Int.reduceAdd,X9,h1,h2] <;> rfl
  ·by_cases h2:b ≥ 8
   ·simp only[EE,nth,Int.reduceAdd,X9,h1,h2] <;> rfl
   ·simp only[EE,nth,Int.reduceAdd,X9,h1,h2] <;> rfl
theorem QH{cc:Int}(h0:21<=cc)(h1:cc<=26)(h:za):vt Tryz.prog 83 [.int .i64 cc] h (.int .u8 (vd cc)):=by
 apply vR;apply sK;unfold ow i5;have:cc=21\/cc=22\/cc=23\/cc=24\/cc=25\/cc=26:=by omega
 rcases this with rfl|rfl|rfl|rfl|rfl|rfl <;> (simp only[EE,↓zq,Int.reduceEq,dZ,ee,en,eu,ew];rfl)
theorem dr(s:Int)(h:za):vt Tryz.prog 51 [.int .i64 s] h (.int .u8 (kp s)):=by
 apply vR;apply Ey;unfold CE i5 kp;by_cases h1:s=11
 ·subst h1;simp only[EE,↓zq,Int.reduceEq,XN]
 by_cases h2:s=12
 ·subst h2;simp only[EE,↓zq,Int.reduceEq,Va,XN]
 by_cases h3:s=16
 ·subst h3;simp only[EE,↓zq,Int.reduceEq,Qh,Va,XN]
 by_cases h4:s=17
 ·subst h4;simp only[EE,↓zq,Int.reduceEq,aQ,Qh,Va,XN]
 simp only[EE,↓zq,aQ,Qh,Va,XN,h1,h2,h3,h4]
theorem T7(s:Int)(h:za):vt Tryz.prog 59 [.int .i64 s] h (.int .u8 (kp s)):=by
 apply vR;apply Hi;unfold Hh i5 kp;by_cases h1:s=11
 ·subst h1;simp only[EE,↓zq,Int.reduceEq,WE]
 by_cases h2:s=12
 ·subst h2;simp only[EE,↓zq,Int.reduceEq,fU,Js,Ux,WE]
 by_cases h3:s=16
 ·subst h3;simp only[EE,↓zq,Int.reduceEq,Js,Ux,WE]
 by_cases h4:s=17
 ·subst h4;simp only[EE,↓zq,Int.reduceEq,Ux,WE]
 simp only[EE,↓zq,fU,Js,Ux,WE,h1,h2,h3,h4]
theorem zbc(s:Int)(h:za):vt Tryz.prog 60 [.int .i64 s] h (.int .i64 (ZQ s)):=by
 apply vx;apply Ln;unfold M9 i0 ZQ;by_cases h1:s=11
 ·subst h1;simp only[EE,↓zq,Int.reduceEq,Un]
 by_cases h2:s=12
 ·subst h2;simp only[EE,↓zq,Int.reduceEq,lS,cQ,Kh,Un]
 by_cases h3:s=16
 ·subst h3;simp only[EE,↓zq,Int.reduceEq,cQ,Kh,Un]
 by_cases h4:s=17
 ·subst h4;simp only[EE,↓zq,Int.reduceEq,Kh,Un]
 simp only[EE,↓zq,lS,cQ,Kh,Un,h1,h2,h3,h4]
theorem rf{s:Int}(hs:s=19\/s=20)(h:za):vt Tryz.prog 61 [.int .i64 s] h (.int .i64 (kF s)):=by
 apply vx;apply Lt;unfold Ny i0;rcases hs with rfl|rfl <;> (simp only[EE,Int.reduceEq];rfl)
theorem Wr{a b:Int}(a0:0<=a)(a1:a<16)(b0:0<=b)(b1:b<16)(h:za):vt Tryz.prog 57 [.int .i64 a,.int .i64 b] h (.int .u8 (zW a b)):=by
 apply vR;apply Sq;unfold zcG i5;have e1:=EX a0 a1;have e2:=EX b0 b1;have e3:=zga (KI a).1 (KI a).2 (KI b).1 (KI b).2;unfold ze1 at e1 e2;unfold orI at e3;simp only[EE,Int.reduceLE,Int.reduceToNat,Q3,e1,e2];exact congrArg (Value.int .u8) e3
theorem wk(n:Nat)(hn:n<6):IntKind.wrap .i64 (n:Int)=n:=Go.Mem.OV (by omega) (by omega)
theorem S9{cc:Int}(h0:21<=cc)(h1:cc<=26)(h:za):vt Tryz.prog 62 [.int .i64 cc] h (.int .u8 (vd cc)):=by
 apply vR;apply O5;unfold Sa i5;obtain⟨k,hk,rfl⟩:∃k:Nat,k<6/\cc=21+(k:Int):=⟨(cc-21).toNat,by omega,by omega⟩;have w:IntKind.wrap .i64 (21+(k:Int)-21)=k:=by rw[show 21+(k:Int)-21=k by omega];exact wk k hk
 have c:0<=(k:Int)/\(k:Int)<((6:Nat):Int):=by omega
 have t:((k:Int)).toNat*1=k:=by omega
 simp only[EE,zu,Vs,dM,Yt,w,c,t];have:k=0\/k=1\/k=2\/k=3\/k=4\/k=5:=by omega
 rcases this with rfl|rfl|rfl|rfl|rfl|rfl <;> (simp only[EE];rfl)
theorem It{i:Nat}(hi:i<8)(v:Int):IntKind.wrap .i64 (8*(i:Int))=((8*i:Nat):Int):=by
 rw[Go.Mem.OV (by omega) (by omega)];push_cast;rfl
section
variable {lo:yT}{h:za}{L:List HP}
theorem i7{n:Nat}(hn:n<=8)(v:Int):DC Tryz.prog 26 [.int .i64 n,.int .i64 v] h (λr h'=>Sat (.of h) h' [vu r (yX n v)]):=by
 apply YZ;intro wf;apply G8;unfold G6;have s0:Sat (.of h) h []:=Sat.self wf.2;simp only[↓zq];refine qo (λm vs h'=>∃(i:Nat) (r:aaa),i<=n/\m=n-i/\vs=[r,.int .i64 (i:Nat)]/\Sat (.of h) h' [vu r (yX i v)]) n ⟨0,.slice none 0 0,aaP _,rfl,rfl,E2 s0⟩ ?_;rintro m vs h' ⟨i,r,hi,rfl,rfl,s⟩;have rn:=y9 s;unfold th;by_cases hc:(i:Int)<(n:Int)
 ·have hin:=inc (show i<4611686018427387904 by omega);have e8:=It (show i<8 by omega) v;have lb:=Oo (show i<8 by omega) v;have c0:(0:Int)<=((8*i:Nat):Int):=by omega
  have hl:(yX i v).length=i:=xb i v;obtain⟨a,l,c,h2,a1,s2,_⟩:=JB s (IntKind.wrap .u8 (v.fdiv (2^(min ((8*(i:Nat):Int)).toNat (IntKind.bits .i64))))) (by omega);have ec:(8*(i:Nat):Int)=((8*i:Nat):Int):=by push_cast;rfl
  rw[ec]at a1;simp only[EE,nth,↓zq,yL,mJ,td,tg,hc,rn,e8,c0,a1,hin];refine⟨n-(i+1),by omega,i+1,.slice a l c,by omega,rfl,rfl,?_⟩;rw[Bo,<- lb];exact s2
 ·have e:i=n:=by omega
  subst e;simp only[EE,nth,hc,rn];exact s
theorem TP{n:Nat}(hn:n<=8)(v:Int):DC Tryz.prog 39 [.int .i64 v,.int .i64 n] h (λr h'=>Sat (.of h) h' [vu r (yX n v)]):=by
 apply YZ;intro wf;apply Sk;unfold zcE;have s0:Sat (.of h) h []:=Sat.self wf.2;simp only[];refine qo (λm vs h'=>∃(i:Nat) (r:aaa),i<=n/\m=n-i/\vs=[r,.int .i64 (i:Nat)]/\Sat (.of h) h' [vu r (yX i v)]) n ⟨0,_,aaP _,rfl,rfl,yE s0 [] 2 (by decide)⟩ ?_;rintro m vs h' ⟨i,r,hi,rfl,rfl,s⟩;have rn:=y9 s;unfold Nu;by_cases hc:(i:Int)<(n:Int)
 ·have hin:=inc (show i<4611686018427387904 by omega);have e8:=It (show i<8 by omega) v;have lb:=Oo (show i<8 by omega) v;have c0:(0:Int)<=((8*i:Nat):Int):=by omega
  have hl:(yX i v).length=i:=xb i v;obtain⟨a,l,c,h2,a1,s2,_⟩:=JB s (IntKind.wrap .u8 (v.fdiv (2^(min ((8*(i:Nat):Int)).toNat (IntKind.bits .i64))))) (by omega);have ec:(8*(i:Nat):Int)=((8*i:Nat):Int):=by push_cast;rfl
  rw[ec]at a1
  have wu:IntKind.wrap .u64 ((8*i:Nat):Int)=((8*i:Nat):Int):=by
   simp only[IntKind.wrap,IntKind.bits,IntKind.signed];simp;omega
  simp only[EE,nth,↓zq,yL,mJ,N5,Ns,Nt,hc,rn,e8,wu,c0,a1,hin];refine⟨n-(i+1),by omega,i+1,.slice a l c,by omega,rfl,rfl,?_⟩;rw[Bo,<- lb];exact s2
 ·have e:i=n:=by omega
  subst e;simp only[EE,nth,hc,rn];exact s
end
section
variable {lo:yT}{h:za}{L:List HP}{ov:aaa}{ops:List Int}{a b base k:Int}
theorem J7(h0:0<=a)(h1:a<16):IntKind.wrap .i64 (BitVec.ofInt (IntKind.bits .i64) a &&& BitVec.ofInt (IntKind.bits .i64) 7).toNat=a%8:=EX h0 h1
theorem zf9(a b:Int):IntKind.wrap .u8 (BitVec.ofInt (IntKind.bits .u8) (IntKind.wrap .u8 (BitVec.ofInt (IntKind.bits .u8) 192 ||| BitVec.ofInt (IntKind.bits .u8) (IntKind.wrap .u8 (IntKind.wrap .u8 (a%8)*2^(min 3 (IntKind.bits .u8))))).toNat) ||| BitVec.ofInt (IntKind.bits .u8) (IntKind.wrap .u8 (b%8))).toNat=zW a b:=zgb (KI a).1 (KI a).2 (KI b).1 (KI b).2
theorem zfR(a b:Int):IntKind.wrap .u8 (BitVec.ofInt (IntKind.bits .u8) (IntKind.wrap .u8 (BitVec.ofInt (IntKind.bits .u8) 128 ||| BitVec.ofInt (IntKind.bits .u8) (IntKind.wrap .u8 (IntKind.wrap .u8 (a%8)*2^(min 3 (IntKind.bits .u8))))).toNat) ||| BitVec.ofInt (IntKind.bits .u8) (IntKind.wrap .u8 (b%8))).toNat=128+a%8*8+b%8:=zfT (KI a).1 (KI a).2 (KI b).1 (KI b).2
theorem zee(a b:Int):IntKind.wrap .u8 (IntKind.wrap .i64 (BitVec.ofInt (IntKind.bits .i64) (IntKind.wrap .i64 (BitVec.ofInt (IntKind.bits .i64) 128 ||| BitVec.ofInt (IntKind.bits .i64) (IntKind.wrap .i64 (a%8*2^(min 3 (IntKind.bits .i64))))).toNat) ||| BitVec.ofInt (IntKind.bits .i64) (b%8)).toNat)=128+a%8*8+b%8:=zfS (KI a).1 (KI a).2 (KI b).1 (KI b).2
theorem m8(hb:base=72\/base=64)(O:y4 h ov ops)(hl:ops.length<=100)(a0:0<=a)(a1:a<16)(b0:0<=b)(b1:b<16) :
  DC Tryz.prog 47 [.int .u8 base,ov,.int .i64 a,.int .i64 b] h (λr h'=>Sat (.of h) h' [vu r (zj base a b::ops++[zW a b])]):=by
 apply YZ;intro wf;apply Pe;unfold Sn;have s0:Sat (.of h) h []:=Sat.self wf.2;have on:=O.ai;refine X2 (OL hb a b h) ?_;have s1:Sat (.of h) (h.push (.cells [.int .u8 (zj base a b)] 5)) [vu (.slice (some ⟨h.next,0,none⟩) 1 3) [zj base a b]]:=yE s0 [zj base a b] 3 (by decide);obtain⟨x1,n1,c1,h2,e1,s2,_⟩:=J8 s1 (O.old (Old.push _ _)) (by simp;omega);obtain⟨x2,n2,c2,h3,e2,s3,_⟩:=JB s2 (zW a b) (by simp;omega);have q1:=J7 a0 a1;have q2:=J7 b0 b1;have q3:=zf9 a b;simp only[EE,Int.reduceLE,Int.reduceToNat,yL,Q3,Ho,on,e1,q1,q2,q3,e2];exact s3
theorem P4(R:Int)(ops:List Int)(a m k:Int):(if m%8=4 then zj base a m::ops++[128+a%8*8+m%8]++[36] else zj base a m::ops++[128+a%8*8+m%8])++yX 4 k=zj base a m::ops++uB a m k:=by
 unfold uB WY;split <;> simp
theorem TU(hb:base=72\/base=64)(O:y4 h ov ops)(hl:ops.length<=100)(a0:0<=a)(a1:a<16)(b0:0<=b)(b1:b<16)(k:Int) :
  DC Tryz.prog 50 [.int .u8 base,ov,.int .i64 a,.int .i64 b,.int .i64 k] h (λr h'=>Sat (.of h) h' [vu r (zj base a b::ops++uB a b k)]):=by
 apply YZ;intro wf;apply Ha;unfold G9;have s0:Sat (.of h) h []:=Sat.self wf.2;have on:=O.ai;refine X2 (OL hb a b h) ?_;have s1:Sat (.of h) (h.push (.cells [.int .u8 (zj base a b)] 5)) [vu (.slice (some ⟨h.next,0,none⟩) 1 3) [zj base a b]]:=yE s0 [zj base a b] 3 (by decide);obtain⟨x1,n1,c1,h2,e1,s2,_⟩:=J8 s1 (O.old (Old.push _ _)) (by simp;omega);obtain⟨x2,n2,c2,h3,e2,s3,_⟩:=JB s2 (128+a%8*8+b%8) (by simp;omega);have q1:=J7 a0 a1;have q2:=J7 b0 b1;have q3:=zfR a b
 have go:∀{x:aaa} {xs:List Int} {h3:za},Sat (.of h) h3 [vu x xs]->xs.length<=1000->xs++yX 4 k=zj base a b::ops++uB a b k->fL (.int .i64 k) (λr h'=>Sat (.of h) h' [vu r (zj base a b::ops++uB a b k)]) [x] h3:=λ{x xs h3} s3 hx ex=>by
  unfold fL;have xn:=y9 s3;simp only[];refine Kd (i7 (n:=4) (by decide) k) ?_;rintro r h4 s4;have s5:=s3.join s4;have rn:=y9 s4;obtain⟨x4,n4,c4,h5,e4,s6,_⟩:=J8 (s5.f [1,0]) (yw s5 aak) (by rw[xb];omega);simp only[EE,nth,xn,rn,e4];have:=s6.k [0];rw[ex]at this;exact this
 simp only[EE,Int.reduceLE,Int.reduceToNat,yL,Q3,tq,on,e1,q1,q2,q3,e2];have ms:=P4 (base:=base) 0 ops a b k;by_cases hm:b%8=4
 ·rw[aai hm]at ms;obtain⟨x5,n5,c5,h6,e5,s5,_⟩:=JB s3 36 (by simp;omega);simp only[EE,yL,tj,hm,e5];exact go s5 (by simp;omega) ms
 ·rw[aaf hm]at ms;simp only[EE,hm];exact go s3 (by simp;omega) ms
theorem DH(a0:0<=a)(a1:a<16)(b0:0<=b)(b1:b<16)(k:Int) :
  DC Tryz.prog 58 [.int .i64 a,.int .i64 b,.int .i64 k] h (λr h'=>Sat (.of h) h' [vu r (uB a b k)]):=by
 apply YZ;intro wf;apply EA;unfold CL;have s0:Sat (.of h) h []:=Sat.self wf.2;have q1:=J7 a0 a1;have q2:=J7 b0 b1;have q3:=zee a b;have s3:Sat (.of h) (h.push (.cells [.int .u8 (128+a%8*8+b%8)] 5)) [vu (.slice (some ⟨h.next,0,none⟩) 1 3) [128+a%8*8+b%8]]:=yE s0 [128+a%8*8+b%8] 3 (by decide)
 have go:∀{x:aaa} {xs:List Int} {h3:za},Sat (.of h) h3 [vu x xs]->xs.length<=1000->xs++yX 4 k=uB a b k->aS (.int .i64 k) (λr h'=>Sat (.of h) h' [vu r (uB a b k)]) [x] h3:=λ{x xs h3} s3 hx ex=>by
  unfold aS;have xn:=y9 s3;simp only[];refine Kd (TP (n:=4) (by decide) k) ?_;rintro r h4 s4;have s5:=s3.join s4;have rn:=y9 s4;obtain⟨x4,n4,c4,h5,e4,s6,_⟩:=J8 (s5.f [1,0]) (yw s5 aak) (by rw[xb];omega);simp only[EE,nth,xn,rn,e4];have:=s6.k [0];rw[ex]at this;exact this
 simp only[EE,Int.reduceLE,Int.reduceToNat,yL,Q3,q1,q2,q3]
 revert s3
 generalize hz:128+a%8*8+b%8=z;intro s3;by_cases hm:b%8=4
 ·obtain⟨x5,n5,c5,h6,e5,s5,_⟩:=JB s3 36 (by simp);simp only[Bz]at e5;simp only[EE,yL,oF,hm,e5];exact go s5 (by simp) (by unfold uB WY;rw[aai hm,hz];rfl)
 ·simp only[EE,hm];exact go s3 (by simp) (by unfold uB WY;rw[aaf hm,hz])
end
section
variable {lo:yT}{h:za}{L:List HP}{x y ov:aaa}{xs ys ops zs:List Int}{a b base k:Int}{K:aaa->za->Prop}
theorem ZD(wf:vQ h)(o:vr):vQ (h.push o):=Go.Rtl.YS wf o
theorem XT(s:Sat lo h (vu y ys::vu x xs::L))(Ui:xs.length+ys.length<=1000){r:TypeId}(k:∀v h',zS v=false->Sat lo h' (vu v (xs++ys)::vu y ys::L)->K v h'):zt (nb [x,y] (zB Tryz.prog .append [29,29] r [x,y] h)) K:=by
 have s1:=s.f [1,0];obtain⟨a,n,c,h',a1,s2,_⟩:=J8 s1 (yw s1 (aaC _ aak)) (by omega);rw[a1,ZW (y9 s1),ZW (y9 s),JP];exact k _ _ rfl s2
theorem OC(s:Sat lo h (vu x xs::L))(Ui:xs.length<=1000){z:Int}{r:TypeId}(k:∀v h',zS v=false->Sat lo h' (vu v (xs++[z])::L)->K v h') :
  zt (nb [x,.slice (some ⟨h.next,0,none⟩) 1 3] (zB Tryz.prog .append [29,29] r [x,.slice (some ⟨h.next,0,none⟩) 1 3] (h.push (.cells [.int .u8 z] 5)))) K:=by
 obtain⟨a,n,c,h',a1,s2,_⟩:=JB s z (by omega);rw[a1,ZW (y9 s),ZW rfl,JP];exact k _ _ rfl s2
section
variable (hb:base=72\/base=64)(a0:0<=a/\a<16)(b0:0<=b/\b<16)
include hb a0 b0
theorem Q9(s:Sat lo h (vu ov ops::L))(hl:ops.length<=100)(k:∀r h',zS r=false->Sat lo h' (vu r (zj base a b::ops++[zW a b])::vu ov ops::L)->K r h') :
  zF Tryz.prog (.func (.func 47) #[] #[]) [.int .u8 base,ov,.int .i64 a,.int .i64 b] h K:=by
 have on:=y9 s;refine mK (by simp only[yi,on,aaw];rfl) (m8 hb (yw s aak) hl a0.1 a0.2 b0.1 b0.2) ?_;rintro r h' s2;exact k r h' (y9 s2) (s.join s2)
theorem UY(s:Sat lo h (vu ov ops::L))(hl:ops.length<=100){z:Int}(k:∀r h',zS r=false->Sat lo h' (vu r (zj base a b::ops++uB a b z)::vu ov ops::L)->K r h') :
  zF Tryz.prog (.func (.func 50) #[] #[]) [.int .u8 base,ov,.int .i64 a,.int .i64 b,.int .i64 z] h K:=by
 have on:=y9 s;refine mK (by simp only[yi,on,aaw];rfl) (TU hb (yw s aak) hl a0.1 a0.2 b0.1 b0.2 z) ?_;rintro r h' s2;exact k r h' (y9 s2) (s.join s2)
theorem FD(s:Sat lo h (vu ov ops::L))(wf:vQ h)(hl:ops.length<=100)(k:∀r h',vQ h'->zS r=false->Sat lo h' (vu r (zj base a b::ops++[zW a b])::vu ov ops::L)->K r h') :
  QG Tryz.prog 47 [.int .u8 base,ov,.int .i64 a,.int .i64 b] h K:=by
 have on:=y9 s;refine NN (by kernel_rfl) (by simp only[yi,on,aaw];rfl) wf s (m8 hb (yw s aak).lock hl a0.1 a0.2 b0.1 b0.2) ?_;rintro r h2 s2 gr w2;exact k r _ w2 (y9 s2) (gr _ s2)
theorem lB(s:Sat lo h (vu ov ops::L))(wf:vQ h)(hl:ops.length<=100){hv:za}(vn:hv.next=h.next)(vg:∀b o,hv.get b=some o->h.get b=some o)(O:y4 hv ov ops)(k:∀r h',vQ h'->h.next<=h'.next->zS r=false->Sat lo h' (vu r (zj base a b::ops++[zW a b])::vu ov ops::L)->K r h') :
  kC Tryz.prog 47 [.int .u8 base,ov,.int .i64 a,.int .i64 b] hv h K:=by
 have on:=y9 s;refine Wj (by kernel_rfl) (by simp only[yi,on,aaw];rfl) wf s vn vg (m8 hb O.lock hl a0.1 a0.2 b0.1 b0.2) ?_;rintro r h2 s2 gr w2;have s3:=gr _ s2;refine k r _ w2 ?_ (y9 s2) s3;rw[Go.Rtl.wC];rcases Go.Rm.yR s2 with⟨_,_,s4⟩|⟨q,c,cs,_,_,_,_,s4⟩
 ·have:=s4.base.FE;have e:h2.ro=hv.next:=s4.base.ro;omega
 ·have:=s4.base.FE;have e:h2.ro=hv.next:=s4.base.ro;omega
end
theorem bW(s:Sat lo h L){n:Nat}{m:Int}(hm:m=(n:Int))(hn:n<=8){z:Int}(k:∀r h',zS r=false->Sat lo h' (vu r (yX n z)::L)->K r h') :
  zF Tryz.prog (.func (.func 26) #[] #[]) [.int .i64 m,.int .i64 z] h K:=by
 subst hm;refine Kd (i7 hn z) ?_;rintro r h' s2;exact k r h' (y9 s2) (s.join s2)
theorem i9(s:Sat lo h L)(wf:vQ h){n:Nat}{m:Int}(hm:m=(n:Int))(hn:n<=8){z:Int}(k:∀r h',vQ h'->zS r=false->Sat lo h' (vu r (yX n z)::L)->K r h') :
  QG Tryz.prog 26 [.int .i64 m,.int .i64 z] h K:=by
 subst hm;refine NN (by kernel_rfl) rfl wf s (i7 hn z) ?_;rintro r h2 s2 gr w2;exact k r _ w2 (y9 s2) (gr _ s2)
theorem mV(s:Sat lo h L)(wf:vQ h){n:Nat}{m:Int}(hm:m=(n:Int))(hn:n<=8){z:Int}{hv:za}(vn:hv.next=h.next)(vg:∀b o,hv.get b=some o->h.get b=some o)(k:∀r h',vQ h'->zS r=false->Sat lo h' (vu r (yX n z)::L)->K r h') :
  kC Tryz.prog 26 [.int .i64 m,.int .i64 z] hv h K:=by
 subst hm;refine Wj (by kernel_rfl) rfl wf s vn vg (i7 hn z) ?_;rintro r h2 s2 gr w2;exact k r _ w2 (y9 s2) (gr _ s2)
theorem Is(s:Sat lo h L){n:Nat}{m:Int}(hm:m=(n:Int))(hn:n<=8){z:Int}(k:∀r h',zS r=false->Sat lo h' (vu r (yX n z)::L)->K r h') :
  zF Tryz.prog (.func (.func 39) #[] #[]) [.int .i64 z,.int .i64 m] h K:=by
 subst hm;refine Kd (TP hn z) ?_;rintro r h' s2;exact k r h' (y9 s2) (s.join s2)
theorem bX(s:Sat lo h L)(wf:vQ h){n:Nat}{m:Int}(hm:m=(n:Int))(hn:n<=8){z:Int}{hv:za}(vn:hv.next=h.next)(vg:∀b o,hv.get b=some o->h.get b=some o)(k:∀r h',vQ h'->zS r=false->Sat lo h' (vu r (yX n z)::L)->K r h') :
  kC Tryz.prog 39 [.int .i64 z,.int .i64 m] hv h K:=by
 subst hm;refine Wj (by kernel_rfl) rfl wf s vn vg (TP hn z) ?_;rintro r h2 s2 gr w2;exact k r _ w2 (y9 s2) (gr _ s2)
theorem kf{h:za}{n m b:Nat}{o:vr}(hg:h.get b=some o)(hb:b<n):(cut h n m).get b=some o:=by rw[Xu hb];exact hg
theorem VN{h:za}{n m b:Nat}{o:vr}(hg:(cut h n m).get b=some o):h.get b=some o:=by
 rw[Fa]at hg;split at hg
 ·cases hg
 ·exact hg
end
end Go.Eb
namespace Go.En
open Go.Ai Go.Proofs
open Go.As (zC Pg)
abbrev RS:=Nat×Bool
def VQ:zC:=⟨0,0,0,0,0,0,0⟩
def zY(c:Bool)(s:RS):RS:=(s.1,s.2||c)
def zG(b:List Int)(s:RS):Int×RS:=match b[s.1]? with
 |some v=>(v,(s.1+1,s.2))
 |none=>(0,(s.1,true))
def kI(b:List Int):Nat->RS->List Int×RS
 |0,s=>([],s)
 |n+1,s=>((kI b n s).1++[(zG b (kI b n s).2).1],(zG b (kI b n s).2).2)
def wI(b:List Int)(s:RS):Int×RS:=(Vy (kI b 4 s).1,(kI b 4 s).2)
def Ul(b:List Int)(s:RS):Int×RS:=(QN (kI b 8 s).1,(kI b 8 s).2)
structure pD where
 reg:Int
 rm:Int
 memory:Bool
 place:Bool
 k:Int
def qT(b ahead:Int):Int:=b/8%8+(if ahead/4%2=1 then 8 else 0)
def ZY(b ahead:Int):Int:=b%8+(if ahead%2=1 then 8 else 0)
def nd(b:List Int)(rm:Int)(s:RS):RS:=if rm%8=4 then zY (decide (¬(zG b s).1=36)) (zG b s).2 else s
def uZ(b:List Int)(ahead:Int)(s:RS):pD×RS :=
 let t:=zG b s
 let reg:=qT t.1 ahead
 let rm:=ZY t.1 ahead
 if t.1/64=3 then (⟨reg,rm,false,false,0⟩,t.2)
 else if t.1/64=2 then (⟨reg,rm,true,false,(wI b (nd b rm t.2)).1⟩,(wI b (nd b rm t.2)).2)
 else if t.1/64=0 then (⟨reg,rm,false,true,(wI b (zY (decide (¬t.1%8=5)||decide (ahead%2=1)) t.2)).1⟩,(wI b (zY (decide (¬t.1%8=5)||decide (ahead%2=1)) t.2)).2)
 else (⟨reg,rm,false,false,0⟩,zY true t.2)
def bF(c:Int):Option Int:=if c=4 then some 21 else if c=5 then some 22 else if c=12 then some 23 else if c=13 then some 26 else if c=14 then some 24 else if c=15 then some 25 else none
theorem N4{cc:Int}(h0:21<=cc)(h1:cc<=26):bF (vd cc)=some cc:=by
 have:cc=21\/cc=22\/cc=23\/cc=24\/cc=25\/cc=26:=by omega
 rcases this with rfl|rfl|rfl|rfl|rfl|rfl <;> rfl
theorem zbP{c cc:Int}(h:bF c=some cc):21<=cc/\cc<=26/\vd cc=c:=by
 unfold bF at h
 repeat' split at h
 all_goals first|(cases h;done)|(have h:=abl h;subst h;subst_vars;decide)
def ZT(c:Int)(s:RS):Int×RS:=match bF c with
 |some cc=>(cc,s)
 |none=>(0,zY true s)
def qP(op:Int):Int:=if op=1 then 11 else if op=41 then 12 else if op=33 then 16 else if op=9 then 17 else if op=49 then 18 else 0
def u0(op second:Int)(o:pD)(s:RS):zC×RS :=
 if op=139 then (⟨3,o.reg,o.rm,8,0,0,o.k⟩,s)
 else if op=99 then (⟨3,o.reg,o.rm,4,0,0,o.k⟩,s)
 else if op=15/\second=190 then (⟨3,o.reg,o.rm,1,0,0,o.k⟩,s)
 else if op=137 then (⟨4,o.reg,o.rm,8,0,0,o.k⟩,s)
 else if op=141 then (⟨5,o.reg,o.rm,0,0,0,o.k⟩,s)
 else (⟨3,o.reg,o.rm,0,0,0,o.k⟩,zY true s)
def VP(b:List Int)(o:pD)(s:RS):zC×RS :=
 let t:=wI b s
 if o.reg=7 then (⟨16,o.rm,0,0,0,0,t.1⟩,t.2)
 else if o.rm=4/\o.reg=5 then (⟨23,0,0,0,0,0,t.1⟩,t.2)
 else if o.rm=4/\o.reg=0 then (⟨24,0,0,0,0,0,t.1⟩,t.2)
 else (⟨8,o.rm,0,qP (o.reg*8+1),0,0,t.1⟩,zY (decide (qP (o.reg*8+1)=0)) t.2)
def singleR(b:List Int)(op:Int)(o:pD)(s:RS):zC×RS :=
 if op=199 then (⟨2,o.rm,0,0,0,0,(wI b (zY (decide (¬o.reg=0)) s)).1⟩,(wI b (zY (decide (¬o.reg=0)) s)).2)
 else if op=129 then VP b o s
 else if op=247/\o.reg=2 then (⟨9,o.rm,0,2,0,0,0⟩,s)
 else if op=247/\o.reg=3 then (⟨9,o.rm,0,1,0,0,0⟩,s)
 else if op=247/\o.reg=7 then (⟨14,0,o.rm,0,0,0,0⟩,s)
 else if op=193 then (⟨11,o.rm,0,if o.reg=7 then 20 else 19,0,0,(zG b (zY (decide (¬o.reg=4 /\ ¬o.reg=7)) s)).1⟩,(zG b (zY (decide (¬o.reg=4 /\ ¬o.reg=7)) s)).2)
 else if op=211 then (⟨12,o.rm,0,if o.reg=7 then 20 else 19,0,0,0⟩,zY (decide (¬o.reg=4 /\ ¬o.reg=7)) s)
 else (VQ,zY true s)
def kJ(b:List Int)(op second:Int)(o:pD)(s:RS):zC×RS :=
 if ¬qP op=0 then (⟨7,o.rm,o.reg,qP op,0,0,0⟩,s)
 else if op=137 then (⟨1,o.rm,o.reg,0,0,0,0⟩,s)
 else if op=99 then (⟨10,o.reg,o.rm,4,0,0,0⟩,s)
 else if op=57 then (⟨15,o.rm,o.reg,0,0,0,0⟩,s)
 else if op=105 then (⟨8,o.reg,0,13,0,0,(wI b (zY (decide (¬o.reg=o.rm)) s)).1⟩,(wI b (zY (decide (¬o.reg=o.rm)) s)).2)
 else if op=15 then (if second=175 then (⟨7,o.reg,o.rm,13,0,0,0⟩,s) else if second=190 then (⟨10,o.reg,o.rm,3,0,0,0⟩,s) else (VQ,zY true s))
 else singleR b op o s
def qh(b:List Int)(ahead op second:Int)(s:RS):zC×RS :=
 let o:=uZ b ahead s
 if o.1.place=true then (⟨6,o.1.reg,0,0,0,0,o.1.k⟩,zY (decide (¬op=141)) o.2)
 else if o.1.memory=true then u0 op second o.1 o.2
 else kJ b op second o.1 o.2
def Xc(b:List Int)(ahead:Int)(s:RS):zC×RS :=
 let t:=zG b s
 if 184<=t.1/\t.1<=191 then (⟨2,t.1-184+ahead%2*8,0,0,0,0,(Ul b (zY (decide (ahead/4%2=1)) t.2)).1⟩,(Ul b (zY (decide (ahead/4%2=1)) t.2)).2)
 else if t.1=153 then (⟨13,0,0,0,0,0,0⟩,zY (decide (¬ahead=72)) t.2)
 else if t.1=237 then (⟨25,0,0,0,0,0,0⟩,zY (decide (¬ahead=72)) t.2)
 else if t.1=239 then (⟨26,0,0,0,0,0,0⟩,zY (decide (¬ahead=72)) t.2)
 else if t.1=15 then qh b ahead t.1 (zG b t.2).1 (zG b t.2).2
 else qh b ahead t.1 0 t.2
def Xb(b:List Int):List Int->RS->RS
 |[],s=>s
 |z::zs,s=>Xb b zs (zY (decide (¬(zG b s).1=z)) (zG b s).2)
def FJ(b:List Int)(ahead:Int)(s:RS):zC×RS :=
 let t:=zG b s
 let c:=ZT (u8 (t.1-144)) t.2
 let o:=uZ b ahead c.2
 (⟨17,o.1.rm,0,0,c.1,0,0⟩,Xb b [zj 72 o.1.rm o.1.rm,15,182,zW o.1.rm o.1.rm] (zY (o.1.memory||o.1.place||decide (¬o.1.reg=0)) o.2))
def ZE(b:List Int)(ahead:Int)(s:RS):zC×RS :=
 let t:=zG b s
 if t.1=136\/t.1=137 then
  (⟨4,(uZ b ahead t.2).1.reg,(uZ b ahead t.2).1.rm,if t.1=136 then 1 else 4,0,0,(uZ b ahead t.2).1.k⟩,zY (!(uZ b ahead t.2).1.memory) (uZ b ahead t.2).2)
 else if t.1=15 then FJ b ahead t.2
 else (VQ,zY true t.2)
def x9(b:List Int):zC×Bool×RS :=
 let t:=zG b (0,false)
 if t.1=233 then (⟨18,0,0,0,0,0,(wI b t.2).1⟩,true,(wI b t.2).2)
 else if t.1=232 then (⟨21,0,0,0,0,0,(wI b t.2).1⟩,true,(wI b t.2).2)
 else if t.1=15 then
  (let c:=ZT (u8 ((zG b t.2).1-128)) (zG b t.2).2
   (⟨19,0,0,0,c.1,0,(wI b c.2).1⟩,true,(wI b c.2).2))
 else if t.1=195 then (⟨22,0,0,0,0,0,0⟩,false,t.2)
 else if t.1=72\/t.1=73\/t.1=76\/t.1=77 then ((Xc b t.1 t.2).1,decide ((Xc b t.1 t.2).1.op=6),(Xc b t.1 t.2).2)
 else if t.1=64\/t.1=65\/t.1=68\/t.1=69 then ((ZE b t.1 t.2).1,false,(ZE b t.1 t.2).2)
 else (VQ,false,zY true t.2)
theorem Fq(pre rest:List Int)(z:Int)(c:Bool):zG (pre++z::rest) (pre.length,c)=(z,(pre.length+1,c)):=by
 unfold zG;have:(pre++z::rest)[pre.length]? = some z:=by rw[aa8 (aaj _),Nat.sub_self];rfl
 rw[this]
theorem Fp(pre rest xs:List Int)(c:Bool):∀n:Nat,n<=xs.length->kI (pre++(xs++rest)) n (pre.length,c)=(xs.take n,(pre.length+n,c))
 |0,h=>rfl
 |n+1,h=>by
  unfold kI;rw[Fp pre rest xs c n (by omega)]
  have e:pre++(xs++rest)=(pre++xs.take n)++xs[n]::(xs.drop (n+1)++rest):=by
   have:=abH (show n<xs.length by omega);have e0:xs=xs.take n++xs[n]::xs.drop (n+1):=by rw[<- this,abn]
   rw[aa1]
   congr 1
   conv=>lhs;rw[e0]
   rw[aa1];rfl
  have el:pre.length+n=(pre++xs.take n).length:=by rw[aao,aaM,abV (by omega)]
  have:=Fq (pre++xs.take n) (xs.drop (n+1)++rest) xs[n] c;simp only;rw[e,el,this,List.take_succ_eq_append_getElem (by omega)];simp only[aao,aaM,abV (show n<=xs.length by omega)];rfl
theorem zbM(pre rest:List Int)(k:Int)(hk:Go.Ar.zQ k=true)(c:Bool){n:Nat}(hn:n=pre.length):wI (pre++(yX 4 k++rest)) (n,c)=(k,(n+4,c)):=by
 subst hn;unfold wI;rw[Fp pre rest (yX 4 k) c 4 (by rw[xb];exact aaj _)];simp only;rw[abQ (by rw[xb];exact aaj _),dy hk]
theorem zbN(pre rest:List Int)(k:Int)(hk:Go.Mem.UW k)(c:Bool){n:Nat}(hn:n=pre.length):Ul (pre++(yX 8 k++rest)) (n,c)=(k,(n+8,c)):=by
 subst hn;unfold Ul;rw[Fp pre rest (yX 8 k) c 8 (by rw[xb];exact aaj _)];simp only;rw[abQ (by rw[xb];exact aaj _),PT hk]
theorem lE(a b:Int):(zj 72 a b=72\/zj 72 a b=73\/zj 72 a b=76\/zj 72 a b=77)/\(zj 72 a b/4%2=1 ↔ 8<=a)/\(zj 72 a b%2=1 ↔ 8<=b):=by
 unfold zj;split <;> split <;> omega
theorem OJ(a b:Int):(zj 64 a b=64\/zj 64 a b=65\/zj 64 a b=68\/zj 64 a b=69)/\(zj 64 a b/4%2=1 ↔ 8<=a)/\(zj 64 a b%2=1 ↔ 8<=b):=by
 unfold zj;split <;> split <;> omega
theorem lA{a b w x:Int}(h0:0<=a)(h1:a<16)(hw:w/4%2=1 ↔ 8<=a)(hx:x/8%8=a%8):qT x w=a:=by
 unfold qT;by_cases h:8<=a
 ·rw[aai (hw.2 h)];omega
 ·rw[aaf (λq=>h (hw.1 q))];omega
theorem MI{b w x:Int}(h0:0<=b)(h1:b<16)(hw:w%2=1 ↔ 8<=b)(hx:x%8=b%8):ZY x w=b:=by
 unfold ZY;by_cases h:8<=b
 ·rw[aai (hw.2 h)];omega
 ·rw[aaf (λq=>h (hw.1 q))];omega
theorem W0(a b:Int):zW a b/64=3/\zW a b/8%8=a%8/\zW a b%8=b%8:=by
 unfold zW;omega
theorem Fu{pre rest:List Int}{a b w:Int}(a0:0<=a)(a1:a<16)(b0:0<=b)(b1:b<16)(ha:w/4%2=1 ↔ 8<=a)(hb:w%2=1 ↔ 8<=b)(c:Bool){n:Nat}(hn:n=pre.length) :
  uZ (pre++zW a b::rest) w (n,c)=(⟨a,b,false,false,0⟩,(n+1,c)):=by
 subst hn;have t:=W0 a b;unfold uZ;simp only[Fq,t.1,abM];rw[lA (b:=b) a0 a1 ha t.2.1,MI b0 b1 hb t.2.2]
theorem ZF{b pre rest:List Int}{z:Int}{n:Nat}(c:Bool)(hb:b=pre++z::rest)(hn:n=pre.length):zG b (n,c)=(z,(n+1,c)):=by
 subst hb hn;exact Fq pre rest z c
theorem Xf{b pre rest:List Int}{k:Int}{n:Nat}(hk:Go.Ar.zQ k=true)(c:Bool)(hb:b=pre++(yX 4 k++rest))(hn:n=pre.length):wI b (n,c)=(k,(n+4,c)):=by
 subst hb;exact zbM pre rest k hk c hn
theorem zbO{b pre rest:List Int}{k:Int}{n:Nat}(hk:Go.Mem.UW k)(c:Bool)(hb:b=pre++(yX 8 k++rest))(hn:n=pre.length):Ul b (n,c)=(k,(n+8,c)):=by
 subst hb;exact zbN pre rest k hk c hn
theorem QU(a m:Int):(128+a%8*8+m%8)/64=2/\(128+a%8*8+m%8)/8%8=a%8/\(128+a%8*8+m%8)%8=m%8:=by
 omega
theorem Ft{bs pre rest:List Int}{a m k w:Int}(a0:0<=a)(a1:a<16)(b0:0<=m)(b1:m<16)(hk:Go.Ar.zQ k=true)(ha:w/4%2=1 ↔ 8<=a)(hb:w%2=1 ↔ 8<=m)(c:Bool){n:Nat}(he:bs=pre++(uB a m k++rest))(hn:n=pre.length) :
  uZ bs w (n,c)=(⟨a,m,true,false,k⟩,(n+(uB a m k).length,c)):=by
 have t:=QU a m;have t2:¬(128+a%8*8+m%8)/64=3:=by omega
 have r1:qT (128+a%8*8+m%8) w=a:=lA (b:=m) a0 a1 ha t.2.1;have r2:ZY (128+a%8*8+m%8) w=m:=MI b0 b1 hb t.2.2;unfold uB WY at he ⊢;unfold uZ;by_cases hm:m%8=4
 ·rw[aai hm]at he ⊢;have h1:zG bs (n,c)=(128+a%8*8+m%8,(n+1,c)):=ZF (pre:=pre) (rest:=36::(yX 4 k++rest)) c (by rw[he];rfl) hn;have h2:zG bs (n+1,c)=(36,(n+1+1,c)):=ZF (pre:=pre++[128+a%8*8+m%8]) (rest:=yX 4 k++rest) c (by rw[he];simp) (by simp[hn]);have h3:wI bs (n+1+1,c)=(k,(n+1+1+4,c)):=Xf (pre:=pre++[128+a%8*8+m%8,36]) (rest:=rest) hk c (by rw[he];simp) (by simp[hn])
  have h4:nd bs m (n+1,c)=(n+1+1,c):=by
   unfold nd zY;rw[aai hm,h2];simp
  simp only[h1,t.1,t2,abS,abM,r1,r2,h4,h3,aao,aa3,abk,xb];simp
 ·rw[aaf hm]at he ⊢;have h1:zG bs (n,c)=(128+a%8*8+m%8,(n+1,c)):=ZF (pre:=pre) (rest:=yX 4 k++rest) c (by rw[he];rfl) hn;have h3:wI bs (n+1,c)=(k,(n+1+4,c)):=Xf (pre:=pre++[128+a%8*8+m%8]) (rest:=rest) hk c (by rw[he];simp) (by simp[hn])
  have h4:nd bs m (n+1,c)=(n+1,c):=by
   unfold nd;rw[aaf hm]
  simp only[h1,t.1,t2,abS,abM,r1,r2,h4,h3,aao,aa3,abk,xb];simp
section
variable {bs rest:List Int}{w o a b m k s2:Int}{n:Nat}{c:Bool}
theorem KG(hw:w=72\/w=73\/w=76\/w=77)(he:bs=w::rest):x9 bs=((Xc bs w (1,false)).1,decide ((Xc bs w (1,false)).1.op=6),(Xc bs w (1,false)).2):=by
 have h1:zG bs (0,false)=(w,(1,false)):=ZF (pre:=[]) false he rfl;unfold x9;simp only[h1];rw[aaf (by omega),aaf (by omega),aaf (by omega),aaf (by omega),aai hw]
theorem Bf(hw:w=64\/w=65\/w=68\/w=69)(he:bs=w::rest):x9 bs=((ZE bs w (1,false)).1,false,(ZE bs w (1,false)).2):=by
 have h1:zG bs (0,false)=(w,(1,false)):=ZF (pre:=[]) false he rfl;unfold x9;simp only[h1];rw[aaf (by omega),aaf (by omega),aaf (by omega),aaf (by omega),aaf (by omega),aai hw]
theorem FO(he:bs=w::o::rest)(h1:¬(184<=o/\o<=191))(h2:¬o=153)(h3:¬o=237)(h4:¬o=239)(h5:¬o=15):Xc bs w (1,false)=qh bs w o 0 (2,false):=by
 have e:zG bs (1,false)=(o,(2,false)):=ZF (pre:=[w]) false he rfl;unfold Xc;simp only[e];rw[aaf h1,aaf h2,aaf h3,aaf h4,aaf h5]
theorem OW(he:bs=w::15::s2::rest):Xc bs w (1,false)=qh bs w 15 s2 (3,false):=by
 have e:zG bs (1,false)=(15,(2,false)):=ZF (pre:=[w]) false he rfl;have e2:zG bs (2,false)=(s2,(3,false)):=ZF (pre:=[w,15]) false he rfl;unfold Xc;simp only[e,e2];rw[aaf (by decide),aaf (by decide),aaf (by decide),aaf (by decide),abM]
theorem Au(h:uZ bs w (n,c)=(⟨a,b,false,false,0⟩,(n+1,c))):qh bs w o s2 (n,c)=kJ bs o s2 ⟨a,b,false,false,0⟩ (n+1,c):=by
 unfold qh;simp only[h];rw[aaf (by simp),aaf (by simp)]
theorem At{l:Nat}(h:uZ bs w (n,c)=(⟨a,b,true,false,k⟩,(n+l,c))):qh bs w o s2 (n,c)=u0 o s2 ⟨a,b,true,false,k⟩ (n+l,c):=by
 unfold qh;simp only[h];rw[aaf (by simp),abM]
theorem qR(a0:0<=a)(a1:a<16)(b0:0<=b)(b1:b<16)(he:bs=zj 72 a b::o::zW a b::rest)(h1:¬(184<=o/\o<=191))(h2:¬o=153)(h3:¬o=237)(h4:¬o=239)(h5:¬o=15) :
  x9 bs=((kJ bs o 0 ⟨a,b,false,false,0⟩ (3,false)).1,decide ((kJ bs o 0 ⟨a,b,false,false,0⟩ (3,false)).1.op=6),(kJ bs o 0 ⟨a,b,false,false,0⟩ (3,false)).2):=by
 have r:=lE a b;have q:=Fu (pre:=[zj 72 a b,o]) (rest:=rest) a0 a1 b0 b1 r.2.1 r.2.2 false (n:=2) rfl;have q:uZ bs (zj 72 a b) (2,false)=(⟨a,b,false,false,0⟩,(3,false)):=by rw[he];exact q
 rw[KG r.1 he,FO he h1 h2 h3 h4 h5,Au q]
theorem BL(a0:0<=a)(a1:a<16)(b0:0<=b)(b1:b<16)(he:bs=zj 72 a b::15::s2::zW a b::rest) :
  x9 bs=((kJ bs 15 s2 ⟨a,b,false,false,0⟩ (4,false)).1,decide ((kJ bs 15 s2 ⟨a,b,false,false,0⟩ (4,false)).1.op=6),(kJ bs 15 s2 ⟨a,b,false,false,0⟩ (4,false)).2):=by
 have r:=lE a b;have q:=Fu (pre:=[zj 72 a b,15,s2]) (rest:=rest) a0 a1 b0 b1 r.2.1 r.2.2 false (n:=3) rfl;have q:uZ bs (zj 72 a b) (3,false)=(⟨a,b,false,false,0⟩,(4,false)):=by rw[he];exact q
 rw[KG r.1 he,OW he,Au q]
end
section
variable {rest:List Int}{r m k:Int}(r0:0<=r)(r1:r<16)(m0:0<=m)(m1:m<16)
theorem zes(r0:0<=r)(r1:r<16)(m0:0<=m)(m1:m<16):x9 (ze ⟨1,r,m,0,0,0,0⟩ 0++rest)=(⟨1,r,m,0,0,0,0⟩,false,(3,false)):=by
 have e:ze ⟨1,r,m,0,0,0,0⟩ 0++rest=zj 72 m r::137::zW m r::rest:=rfl;rw[qR m0 m1 r0 r1 e (by decide) (by decide) (by decide) (by decide) (by decide)];rfl
theorem zb0(r0:0<=r)(r1:r<16)(m0:0<=m)(m1:m<16):x9 (ze ⟨15,r,m,0,0,0,0⟩ 0++rest)=(⟨15,r,m,0,0,0,0⟩,false,(3,false)):=by
 have e:ze ⟨15,r,m,0,0,0,0⟩ 0++rest=zj 72 m r::57::zW m r::rest:=rfl;rw[qR m0 m1 r0 r1 e (by decide) (by decide) (by decide) (by decide) (by decide)];rfl
theorem zbW(r0:0<=r)(r1:r<16)(m0:0<=m)(m1:m<16):x9 (ze ⟨10,r,m,4,0,0,0⟩ 0++rest)=(⟨10,r,m,4,0,0,0⟩,false,(3,false)):=by
 have e:ze ⟨10,r,m,4,0,0,0⟩ 0++rest=zj 72 r m::99::zW r m::rest:=rfl;rw[qR r0 r1 m0 m1 e (by decide) (by decide) (by decide) (by decide) (by decide)];rfl
theorem zai(r0:0<=r)(r1:r<16)(m0:0<=m)(m1:m<16):x9 (ze ⟨10,r,m,3,0,0,0⟩ 0++rest)=(⟨10,r,m,3,0,0,0⟩,false,(4,false)):=by
 have e:ze ⟨10,r,m,3,0,0,0⟩ 0++rest=zj 72 r m::15::190::zW r m::rest:=rfl;rw[BL r0 r1 m0 m1 e];rfl
end
section
variable {rest:List Int}{r m k s:Int}
theorem zew(r0:0<=r)(r1:r<16)(m0:0<=m)(m1:m<16)(hs:s=11\/s=12\/s=16\/s=17\/s=18):x9 (ze ⟨7,r,m,s,0,0,0⟩ 0++rest)=(⟨7,r,m,s,0,0,0⟩,false,(3,false)):=by
 have e:∀s:Int,¬s=13->ze ⟨7,r,m,s,0,0,0⟩ 0++rest=zj 72 m r::kp s::zW m r::rest:=λs h=>by
  have:ze ⟨7,r,m,s,0,0,0⟩ 0=if s=13 then [zj 72 r m,15,175,zW r m] else [zj 72 m r,kp s,zW m r]:=rfl;rw[this,aaf h];rfl
 rcases hs with rfl|rfl|rfl|rfl|rfl <;>
  (rw[qR m0 m1 r0 r1 (e _ (by decide)) (by decide) (by decide) (by decide) (by decide) (by decide)];rfl)
theorem zb9(r0:0<=r)(r1:r<16)(m0:0<=m)(m1:m<16):x9 (ze ⟨7,r,m,13,0,0,0⟩ 0++rest)=(⟨7,r,m,13,0,0,0⟩,false,(4,false)):=by
 have e:ze ⟨7,r,m,13,0,0,0⟩ 0++rest=zj 72 r m::15::175::zW r m::rest:=rfl;rw[BL r0 r1 m0 m1 e];rfl
theorem zey(r0:0<=r)(r1:r<16)(hs:s=1\/s=2):x9 (ze ⟨9,r,0,s,0,0,0⟩ 0++rest)=(⟨9,r,0,s,0,0,0⟩,false,(3,false)):=by
 rcases hs with rfl|rfl
 ·have e:ze ⟨9,r,0,1,0,0,0⟩ 0++rest=zj 72 3 r::247::zW 3 r::rest:=rfl;rw[qR (by decide) (by decide) r0 r1 e (by decide) (by decide) (by decide) (by decide) (by decide)];rfl
 ·have e:ze ⟨9,r,0,2,0,0,0⟩ 0++rest=zj 72 2 r::247::zW 2 r::rest:=rfl;rw[qR (by decide) (by decide) r0 r1 e (by decide) (by decide) (by decide) (by decide) (by decide)];rfl
theorem zbZ(m0:0<=m)(m1:m<16):x9 (ze ⟨14,0,m,0,0,0,0⟩ 0++rest)=(⟨14,0,m,0,0,0,0⟩,false,(3,false)):=by
 have e:ze ⟨14,0,m,0,0,0,0⟩ 0++rest=zj 72 7 m::247::zW 7 m::rest:=rfl;rw[qR (by decide) (by decide) m0 m1 e (by decide) (by decide) (by decide) (by decide) (by decide)];rfl
theorem zbY(r0:0<=r)(r1:r<16)(hs:s=19\/s=20):x9 (ze ⟨12,r,0,s,0,0,0⟩ 0++rest)=(⟨12,r,0,s,0,0,0⟩,false,(3,false)):=by
 rcases hs with rfl|rfl
 ·have e:ze ⟨12,r,0,19,0,0,0⟩ 0++rest=zj 72 4 r::211::zW 4 r::rest:=rfl;rw[qR (by decide) (by decide) r0 r1 e (by decide) (by decide) (by decide) (by decide) (by decide)];rfl
 ·have e:ze ⟨12,r,0,20,0,0,0⟩ 0++rest=zj 72 7 r::211::zW 7 r::rest:=rfl;rw[qR (by decide) (by decide) r0 r1 e (by decide) (by decide) (by decide) (by decide) (by decide)];rfl
theorem zb1(r0:0<=r)(r1:r<16)(hk:Go.Ar.zQ k=true):x9 (ze ⟨16,r,0,0,0,0,k⟩ 0++rest)=(⟨16,r,0,0,0,0,k⟩,false,(7,false)):=by
 have e:ze ⟨16,r,0,0,0,0,k⟩ 0++rest=zj 72 7 r::129::zW 7 r::(yX 4 k++rest):=rfl;have q:wI (zj 72 7 r::129::zW 7 r::(yX 4 k++rest)) (3,false)=(k,(7,false)):=Xf (pre:=[zj 72 7 r,129,zW 7 r]) hk false rfl rfl;rw[qR (by decide) (by decide) r0 r1 e (by decide) (by decide) (by decide) (by decide) (by decide),e];have p:kJ (zj 72 7 r::129::zW 7 r::(yX 4 k++rest)) 129 0 ⟨7,r,false,false,0⟩ (3,false)=(⟨16,r,0,0,0,0,(wI (zj 72 7 r::129::zW 7 r::(yX 4 k++rest)) (3,false)).1⟩,(wI (zj 72 7 r::129::zW 7 r::(yX 4 k++rest)) (3,false)).2):=rfl;rw[p,q];rfl
theorem FB(o:Int)(b2:Int)(hx:(o=13/\b2=153)\/(o=25/\b2=237)\/(o=26/\b2=239)):x9 (ze ⟨o,0,0,0,0,0,0⟩ 0++rest)=(⟨o,0,0,0,0,0,0⟩,false,(2,false)):=by
 rcases hx with⟨rfl,rfl⟩|⟨rfl,rfl⟩|⟨rfl,rfl⟩ <;> rfl
theorem zb6:x9 (ze ⟨22,0,0,0,0,0,0⟩ 0++rest)=(⟨22,0,0,0,0,0,0⟩,false,(1,false)):=rfl
end
section
variable {bs rest:List Int}{r m k s o w s2:Int}
theorem zbj{d:Int}(hq:wI bs (3,false)=(k,(7,false)))(hr:¬r=4)(h7:¬d=7)(ha:¬qP (d*8+1)=0):VP bs ⟨d,r,false,false,0⟩ (3,false)=(⟨8,r,0,qP (d*8+1),0,0,k⟩,(7,false)):=by
 unfold VP zY;simp only[hq];rw[aaf h7,aaf (λh=>hr h.1),aaf (λh=>hr h.1),aaY ha];rfl
theorem zex(r0:0<=r)(r1:r<16)(hr:¬r=4)(hk:Go.Ar.zQ k=true)(hs:s=11\/s=12\/s=16\/s=17\/s=18):x9 (ze ⟨8,r,0,s,0,0,k⟩ 0++rest)=(⟨8,r,0,s,0,0,k⟩,false,(7,false)):=by
 have q:∀a b c:Int,wI (a::b::c::(yX 4 k++rest)) (3,false)=(k,(7,false)):=λa b c=>Xf (pre:=[a,b,c]) hk false rfl rfl
 have go:∀d s:Int,0<=d->d<7->qP (d*8+1)=s->¬s=0->zj 72 0 r=zj 72 d r->ze ⟨8,r,0,s,0,0,k⟩ 0++rest=zj 72 0 r::129::zW d r::(yX 4 k++rest)->x9 (ze ⟨8,r,0,s,0,0,k⟩ 0++rest)=(⟨8,r,0,s,0,0,k⟩,false,(7,false)):=λd s d0 d1 hs h0 hx e=>by
  rw[hx]at e;have p:∀bs:List Int,kJ bs 129 0 ⟨d,r,false,false,0⟩ (3,false)=VP bs ⟨d,r,false,false,0⟩ (3,false):=λ_=>rfl;rw[qR d0 (by omega) r0 r1 e (by decide) (by decide) (by decide) (by decide) (by decide),e,p,zbj (q _ _ _) hr (by omega) (by rw[hs];exact h0),hs];rfl
 rcases hs with rfl|rfl|rfl|rfl|rfl
 ·exact go 0 11 (by decide) (by decide) (by decide) (by decide) rfl rfl
 ·exact go 5 12 (by decide) (by decide) (by decide) (by decide) rfl rfl
 ·exact go 4 16 (by decide) (by decide) (by decide) (by decide) rfl rfl
 ·exact go 1 17 (by decide) (by decide) (by decide) (by decide) rfl rfl
 ·exact go 6 18 (by decide) (by decide) (by decide) (by decide) rfl rfl
theorem zca(r0:0<=r)(r1:r<16)(hk:Go.Ar.zQ k=true):x9 (ze ⟨8,r,0,13,0,0,k⟩ 0++rest)=(⟨8,r,0,13,0,0,k⟩,false,(7,false)):=by
 have e:ze ⟨8,r,0,13,0,0,k⟩ 0++rest=zj 72 r r::105::zW r r::(yX 4 k++rest):=rfl;have q:wI (zj 72 r r::105::zW r r::(yX 4 k++rest)) (3,false)=(k,(7,false)):=Xf (pre:=[zj 72 r r,105,zW r r]) hk false rfl rfl;have z:zY (decide (¬r=r)) (3,false)=(3,false):=by simp[zY]
 have p:∀bs:List Int,kJ bs 105 0 ⟨r,r,false,false,0⟩ (3,false)=(⟨8,r,0,13,0,0,(wI bs (zY (decide (¬r=r)) (3,false))).1⟩,(wI bs (zY (decide (¬r=r)) (3,false))).2):=λ_=>rfl;rw[qR r0 r1 r0 r1 e (by decide) (by decide) (by decide) (by decide) (by decide),e,p,z,q];rfl
theorem zb7(hk:Go.Ar.zQ k=true):x9 (ze ⟨23,0,0,0,0,0,k⟩ 0++rest)=(⟨23,0,0,0,0,0,k⟩,false,(7,false)):=by
 have e:ze ⟨23,0,0,0,0,0,k⟩ 0++rest=zj 72 5 4::129::zW 5 4::(yX 4 k++rest):=rfl;have q:wI (zj 72 5 4::129::zW 5 4::(yX 4 k++rest)) (3,false)=(k,(7,false)):=Xf (pre:=[zj 72 5 4,129,zW 5 4]) hk false rfl rfl;have p:∀bs:List Int,kJ bs 129 0 ⟨5,4,false,false,0⟩ (3,false)=(⟨23,0,0,0,0,0,(wI bs (3,false)).1⟩,(wI bs (3,false)).2):=λ_=>rfl;rw[qR (by decide) (by decide) (by decide) (by decide) e (by decide) (by decide) (by decide) (by decide) (by decide),e,p,q];rfl
theorem zb8(hk:Go.Ar.zQ k=true):x9 (ze ⟨24,0,0,0,0,0,k⟩ 0++rest)=(⟨24,0,0,0,0,0,k⟩,false,(7,false)):=by
 have e:ze ⟨24,0,0,0,0,0,k⟩ 0++rest=zj 72 0 4::129::zW 0 4::(yX 4 k++rest):=rfl;have q:wI (zj 72 0 4::129::zW 0 4::(yX 4 k++rest)) (3,false)=(k,(7,false)):=Xf (pre:=[zj 72 0 4,129,zW 0 4]) hk false rfl rfl;have p:∀bs:List Int,kJ bs 129 0 ⟨0,4,false,false,0⟩ (3,false)=(⟨24,0,0,0,0,0,(wI bs (3,false)).1⟩,(wI bs (3,false)).2):=λ_=>rfl;rw[qR (by decide) (by decide) (by decide) (by decide) e (by decide) (by decide) (by decide) (by decide) (by decide),e,p,q];rfl
theorem zet(r0:0<=r)(r1:r<16)(hk:Go.Ar.zQ k=true):x9 (ze ⟨2,r,0,0,0,0,k⟩ 0++rest)=(⟨2,r,0,0,0,0,k⟩,false,(7,false)):=by
 have e0:ze ⟨2,r,0,0,0,0,k⟩ 0=if Go.Ar.zQ k=true then [zj 72 0 r,199,zW 0 r]++yX 4 k else [zj 72 0 r,184+r%8]++yX 8 k:=rfl;rw[aai hk]at e0;have e:ze ⟨2,r,0,0,0,0,k⟩ 0++rest=zj 72 0 r::199::zW 0 r::(yX 4 k++rest):=by rw[e0];rfl
 have q:wI (zj 72 0 r::199::zW 0 r::(yX 4 k++rest)) (3,false)=(k,(7,false)):=Xf (pre:=[zj 72 0 r,199,zW 0 r]) hk false rfl rfl;have p:∀bs:List Int,kJ bs 199 0 ⟨0,r,false,false,0⟩ (3,false)=(⟨2,r,0,0,0,0,(wI bs (3,false)).1⟩,(wI bs (3,false)).2):=λ_=>rfl;rw[qR (by decide) (by decide) r0 r1 e (by decide) (by decide) (by decide) (by decide) (by decide),e,p,q];rfl
theorem ly(a0:0<=r)(a1:r<16)(b0:0<=m)(b1:m<16)(hk:Go.Ar.zQ k=true)(he:bs=zj 72 r m::o::(uB r m k++rest))(h1:¬(184<=o/\o<=191))(h2:¬o=153)(h3:¬o=237)(h4:¬o=239)(h5:¬o=15) :
  x9 bs=((u0 o 0 ⟨r,m,true,false,k⟩ (2+(uB r m k).length,false)).1,decide ((u0 o 0 ⟨r,m,true,false,k⟩ (2+(uB r m k).length,false)).1.op=6),(u0 o 0 ⟨r,m,true,false,k⟩ (2+(uB r m k).length,false)).2):=by
 have x:=lE r m;have q:uZ bs (zj 72 r m) (2,false)=_:=Ft (pre:=[zj 72 r m,o]) (rest:=rest) a0 a1 b0 b1 hk x.2.1 x.2.2 false he rfl;rw[KG x.1 he,FO he h1 h2 h3 h4 h5,At q]
theorem MF(a0:0<=r)(a1:r<16)(b0:0<=m)(b1:m<16)(hk:Go.Ar.zQ k=true)(he:bs=zj 72 r m::15::s2::(uB r m k++rest)) :
  x9 bs=((u0 15 s2 ⟨r,m,true,false,k⟩ (3+(uB r m k).length,false)).1,decide ((u0 15 s2 ⟨r,m,true,false,k⟩ (3+(uB r m k).length,false)).1.op=6),(u0 15 s2 ⟨r,m,true,false,k⟩ (3+(uB r m k).length,false)).2):=by
 have x:=lE r m;have q:uZ bs (zj 72 r m) (3,false)=_:=Ft (pre:=[zj 72 r m,15,s2]) (rest:=rest) a0 a1 b0 b1 hk x.2.1 x.2.2 false he rfl;rw[KG x.1 he,OW he,At q]
theorem zeu(r0:0<=r)(r1:r<16)(m0:0<=m)(m1:m<16)(hk:Go.Ar.zQ k=true):x9 (ze ⟨5,r,m,0,0,0,k⟩ 0++rest)=(⟨5,r,m,0,0,0,k⟩,false,(2+(uB r m k).length,false)):=by
 have e:ze ⟨5,r,m,0,0,0,k⟩ 0++rest=zj 72 r m::141::(uB r m k++rest):=rfl;rw[ly r0 r1 m0 m1 hk e (by decide) (by decide) (by decide) (by decide) (by decide)];rfl
theorem zal(r0:0<=r)(r1:r<16)(m0:0<=m)(m1:m<16)(hk:Go.Ar.zQ k=true):x9 (ze ⟨3,r,m,8,0,0,k⟩ 0++rest)=(⟨3,r,m,8,0,0,k⟩,false,(2+(uB r m k).length,false)):=by
 have e:ze ⟨3,r,m,8,0,0,k⟩ 0++rest=zj 72 r m::139::(uB r m k++rest):=rfl;rw[ly r0 r1 m0 m1 hk e (by decide) (by decide) (by decide) (by decide) (by decide)];rfl
theorem zak(r0:0<=r)(r1:r<16)(m0:0<=m)(m1:m<16)(hk:Go.Ar.zQ k=true):x9 (ze ⟨3,r,m,4,0,0,k⟩ 0++rest)=(⟨3,r,m,4,0,0,k⟩,false,(2+(uB r m k).length,false)):=by
 have e:ze ⟨3,r,m,4,0,0,k⟩ 0++rest=zj 72 r m::99::(uB r m k++rest):=rfl;rw[ly r0 r1 m0 m1 hk e (by decide) (by decide) (by decide) (by decide) (by decide)];rfl
theorem zaj(r0:0<=r)(r1:r<16)(m0:0<=m)(m1:m<16)(hk:Go.Ar.zQ k=true):x9 (ze ⟨3,r,m,1,0,0,k⟩ 0++rest)=(⟨3,r,m,1,0,0,k⟩,false,(3+(uB r m k).length,false)):=by
 have e:ze ⟨3,r,m,1,0,0,k⟩ 0++rest=zj 72 r m::15::190::(uB r m k++rest):=rfl;rw[MF r0 r1 m0 m1 hk e];rfl
theorem zao(r0:0<=r)(r1:r<16)(m0:0<=m)(m1:m<16)(hk:Go.Ar.zQ k=true):x9 (ze ⟨4,r,m,8,0,0,k⟩ 0++rest)=(⟨4,r,m,8,0,0,k⟩,false,(2+(uB r m k).length,false)):=by
 have e:ze ⟨4,r,m,8,0,0,k⟩ 0++rest=zj 72 r m::137::(uB r m k++rest):=rfl;rw[ly r0 r1 m0 m1 hk e (by decide) (by decide) (by decide) (by decide) (by decide)];rfl
end
section
variable {bs rest:List Int}{r m k s o w s2:Int}
theorem zbX(r0:0<=r)(r1:r<16)(k0:0<=k)(k1:k<256)(hs:s=19\/s=20):x9 (ze ⟨11,r,0,s,0,0,k⟩ 0++rest)=(⟨11,r,0,s,0,0,k⟩,false,(4,false)):=by
 have ek:u8 k=k:=by rw[KR];omega
 have q:∀a b c:Int,zG (a::b::c::u8 k::rest) (3,false)=(k,(4,false)):=λa b c=>by
  have:=ZF (b:=a::b::c::u8 k::rest) (pre:=[a,b,c]) (rest:=rest) (z:=u8 k) (n:=3) false rfl rfl;rw[this,ek]
 rcases hs with rfl|rfl
 ·have e:ze ⟨11,r,0,19,0,0,k⟩ 0++rest=zj 72 4 r::193::zW 4 r::u8 k::rest:=rfl;have p:∀bs:List Int,kJ bs 193 0 ⟨4,r,false,false,0⟩ (3,false)=(⟨11,r,0,19,0,0,(zG bs (3,false)).1⟩,(zG bs (3,false)).2):=λ_=>rfl;rw[qR (by decide) (by decide) r0 r1 e (by decide) (by decide) (by decide) (by decide) (by decide),e,p,q];rfl
 ·have e:ze ⟨11,r,0,20,0,0,k⟩ 0++rest=zj 72 7 r::193::zW 7 r::u8 k::rest:=rfl;have p:∀bs:List Int,kJ bs 193 0 ⟨7,r,false,false,0⟩ (3,false)=(⟨11,r,0,20,0,0,(zG bs (3,false)).1⟩,(zG bs (3,false)).2):=λ_=>rfl;rw[qR (by decide) (by decide) r0 r1 e (by decide) (by decide) (by decide) (by decide) (by decide),e,p,q];rfl
theorem OH(r0:0<=r)(r1:r<16)(hk:Go.Mem.UW k)(he:bs=zj 72 0 r::(184+r%8)::(yX 8 k++rest)):x9 bs=(⟨2,r,0,0,0,0,k⟩,false,(10,false)):=by
 have x:=lE 0 r;have e:zG bs (1,false)=(184+r%8,(2,false)):=ZF (pre:=[zj 72 0 r]) false he rfl
 have z:zY (decide (zj 72 0 r/4%2=1)) (2,false)=(2,false):=by
  rw[aaY (λh=>absurd (x.2.1.1 h) (by decide))];rfl
 have q:Ul bs (2,false)=(k,(10,false)):=zbO (pre:=[zj 72 0 r,184+r%8]) hk false he rfl
 have er:184+r%8-184+zj 72 0 r%2*8=r:=by
  have:=x.2.2;by_cases h:8<=r
  ·have:=this.2 h;omega
  ·have h2:¬zj 72 0 r%2=1:=λq=>h (this.1 q);omega
 rw[KG x.1 he];unfold Xc;simp only[e];rw[aai (by omega),z,q,er];rfl
theorem Bs(r0:0<=r)(r1:r<16)(m0:0<=m)(m1:m<16)(hk:Go.Ar.zQ k=true)(ho:o=136\/o=137)(he:bs=zj 64 r m::o::(uB r m k++rest)) :
  x9 bs=(⟨4,r,m,if o=136 then 1 else 4,0,0,k⟩,false,(2+(uB r m k).length,false)):=by
 have x:=OJ r m;have e:zG bs (1,false)=(o,(2,false)):=ZF (pre:=[zj 64 r m]) false he rfl;have q:uZ bs (zj 64 r m) (2,false)=_:=Ft (pre:=[zj 64 r m,o]) (rest:=rest) r0 r1 m0 m1 hk x.2.1 x.2.2 false he rfl;rw[Bf x.1 he];unfold ZE;simp only[e];rw[aai ho,q];rfl
theorem zan(r0:0<=r)(r1:r<16)(m0:0<=m)(m1:m<16)(hk:Go.Ar.zQ k=true):x9 (ze ⟨4,r,m,4,0,0,k⟩ 0++rest)=(⟨4,r,m,4,0,0,k⟩,false,(2+(uB r m k).length,false)) :=
 Bs (o:=137) r0 r1 m0 m1 hk (.inr rfl) rfl
theorem zam(r0:0<=r)(r1:r<16)(m0:0<=m)(m1:m<16)(hk:Go.Ar.zQ k=true):x9 (ze ⟨4,r,m,1,0,0,k⟩ 0++rest)=(⟨4,r,m,1,0,0,k⟩,false,(2+(uB r m k).length,false)) :=
 Bs (o:=136) r0 r1 m0 m1 hk (.inl rfl) rfl
theorem JF(cc:Int):0<=vd cc/\vd cc<16:=by
 unfold vd
 repeat' split
 all_goals decide
theorem OO{pre:List Int}:∀(zs:List Int) (n:Nat) (pre:List Int),bs=pre++(zs++rest)->n=pre.length->Xb bs zs (n,false)=(n+zs.length,false)
 |[],n,pre,he,hn=>rfl
 |z::zs,n,pre,he,hn=>by
  have e:zG bs (n,false)=(z,(n+1,false)):=ZF (pre:=pre) false he hn;unfold Xb;rw[e];have h:zY (decide (¬True)) (n+1,false)=(n+1,false):=by simp[zY]
  simp only;rw[h,OO (pre:=pre) zs (n+1) (pre++[z]) (by rw[he];simp) (by simp[hn])];simp only[aa3]
  congr 1
  omega
theorem zb2{cc:Int}(r0:0<=r)(r1:r<16)(c0:21<=cc)(c1:cc<=26):x9 (ze ⟨17,r,0,0,cc,0,0⟩ 0++rest)=(⟨17,r,0,0,cc,0,0⟩,false,(8,false)):=by
 generalize hbs:ze ⟨17,r,0,0,cc,0,0⟩ 0++rest=bs;have he:bs=zj 64 0 r::15::(144+vd cc)::zW 0 r::zj 72 r r::15::182::zW r r::rest:=hbs.symm;have x:=OJ 0 r;have e1:zG bs (1,false)=(15,(2,false)):=ZF (pre:=[zj 64 0 r]) false he rfl;have e2:zG bs (2,false)=(144+vd cc,(3,false)):=ZF (pre:=[zj 64 0 r,15]) false he rfl;have cb:=JF cc;have e3:u8 (144+vd cc-144)=vd cc:=by rw[KR];omega
 have e4:ZT (vd cc) (3,false)=(cc,(3,false)):=by unfold ZT;rw[N4 c0 c1]
 have q:uZ bs (zj 64 0 r) (3,false)=(⟨0,r,false,false,0⟩,(4,false)):=by
  rw[he];exact Fu (pre:=[zj 64 0 r,15,144+vd cc]) (by decide) (by decide) r0 r1 x.2.1 x.2.2 false rfl
 have z:=OO (bs:=bs) (rest:=rest) (pre:=[]) [zj 72 r r,15,182,zW r r] 4 [zj 64 0 r,15,144+vd cc,zW 0 r] he rfl;have w0:zY (false||false||decide (¬True)) (4,false)=(4,false):=rfl;rw[Bf x.1 he];unfold ZE;simp only[e1];rw[aaf (by decide),abM];unfold FJ;simp only[e2,e3,e4,q];rw[w0,z];rfl
end
section
variable {bs rest:List Int}{r d:Int}
theorem zb3(hd:Go.Ar.zQ d=true)(x:zC)(hx:x.op=18):x9 (ze x d++rest)=(⟨18,0,0,0,0,0,d⟩,true,(5,false)):=by
 have e:ze x d=233::yX 4 d:=by unfold ze;simp[hx]
 have q:wI (233::(yX 4 d++rest)) (1,false)=(d,(5,false)):=Xf (pre:=[233]) hd false rfl rfl;rw[e];show x9 (233::(yX 4 d++rest))=_;have p:∀l:List Int,x9 (233::l)=(⟨18,0,0,0,0,0,(wI (233::l) (1,false)).1⟩,true,(wI (233::l) (1,false)).2):=λ_=>rfl;rw[p,q]
theorem zb5(hd:Go.Ar.zQ d=true)(x:zC)(hx:x.op=21):x9 (ze x d++rest)=(⟨21,0,0,0,0,0,d⟩,true,(5,false)):=by
 have e:ze x d=232::yX 4 d:=by unfold ze;simp[hx]
 have q:wI (232::(yX 4 d++rest)) (1,false)=(d,(5,false)):=Xf (pre:=[232]) hd false rfl rfl;rw[e];show x9 (232::(yX 4 d++rest))=_;have p:∀l:List Int,x9 (232::l)=(⟨21,0,0,0,0,0,(wI (232::l) (1,false)).1⟩,true,(wI (232::l) (1,false)).2):=λ_=>rfl;rw[p,q]
theorem zb4(hd:Go.Ar.zQ d=true)(x:zC)(hx:x.op=19)(c0:21<=x.cc)(c1:x.cc<=26):x9 (ze x d++rest)=(⟨19,0,0,0,x.cc,0,d⟩,true,(6,false)):=by
 have e:ze x d=[15,128+vd x.cc]++yX 4 d:=by unfold ze;simp[hx]
 have cb:=JF x.cc;have e3:u8 (128+vd x.cc-128)=vd x.cc:=by rw[KR];omega
 have q:wI (15::(128+vd x.cc)::(yX 4 d++rest)) (2,false)=(d,(6,false)):=Xf (pre:=[15,128+vd x.cc]) hd false rfl rfl;rw[e];show x9 (15::(128+vd x.cc)::(yX 4 d++rest))=_;have p:∀(z:Int) (l:List Int),x9 (15::z::l)=(⟨19,0,0,0,(ZT (u8 (z-128)) (2,false)).1,0,(wI (15::z::l) (ZT (u8 (z-128)) (2,false)).2).1⟩,true,(wI (15::z::l) (ZT (u8 (z-128)) (2,false)).2).2):=λ_ _=>rfl;have e4:ZT (vd x.cc) (2,false)=(x.cc,(2,false)):=by unfold ZT;rw[N4 c0 c1]
 rw[p,e3,e4];simp only[q]
theorem zev(hd:Go.Ar.zQ d=true)(x:zC)(hx:x.op=6)(r0:0<=x.r)(r1:x.r<16):x9 (ze x d++rest)=(⟨6,x.r,0,0,0,0,d⟩,true,(7,false)):=by
 have e:ze x d=[zj 72 x.r 0,141,5+x.r%8*8]++yX 4 d:=by unfold ze;simp[hx]
 generalize hbs:ze x d++rest=bs;have he:bs=zj 72 x.r 0::141::(5+x.r%8*8)::(yX 4 d++rest):=by rw[<- hbs,e];rfl
 have w:=lE x.r 0;have h1:zG bs (2,false)=(5+x.r%8*8,(3,false)):=ZF (pre:=[zj 72 x.r 0,141]) false he rfl;have h2:wI bs (3,false)=(d,(7,false)):=Xf (pre:=[zj 72 x.r 0,141,5+x.r%8*8]) hd false he rfl;have hw:¬zj 72 x.r 0%2=1:=λq=>absurd (w.2.2.1 q) (by decide)
 have q:uZ bs (zj 72 x.r 0) (2,false)=(⟨x.r,ZY (5+x.r%8*8) (zj 72 x.r 0),false,true,d⟩,(7,false)):=by
  unfold uZ;simp only[h1]
  have z:zY (decide (¬(5+x.r%8*8)%8=5)||decide (zj 72 x.r 0%2=1)) (3,false)=(3,false):=by
   rw[aaY hw,aaY (by omega)];rfl
  rw[aaf (by omega),aaf (by omega),aai (by omega),z,h2,lA (b:=0) r0 r1 w.2.1 (by omega)]
 rw[KG w.1 he,FO he (by decide) (by decide) (by decide) (by decide) (by decide)];unfold qh;simp only[q];rfl
end
def zL(r:Int):Prop:=0<=r/\r<16
inductive X1:zC->Prop
 |mov (r m:Int):zL r->zL m->X1 ⟨1,r,m,0,0,0,0⟩
 |movk (r k:Int):zL r->Go.Ar.zQ k=true->X1 ⟨2,r,0,0,0,0,k⟩
 |load8 (r m k:Int):zL r->zL m->Go.Ar.zQ k=true->X1 ⟨3,r,m,8,0,0,k⟩
 |load4 (r m k:Int):zL r->zL m->Go.Ar.zQ k=true->X1 ⟨3,r,m,4,0,0,k⟩
 |load1 (r m k:Int):zL r->zL m->Go.Ar.zQ k=true->X1 ⟨3,r,m,1,0,0,k⟩
 |sto8 (r m k:Int):zL r->zL m->Go.Ar.zQ k=true->X1 ⟨4,r,m,8,0,0,k⟩
 |sto4 (r m k:Int):zL r->zL m->Go.Ar.zQ k=true->X1 ⟨4,r,m,4,0,0,k⟩
 |sto1 (r m k:Int):zL r->zL m->Go.Ar.zQ k=true->X1 ⟨4,r,m,1,0,0,k⟩
 |lea (r m k:Int):zL r->zL m->Go.Ar.zQ k=true->X1 ⟨5,r,m,0,0,0,k⟩
 |NC (r m s:Int):zL r->zL m->(s=11\/s=12\/s=16\/s=17\/s=18)->X1 ⟨7,r,m,s,0,0,0⟩
 |mul (r m:Int):zL r->zL m->X1 ⟨7,r,m,13,0,0,0⟩
 |aluk (r k s:Int):zL r->¬r=4->Go.Ar.zQ k=true->(s=11\/s=12\/s=16\/s=17\/s=18)->X1 ⟨8,r,0,s,0,0,k⟩
 |mulk (r k:Int):zL r->Go.Ar.zQ k=true->X1 ⟨8,r,0,13,0,0,k⟩
 |un (r s:Int):zL r->(s=1\/s=2)->X1 ⟨9,r,0,s,0,0,0⟩
 |ext4 (r m:Int):zL r->zL m->X1 ⟨10,r,m,4,0,0,0⟩
 |ext3 (r m:Int):zL r->zL m->X1 ⟨10,r,m,3,0,0,0⟩
 |shift (r k s:Int):zL r->0<=k->k<256->(s=19\/s=20)->X1 ⟨11,r,0,s,0,0,k⟩
 |shiftc (r s:Int):zL r->(s=19\/s=20)->X1 ⟨12,r,0,s,0,0,0⟩
 |cqo:X1 ⟨13,0,0,0,0,0,0⟩
 |idiv (m:Int):zL m->X1 ⟨14,0,m,0,0,0,0⟩
 |cmp (r m:Int):zL r->zL m->X1 ⟨15,r,m,0,0,0,0⟩
 |cmpk (r k:Int):zL r->Go.Ar.zQ k=true->X1 ⟨16,r,0,0,0,0,k⟩
 |set (r cc:Int):zL r->21<=cc->cc<=26->X1 ⟨17,r,0,0,cc,0,0⟩
 |ret:X1 ⟨22,0,0,0,0,0,0⟩
 |enter (k:Int):Go.Ar.zQ k=true->X1 ⟨23,0,0,0,0,0,k⟩
 |leave (k:Int):Go.Ar.zQ k=true->X1 ⟨24,0,0,0,0,0,k⟩
 |inI:X1 ⟨25,0,0,0,0,0,0⟩
 |outI:X1 ⟨26,0,0,0,0,0,0⟩
theorem Rk{x:zC}(h:X1 x)(rest:List Int):∃n:Nat,x9 (ze x 0++rest)=(x,false,(n,false)):=by
 cases h with
 |mov r m a b=>exact⟨_,zes a.1 a.2 b.1 b.2⟩
 |movk r k a b=>exact⟨_,zet a.1 a.2 b⟩
 |load8 r m k a b c=>exact⟨_,zal a.1 a.2 b.1 b.2 c⟩
 |load4 r m k a b c=>exact⟨_,zak a.1 a.2 b.1 b.2 c⟩
 |load1 r m k a b c=>exact⟨_,zaj a.1 a.2 b.1 b.2 c⟩
 |sto8 r m k a b c=>exact⟨_,zao a.1 a.2 b.1 b.2 c⟩
 |sto4 r m k a b c=>exact⟨_,zan a.1 a.2 b.1 b.2 c⟩
 |sto1 r m k a b c=>exact⟨_,zam a.1 a.2 b.1 b.2 c⟩
 |lea r m k a b c=>exact⟨_,zeu a.1 a.2 b.1 b.2 c⟩
 |NC r m s a b c=>exact⟨_,zew a.1 a.2 b.1 b.2 c⟩
 |mul r m a b=>exact⟨_,zb9 a.1 a.2 b.1 b.2⟩
 |aluk r k s a b c d=>exact⟨_,zex a.1 a.2 b c d⟩
 |mulk r k a b=>exact⟨_,zca a.1 a.2 b⟩
 |un r s a b=>exact⟨_,zey a.1 a.2 b⟩
 |ext4 r m a b=>exact⟨_,zbW a.1 a.2 b.1 b.2⟩
 |ext3 r m a b=>exact⟨_,zai a.1 a.2 b.1 b.2⟩
 |shift r k s a b c d=>exact⟨_,zbX a.1 a.2 b c d⟩
 |shiftc r s a b=>exact⟨_,zbY a.1 a.2 b⟩
 |cqo=>exact⟨_,FB 13 153 (.inl ⟨rfl,rfl⟩)⟩
 |idiv m a=>exact⟨_,zbZ a.1 a.2⟩
 |cmp r m a b=>exact⟨_,zb0 a.1 a.2 b.1 b.2⟩
 |cmpk r k a b=>exact⟨_,zb1 a.1 a.2 b⟩
 |set r cc a b c=>exact⟨_,zb2 a.1 a.2 b c⟩
 |ret=>exact⟨_,zb6⟩
 |enter k a=>exact⟨_,zb7 a⟩
 |leave k a=>exact⟨_,zb8 a⟩
 |inI=>exact⟨_,FB 25 237 (.inr (.inl ⟨rfl,rfl⟩))⟩
 |outI=>exact⟨_,FB 26 239 (.inr (.inr ⟨rfl,rfl⟩))⟩
end Go.En
namespace Go.Eb
open Go.Ai Go.Proofs
open Go.Rtl (zK zE Old inc)
open Go.As (zC)
open Go.En
def jK(h:za)(bs:List Int)(r:aaa)(h':za):Prop:=Sat (.of h) h' [vu r bs]
section
variable {h h2:za}{b:Nat}{r m sub cc l k:Int}{J:List aaa->za->Prop}
theorem fin{v:aaa}{bs bs':List Int}{L:List HP}(s:Sat (.of h) h2 (vu v bs::L))(e:bs=bs'):jK h bs' v h2:=by
 subst e;exact s.yN 1
theorem J2{h:za}{n b:Nat}{o:vr}(hg:h.get b=some o)(hb:b<n):(trim h n).get b=some o:=by rw[Ig hb];exact hg
theorem zfI(R:zL r)(M:zL m)(w2:vQ h2)(s2:Sat (.of h) h2 [pt b (.cells (zC.row ⟨1,r,m,sub,cc,l,k⟩) 42)]):y5 (.int .i64 1) h2 (.pointer (some ⟨b,0,none⟩)) (jK h (ze ⟨1,r,m,sub,cc,l,k⟩ 0)) J:=by
 have g2:=s2.get;have l2:=s2.lt;have s3:Sat (.of h) (h2.push (.cells [.int .u8 137] 5)) (vu (.slice (some ⟨h2.next,0,none⟩) 1 3) [137]::[pt b _]):=yE s2 [137] 3 (by decide);unfold y5;simp only[EE,zu,zg,yL,zJ,z7,G5,g2,l2];refine Q9 (.inl rfl) M R s3 (by decide) λr h' rn s4=>?_;simp only[EE,rn];exact fin s4 rfl
theorem zbB(R:zL r)(M:zL m)(w2:vQ h2)(s2:Sat (.of h) h2 [pt b (.cells (zC.row ⟨3,r,m,8,cc,l,k⟩) 42)]):y5 (.int .i64 3) h2 (.pointer (some ⟨b,0,none⟩)) (jK h (ze ⟨3,r,m,8,cc,l,k⟩ 0)) J:=by
 have g2:=s2.get;have l2:=s2.lt;have s3:Sat (.of h) (h2.push (.cells [.int .u8 139] 5)) (vu (.slice (some ⟨h2.next,0,none⟩) 1 3) [139]::[pt b _]):=yE s2 [139] 3 (by decide);unfold y5;simp only[EE,↓zq,Int.reduceEq,zu,yU,zg,yL,zJ,z7,zn,zw,Nq,pQ,qN,qe,g2,l2];refine UY (.inl rfl) R M s3 (by decide) λr h' rn s4=>?_;simp only[EE,rn];exact fin s4 rfl
theorem zbA(R:zL r)(M:zL m)(w2:vQ h2)(s2:Sat (.of h) h2 [pt b (.cells (zC.row ⟨3,r,m,4,cc,l,k⟩) 42)]):y5 (.int .i64 3) h2 (.pointer (some ⟨b,0,none⟩)) (jK h (ze ⟨3,r,m,4,cc,l,k⟩ 0)) J:=by
 have g2:=s2.get;have l2:=s2.lt;have s3:Sat (.of h) (h2.push (.cells [.int .u8 99] 5)) (vu (.slice (some ⟨h2.next,0,none⟩) 1 3) [99]::[pt b _]):=yE s2 [99] 3 (by decide);unfold y5;simp only[EE,↓zq,Int.reduceEq,zu,yU,zg,yL,zJ,z7,zn,zw,Np,ED,pQ,qN,qe,g2,l2];refine UY (.inl rfl) R M s3 (by decide) λr h' rn s4=>?_;simp only[EE,rn];exact fin s4 rfl
theorem zbz(R:zL r)(M:zL m)(w2:vQ h2)(s2:Sat (.of h) h2 [pt b (.cells (zC.row ⟨3,r,m,1,cc,l,k⟩) 42)]):y5 (.int .i64 3) h2 (.pointer (some ⟨b,0,none⟩)) (jK h (ze ⟨3,r,m,1,cc,l,k⟩ 0)) J:=by
 have g2:=s2.get;have l2:=s2.lt;have s3:Sat (.of h) (h2.push (.cells [.int .u8 15,.int .u8 190] 5)) (vu (.slice (some ⟨h2.next,0,none⟩) 2 4) [15,190]::[pt b _]):=yE s2 [15,190] 4 (by decide);unfold y5;simp only[EE,↓zq,Int.reduceEq,zu,yU,zg,xe,zJ,z7,zn,zw,ED,pQ,Nr,qN,qe,g2,l2];refine UY (.inl rfl) R M s3 (by decide) λr h' rn s4=>?_;simp only[EE,rn];exact fin s4 rfl
theorem zbE(R:zL r)(M:zL m)(w2:vQ h2)(s2:Sat (.of h) h2 [pt b (.cells (zC.row ⟨4,r,m,8,cc,l,k⟩) 42)]):y5 (.int .i64 4) h2 (.pointer (some ⟨b,0,none⟩)) (jK h (ze ⟨4,r,m,8,cc,l,k⟩ 0)) J:=by
 have g2:=s2.get;have l2:=s2.lt;have s3:Sat (.of h) (h2.push (.cells [.int .u8 137] 5)) (vu (.slice (some ⟨h2.next,0,none⟩) 1 3) [137]::[pt b _]):=yE s2 [137] 3 (by decide);unfold y5;simp only[EE,↓zq,Int.reduceEq,zu,yU,zg,yL,zJ,z7,zn,zw,GO,iu,jf,qN,qe,g2,l2];refine UY (.inl rfl) R M s3 (by decide) λr h' rn s4=>?_;simp only[EE,rn];exact fin s4 rfl
theorem zbD(R:zL r)(M:zL m)(w2:vQ h2)(s2:Sat (.of h) h2 [pt b (.cells (zC.row ⟨4,r,m,4,cc,l,k⟩) 42)]):y5 (.int .i64 4) h2 (.pointer (some ⟨b,0,none⟩)) (jK h (ze ⟨4,r,m,4,cc,l,k⟩ 0)) J:=by
 have g2:=s2.get;have l2:=s2.lt;have s3:Sat (.of h) (h2.push (.cells [.int .u8 137] 5)) (vu (.slice (some ⟨h2.next,0,none⟩) 1 3) [137]::[pt b _]):=yE s2 [137] 3 (by decide);unfold y5;simp only[EE,↓zq,Int.reduceEq,zu,yU,zg,yL,zJ,z7,zn,zw,GN,sW,iu,jf,qN,qe,g2,l2];refine UY (.inr rfl) R M s3 (by decide) λr h' rn s4=>?_;simp only[EE,rn];exact fin s4 rfl
theorem zbC(R:zL r)(M:zL m)(w2:vQ h2)(s2:Sat (.of h) h2 [pt b (.cells (zC.row ⟨4,r,m,1,cc,l,k⟩) 42)]):y5 (.int .i64 4) h2 (.pointer (some ⟨b,0,none⟩)) (jK h (ze ⟨4,r,m,1,cc,l,k⟩ 0)) J:=by
 have g2:=s2.get;have l2:=s2.lt;have s3:Sat (.of h) (h2.push (.cells [.int .u8 136] 5)) (vu (.slice (some ⟨h2.next,0,none⟩) 1 3) [136]::[pt b _]):=yE s2 [136] 3 (by decide);unfold y5;simp only[EE,↓zq,Int.reduceEq,zu,yU,zg,yL,zJ,z7,zn,zw,sW,iu,GP,jf,qN,qe,g2,l2];refine UY (.inr rfl) R M s3 (by decide) λr h' rn s4=>?_;simp only[EE,rn];exact fin s4 rfl
theorem zfK(R:zL r)(M:zL m)(w2:vQ h2)(s2:Sat (.of h) h2 [pt b (.cells (zC.row ⟨5,r,m,sub,cc,l,k⟩) 42)]):y5 (.int .i64 5) h2 (.pointer (some ⟨b,0,none⟩)) (jK h (ze ⟨5,r,m,sub,cc,l,k⟩ 0)) J:=by
 have g2:=s2.get;have l2:=s2.lt;have s3:Sat (.of h) (h2.push (.cells [.int .u8 141] 5)) (vu (.slice (some ⟨h2.next,0,none⟩) 1 3) [141]::[pt b _]):=yE s2 [141] 3 (by decide);unfold y5;simp only[EE,Int.reduceEq,zu,yU,zg,yL,zJ,z7,zw,G4,Ym,jf,qN,qe,g2,l2];refine UY (.inl rfl) R M s3 (by decide) λr h' rn s4=>?_;simp only[EE,rn];exact fin s4 rfl
theorem zd5(R:zL r)(M:zL m)(w2:vQ h2)(s2:Sat (.of h) h2 [pt b (.cells (zC.row ⟨7,r,m,13,cc,l,k⟩) 42)]):y5 (.int .i64 7) h2 (.pointer (some ⟨b,0,none⟩)) (jK h (ze ⟨7,r,m,13,cc,l,k⟩ 0)) J:=by
 have g2:=s2.get;have l2:=s2.lt;have s3:Sat (.of h) (h2.push (.cells [.int .u8 15,.int .u8 175] 5)) (vu (.slice (some ⟨h2.next,0,none⟩) 2 4) [15,175]::[pt b _]):=yE s2 [15,175] 4 (by decide);unfold y5;simp only[EE,Int.reduceEq,zu,zg,xe,zJ,z7,zn,GR,sZ,Wa,Y3,Ym,jf,qN,qe,g2,l2];refine Q9 (.inl rfl) R M s3 (by decide) λr h' rn s4=>?_;simp only[EE,rn];exact fin s4 rfl
theorem zfM(R:zL r)(M:zL m)(hs:¬sub=13)(w2:vQ h2)(s2:Sat (.of h) h2 [pt b (.cells (zC.row ⟨7,r,m,sub,cc,l,k⟩) 42)]):y5 (.int .i64 7) h2 (.pointer (some ⟨b,0,none⟩)) (jK h (ze ⟨7,r,m,sub,cc,l,k⟩ 0)) J:=by
 have g2:=s2.get;have l2:=s2.lt;have gt:∀o,(trim (h2.push o) h2.next).get b=some (.cells (zC.row ⟨7,r,m,sub,cc,l,k⟩) 42):=λo=>J2 (by rw[yq l2];exact g2) l2;have s3:Sat (.of h) (h2.push (.cells [.int .u8 (Go.En.kp sub)] 5)) (vu (.slice (some ⟨h2.next,0,none⟩) 1 3) [Go.En.kp sub]::[pt b _]):=yE s2 [Go.En.kp sub] 3 (by decide);unfold y5;simp only[EE,Int.reduceEq,zu,zg,zn,sZ,Wa,Y3,Ym,jf,qN,qe,g2,hs];refine eL (dr sub _) ?_;simp only[EE,zu,zg,yL,zJ,z7,GS,gt];refine FD (.inl rfl) M R s3 (ZD w2 _) (by simp) λv h' w rn s4=>?_;simp only[EE,rn];refine fin s4 ?_;have e:ze ⟨7,r,m,sub,cc,l,k⟩ 0=if sub=13 then [zj 72 r m,15,175,zW r m] else [zj 72 m r,Go.En.kp sub,zW m r]:=rfl;rw[e,aaf hs];rfl
theorem zfJ(R:zL r)(hk:Go.Ar.zQ k=true)(w2:vQ h2)(s2:Sat (.of h) h2 [pt b (.cells (zC.row ⟨2,r,m,sub,cc,l,k⟩) 42)]):y5 (.int .i64 2) h2 (.pointer (some ⟨b,0,none⟩)) (jK h (ze ⟨2,r,m,sub,cc,l,k⟩ 0)) J:=by
 have g2:=s2.get;have l2:=s2.lt;have gt:∀o,(trim (h2.push o) h2.next).get b=some (.cells (zC.row ⟨2,r,m,sub,cc,l,k⟩) 42):=λo=>J2 (by rw[yq l2];exact g2) l2;have s3:Sat (.of h) (h2.push (.cells [.int .u8 199] 5)) (vu (.slice (some ⟨h2.next,0,none⟩) 1 3) [199]::[pt b _]):=yE s2 [199] 3 (by decide);unfold y5;simp only[EE,Int.reduceEq,zu,yU,zw,ta,qe,g2];refine X2 (N8 k _) ?_;rw[hk];simp only[EE,zu,zg,yL,zJ,Nm,gt];refine FD (.inl rfl) (by decide) R s3 (ZD w2 _) (by decide) λv h' w rn s4=>?_;have g4:(trim h' h2.next).get b=some (.cells (zC.row ⟨2,r,m,sub,cc,l,k⟩) 42):=J2 (s4.p 2).get l2;simp only[EE,zu,yU,zw,Nl,g4];refine i9 s4 w (n:=4) rfl (by decide) λv2 h5 w5 rn2 s5=>?_;refine XT (s5.f [0,1]) (by simp[xb]) λv3 h6 rn3 s6=>?_;simp only[EE,rn3];refine fin s6 ?_;have e:ze ⟨2,r,m,sub,cc,l,k⟩ 0=if Go.Ar.zQ k=true then [zj 72 0 r,199,zW 0 r]++yX 4 k else [zj 72 0 r,184+r%8]++yX 8 k:=rfl;rw[e,aai hk];rfl
theorem zd4(R:zL r)(hk:¬Go.Ar.zQ k=true)(w2:vQ h2)(s2:Sat (.of h) h2 [pt b (.cells (zC.row ⟨2,r,m,sub,cc,l,k⟩) 42)]):y5 (.int .i64 2) h2 (.pointer (some ⟨b,0,none⟩)) (jK h (ze ⟨2,r,m,sub,cc,l,k⟩ 0)) J:=by
 have g2:=s2.get;have l2:=s2.lt;have hk0:Go.Ar.zQ k=false:=by simpa using hk
 have q1:=J7 R.1 R.2
 have q2:IntKind.wrap .u8 (184+IntKind.wrap .u8 (r%8))=184+r%8:=by
  have:∀n:Int,IntKind.wrap .u8 n=n%256:=KR;rw[this,this];omega
 have s3:Sat (.of h) (h2.push (.cells [.int .u8 (zj 72 0 r),.int .u8 (184+r%8)] 5)) (vu (.slice (some ⟨h2.next,0,none⟩) 2 4) [zj 72 0 r,184+r%8]::[pt b _]):=yE s2 [zj 72 0 r,184+r%8] 4 (by decide);have gc:(cut (h2.push (.cells [.int .u8 (zj 72 0 r),.int .u8 (184+r%8)] 5)) h2.next (h2.next+1)).get b=some (.cells (zC.row ⟨2,r,m,sub,cc,l,k⟩) 42):=kf (by rw[yq l2];exact g2) l2;unfold y5;simp only[EE,Int.reduceEq,zu,yU,zw,ta,qe,g2];refine X2 (N8 k _) ?_;rw[hk0];simp only[EE,zu,zg,zJ,No,g2];refine eL (OL (.inl rfl) 0 r _) ?_;simp only[EE,zu,yU,zg,xe,Q3,zJ,zw,Nn,g2,q1,q2,gc];refine mV s3 (ZD w2 _) (n:=8) rfl (by decide) rfl (λ_ _=>VN) λv h' w rn s4=>?_;refine VL (s4.f [1,0]) (λq hq=>?_) (yw s4 aak) (by simp[xb]) rn λa n c h5 s5=>?_
 ·simp only[Go.Rtl.pS,aar]at hq;subst hq;exact⟨aaj _,aaJ _⟩
 ·simp only[EE];refine fin s5 ?_;have e:ze ⟨2,r,m,sub,cc,l,k⟩ 0=if Go.Ar.zQ k=true then [zj 72 0 r,199,zW 0 r]++yX 4 k else [zj 72 0 r,184+r%8]++yX 8 k:=rfl;rw[e,aaf hk]
theorem zfL(R:zL r)(w2:vQ h2)(s2:Sat (.of h) h2 [pt b (.cells (zC.row ⟨6,r,m,sub,cc,l,k⟩) 42)]):y5 (.int .i64 6) h2 (.pointer (some ⟨b,0,none⟩)) (jK h (ze ⟨6,r,m,sub,cc,l,k⟩ 0)) J:=by
 have g2:=s2.get;have l2:=s2.lt;have q1:=J7 R.1 R.2;have q2:IntKind.wrap .u8 (BitVec.ofInt (IntKind.bits .u8) 5 ||| BitVec.ofInt (IntKind.bits .u8) (IntKind.wrap .u8 (IntKind.wrap .u8 (r%8)*2^(min 3 (IntKind.bits .u8))))).toNat=5+r%8*8:=zd8 (KI r).1 (KI r).2;have s3:Sat (.of h) (h2.push (.cells [.int .u8 (zj 72 r 0),.int .u8 (141),.int .u8 (5+r%8*8)] 5)) (vu (.slice (some ⟨h2.next,0,none⟩) 3 5) [zj 72 r 0,141,5+r%8*8]::[pt b _]):=yE s2 [zj 72 r 0,141,5+r%8*8] 5 (by decide);unfold y5;simp only[EE,Int.reduceEq,zu,zg,zJ,G3,Y3,Ym,jf,qN,qe,g2];refine eL (OL (.inl rfl) r 0 _) ?_;simp only[EE,Int.reduceLE,Int.reduceToNat,zu,zg,y8,Q3,zJ,GQ,g2,q1,q2];refine mV s3 (ZD w2 _) (n:=4) rfl (by decide) rfl (λ_ _=>VN) λv h' w rn s4=>?_;refine VL (s4.f [1,0]) (λq hq=>?_) (yw s4 aak) (by simp[xb]) rn λa n c h5 s5=>?_
 ·simp only[Go.Rtl.pS,aar]at hq;subst hq;exact⟨aaj _,aaJ _⟩
 ·simp only[EE];exact fin s5 rfl
theorem zd6(R:zL r)(w2:vQ h2)(s2:Sat (.of h) h2 [pt b (.cells (zC.row ⟨8,r,m,13,cc,l,k⟩) 42)]):y5 (.int .i64 8) h2 (.pointer (some ⟨b,0,none⟩)) (jK h (ze ⟨8,r,m,13,cc,l,k⟩ 0)) J:=by
 have g2:=s2.get;have l2:=s2.lt;have gt:∀o,(trim (h2.push o) h2.next).get b=some (.cells (zC.row ⟨8,r,m,13,cc,l,k⟩) 42):=λo=>J2 (by rw[yq l2];exact g2) l2;have s3:Sat (.of h) (h2.push (.cells [.int .u8 105] 5)) (vu (.slice (some ⟨h2.next,0,none⟩) 1 3) [105]::[pt b _]):=yE s2 [105] 3 (by decide);unfold y5;simp only[EE,Int.reduceEq,zu,zg,yL,zJ,zn,GV,sY,Uw,Wa,Y3,Ym,jf,qN,qe,g2,gt];refine FD (.inl rfl) R R s3 (ZD w2 _) (by decide) λv h' w rn s4=>?_;have g4:(trim h' h2.next).get b=some (.cells (zC.row ⟨8,r,m,13,cc,l,k⟩) 42):=J2 (s4.p 2).get l2;simp only[EE,zu,yU,zw,GU,g4];refine i9 s4 w (n:=4) rfl (by decide) λv2 h5 w5 rn2 s5=>?_;refine XT (s5.f [0,1]) (by simp[xb]) λv3 h6 rn3 s6=>?_;simp only[EE,rn3];exact fin s6 rfl
theorem H4{s:Int}(h:s=11\/s=12\/s=16\/s=17\/s=18):IntKind.wrap .i64 (IntKind.wrap .u8 (Go.En.kp s/2^3))=ZQ s/\IntKind.wrap .i64 ((Go.En.kp s).fdiv (2^(min 3 (IntKind.bits .u8))))=ZQ s/\0<=ZQ s/\ZQ s<8:=by
 rcases h with rfl|rfl|rfl|rfl|rfl <;> decide
theorem zfN(R:zL r)(hs:sub=11\/sub=12\/sub=16\/sub=17\/sub=18)(w2:vQ h2)(s2:Sat (.of h) h2 [pt b (.cells (zC.row ⟨8,r,m,sub,cc,l,k⟩) 42)]):y5 (.int .i64 8) h2 (.pointer (some ⟨b,0,none⟩)) (jK h (ze ⟨8,r,m,sub,cc,l,k⟩ 0)) J:=by
 have g2:=s2.get;have l2:=s2.lt;have hs0:¬sub=13:=by omega
 have q:=H4 hs;have s3:Sat (.of h) (h2.push (.cells [.int .u8 129] 5)) (vu (.slice (some ⟨h2.next,0,none⟩) 1 3) [129]::[pt b _]):=yE s2 [129] 3 (by decide);have gc:(cut (h2.push (.cells [.int .u8 129] 5)) h2.next (h2.next+1)).get b=some (.cells (zC.row ⟨8,r,m,sub,cc,l,k⟩) 42):=kf (by rw[yq l2];exact g2) l2;unfold y5;simp only[EE,Int.reduceEq,zu,zg,yL,zn,GY,sY,Uw,Wa,Y3,Ym,jf,qN,qe,g2,hs0,gc];refine eL (dr sub _) ?_;simp only[EE,Int.reduceLE,Int.reduceToNat,zu,zg,qC,zJ,GX,gc,q.2.1];refine lB (.inl rfl) ⟨q.2.2.1,by omega⟩ R s3 (ZD w2 _) (by decide) rfl (λ_ _ h=>h) (yw s3 aak) λv h' w nx rn s4=>?_;have g4:(cut (cut h' h2.next (h2.next+1)) (h2.next+1) h'.next).get b=some (.cells (zC.row ⟨8,r,m,sub,cc,l,k⟩) 42):=kf (kf (s4.p 2).get l2) (abK l2);simp only[EE,zu,yU,zw,GW,g4];refine mV s4 w (n:=4) rfl (by decide) rfl (λ_ _ h=>h) λv2 h5 w5 rn2 s5=>?_;refine XT (s5.f [0,1]) (by simp[xb]) λv3 h6 rn3 s6=>?_;simp only[EE,rn3];refine fin s6 ?_;have e:ze ⟨8,r,m,sub,cc,l,k⟩ 0=if sub=13 then [zj 72 r r,105,zW r r]++yX 4 k else [zj 72 0 r,129,zW (ZQ sub) r]++yX 4 k:=rfl;have e2:zj 72 (ZQ sub) r=zj 72 0 r:=by unfold zj;rw[aaf (show ¬8<=ZQ sub by omega),aaf (show ¬(8:Int)<=0 by decide)]
 rw[e,aaf hs0,e2];rfl
theorem zd1(R:zL r)(w2:vQ h2)(s2:Sat (.of h) h2 [pt b (.cells (zC.row ⟨16,r,m,sub,cc,l,k⟩) 42)]):y5 (.int .i64 16) h2 (.pointer (some ⟨b,0,none⟩)) (jK h (ze ⟨16,r,m,sub,cc,l,k⟩ 0)) J:=by
 have g2:=s2.get;have l2:=s2.lt;have gt:∀o,(trim (h2.push o) h2.next).get b=some (.cells (zC.row ⟨16,r,m,sub,cc,l,k⟩) 42):=λo=>J2 (by rw[yq l2];exact g2) l2;have s3:Sat (.of h) (h2.push (.cells [.int .u8 129] 5)) (vu (.slice (some ⟨h2.next,0,none⟩) 1 3) [129]::[pt b _]):=yE s2 [129] 3 (by decide);unfold y5;simp only[EE,Int.reduceEq,zu,zg,yL,zJ,G2,aX,Uw,Wa,Y3,Ym,jf,qN,qe,gt];refine FD (.inl rfl) (by decide) R s3 (ZD w2 _) (by decide) λv h' w rn s4=>?_;have g4:(trim h' h2.next).get b=some (.cells (zC.row ⟨16,r,m,sub,cc,l,k⟩) 42):=J2 (s4.p 2).get l2;simp only[EE,zu,yU,zw,GZ,g4];refine i9 s4 w (n:=4) rfl (by decide) λv2 h5 w5 rn2 s5=>?_;refine XT (s5.f [0,1]) (by simp[xb]) λv3 h6 rn3 s6=>?_;simp only[EE,rn3];exact fin s6 rfl
theorem zd2  (w2:vQ h2)(s2:Sat (.of h) h2 [pt b (.cells (zC.row ⟨23,r,m,sub,cc,l,k⟩) 42)]):y5 (.int .i64 23) h2 (.pointer (some ⟨b,0,none⟩)) (jK h (ze ⟨23,r,m,sub,cc,l,k⟩ 0)) J:=by
 have g2:=s2.get;have l2:=s2.lt;have s3:Sat (.of h) (h2.push (.cells [.int .u8 72,.int .u8 129,.int .u8 236] 5)) (vu (.slice (some ⟨h2.next,0,none⟩) 3 5) [72,129,236]::[pt b _]):=yE s2 [72,129,236] 5 (by decide);unfold y5;simp only[EE,Int.reduceEq,zu,yU,y8,zw,G1,iw,aX,Uw,Wa,Y3,Ym,jf,qN,qe,g2,l2];refine bW s3 (n:=4) rfl (by decide) λv h' rn s4=>?_;refine XT s4 (by simp[xb]) λv3 h6 rn3 s6=>?_;simp only[EE,rn3];exact fin s6 rfl
theorem zd3  (w2:vQ h2)(s2:Sat (.of h) h2 [pt b (.cells (zC.row ⟨24,r,m,sub,cc,l,k⟩) 42)]):y5 (.int .i64 24) h2 (.pointer (some ⟨b,0,none⟩)) (jK h (ze ⟨24,r,m,sub,cc,l,k⟩ 0)) J:=by
 have g2:=s2.get;have l2:=s2.lt;have s3:Sat (.of h) (h2.push (.cells [.int .u8 72,.int .u8 129,.int .u8 196] 5)) (vu (.slice (some ⟨h2.next,0,none⟩) 3 5) [72,129,196]::[pt b _]):=yE s2 [72,129,196] 5 (by decide);unfold y5;simp only[EE,Int.reduceEq,zu,yU,y8,zw,G0,sX,iw,aX,Uw,Wa,Y3,Ym,jf,qN,qe,g2,l2];refine bW s3 (n:=4) rfl (by decide) λv h' rn s4=>?_;refine XT s4 (by simp[xb]) λv3 h6 rn3 s6=>?_;simp only[EE,rn3];exact fin s6 rfl
end
section
variable {h h2:za}{b:Nat}{r m sub cc l k:Int}{J:List aaa->za->Prop}
theorem Rv(R:zL r)(w2:vQ h2)(s2:Sat (.of h) h2 [pt b (.cells (zC.row ⟨9,r,m,1,cc,l,k⟩) 42)]):yb (.int .i64 9) (.pointer (some ⟨b,0,none⟩)) h2 (jK h (ze ⟨9,r,m,1,cc,l,k⟩ 0)) J:=by
 have g2:=s2.get;have l2:=s2.lt;unfold yb;have s3:Sat (.of h) (h2.push (.cells [.int .u8 247] 5)) (vu (.slice (some ⟨h2.next,0,none⟩) 1 3) [247]::[pt b _]):=yE s2 [247] 3 (by decide);simp only[EE,nth,zu,zg,yL,zJ,zn,l8,fY,g2,l2];refine Q9 (a:=3) (.inl rfl) (by decide) R s3 (by decide) λv h' rn s4=>?_;simp only[EE,rn];exact fin s4 rfl
theorem Rw(R:zL r)(w2:vQ h2)(s2:Sat (.of h) h2 [pt b (.cells (zC.row ⟨9,r,m,2,cc,l,k⟩) 42)]):yb (.int .i64 9) (.pointer (some ⟨b,0,none⟩)) h2 (jK h (ze ⟨9,r,m,2,cc,l,k⟩ 0)) J:=by
 have g2:=s2.get;have l2:=s2.lt;unfold yb;have s3:Sat (.of h) (h2.push (.cells [.int .u8 247] 5)) (vu (.slice (some ⟨h2.next,0,none⟩) 1 3) [247]::[pt b _]):=yE s2 [247] 3 (by decide);simp only[EE,nth,Int.reduceEq,zu,zg,yL,zJ,zn,l8,fY,g2,l2];refine Q9 (a:=2) (.inl rfl) (by decide) R s3 (by decide) λv h' rn s4=>?_;simp only[EE,rn];exact fin s4 rfl
theorem MK(R:zL r)(M:zL m)(w2:vQ h2)(s2:Sat (.of h) h2 [pt b (.cells (zC.row ⟨10,r,m,3,cc,l,k⟩) 42)]):yb (.int .i64 10) (.pointer (some ⟨b,0,none⟩)) h2 (jK h (ze ⟨10,r,m,3,cc,l,k⟩ 0)) J:=by
 have g2:=s2.get;have l2:=s2.lt;unfold yb;have s3:Sat (.of h) (h2.push (.cells [.int .u8 15,.int .u8 190] 5)) (vu (.slice (some ⟨h2.next,0,none⟩) 2 4) [15,190]::[pt b _]):=yE s2 [15,190] 4 (by decide);simp only[EE,Int.reduceEq,zu,zg,xe,zJ,z7,zn,Dd,fX,vN,g2,l2];refine Q9 (.inl rfl) R M s3 (by decide) λv h' rn s4=>?_;simp only[EE,rn];exact fin s4 rfl
theorem ML(R:zL r)(M:zL m)(hs:¬sub=3)(w2:vQ h2)(s2:Sat (.of h) h2 [pt b (.cells (zC.row ⟨10,r,m,sub,cc,l,k⟩) 42)]):yb (.int .i64 10) (.pointer (some ⟨b,0,none⟩)) h2 (jK h (ze ⟨10,r,m,sub,cc,l,k⟩ 0)) J:=by
 have g2:=s2.get;have l2:=s2.lt;unfold yb;have s3:Sat (.of h) (h2.push (.cells [.int .u8 99] 5)) (vu (.slice (some ⟨h2.next,0,none⟩) 1 3) [99]::[pt b _]):=yE s2 [99] 3 (by decide);simp only[EE,Int.reduceEq,zu,zg,yL,zJ,z7,zn,De,fX,vN,g2,l2,hs];refine Q9 (.inl rfl) R M s3 (by decide) λv h' rn s4=>?_;simp only[EE,rn];refine fin s4 ?_;have e:ze ⟨10,r,m,sub,cc,l,k⟩ 0=if sub=3 then [zj 72 r m,15,190,zW r m] else [zj 72 r m,99,zW r m]:=rfl;rw[e,aaf hs];rfl
theorem Rt(R:zL r)(w2:vQ h2)(s2:Sat (.of h) h2 [pt b (.cells (zC.row ⟨12,r,m,19,cc,l,k⟩) 42)]):yb (.int .i64 12) (.pointer (some ⟨b,0,none⟩)) h2 (jK h (ze ⟨12,r,m,19,cc,l,k⟩ 0)) J:=by
 have g2:=s2.get;have l2:=s2.lt;unfold yb;have s3:Sat (.of h) (h2.push (.cells [.int .u8 211] 5)) (vu (.slice (some ⟨h2.next,0,none⟩) 1 3) [211]::[pt b _]):=yE s2 [211] 3 (by decide);simp only[EE,nth,Int.reduceEq,zu,zg,yL,zc,zJ,zn,mc,Kn,UB,ug,vN,g2,l2];refine Q9 (a:=4) (.inl rfl) (by decide) R s3 (by decide) λv h' rn s4=>?_;simp only[EE,rn];exact fin s4 rfl
theorem Rr(R:zL r)(w2:vQ h2)(s2:Sat (.of h) h2 [pt b (.cells (zC.row ⟨11,r,m,19,cc,l,k⟩) 42)]):yb (.int .i64 11) (.pointer (some ⟨b,0,none⟩)) h2 (jK h (ze ⟨11,r,m,19,cc,l,k⟩ 0)) J:=by
 have g2:=s2.get;have l2:=s2.lt;unfold yb;have s3:Sat (.of h) (h2.push (.cells [.int .u8 193] 5)) (vu (.slice (some ⟨h2.next,0,none⟩) 1 3) [193]::[pt b _]):=yE s2 [193] 3 (by decide);have gc:(cut (h2.push (.cells [.int .u8 193] 5)) h2.next (h2.next+1)).get b=some (.cells (zC.row ⟨11,r,m,19,cc,l,k⟩) 42):=kf (by rw[yq l2];exact g2) l2;simp only[EE,nth,Int.reduceEq,zu,zg,yL,zc,zJ,zn,ma,Kn,UB,ug,vN,g2,gc];refine lB (a:=4) (.inl rfl) (by decide) R s3 (ZD w2 _) (by decide) rfl (λ_ _ h=>h) (yw s3 aak) λv h' w nx rn s4=>?_;have g4:(cut (cut h' h2.next (h2.next+1)) (h2.next+1) h'.next).get b=some (.cells (zC.row ⟨11,r,m,19,cc,l,k⟩) 42):=kf (kf (s4.p 2).get l2) (abK l2);simp only[EE,zu,yU,yL,mJ,zw,l9,g4];refine OC s4 (by simp) λv3 h6 rn3 s6=>?_;simp only[EE,rn3];exact fin s6 rfl
theorem Ru(R:zL r)(w2:vQ h2)(s2:Sat (.of h) h2 [pt b (.cells (zC.row ⟨12,r,m,20,cc,l,k⟩) 42)]):yb (.int .i64 12) (.pointer (some ⟨b,0,none⟩)) h2 (jK h (ze ⟨12,r,m,20,cc,l,k⟩ 0)) J:=by
 have g2:=s2.get;have l2:=s2.lt;unfold yb;have s3:Sat (.of h) (h2.push (.cells [.int .u8 211] 5)) (vu (.slice (some ⟨h2.next,0,none⟩) 1 3) [211]::[pt b _]):=yE s2 [211] 3 (by decide);simp only[EE,nth,Int.reduceEq,zu,zg,yL,zc,zJ,zn,mc,Kn,UB,ug,vN,g2,l2];refine Q9 (a:=7) (.inl rfl) (by decide) R s3 (by decide) λv h' rn s4=>?_;simp only[EE,rn];exact fin s4 rfl
theorem Rs(R:zL r)(w2:vQ h2)(s2:Sat (.of h) h2 [pt b (.cells (zC.row ⟨11,r,m,20,cc,l,k⟩) 42)]):yb (.int .i64 11) (.pointer (some ⟨b,0,none⟩)) h2 (jK h (ze ⟨11,r,m,20,cc,l,k⟩ 0)) J:=by
 have g2:=s2.get;have l2:=s2.lt;unfold yb;have s3:Sat (.of h) (h2.push (.cells [.int .u8 193] 5)) (vu (.slice (some ⟨h2.next,0,none⟩) 1 3) [193]::[pt b _]):=yE s2 [193] 3 (by decide);have gc:(cut (h2.push (.cells [.int .u8 193] 5)) h2.next (h2.next+1)).get b=some (.cells (zC.row ⟨11,r,m,20,cc,l,k⟩) 42):=kf (by rw[yq l2];exact g2) l2;simp only[EE,nth,Int.reduceEq,zu,zg,yL,zc,zJ,zn,ma,Kn,UB,ug,vN,g2,gc];refine lB (a:=7) (.inl rfl) (by decide) R s3 (ZD w2 _) (by decide) rfl (λ_ _ h=>h) (yw s3 aak) λv h' w nx rn s4=>?_;have g4:(cut (cut h' h2.next (h2.next+1)) (h2.next+1) h'.next).get b=some (.cells (zC.row ⟨11,r,m,20,cc,l,k⟩) 42):=kf (kf (s4.p 2).get l2) (abK l2);simp only[EE,zu,yU,yL,mJ,zw,l9,g4];refine OC s4 (by simp) λv3 h6 rn3 s6=>?_;simp only[EE,rn3];exact fin s6 rfl
theorem zaA(M:zL m)(w2:vQ h2)(s2:Sat (.of h) h2 [pt b (.cells (zC.row ⟨14,r,m,sub,cc,l,k⟩) 42)]):yb (.int .i64 14) (.pointer (some ⟨b,0,none⟩)) h2 (jK h (ze ⟨14,r,m,sub,cc,l,k⟩ 0)) J:=by
 have g2:=s2.get;have l2:=s2.lt;unfold yb;have s3:Sat (.of h) (h2.push (.cells [.int .u8 247] 5)) (vu (.slice (some ⟨h2.next,0,none⟩) 1 3) [247]::[pt b _]):=yE s2 [247] 3 (by decide);simp only[EE,nth,Int.reduceEq,zu,zg,yL,z7,tW,kx,qZ,ug,vN,g2,l2];refine Q9 (a:=7) (.inl rfl) (by decide) M s3 (by decide) λv h' rn s4=>?_;simp only[EE,rn];exact fin s4 rfl
theorem zaB(R:zL r)(M:zL m)(w2:vQ h2)(s2:Sat (.of h) h2 [pt b (.cells (zC.row ⟨15,r,m,sub,cc,l,k⟩) 42)]):yb (.int .i64 15) (.pointer (some ⟨b,0,none⟩)) h2 (jK h (ze ⟨15,r,m,sub,cc,l,k⟩ 0)) J:=by
 have g2:=s2.get;have l2:=s2.lt;unfold yb;have s3:Sat (.of h) (h2.push (.cells [.int .u8 57] 5)) (vu (.slice (some ⟨h2.next,0,none⟩) 1 3) [57]::[pt b _]):=yE s2 [57] 3 (by decide);simp only[EE,nth,Int.reduceEq,zu,zg,yL,zJ,z7,tV,jD,kx,qZ,ug,vN,g2,l2];refine Q9 (.inl rfl) M R s3 (by decide) λv h' rn s4=>?_;simp only[EE,rn];exact fin s4 rfl
theorem zaz  (w2:vQ h2)(s2:Sat (.of h) h2 [pt b (.cells (zC.row ⟨13,r,m,sub,cc,l,k⟩) 42)]):yb (.int .i64 13) (.pointer (some ⟨b,0,none⟩)) h2 (jK h (ze ⟨13,r,m,sub,cc,l,k⟩ 0)) J:=by
 have g2:=s2.get;have l2:=s2.lt;unfold yb;have s3:Sat (.of h) (h2.push (.cells [.int .u8 72,.int .u8 153] 5)) (vu (.slice (some ⟨h2.next,0,none⟩) 2 4) [72,153]::[pt b _]):=yE s2 [72,153] 4 (by decide);simp only[EE,nth,Int.reduceEq,xe,qZ,ug,vN];exact fin s3 rfl
theorem zaH  (w2:vQ h2)(s2:Sat (.of h) h2 [pt b (.cells (zC.row ⟨22,r,m,sub,cc,l,k⟩) 42)]):yb (.int .i64 22) (.pointer (some ⟨b,0,none⟩)) h2 (jK h (ze ⟨22,r,m,sub,cc,l,k⟩ 0)) J:=by
 have g2:=s2.get;have l2:=s2.lt;unfold yb;have s3:Sat (.of h) (h2.push (.cells [.int .u8 195] 5)) (vu (.slice (some ⟨h2.next,0,none⟩) 1 3) [195]::[pt b _]):=yE s2 [195] 3 (by decide);simp only[EE,nth,Int.reduceEq,yL,UA,WH,Xr,Yn,Zz,jD,kx,qZ,ug,vN];exact fin s3 rfl
theorem zaI  (w2:vQ h2)(s2:Sat (.of h) h2 [pt b (.cells (zC.row ⟨25,r,m,sub,cc,l,k⟩) 42)]):yb (.int .i64 25) (.pointer (some ⟨b,0,none⟩)) h2 (jK h (ze ⟨25,r,m,sub,cc,l,k⟩ 0)) J:=by
 have g2:=s2.get;have l2:=s2.lt;unfold yb;have s3:Sat (.of h) (h2.push (.cells [.int .u8 72,.int .u8 237] 5)) (vu (.slice (some ⟨h2.next,0,none⟩) 2 4) [72,237]::[pt b _]):=yE s2 [72,237] 4 (by decide);simp only[EE,nth,Int.reduceEq,xe,Jt,UA,WH,Xr,Yn,Zz,jD,kx,qZ,ug,vN];exact fin s3 rfl
theorem zaJ  (w2:vQ h2)(s2:Sat (.of h) h2 [pt b (.cells (zC.row ⟨26,r,m,sub,cc,l,k⟩) 42)]):yb (.int .i64 26) (.pointer (some ⟨b,0,none⟩)) h2 (jK h (ze ⟨26,r,m,sub,cc,l,k⟩ 0)) J:=by
 have g2:=s2.get;have l2:=s2.lt;unfold yb;have s3:Sat (.of h) (h2.push (.cells [.int .u8 72,.int .u8 239] 5)) (vu (.slice (some ⟨h2.next,0,none⟩) 2 4) [72,239]::[pt b _]):=yE s2 [72,239] 4 (by decide);simp only[EE,nth,Int.reduceEq,xe,fW,Jt,UA,WH,Xr,Yn,Zz,jD,kx,qZ,ug,vN];exact fin s3 rfl
theorem zaD  (w2:vQ h2)(s2:Sat (.of h) h2 [pt b (.cells (zC.row ⟨18,r,m,sub,cc,l,k⟩) 42)]):yb (.int .i64 18) (.pointer (some ⟨b,0,none⟩)) h2 (jK h (ze ⟨18,r,m,sub,cc,l,k⟩ 0)) J:=by
 have g2:=s2.get;have l2:=s2.lt;unfold yb;have s3:Sat (.of h) (h2.push (.cells [.int .u8 233] 5)) (vu (.slice (some ⟨h2.next,0,none⟩) 1 3) [233]::[pt b _]):=yE s2 [233] 3 (by decide);simp only[EE,nth,Int.reduceEq,yL,tU,Yn,Zz,jD,kx,qZ,ug,vN];refine bW s3 (n:=4) rfl (by decide) λv h' rn s4=>?_;refine XT s4 (by simp[xb]) λv3 h6 rn3 s6=>?_;simp only[EE,rn3];exact fin s6 rfl
theorem zaG  (w2:vQ h2)(s2:Sat (.of h) h2 [pt b (.cells (zC.row ⟨21,r,m,sub,cc,l,k⟩) 42)]):yb (.int .i64 21) (.pointer (some ⟨b,0,none⟩)) h2 (jK h (ze ⟨21,r,m,sub,cc,l,k⟩ 0)) J:=by
 have g2:=s2.get;have l2:=s2.lt;unfold yb;have s3:Sat (.of h) (h2.push (.cells [.int .u8 232] 5)) (vu (.slice (some ⟨h2.next,0,none⟩) 1 3) [232]::[pt b _]):=yE s2 [232] 3 (by decide);simp only[EE,nth,Int.reduceEq,yL,tT,WH,Xr,Yn,Zz,jD,kx,qZ,ug,vN];refine bW s3 (n:=4) rfl (by decide) λv h' rn s4=>?_;refine XT s4 (by simp[xb]) λv3 h6 rn3 s6=>?_;simp only[EE,rn3];exact fin s6 rfl
theorem zaE(c0:21<=cc)(c1:cc<=26)(w2:vQ h2)(s2:Sat (.of h) h2 [pt b (.cells (zC.row ⟨19,r,m,sub,cc,l,k⟩) 42)]):yb (.int .i64 19) (.pointer (some ⟨b,0,none⟩)) h2 (jK h (ze ⟨19,r,m,sub,cc,l,k⟩ 0)) J:=by
 have g2:=s2.get;have l2:=s2.lt;unfold yb;have cb:=JF cc
 have q:IntKind.wrap .u8 (128+vd cc)=128+vd cc:=by
  have:∀n:Int,IntKind.wrap .u8 n=n%256:=KR;rw[this];omega
 have s3:Sat (.of h) (h2.push (.cells [.int .u8 (15),.int .u8 (128+vd cc)] 5)) (vu (.slice (some ⟨h2.next,0,none⟩) 2 4) [15,128+vd cc]::[pt b _]):=yE s2 [15,128+vd cc] 4 (by decide);simp only[EE,nth,Int.reduceEq,zu,zg,QI,Xr,Yn,Zz,jD,kx,qZ,ug,vN,g2];refine X2 (QH c0 c1 _) ?_;simp only[EE,xe,tS,q];refine bW s3 (n:=4) rfl (by decide) λv h' rn s4=>?_;refine XT s4 (by simp[xb]) λv3 h6 rn3 s6=>?_;simp only[EE,rn3];exact fin s6 rfl
theorem zaC(R:zL r)(c0:21<=cc)(c1:cc<=26)(w2:vQ h2)(s2:Sat (.of h) h2 [pt b (.cells (zC.row ⟨17,r,m,sub,cc,l,k⟩) 42)]):yb (.int .i64 17) (.pointer (some ⟨b,0,none⟩)) h2 (jK h (ze ⟨17,r,m,sub,cc,l,k⟩ 0)) J:=by
 have g2:=s2.get;have l2:=s2.lt;unfold yb;have cb:=JF cc
 have q:IntKind.wrap .u8 (144+vd cc)=144+vd cc:=by
  have:∀n:Int,IntKind.wrap .u8 n=n%256:=KR;rw[this];omega
 have s3:Sat (.of h) (h2.push (.cells [.int .u8 (15),.int .u8 (144+vd cc)] 5)) (vu (.slice (some ⟨h2.next,0,none⟩) 2 4) [15,144+vd cc]::[pt b _]):=yE s2 [15,144+vd cc] 4 (by decide);have gc:(cut (h2.push (.cells [.int .u8 15,.int .u8 (144+vd cc)] 5)) h2.next (h2.next+1)).get b=some (.cells (zC.row ⟨17,r,m,sub,cc,l,k⟩) 42):=kf (by rw[yq l2];exact g2) l2;simp only[EE,nth,Int.reduceEq,zu,zg,QI,Zz,jD,kx,qZ,ug,vN,g2];refine eL (QH c0 c1 _) ?_;simp only[EE,zu,zg,xe,zJ,Dg,q,gc];refine lB (.inr rfl) (by decide) R s3 (ZD w2 _) (by simp) rfl (λ_ _ h=>h) (yw s3 aak) λv h' w nx rn s4=>?_;have l4:b<h'.next:=(s4.p 2).lt;have gc4:∀o,(cut (cut (cut (h'.push o) h2.next (h2.next+1)) (h2.next+1) h'.next) h'.next (h'.next+1)).get b=some (.cells (zC.row ⟨17,r,m,sub,cc,l,k⟩) 42):=λo=>kf (kf (kf (by rw[yq l4];exact(s4.p 2).get) l2) (abK l2)) l4;have s5:Sat (.of h) (h'.push (.cells [.int .u8 15,.int .u8 182] 5)) (vu (.slice (some ⟨h'.next,0,none⟩) 2 4) [15,182]::_):=yE s4 [15,182] 4 (by decide);simp only[EE,zu,zg,xe,zJ,Df,gc4];refine lB (.inl rfl) R R s5 (ZD w _) (by decide) rfl (λ_ _ h=>h) (yw s5 aak) λv5 h5 w5 nx5 rn5 s6=>?_;refine XT (s6.f [0,2]) (by simp) λv3 h6 rn3 s7=>?_;simp only[EE,rn3];exact fin s7 rfl
theorem zaF(s2:Sat (.of h) h2 [pt b (.cells (zC.row ⟨20,r,m,sub,cc,l,k⟩) 42)])(hJ:∀vs,J vs h2):yb (.int .i64 20) (.pointer (some ⟨b,0,none⟩)) h2 (jK h (ze ⟨20,r,m,sub,cc,l,k⟩ 0)) J:=by
 unfold yb;simp only[EE,nth,Int.reduceEq,fW,Jt,UA,WH,Xr,Yn,Zz,jD,kx,qZ,ug,vN];exact hJ _
end
structure lK (x:zC):Prop where
 op:1<=x.op/\x.op<=26
 r:Go.As.Cq x.op=true->zL x.r
 m:Go.As.gz x.op=true->zL x.m
 NC:x.op=7\/x.op=8->x.sub=11\/x.sub=12\/x.sub=13\/x.sub=16\/x.sub=17\/x.sub=18
 siz:x.op=3\/x.op=4->x.sub=1\/x.sub=4\/x.sub=8
 un:x.op=9->x.sub=1\/x.sub=2
 ext:x.op=10->x.sub=3\/x.sub=4
 sh:x.op=11\/x.op=12->x.sub=19\/x.sub=20
 cc:x.op=17\/x.op=19->21<=x.cc/\x.cc<=26
section
variable {h:za}{x:zC}
theorem zcm(Y:lK x)(hx:9<=x.op /\ ¬x.op=16 /\ ¬x.op=23 /\ ¬x.op=24):DC Tryz.prog 52 [x.val] h (jK h (ze x 0)):=by
 apply YZ;intro wf;apply Lu;unfold Nz;obtain⟨op,r,m,sub,cc,l,k⟩:=x;obtain⟨Yop,YR,YM,Yalu,Ysiz,Yun,Yext,Ysh,Ycc⟩:=Y;have s0:=Sat.self wf.2;simp only[EE,Value.cells];refine By s0 wf λb h2 w2 s2=>?_;have g2:=s2.get;have wl:vQ h2:=w2;simp only[EE,↓zq,zu,zg,zc,g2];simp only at Yop YR YM Yalu Ysiz Yun Yext Ysh Ycc hx;have:op=9\/op=10\/op=11\/op=12\/op=13\/op=14\/op=15\/op=17\/op=18\/op=19\/op=20\/op=21\/op=22\/op=25\/op=26:=by omega
 rcases this with rfl|rfl|rfl|rfl|rfl|rfl|rfl|rfl|rfl|rfl|rfl|rfl|rfl|rfl|rfl
 ·rcases Yun rfl with rfl|rfl
  ·exact Rv (YR rfl) wl s2
  ·exact Rw (YR rfl) wl s2
 ·rcases Yext rfl with rfl|rfl
  ·exact MK (YR rfl) (YM rfl) wl s2
  ·exact ML (YR rfl) (YM rfl) (by decide) wl s2
 ·rcases Ysh (.inl rfl) with rfl|rfl
  ·exact Rr (YR rfl) wl s2
  ·exact Rs (YR rfl) wl s2
 ·rcases Ysh (.inr rfl) with rfl|rfl
  ·exact Rt (YR rfl) wl s2
  ·exact Ru (YR rfl) wl s2
 ·exact zaz wl s2
 ·exact zaA (YM rfl) wl s2
 ·exact zaB (YR rfl) (YM rfl) wl s2
 ·exact zaC (YR rfl) (Ycc (.inl rfl)).1 (Ycc (.inl rfl)).2 wl s2
 ·exact zaD wl s2
 ·exact zaE (Ycc (.inr rfl)).1 (Ycc (.inr rfl)).2 wl s2
 ·refine zaF s2 λvs=>?_;exact fin (E2 s2) rfl
 ·exact zaG wl s2
 ·exact zaH wl s2
 ·exact zaI wl s2
 ·exact zaJ wl s2
theorem zda(Y:lK x):DC Tryz.prog 24 [x.val] h (jK h (ze x 0)):=by
 apply YZ;intro wf;apply Sj;unfold zcD;have Z:=Y
 have go:∀{h2:za} {b:Nat} {J:List aaa->za->Prop},Sat (.of h) h2 [pt b (.cells x.row 42)]->(9<=x.op /\ ¬x.op=16 /\ ¬x.op=23 /\ ¬x.op=24)->(zF Tryz.prog (.func (.func 52) #[] #[]) [x.val] h2 (λt200 h122=>rv [t200] h122 (jK h (ze x 0)))):=λ{h2 b J} s2 hx=>by
  refine Kd (zcm Y hx) ?_;rintro v h3 s3;have s4:=s2.join s3;have vn:=y9 s3;simp only[EE,vn];exact fin s4 rfl
 obtain⟨op,r,m,sub,cc,l,k⟩:=x;obtain⟨Yop,YR,YM,Yalu,Ysiz,Yun,Yext,Ysh,Ycc⟩:=Z;have s0:=Sat.self wf.2;simp only[EE,Value.cells];refine By s0 wf λb h2 w2 s2=>?_;have g2:=s2.get;simp only[EE,↓zq,qQ,zu,zg,wK,zc,g2];simp only at Yop YR YM Yalu Ysiz Yun Yext Ysh Ycc go;by_cases h1:op=1
 ·subst h1;exact zfI (YR rfl) (YM rfl) w2 s2
 by_cases h2':op=2
 ·subst h2';by_cases hk:Go.Ar.zQ k=true
  ·exact zfJ (YR rfl) hk w2 s2
  ·exact zd4 (YR rfl) hk w2 s2
 by_cases h3:op=3
 ·subst h3;rcases Ysiz (.inl rfl) with rfl|rfl|rfl
  ·exact zbz (YR rfl) (YM rfl) w2 s2
  ·exact zbA (YR rfl) (YM rfl) w2 s2
  ·exact zbB (YR rfl) (YM rfl) w2 s2
 by_cases h4:op=4
 ·subst h4;rcases Ysiz (.inr rfl) with rfl|rfl|rfl
  ·exact zbC (YR rfl) (YM rfl) w2 s2
  ·exact zbD (YR rfl) (YM rfl) w2 s2
  ·exact zbE (YR rfl) (YM rfl) w2 s2
 by_cases h5:op=5
 ·subst h5;exact zfK (YR rfl) (YM rfl) w2 s2
 by_cases h6:op=6
 ·subst h6;exact zfL (YR rfl) w2 s2
 by_cases h7:op=7
 ·subst h7;by_cases hs:sub=13
  ·subst hs;exact zd5 (YR rfl) (YM rfl) w2 s2
  ·exact zfM (YR rfl) (YM rfl) hs w2 s2
 by_cases h8:op=8
 ·subst h8;by_cases hs:sub=13
  ·subst hs;exact zd6 (YR rfl) w2 s2
  ·have:=Yalu (.inr rfl);exact zfN (YR rfl) (by omega) w2 s2
 by_cases h16:op=16
 ·subst h16;exact zd1 (YR rfl) w2 s2
 by_cases h23:op=23
 ·subst h23;exact zd2 w2 s2
 by_cases h24:op=24
 ·subst h24;exact zd3 w2 s2
 unfold y5;simp only[EE,Nat.reduceAdd,sX,iw,aX,Uw,Wa,Y3,Ym,jf,qN,qe,h1,h2',h3,h4,h5,h6,h7,h8,h16,h23,h24,g2];exact go (J:=λ_ _=>True) s2 ⟨by omega,h16,h23,h24⟩
end
theorem dz{x:zC}(h:Go.Ar.yn x=true):lK x:=by
 unfold Go.Ar.yn at h;simp only[aad,aaq,aan]at h;obtain⟨a1,a2,a3,a4,a5,a6,a7⟩:=h;unfold Go.Ar.Um at a3;unfold Go.Ar.U8 at a4;unfold Go.Ar.tailD at a7;refine⟨by omega,λe=>?_,λe=>?_,λe=>?_,λe=>?_,λe=>?_,λe=>?_,λe=>?_,λe=>?_⟩
 ·rw[e,abu,aaq,abc,aan,aan]at a3;unfold zL;omega
 ·rw[e,abu,aaq,abc,aan,aan]at a4;unfold zL;omega
 ·rcases e with e|e <;> (simp[e,Go.As.kp]at a7;omega)
 ·rcases e with e|e <;> (simp[e]at a7;omega)
 ·simp[e]at a7;omega
 ·simp[e]at a7;omega
 ·rcases e with e|e <;> (simp[e]at a7;omega)
 ·rcases e with e|e <;> (simp[e,Go.As.Wl]at a7;omega)
end Go.Eb
