import Derived.Test.YtpjjmindjodknaaGreatTM
set_option linter.unusedVariables false
set_option linter.unusedSimpArgs false
set_option maxRecDepth 100000
namespace Go.En
open Go.Ai Go.Proofs
open Go.As (zC Pg kH)
open Go.Ar (yn zQ)
instance (b x:List Int):Decidable (qa b x):=by unfold qa;infer_instance
instance (b:List Int)(x:zC):Decidable (eQ b x):=by unfold eQ;infer_instance
def findD(b:List Int):List zC->Option (zC×Nat)
 |[]=>none
 |x::l=>if yn x=true then (if qa b (ze x 0) then some (x,qJ x) else if eQ b x then some (x,10) else findD b l) else findD b l
theorem dx{b:List Int}{y:zC}{m:Nat}:∀{l:List zC},findD b l=some (y,m)->y∈l/\yn y=true/\((qa b (ze y 0)/\m=qJ y)\/(eQ b y/\m=10))
 |[],h=>by cases h
 |x::l,h=>by
  unfold findD at h;split at h
  ·rename_i hr;split at h
   ·rename_i hbg;simp only[aab,aae]at h;obtain⟨rfl,rfl⟩:=h;exact⟨aak,hr,.inl ⟨hbg,rfl⟩⟩
   ·split at h
    ·rename_i hw;simp only[aab,aae]at h;obtain⟨rfl,rfl⟩:=h;exact⟨aak,hr,.inr ⟨hw,rfl⟩⟩
    ·have:=dx h;exact⟨aaC _ this.1,this.2⟩
  ·have:=dx h;exact⟨aaC _ this.1,this.2⟩
theorem mN{b:List Int}{x:zC}:∀{l:List zC},findD b l=none->x∈l->yn x=true->¬qa b (ze x 0) /\ ¬eQ b x
 |[],_,h,_=>by cases h
 |y::l,h,hx,hr=>by
  unfold findD at h;rcases aaS.1 hx with rfl|hx
  ·rw[aai hr]at h;split at h
   ·cases h
   ·split at h
    ·cases h
    ·exact⟨by assumption,by assumption⟩
  ·split at h
   ·split at h
    ·cases h
    ·split at h
     ·cases h
     ·exact mN h hx hr
   ·exact mN h hx hr
section
variable {b:List Int}{x y:zC}{m n:Nat}
theorem DL(hb:xJ b)(h:findD b (qD b)=some (y,m)):x9 b=(y,false,(m,false))/\yn y=true:=by
 obtain⟨h1,h2,h3⟩:=dx h;have g:=AZ hb (QM h1) h2;rcases h3 with⟨a,rfl⟩|⟨a,rfl⟩
 ·exact⟨g.1 a,h2⟩
 ·exact⟨g.2 a,h2⟩
theorem Ei(S:Shape x):0<(ze x 0).length:=by
 cases S <;> unfold ze <;> (try simp only[reduceIte,Int.reduceEq]) <;> (repeat' split) <;> simp
theorem Dw{t:RS}{xs:List Int}(A:Wt b (0,false) t xs)(h:0<xs.length):qa b xs:=by
 refine⟨h,A.ge,?_⟩;rw[A.all,List.take_left' rfl]
theorem Rj(hb:xJ b)(h:x9 b=(x,false,(n,false)))(hr:yn x=true):findD b (qD b)=some (x,n):=by
 have W:=iZ hb (by rw[h]);rw[h]at W;have W:eT b (x,(n,false)):=by unfold Read at W;rw[aaf (by simp)]at W;exact W
 have S:=QM W.1;have pos:=Ei S;cases hf:findD b (qD b) with
 |none=>
  have:=mN hf W.1 hr;rcases W.2 with A|⟨h1,h2,A⟩
  ·exact absurd (Dw A pos) this.1
  ·exact absurd ⟨h1,h2,by have:=A.ge;rw[La]at this;exact this,Dw A (by show 0<(QX x).length;rw[La];decide)⟩ this.2
 |some r=>
  obtain⟨y,m⟩:=r;have:=(DL hb hf).1;rw[h]at this;simp only[aae]at this;obtain⟨rfl,_,rfl,_⟩:=this;rfl
end
def KJ:List Int->List Int->Nat->Int->Option (Nat×Int)
 |a::az,g::gs,n,to=>if a<=to/\to-a<=g then some (n,to-a) else KJ az gs (n+1) to
 |_,_,_,_=>none
def Bb:List Int->Int->Nat->Option Nat
 |[],_,_=>none
 |s::ss,to,n=>if s=to then some n else Bb ss to (n+1)
def XV(st gl:List Int)(len:Nat)(x:zC)(to:Int):Option zC :=
 if x.op=18\/x.op=19 then (if 0<=to/\to<=(len:Int) then some {x with k:=0,l:=to} else none)
 else if x.op=21 then (Bb st to 0).map λ(n:Nat)=>{x with k:=0,sub:=(n:Int)}
 else (KJ (vh gl 16777216) gl 0 to).map λr=>{x with sub:=(r.1:Int),k:=r.2}
def Cj(st gl:List Int)(len:Nat)(b:List Int)(p:Nat):Option (zC×Nat) :=
 if (x9 b).2.2.2=true then none
 else if (x9 b).2.1=true then (match XV st gl len (x9 b).1 (((p+(x9 b).2.2.1:Nat):Int)+(x9 b).1.k) with
  |some i=>if kH gl i=true then some (i,(x9 b).2.2.1) else none
  |none=>none)
 else if kH gl (x9 b).1=true then some ((x9 b).1,(x9 b).2.2.1) else none
def eJ(b:List Int)(n:Nat):List zC:=[⟨18,0,0,0,0,0,0⟩,⟨21,0,0,0,0,0,0⟩]++((List.range 6).map λc=>⟨19,0,0,0,21+(c:Nat),0,0⟩)++(if n=7 then [⟨6,qT (zU b 2) (zU b 0),0,0,0,0,0⟩] else [])
def jJ(b:List Int)(n:Nat):Int:=Vy ((b.drop (n-4)).take 4)
def bR(b:List Int)(n:Nat):Option zC:=(eJ b n).find? λx=>decide (ze x (jJ b n)=b.take n)
def Wu(st gl:List Int)(len:Nat)(x:zC)(to:Int):Option zC:=if x.op=6/\x.r=4 then none else XV st gl len x to
def VW(st gl:List Int)(len:Nat)(b:List Int)(p:Nat):List Nat->Option (zC×Nat)
 |[]=>none
 |n::ns=>if n<=b.length then (match bR b n with
  |some x=>(Wu st gl len x (((p+n:Nat):Int)+jJ b n)).map λi=>(i,n)
  |none=>VW st gl len b p ns) else none
def PF(st gl:List Int)(len:Nat)(b:List Int)(p:Nat):Option (zC×Nat):=match findD b (qD b) with
 |some r=>some r
 |none=>VW st gl len b p [5,6,7]
section
variable {b:List Int}{x y:zC}{m n:Nat}
theorem HW(hb:xJ b)(h:x∈eJ b n):aA x:=by
 have hbt:∀i,0<=zU b i/\zU b i<256:=λi=>by
  unfold zU;cases hi:b[i]? with
  |none=>exact⟨Int.le_refl _,by decide⟩
  |some v=>exact hb v (aaz hi)
 unfold eJ at h;rcases aaG.1 h with h|h
 ·rcases aaG.1 h with h|h
  ·simp only[aaS,abJ,acz]at h;rcases h with rfl|rfl
   ·exact .jmp
   ·exact .call
  ·obtain⟨c,hc,rfl⟩:=aa4.1 h;have:=abf.1 hc;exact .jcc _ (by omega) (by omega)
 ·split at h
  ·rw[aar.1 h];exact .Bk _ (ck (hbt 2).1 (hbt 2).2).1
  ·cases h
theorem Tm(F:aA y){d:Int}(hd:zQ d=true)(rest:List Int):x9 (ze y d++rest)=({y with k:=d},true,((ze y d).length,false)):=by
 cases F with
 |jmp=>exact zb3 hd _ rfl
 |call=>exact zb5 hd _ rfl
 |jcc cc a c=>exact zb4 hd ⟨19,0,0,0,cc,0,0⟩ rfl a c
 |Bk r R=>exact zev hd ⟨6,r,0,0,0,0,0⟩ rfl R.1 R.2
theorem LY(hb:xJ b)(hn:n<=b.length)(h4:4<=n):zQ (jJ b n)=true:=by
 unfold jJ;refine bQ (by rw[aaM,abj];omega) λz hz=>hb z (abE (abp hz))
theorem Ba(hb:xJ b)(hn:n<=b.length)(h4:4<=n)(h:bR b n=some x):aA x/\x9 b=({x with k:=jJ b n},true,(n,false)):=by
 unfold bR at h;have hx:=List.mem_of_find?_eq_some h;have hp:=List.find?_some h;have e:ze x (jJ b n)=b.take n:=by simpa using hp
 have F:=HW hb hx;refine⟨F,?_⟩;have r:=Tm F (LY hb hn h4) (b.drop n);rw[e,abn,aaM,abV hn]at r;exact r
theorem E6(F:aA y)(d:Int):(ze y d).length=5\/(ze y d).length=6\/(ze y d).length=7:=by
 cases F with
 |jmp=>exact .inl rfl
 |call=>exact .inl rfl
 |jcc cc a c=>exact .inr (.inl rfl)
 |Bk r R=>exact .inr (.inr rfl)
theorem Tl(F:aA y){d:Int}(hd:zQ d=true){t:RS}(A:Wt b (0,false) t (ze y d)):jJ b (ze y d).length=d:=by
 have e:=A.all;have hl:4<=(ze y d).length:=by have:=E6 F d;omega
 obtain⟨pre,hp⟩:∃pre:List Int,ze y d=pre++yX 4 d/\pre.length=(ze y d).length-4:=by
  cases F with
  |jmp=>exact⟨[233],rfl,rfl⟩
  |call=>exact⟨[232],rfl,rfl⟩
  |jcc cc a c=>exact⟨[15,128+vd cc],rfl,rfl⟩
  |Bk r R=>exact⟨[zj 72 r 0,141,5+r%8*8],rfl,rfl⟩
 unfold jJ
 have:b=pre++(yX 4 d++b.drop (ze y d).length):=by
  conv=>lhs;rw[e,hp.1,aa1]
  rw[<- hp.1]
 rw[this];rw[<- hp.2];rw[List.drop_left' rfl];rw[List.take_left' (xb 4 d)];exact dy hd
theorem zbh(F:aA y){d:Int}{t:RS}(A:Wt b (0,false) t (ze y d)):y∈eJ b (ze y d).length:=by
 cases F with
 |jmp=>exact aaK _ (aaK _ (by simp))
 |call=>exact aaK _ (aaK _ (by simp))
 |jcc cc a c=>
  refine aaK _ (aa5 _ (aa4.2 ⟨(cc-21).toNat,abf.2 (by omega),?_⟩));have:21+(((cc-21).toNat:Nat):Int)=cc:=by omega
  rw[this]
 |Bk r R=>
  refine aa5 _ ?_;have hl:(ze ⟨6,r,0,0,0,0,0⟩ d).length=7:=rfl;rw[hl,aai rfl];have b0:=Uf A (i:=0) (v:=zj 72 r 0) rfl;have b2:=Uf A (i:=2) (v:=5+r%8*8) rfl;rw[b0.1,b2.1,lA (b:=0) R.1 R.2 (lE r 0).2.1 (by omega)];exact aar.2 rfl
end
section
variable {b:List Int}{x y:zC}{m n:Nat}{st gl:List Int}
theorem BR(S:Shape x)(gl:List Int):kH gl x=yn x:=by
 have h:=Go.Ar.Tz gl x
 have h1:Go.Ar.Zn x=true:=by
  unfold Go.Ar.Zn;cases S <;> simp
 have h2:Go.Ar.VA gl x=true:=by
  unfold Go.Ar.VA;cases S <;> simp
 rw[h1,h2,acp,acp]at h;exact h
theorem DR{len p:Nat}:∀{ns:List Nat},(∀n,n∈ns->n<=b.length->bR b n=none)->VW st gl len b p ns=none
 |[],h=>rfl
 |n::ns,h=>by
  unfold VW;by_cases c:n<=b.length
  ·rw[aai c,h n aak c];exact DR λk hk=>h k (aaC _ hk)
  ·rw[aaf c]
theorem Og{len p n0:Nat}{i:zC}:∀{ns:List Nat},n0∈ns->(∀n,n∈ns->n<=n0\/True)->(∀n,n∈ns->¬n=n0->n<=b.length->bR b n=none)->(∀n,n∈ns->n<=b.length\/n0<n)->ns.Pairwise (· < ·)->bR b n0=some i->VW st gl len b p ns=(Wu st gl len i (((p+n0:Nat):Int)+jJ b n0)).map λj=>(j,n0)
 |[],h,_,_,_,_,_=>by cases h
 |n::ns,h,h1,h2,h3,h4,h5=>by
  have h4':=List.pairwise_cons.1 h4;unfold VW;by_cases e:n=n0
  ·subst e
   have c:n<=b.length:=by
    rcases h3 n aak with q|q
    ·exact q
    ·omega
   rw[aai c,h5]
  ·have hm:n0∈ns:=by
    rcases aaS.1 h with q|q
    ·exact absurd q.symm e
    ·exact q
   have lt:=h4'.1 n0 hm
   have c:n<=b.length:=by
    rcases h3 n aak with q|q
    ·exact q
    ·omega
   rw[aai c,h2 n aak e c];exact Og hm (λk _ => .inr trivial) (λk hk=>h2 k (aaC _ hk)) (λk hk=>h3 k (aaC _ hk)) h4'.2 h5
theorem Ou{to:Int}:∀(az gl:List Int) (n:Nat) {r:Nat×Int},KJ az gl n to=some r->n<=r.1/\r.1<n+gl.length/\0<=r.2/\r.2<=gl.getD (r.1-n) 0
 |a::az,g::gl,n,r,h=>by
  unfold KJ at h;split at h
  ·rename_i q;simp only[aab]at h;subst h;refine⟨aaj _,by simp,by omega,?_⟩;show to-a<=(g::gl).getD (n-n) 0;rw[Nat.sub_self];exact q.2
  ·have:=Ou az gl (n+1) h;obtain⟨h1,h2,h3,h4⟩:=this;refine⟨by omega,by simp;omega,h3,?_⟩;obtain⟨k,hk⟩:∃k,r.1-n=k+1:=⟨r.1-n-1,by omega⟩;rw[hk];have:r.1-(n+1)=k:=by omega
   rw[this]at h4;exact h4
 |[],_,n,r,h=>by cases h
 |_::_,[],n,r,h=>by cases h
theorem PQ(F:aA y){len:Nat}{to:Int}{i:zC}(h:XV st gl len y to=some i):kH gl i = !decide (y.op=6/\y.r=4):=by
 unfold XV at h;cases F with
 |jmp=>
  simp at h;rw[<- h.2];rfl
 |jcc cc a c=>
  simp at h;rw[<- h.2];have:cc=21\/cc=22\/cc=23\/cc=24\/cc=25\/cc=26:=by omega
  rcases this with rfl|rfl|rfl|rfl|rfl|rfl <;> rfl
 |call=>
  simp at h;obtain⟨n,_,rfl⟩:=h;rfl
 |Bk r R=>
  simp at h;obtain⟨n,k,h1,rfl⟩:=h;obtain⟨b1,b2,b3,b4⟩:=Ou _ _ _ h1;have R0:=R.1;have R1:=R.2;rw[Nat.sub_zero]at b4;have b2:(n:Int)<gl.length:=by have:n<0+gl.length:=b2;omega
  have b3:0<=k:=b3;have b4:k<=gl.getD n 0:=b4;have b5:k<=gl[n]?.getD 0:=by rw[<- abe];exact b4
  unfold kH Go.As.X0 Go.As.yA;have e1:Go.As.Cq 6=true:=rfl;have e2:Go.As.Ke 6=true:=rfl;have e3:Go.As.gz 6=false:=rfl;simp only[e1,e2,e3,aa6];by_cases h4:r=4
  ·subst h4;simp
  ·simp[h4,R0,R1,b2,b3,b5]
theorem zdO(hb:xJ b)(len p:Nat):PF st gl len b p=Cj st gl len b p:=by
 unfold PF;cases hf:findD b (qD b) with
 |some r=>
  obtain⟨y,m⟩:=r;obtain⟨h1,h2⟩:=DL hb hf;have S:=QM (dx hf).1;unfold Cj;rw[h1];rw[aaf (by simp),aaf (by simp),aai (by rw[BR S];exact h2)]
 |none=>
  have none_of:(∀n,n∈[5,6,7]->n<=b.length->∀x,bR b n=some x->False)->VW st gl len b p [5,6,7]=none:=λh=>DR λn hn hl=>by
   cases hh:bR b n with
   |none=>rfl
   |some x=>exact(h n hn hl x hh).elim
  have four:∀n,n∈[5,6,7]->4<=n:=λn hn=>by simp at hn;omega
  show VW st gl len b p [5,6,7]=_;unfold Cj;by_cases hbad:(x9 b).2.2.2=true
  ·rw[aai hbad];refine none_of λn hn hl x hh=>?_;have:=(Ba hb hl (four n hn) hh).2;rw[this]at hbad;cases hbad
  rw[aaf hbad];have hok:(x9 b).2.2.2=false:=by simpa using hbad
  have W:=iZ hb hok;by_cases hfar:(x9 b).2.1=true
  ·rw[aai hfar];unfold Read at W;rw[aai hfar]at W;obtain⟨y,d,F,hd,e1,A⟩:=W;have e1:(x9 b).1 = {y with k:=d}:=e1;have hn0:(x9 b).2.2.1=(ze y d).length:=by have:=A.2.2.1;simpa using this
   have hge:=A.ge;have hlen:=E6 F d;have hy:=zbh F A;have hdist:=Tl F hd A;rw[hn0,e1]
   have uniq:∀n,n∈[5,6,7]->n<=b.length->∀x,bR b n=some x->n=(ze y d).length/\x=y:=λn hn hl x hh=>by
    obtain⟨Fx,r⟩:=Ba hb hl (four n hn) hh;rw[r]at hn0 e1;have hn0:n=(ze y d).length:=hn0;refine⟨hn0,?_⟩;have e1:({x with k:=jJ b n}:zC) = {y with k:=d}:=e1;have k0:∀{z:zC},aA z->z.k=0:=λFz=>by cases Fz <;> rfl
    obtain⟨a1,a2,a3,a4,a5,a6,a7⟩:=x;obtain⟨b1,b2,b3,b4,b5,b6,b7⟩:=y;have:=k0 Fx;have:=k0 F;simp only[zC.mk.injEq]at e1;simp only at *
    obtain⟨rfl,rfl,rfl,rfl,rfl,rfl,_⟩:=e1
    subst_vars
    rfl
   have hit:bR b (ze y d).length=some y:=by
    have hs:∃x,bR b (ze y d).length=some x:=by
     unfold bR;rw[hdist]
     have:((eJ b (ze y d).length).find? λx=>decide (ze x d=b.take (ze y d).length)).isSome=true:=by
      rw[List.find?_isSome];refine⟨y,hy,?_⟩;rw[A.all,List.take_left' rfl];simp
     exact Option.isSome_iff_exists.1 this
    obtain⟨x,hx⟩:=hs;have:=(uniq _ (by simp;omega) hge x hx).2;rw[hx,this]
   rw[Og (n0:=(ze y d).length) (i:=y) (by simp;omega) (λ_ _ => .inr trivial) (λn hn hne hl=>by
    cases hh:bR b n with
    |none=>rfl
    |some x=>exact absurd (uniq n hn hl x hh).1 hne) (λn hn=>by
     simp at hn;by_cases q:n<=b.length
     ·exact .inl q
     ·exact .inr (by omega)) (by decide) hit,hdist]
   have eg:∀to,XV st gl len {y with k:=d} to=XV st gl len y to:=λto=>rfl
   show(Wu st gl len y (((p+(ze y d).length:Nat):Int)+d)).map _=match XV st gl len {y with k:=d} (((p+(ze y d).length:Nat):Int)+d) with
    |some i=>if kH gl i=true then some (i,(ze y d).length) else none
    |none=>none
   rw[eg];unfold Wu;cases hg:XV st gl len y (((p+(ze y d).length:Nat):Int)+d) with
   |none=>split <;> rfl
   |some i=>
    have gg:=PQ F hg;by_cases h4:y.op=6/\y.r=4
    ·rw[aai h4];simp only[gg];rw[aa0 h4];rfl
    ·rw[aaf h4];simp only[gg];rw[aaY h4];rfl
  ·rw[aaf hfar];have hfar:(x9 b).2.1=false:=by simpa using hfar
   have e:x9 b=((x9 b).1,false,((x9 b).2.2.1,false)):=Prod.ext rfl (Prod.ext hfar (Prod.ext rfl hok));unfold Read at W;rw[aaf (by rw[hfar];simp)]at W;have S:=QM W.1;have S:Shape (x9 b).1:=S
   have hno:¬kH gl (x9 b).1=true:=λh=>by
    rw[BR S]at h;have:=Rj hb e h;rw[hf]at this;cases this
   rw[aaf hno];refine none_of λn hn hl x hh=>?_;have:=(Ba hb hl (four n hn) hh).2;rw[this]at hfar;cases hfar
end
end Go.En
namespace Go.Ed
open Go.Ai Go.Proofs
open Go.Rtl (zK zE Old inc yz xw)
open Go.Rm (zV xH Rd Rd.of Rd.at Rd.mono)
open Go.As (zC Pg)
open Go.Eb (y4 xO zX i5 vR)
open Go.En
theorem LI{h:za}{sv:aaa}{zs:List Int}(S:y4 h sv zs){i:Nat}{z:Int}(hz:zs[i]? = some z):∃b o c t,vf Tryz.prog 29 sv (.int .i64 i)=some (.pointer (some ⟨b,o,none⟩))/\b<h.next/\h.get b=some (.cells c t)/\c[o]? = some (.int .u8 z):=by
 obtain⟨b,o,c,t,⟨off,cp,e1,e2⟩,hi,hb,hg,_,_,hk⟩:=zE.spot S (i:=i) (r:=xO z) (by rw[aaH,hz];rfl) rfl;refine⟨b,o,c,t,?_,hb,hg,by have:=hk 0 (by decide);exact this⟩;rw[e1,Yt,aai (by omega),e2,aa6]
abbrev Xg(bv:aaa)(s:RS):vr := .cells [bv,.int .i64 s.1,.bool s.2] 77
abbrev rp(b:Nat):aaa := .pointer (some ⟨b,0,none⟩)
structure aD (lo:yT) (bv:aaa) (bs:List Int):Prop where
 rd:Rd lo (y4 · bv bs)
 nb:zS bv=false
 Ui:bs.length<=1000000000
 byte:xJ bs
theorem aD.mono{lo lo':yT}{bv:aaa}{bs:List Int}(B:aD lo bv bs)(l:lo.Le lo'):aD lo' bv bs:=⟨B.rd.mono l,B.nb,B.Ui,B.byte⟩
section
variable {lo:yT}{h:za}{L:List HP}{bv:aaa}{bs:List Int}{rb:Nat}{st:RS}
theorem U0(B:aD lo bv bs)(s:Sat lo h (pt rb (Xg bv st)::L)):DC Tryz.prog 64 [rp rb] h (λv h'=>v=.int .u8 (zG bs st).1/\Sat lo h' (pt rb (Xg bv (zG bs st).2)::L)):=by
 apply Pc;unfold Sl;have g:=s.get;have S:=B.rd.at s;have ln:=λr h'=>zX S r h';have bn:=B.nb;have Ui:=B.Ui;obtain⟨k,bad⟩:=st;by_cases hc:bs.length<=k
 ·have hc':(k:Int) ≥ (bs.length:Int):=by omega
  have e:zG bs (k,bad)=(0,(k,true)):=by unfold zG;rw[aat hc]
  rw[e];simp only[EE,zu,jI,zg,ZI,E5,iS,xa,Hd,g,ln,hc',bn];refine yf s (by simp) rfl λh1 s1=>?_;simp only[EE];exact s1
 ·have hc':¬(k:Int) ≥ (bs.length:Int):=by omega
  obtain⟨z,hz⟩:∃z,bs[k]? = some z:=⟨_,aag (by omega)⟩;have e:zG bs (k,bad)=(z,(k+1,bad)):=by unfold zG;rw[hz]
  rw[e];have hin:=inc (show k<4611686018427387904 by omega);simp only[EE,zu,jI,zg,Q1,E5,iS,He,g,ln,hc',bn,hin];refine yf s (by simp) rfl λh1 s1=>?_;have g1:=s1.get;have S1:=B.rd.at s1;obtain⟨b,o,c,t,a1,_,a2,a3⟩:=LI S1 hz;have hin2:IntKind.wrap .i64 (((k+1:Nat):Int)-1)=(k:Int):=by simp only[IntKind.wrap,IntKind.bits,IntKind.signed];simp;omega
  simp only[EE,zp,zu,jI,zg,Vs,E5,iS,g1,hin2,a1,a2,a3];exact s1
theorem ld(bs:List Int)(B:xJ bs):∀(n:Nat) (st:RS),(kI bs n st).1.length=n/\xJ (kI bs n st).1
 |0,st=>⟨rfl,λx hx=>by cases hx⟩
 |n+1,st=>by
  obtain⟨h1,h2⟩:=ld bs B n st;refine⟨by show((kI bs n st).1++[_]).length=_;rw[aao,h1];rfl,?_⟩;intro x hx;rcases aaG.1 hx with hx|hx
  ·exact h2 x hx
  ·rw[aar.1 hx];unfold zG;split
   ·rename_i v hv;exact B v (aaz hv)
   ·exact⟨Int.le_refl 0,by show(0:Int)<256;decide⟩
theorem IE(B:aD lo bv bs)(s:Sat lo h (pt rb (Xg bv st)::L)){n:Nat}(hn:n=4\/n=8):DC Tryz.prog 65 [rp rb,.int .i64 n] h (λv h'=>v=.int .i64 (if n=4 then wI bs st else Ul bs st).1/\Sat lo h' (pt rb (Xg bv (if n=4 then wI bs st else Ul bs st).2)::L)):=by
 apply Hg;unfold Hf;simp only[↓zq];refine qo (λm vs h'=>∃i:Nat,i<=n/\m=n-i/\vs=[.int .u64 (VH (kI bs i st).1),.int .i64 i]/\Sat lo h' (pt rb (Xg bv (kI bs i st).2)::L)) n ⟨0,aaP _,rfl,rfl,s⟩ ?_;rintro m vs h1 ⟨i,hi,rfl,rfl,s1⟩;unfold tC;by_cases hc:(i:Int)<(n:Int)
 ·have e8:IntKind.wrap .i64 (8*(i:Int))=8*(i:Int):=by
   have:(i:Int)<8:=by rcases hn with rfl|rfl <;> omega
   simp only[IntKind.wrap,IntKind.bits,IntKind.signed];simp;omega
  have n8:¬(8*(i:Int))<0:=by omega
  have n9:(8*(i:Int)) ≥ 0:=by omega
  obtain⟨l1,l2⟩:=ld bs B.byte i st;obtain⟨v0,v1⟩:=nh _ l2;rw[l1]at v1;have hin:=inc (show i<4611686018427387904 by omega);simp only[EE,nth,↓zq,hc];refine Kd (U0 B s1) ?_;rintro v h2 ⟨rfl,s2⟩;have zb:0<=(zG bs (kI bs i st).2).1/\(zG bs (kI bs i st).2).1<256:=(ld bs B.byte (i+1) st).2 _ (aa5 _ (aar.2 rfl));have om:=OD (i:=i) (by rcases hn with rfl|rfl <;> omega) v0 v1 zb.1 zb.2
  have es:VH (kI bs i st).1+(zG bs (kI bs i st).2).1*2^(8*i)=VH (kI bs (i+1) st).1:=by
   show _=VH ((kI bs i st).1++[_]);rw[ri,l1]
  rw[es]at om;simp only[EE,nth,H3,tA,tB,e8,n9,hin,om];exact⟨n-(i+1),by omega,i+1,by omega,rfl,rfl,s2⟩
 ·have:i=n:=by omega
  subst this;rcases hn with rfl|rfl
  ·simp only[EE,nth,fT,hc];refine⟨rfl,?_⟩;rw[aai rfl];exact⟨rfl,s1⟩
  ·simp only[EE,nth,fT,hc];refine⟨rfl,?_⟩;rw[aaf (by decide)];exact⟨rfl,s1⟩
theorem m5(B:aD lo bv bs)(s:Sat lo h (pt rb (Xg bv st)::L)):DC Tryz.prog 65 [rp rb,.int .i64 4] h (λv h'=>v=.int .i64 (wI bs st).1/\Sat lo h' (pt rb (Xg bv (wI bs st).2)::L)):=IE B s (n:=4) (.inl rfl)
theorem zej(B:aD lo bv bs)(s:Sat lo h (pt rb (Xg bv st)::L)):DC Tryz.prog 65 [rp rb,.int .i64 8] h (λv h'=>v=.int .i64 (Ul bs st).1/\Sat lo h' (pt rb (Xg bv (Ul bs st).2)::L)):=IE B s (n:=8) (.inr rfl)
end
open Go.Rtl (vx i0)
open Go.Eb (dr QH)
def I6:List Int:=[11,12,16,17,18]
theorem ND(op:Int)(h:za):vt Tryz.prog 96 [.int .u8 op] h (.int .i64 (qP op)):=by
 apply vx;apply Ll;unfold M7;generalize h.lock=H;simp only[EE,↓zq,QE,Fm];refine qo (λm vs h'=>∃j:Nat,j<=5/\m=5-j/\vs=[.int .i64 0,.int .i64 j]/\h'=H.push (.cells [.int .i64 11,.int .i64 12,.int .i64 16,.int .i64 17,.int .i64 18] 3) /\ ∀x,x∈I6.take j->¬kp x=op) 5 ⟨0,aaP _,rfl,rfl,rfl,λx hx=>by cases hx⟩ ?_;rintro m vs h1 ⟨j,hj,rfl,rfl,rfl,hno⟩;unfold CH;have nx:(H.push (.cells [.int .i64 11,.int .i64 12,.int .i64 16,.int .i64 17,.int .i64 18] 3)).get H.next=some (.cells [.int .i64 11,.int .i64 12,.int .i64 16,.int .i64 17,.int .i64 18] 3):=wt;generalize H.push (.cells [.int .i64 11,.int .i64 12,.int .i64 16,.int .i64 17,.int .i64 18] 3)=G at nx ⊢;generalize H.next=a at nx ⊢
 have step:∀(x:Int) (j:Nat),j<5->I6[j]? = some x->(∀x,x∈I6.take j->¬kp x=op)->¬kp x=op->∀y,y∈I6.take (j+1)->¬kp y=op:=λx j hj hx hno hne y hy=>by
  rw[abd,hx]at hy;rcases aaG.1 hy with hy|hy
  ·exact hno y hy
  ·rw[aar.1 hy];exact hne
 have cs:([.int .i64 11,.int .i64 12,.int .i64 16,.int .i64 17,.int .i64 18]:List aaa)=I6.map λx=>Value.int .i64 x:=rfl;rw[cs]at nx;by_cases hc:(j:Int)<((5:Nat):Int)
 ·obtain⟨x,hx⟩:∃x,I6[j]? = some x:=⟨_,aag (show j<5 by omega)⟩;have hc2:(I6.map λx=>Value.int .i64 x)[j]? = some (.int .i64 x):=by rw[aaH,hx];rfl
  have hix:vf Tryz.prog 22 (.slice (some ⟨a,0,none⟩) 5 7) (.int .i64 j)=some (.pointer (some ⟨a,j,none⟩)):=by
   rw[Wv,aai (by omega)];simp
  have hin:=inc (show j<4611686018427387904 by omega);simp only[EE,nth,↓zq,zu,zg,CF,nx,hc,hix,hc2];refine X2 (dr x _) ?_;by_cases he:kp x=op
  ·have:qP op=x:=by
    rw[<- he];have:=aaz hx;simp only[I6,aaS,abJ,acz]at this;rcases this with rfl|rfl|rfl|rfl|rfl <;> decide
   simp only[EE,lQ,he];rw[this];rfl
  ·simp only[EE,nth,lQ,CG,he,hin];exact⟨5-(j+1),by omega,j+1,by omega,rfl,rfl,step x j (by omega) hx hno he⟩
 ·have:j=5:=by omega
  subst this;simp only[EE,nth,hc];have h1:=hno 11 (by decide);have h2:=hno 12 (by decide);have h3:=hno 16 (by decide);have h4:=hno 17 (by decide);have h5:=hno 18 (by decide)
  have:qP op=0:=by
   unfold qP;rw[aaf (λe=>h1 (by rw[e];decide)),aaf (λe=>h2 (by rw[e];decide)),aaf (λe=>h3 (by rw[e];decide)),aaf (λe=>h4 (by rw[e];decide)),aaf (λe=>h5 (by rw[e];decide))]
  rw[this];rfl
def ccL:List Int:=[21,22,23,26,24,25]
theorem zA{c x:Int}(hx:x∈ccL)(he:vd x=c):bF c=some x:=by
 rw[<- he];simp only[ccL,aaS,abJ,acz]at hx;rcases hx with rfl|rfl|rfl|rfl|rfl|rfl <;> decide
theorem PB{c:Int}(hno:∀x,x∈ccL->¬vd x=c):bF c=none:=by
 unfold bF;have h1:=hno 21 (by decide);have h2:=hno 22 (by decide);have h3:=hno 23 (by decide);have h4:=hno 26 (by decide);have h5:=hno 24 (by decide);have h6:=hno 25 (by decide);rw[aaf (λe=>h1 (by rw[e];decide)),aaf (λe=>h2 (by rw[e];decide)),aaf (λe=>h3 (by rw[e];decide)),aaf (λe=>h4 (by rw[e];decide)),aaf (λe=>h5 (by rw[e];decide)),aaf (λe=>h6 (by rw[e];decide))]
section
variable {lo:yT}{h:za}{L:List HP}{bv:aaa}{bs:List Int}{rb:Nat}{st:RS}
theorem H2(c:Int)(s:Sat lo h (pt rb (Xg bv st)::L))(bn:zS bv=false):DC Tryz.prog 66 [rp rb,.int .u8 c] h (λv h'=>v=.int .i64 (ZT c st).1/\Sat lo h' (pt rb (Xg bv (ZT c st).2)::L)):=by
 apply lR;unfold dY;simp only[EE,↓zq,dL,Fm];have cs:([.int .i64 21,.int .i64 22,.int .i64 23,.int .i64 26,.int .i64 24,.int .i64 25]:List aaa)=ccL.map λx=>Value.int .i64 x:=rfl;rw[cs];have s1:=s.push (.cells (ccL.map λx=>Value.int .i64 x) 3);generalize h.push (.cells (ccL.map λx=>Value.int .i64 x) 3)=G at s1 ⊢;generalize h.next=a at s1 ⊢;refine qo (λm vs h'=>∃j:Nat,j<=6/\m=6-j/\vs=[.int .i64 0,.int .i64 j]/\h'=G /\ ∀x,x∈ccL.take j->¬vd x=c) 6 ⟨0,aaP _,rfl,rfl,rfl,λx hx=>by cases hx⟩ ?_;rintro m vs h1 ⟨j,hj,rfl,rfl,rfl,hno⟩;unfold J5;have nx:=s1.get;by_cases hc:(j:Int)<((6:Nat):Int)
 ·obtain⟨x,hx⟩:∃x,ccL[j]? = some x:=⟨_,aag (show j<6 by omega)⟩;have hm:=aaz hx;have hc2:(ccL.map λx=>Value.int .i64 x)[j]? = some (.int .i64 x):=by rw[aaH,hx];rfl
  have hix:vf Tryz.prog 22 (.slice (some ⟨a,0,none⟩) 6 8) (.int .i64 j)=some (.pointer (some ⟨a,j,none⟩)):=by
   rw[Wv,aai (by omega)];simp
  have hin:=inc (show j<4611686018427387904 by omega)
  have hb:21<=x/\x<=26:=by
   simp only[ccL,aaS,abJ,acz]at hm;omega
  simp only[EE,nth,↓zq,zu,zg,J3,nx,hc,hix,hc2];refine X2 (QH hb.1 hb.2 _) ?_;by_cases he:vd x=c
  ·have e:ZT c st=(x,st):=by unfold ZT;rw[zA hm he]
   rw[e];simp only[EE,VJ,he];exact s1.drop
  ·simp only[EE,nth,VJ,J4,he,hin];refine⟨6-(j+1),by omega,j+1,by omega,rfl,rfl,λy hy=>?_⟩;rw[abd,hx]at hy;rcases aaG.1 hy with hy|hy
   ·exact hno y hy
   ·rw[aar.1 hy];exact he
 ·have:j=6:=by omega
  subst this;have e:ZT c st=(0,zY true st):=by unfold ZT;rw[PB hno]
  rw[e];have s2:=s1.f [1,0];have g:=s2.get;simp only[EE,nth,ZI,xa,J6,hc];refine yf s2 (by simp) rfl λh1 s1=>?_;simp only[EE]
  have:Xg bv (zY true st)=.cells [bv,.int .i64 st.1,.bool true] 77:=by
   unfold zY;rw[Bool.or_true]
  rw[this];exact(s1.p 1).drop
end
abbrev WX(o:pD):List aaa:=[.int .i64 o.reg,.int .i64 o.rm,.bool o.memory,.bool o.place,.int .i64 o.k]
def cg(o:pD):aaa := .agg #[.int .i64 o.reg,.int .i64 o.rm,.bool o.memory,.bool o.place,.int .i64 o.k]
section
variable {lo:yT}{h:za}{L:List HP}{bv:aaa}{bs:List Int}{rb:Nat}{st:RS}
theorem WV(B:xJ bs)(st:RS):0<=(zG bs st).1/\(zG bs st).1<256:=(ld bs B 1 st).2 _ (aa5 _ (aar.2 rfl))
theorem zea(z:Fin 256):IntKind.wrap .u8 ↑(BitVec.ofInt (IntKind.bits .u8) ((z.val:Nat):Int) &&& BitVec.ofInt (IntKind.bits .u8) 7).toNat=((z.val:Nat):Int)%8:=by
 revert z;decide +kernel
theorem zef(z:Fin 256):IntKind.wrap .u8 ↑(BitVec.ofInt (IntKind.bits .u8) (((z.val:Nat):Int).fdiv (2^min 3 (IntKind.bits .u8))) &&& BitVec.ofInt (IntKind.bits .u8) 7).toNat=((z.val:Nat):Int)/8%8:=by
 revert z;decide +kernel
theorem zf8(z:Fin 256):((z.val:Nat):Int).fdiv (2^min 6 (IntKind.bits .u8))=((z.val:Nat):Int)/64:=by
 revert z;decide +kernel
theorem zdr(z:Fin 256):IntKind.wrap .u8 ↑(BitVec.ofInt (IntKind.bits .u8) ((z.val:Nat):Int) &&& BitVec.ofInt (IntKind.bits .u8) 4).toNat=if ((z.val:Nat):Int)/4%2=1 then 4 else 0:=by
 revert z;decide +kernel
theorem zdq(z:Fin 256):IntKind.wrap .u8 ↑(BitVec.ofInt (IntKind.bits .u8) ((z.val:Nat):Int) &&& BitVec.ofInt (IntKind.bits .u8) 1).toNat=((z.val:Nat):Int)%2:=by
 revert z;decide +kernel
theorem UM{z:Int}(h0:0<=z)(h1:z<256):∃f:Fin 256,z=((f.val:Nat):Int):=⟨⟨z.toNat,by omega⟩,by show z=((z.toNat:Nat):Int);omega⟩
section
variable {z:Int}(h0:0<=z)(h1:z<256)
include h0 h1
theorem Bn:IntKind.wrap .u8 ↑(BitVec.ofInt (IntKind.bits .u8) z &&& BitVec.ofInt (IntKind.bits .u8) 7).toNat=z%8:=by
 obtain⟨f,rfl⟩:=UM h0 h1;exact zea f
theorem Mp:IntKind.wrap .u8 ↑(BitVec.ofInt (IntKind.bits .u8) (z.fdiv (2^min 3 (IntKind.bits .u8))) &&& BitVec.ofInt (IntKind.bits .u8) 7).toNat=z/8%8:=by
 obtain⟨f,rfl⟩:=UM h0 h1;exact zef f
theorem zf7:z.fdiv (2^min 6 (IntKind.bits .u8))=z/64:=by
 obtain⟨f,rfl⟩:=UM h0 h1;exact zf8 f
theorem SV:IntKind.wrap .u8 ↑(BitVec.ofInt (IntKind.bits .u8) z &&& BitVec.ofInt (IntKind.bits .u8) 4).toNat=if z/4%2=1 then 4 else 0:=by
 obtain⟨f,rfl⟩:=UM h0 h1;exact zdr f
theorem mF:IntKind.wrap .u8 ↑(BitVec.ofInt (IntKind.bits .u8) z &&& BitVec.ofInt (IntKind.bits .u8) 1).toNat=z%2:=by
 obtain⟨f,rfl⟩:=UM h0 h1;exact zdq f
end
theorem yM{z:Int}(h0:0<=z)(h1:z<1000000):IntKind.wrap .i64 z=z:=by
 simp only[IntKind.wrap,IntKind.bits,IntKind.signed];simp;omega
def KL(b:List Int)(ahead z reg rm:Int)(t:RS):pD×RS :=
 if z/64=3 then (⟨reg,rm,false,false,0⟩,t)
 else if z/64=2 then (⟨reg,rm,true,false,(wI b (nd b rm t)).1⟩,(wI b (nd b rm t)).2)
 else if z/64=0 then (⟨reg,rm,false,true,(wI b (zY (decide (¬z%8=5)||decide (ahead%2=1)) t)).1⟩,(wI b (zY (decide (¬z%8=5)||decide (ahead%2=1)) t)).2)
 else (⟨reg,rm,false,false,0⟩,zY true t)
theorem Mz(b:List Int)(ahead:Int)(s:RS):uZ b ahead s=KL b ahead (zG b s).1 (qT (zG b s).1 ahead) (ZY (zG b s).1 ahead) (zG b s).2:=rfl
section
variable {b4 b6:Nat}{z ahead reg rm:Int}{c4:List aaa}{O:pD}{T:RS}{J:List aaa}
abbrev T8(lo:yT)(rb:Nat)(bv:aaa)(L:List HP)(O:pD)(T:RS)(v:aaa)(h':za):Prop:=v=cg O/\Sat lo h' (pt rb (Xg bv T)::L)
theorem J1(bv:aaa)(t:RS):Xg bv (zY true t)=.cells [bv,.int .i64 t.1,.bool true] 77:=by
 show vr.cells [bv,.int .i64 t.1,.bool (t.2||true)] _=_;rw[Bool.or_true]
theorem op3(B:aD lo bv bs){mm pl:Bool}{K:List aaa->za->Prop}{vs:List aaa}
  (s:Sat lo h (pt b6 (.cells (WX ⟨reg,rm,mm,pl,0⟩) 132)::pt rb (Xg bv st)::L))
  (k:∀h',Sat lo h' (pt b6 (.cells (WX ⟨reg,rm,mm,pl,(wI bs st).1⟩) 132)::pt rb (Xg bv (wI bs st).2)::L)->K [] h'):YE (rp rb) (rp b6) K vs h:=by
 unfold YE;refine Kd (m5 B (s.f [1,0])) ?_;rintro v h2 ⟨rfl,s2⟩;simp only[EE,LF,KC];refine yf (s2.p 1) (by simp) rfl λh3 s3=>?_;exact k h3 s3
theorem zfY(B:aD lo bv bs)(hz0:0<=z)(hz1:z<256)(ha0:0<=ahead)(ha1:ahead<256)(r0:0<=rm)(r1:rm<16)(l4:c4.length=5)
  (s:Sat lo h (pt b6 (.cells (WX ⟨reg,rm,false,false,0⟩) 132)::pt rb (Xg bv st)::pt b4 (.cells c4 132)::L)) :
  QZ (.int .u8 z) (rp b6) (rp rb) (.int .u8 ahead) (rp b4) (T8 lo rb bv L (KL bs ahead z reg rm st).1 (KL bs ahead z reg rm st).2) J h:=by
 have bn:=B.nb;have f6:=zf7 hz0 hz1;have f7:=Bn hz0 hz1;have f1:=mF ha0 ha1;unfold QZ
 have fin:∀{h':za} {o:pD} {t:RS},KL bs ahead z reg rm st=(o,t)->Sat lo h' (pt b6 (.cells (WX o) 132)::pt rb (Xg bv t)::pt b4 (.cells c4 132)::L)->(opt (zf Tryz.prog 132 (rp b6) h') λt79=>opt (nb [t79] (uv Tryz.prog 132 (rp b4) t79 h')) λh71=>opt (zf Tryz.prog 132 (rp b4) h71) λr0=>rv [r0] h71 (T8 lo rb bv L (KL bs ahead z reg rm st).1 (KL bs ahead z reg rm st).2)):=λ{h' o t} e s=>by
  obtain⟨v0,v1,v2,v3,v4,rfl⟩:∃v0 v1 v2 v3 v4,c4=[v0,v1,v2,v3,v4]:=by
   match c4,l4 with
   |[v0,v1,v2,v3,v4],_=>exact⟨v0,v1,v2,v3,v4,rfl⟩
  have g:=s.get;rw[e];unfold WX at g;simp only[EE,Nat.reduceAdd,qQ,mw,Al,g];refine yf (s.f [2,1,0]) (by simp) rfl λh1 s1=>?_;have g1:=s1.get;simp only[EE,zp,Nat.reduceAdd,qQ,mw,g1];exact⟨rfl,(s1.f [0,2,1]).drop.drop⟩
 have:z/64=0\/z/64=1\/z/64=2\/z/64=3:=by omega
 unfold WX at s;rcases this with e|e|e|e
 ·simp only[EE,↓zq,seval,ZI,UR,eE,QY,W1,Y5,f6,e];refine yf s (by simp) rfl λh1 s1=>?_
  have go:∀{h2:za} {t:RS},t=zY (decide (¬z%8=5)||decide (ahead%2=1)) st->Sat lo h2 (pt rb (Xg bv t)::pt b6 (.cells (WX ⟨reg,rm,false,true,0⟩) 132)::pt b4 (.cells c4 132)::L)->YE (rp rb) (rp b6) (λ_ h22=>opt (zf Tryz.prog 132 (rp b6) h22) λt79=>opt (nb [t79] (uv Tryz.prog 132 (rp b4) t79 h22)) λh71=>opt (zf Tryz.prog 132 (rp b4) h71) λr0=>rv [r0] h71 (T8 lo rb bv L (KL bs ahead z reg rm st).1 (KL bs ahead z reg rm st).2)) [] h2:=λ{h2 t} et s2=>by
   refine op3 B (s2.p 1) λh3 s3=>fin ?_ s3;unfold KL;rw[e,et];rfl
  unfold YE at go;have g1:=(s1.p 1).get;have wr:=(s1.p 1);obtain⟨k,bad⟩:=st;have BA:ahead%2=0\/ahead%2=1:=by omega
  cases bad with
  |true=>
   simp only[EE,zu,Y6,ZI,xa,Wb,Wc,Wd,We,Y4,g1];refine yf wr (by simp) rfl λh2 s2=>?_;simp only[];exact go (t:=(k,true)) (by simp[zY]) s2
  |false=>
   by_cases h5:z%8=5
   ·rcases BA with o1|o1
    ·simp only[EE,zu,Y6,ZI,xa,Wb,Wc,Wd,We,Y4,g1,f7,h5,f1,o1];refine yf wr (by simp) rfl λh2 s2=>?_;simp only[];exact go (t:=(k,false)) (by simp[zY,h5,o1]) s2
    ·simp only[EE,Int.reduceEq,zu,Y6,ZI,xa,Wb,Wc,Wd,We,Y4,g1,f7,h5,f1,o1];refine yf wr (by simp) rfl λh2 s2=>?_;simp only[];exact go (t:=(k,true)) (by simp[zY,h5,o1]) s2
   ·simp only[EE,zu,Y6,ZI,xa,Wb,Wc,Wd,We,Y4,g1,f7,h5];refine yf wr (by simp) rfl λh2 s2=>?_;simp only[];exact go (t:=(k,true)) (by simp[zY,h5]) s2
 ·have g:=(s.p 1).get;simp only[EE,↓zq,seval,ZI,xa,QY,W1,Y5,f6,e];refine yf (s.p 1) (by simp) rfl λh1 s1=>?_;simp only[];refine fin (o:=⟨reg,rm,false,false,0⟩) (t:=zY true st) ?_ (by rw[J1];exact s1.p 1);unfold KL;rw[e];rfl
 ·simp only[EE,↓zq,seval,ZI,UQ,eF,W1,Y5,f6,e];refine yf s (by simp) rfl λh1 s1=>?_
  have go:∀{h2:za} {t:RS} {vs:List aaa},t=nd bs rm st->Sat lo h2 (pt b6 (.cells (WX ⟨reg,rm,true,false,0⟩) 132)::pt rb (Xg bv t)::pt b4 (.cells c4 132)::L)->YE (rp rb) (rp b6) (λ_ h22=>opt (zf Tryz.prog 132 (rp b6) h22) λt79=>opt (nb [t79] (uv Tryz.prog 132 (rp b4) t79 h22)) λh71=>opt (zf Tryz.prog 132 (rp b4) h71) λr0=>rv [r0] h71 (T8 lo rb bv L (KL bs ahead z reg rm st).1 (KL bs ahead z reg rm st).2)) vs h2:=λ{h2 t vs} et s2=>by
   refine op3 B s2 λh3 s3=>fin ?_ s3;unfold KL;rw[e,et];rfl
  have g1:=s1.get;have f8:=Go.Eb.J7 r0 r1;by_cases h4:rm%8=4
  ·simp only[EE,zp,zu,zg,ve,g1,f8,h4];refine Kd (U0 B (s1.f [1,0])) ?_;rintro v h2 ⟨rfl,s2⟩;have es:nd bs rm st=zY (decide (¬(zG bs st).1=36)) (zG bs st).2:=by unfold nd;rw[aai h4]
   by_cases h36:(zG bs st).1=36
   ·simp only[EE,Ub,Uc,h36];exact go (by rw[es];simp[zY,h36]) (s2.p 1)
   ·simp only[EE,ZI,xa,Ub,Uc,h36];refine yf s2 (by simp) rfl λh3 s3=>?_;exact go (t:=zY true (zG bs st).2) (by rw[es];simp[zY,h36]) (by rw[J1];exact s3.p 1)
  ·simp only[EE,zp,zu,zg,ve,Ub,Uc,g1,f8,h4];exact go (by unfold nd;rw[aaf h4]) s1
 ·simp only[EE,↓zq,Int.reduceLE,Int.reduceToNat,Y5,f6,e];refine fin ?_ s;unfold KL;rw[e];rfl
theorem zfZ(B:aD lo bv bs)(hz0:0<=z)(hz1:z<256)(ha0:0<=ahead)(ha1:ahead<256)(l4:c4.length=5)
  (s:Sat lo h (pt b6 (.cells (WX ⟨reg,z%8,false,false,0⟩) 132)::pt rb (Xg bv st)::pt b4 (.cells c4 132)::L)) :
  Q0 (.int .u8 ahead) (rp b6) (.int .u8 z) (rp rb) (rp b4) (T8 lo rb bv L (KL bs ahead z reg (ZY z ahead) st).1 (KL bs ahead z reg (ZY z ahead) st).2) J h:=by
 have f1:=mF ha0 ha1;have BA:ahead%2=0\/ahead%2=1:=by omega
 unfold Q0;rcases BA with o1|o1
 ·simp only[EE,f1,o1];have e:ZY z ahead=z%8:=by unfold ZY;rw[aaf (by omega)];omega
  rw[e];exact zfY B hz0 hz1 ha0 ha1 (by omega) (by omega) l4 s
 ·have g:=s.get;have e:ZY z ahead=z%8+8:=by unfold ZY;rw[aai o1]
  have w:=yM (z:=z%8+8) (by omega) (by omega);simp only[EE,Int.reduceEq,zu,zg,Q1,ve,iz,f1,o1,g,w];refine yf s (by simp) rfl λh1 s1=>?_;rw[e];exact zfY (reg:=reg) (rm:=z%8+8) B hz0 hz1 ha0 ha1 (by omega) (by omega) l4 s1
theorem gB(B:aD lo bv bs)(ha0:0<=ahead)(ha1:ahead<256)(s:Sat lo h (pt rb (Xg bv st)::L)):DC Tryz.prog 84 [rp rb,.int .u8 ahead] h (λv h'=>v=cg (uZ bs ahead st).1/\Sat lo h' (pt rb (Xg bv (uZ bs ahead st).2)::L)):=by
 apply B6;unfold tD;rw[Mz];simp only[EE,Value.cells,Ap];refine qc s λb4 h2 s2=>?_;refine Kd (U0 B (s2.f [1,0])) ?_;rintro v h3 ⟨rfl,s3⟩;obtain⟨z0,z1⟩:=WV B.byte st;generalize (zG bs st).1=z at z0 z1 ⊢;generalize (zG bs st).2=st at s3 ⊢;have f1:=Mp z0 z1;have f2:=Bn z0 z1;have w1:=yM (z:=z/8%8) (by omega) (by omega);have w2:=yM (z:=z%8) (by omega) (by omega);unfold eG;simp only[EE,Value.cells,Int.reduceLE,Int.reduceToNat,Ap,LQ,qC,f1,f2,w1,w2];refine qc s3 λb6 h5 s5=>?_;simp only[EE,Nat.reduceAdd,Al];refine yf s5 (by simp) rfl λh6 s6=>?_;have f4:=SV ha0 ha1;by_cases h4:ahead/4%2=1
 ·have g:=s6.get;rw[aai h4]at f4;have e:qT z ahead=z/8%8+8:=by unfold qT;rw[aai h4]
  have w:=yM (z:=z/8%8+8) (by omega) (by omega);simp only[EE,zp,Nat.reduceAdd,Int.reduceEq,zu,zg,Q1,wB,iy,f4,g,w];refine yf s6 (by simp[wh]) rfl λh7 s7=>?_;rw[e];exact zfZ (reg:=z/8%8+8) B z0 z1 ha0 ha1 rfl s7
 ·rw[aaf h4]at f4;have e:qT z ahead=z/8%8:=by unfold qT;rw[aaf h4];omega
  simp only[EE,f4];rw[e];exact zfZ (reg:=z/8%8) B z0 z1 ha0 ha1 rfl s6
end
end
abbrev JK(lo:yT)(rb:Nat)(bv:aaa)(L:List HP)(x:zC×RS)(v:aaa)(h':za):Prop:=v=x.1.val/\Sat lo h' (pt rb (Xg bv x.2)::L)
section
variable {lo:yT}{h:za}{L:List HP}{bv:aaa}{bs:List Int}{rb:Nat}{st:RS}{o:pD}{op second ahead:Int}{b b2:Nat}{c2:List aaa}
theorem kK(x:zC){R:aaa->za->Prop}(l2:c2.length=7)(s:Sat lo h (pt b2 (.cells c2 42)::L))(k:∀h',Sat lo h' L->R x.val h'):opt (Eo h b2 0 x.row) λh1=>opt (zf Tryz.prog 42 (rp b2) h1) λr0=>rv [r0] h1 R:=by
 obtain⟨v0,v1,v2,v3,v4,v5,v6,rfl⟩:∃v0 v1 v2 v3 v4 v5 v6,c2=[v0,v1,v2,v3,v4,v5,v6]:=by
  match c2,l2 with
  |[v0,v1,v2,v3,v4,v5,v6],_=>exact⟨v0,v1,v2,v3,v4,v5,v6,rfl⟩
 refine yf s (by simp) rfl λh1 s1=>?_;have g1:=s1.get;simp only[EE,zp,Nat.reduceAdd,qQ,wK,g1];exact k _ s1.drop
theorem lD(x:zC){R:aaa->za->Prop}(l2:c2.length=7)(s:Sat lo h (pt b (.cells x.row 42)::pt b2 (.cells c2 42)::L))(k:∀h',Sat lo h' L->R x.val h'):opt (zf Tryz.prog 42 (rp b) h) λt=>opt (nb [t] (uv Tryz.prog 42 (rp b2) t h)) λh1=>opt (zf Tryz.prog 42 (rp b2) h1) λr0=>rv [r0] h1 R:=by
 have g:=s.get;have:=kK (R:=R) x l2 (s.f [1,0]) (λh' s'=>k h' s'.drop);obtain⟨p,r,m,sub,cc,l,kk⟩:=x
 have e:zf Tryz.prog 42 (rp b) h=some (zC.val ⟨p,r,m,sub,cc,l,kk⟩):=by
  simp only[EE,Nat.reduceAdd,qQ,wK,g]
 rw[e];simp only[EE,Nat.reduceAdd,yI];exact this
theorem SE(bn:zS bv=false)(s:Sat lo h (pt rb (Xg bv st)::L)):DC Tryz.prog 85 [rp rb,.int .u8 op,.int .u8 second,cg o] h (JK lo rb bv L (u0 op second o st)):=by
 apply Gi;unfold Gh cg;simp only[EE,Value.cells,uw];refine qc s λb7 h2 s2=>?_;simp only[EE,zu,yU,zg,wB,ve,KC];refine qc s2 λb8 h3 s3=>?_;have g7:=(s3.p 1).get;simp only[EE,Value.cells,uw,eI,g7];refine qc s3 λb9 h4 s4=>?_;simp only[EE,Nat.reduceAdd,yI];refine yf s4 (by simp) rfl λh5 s5=>?_;have fin:∀{h':za} (x:zC) (t:RS),u0 op second o st=(x,t)->Sat lo h' (pt b9 (.cells x.row 42)::pt b8 (.cells [.int .i64 0,.int .i64 0,.int .i64 0,.int .i64 0,.int .i64 0,.int .i64 0,.int .i64 0] 42)::pt b7 (.cells (WX o) 132)::pt rb (Xg bv t)::L)->_:=λ{h'} x t e s=>lD (R:=JK lo rb bv L (u0 op second o st)) x rfl s (λh' s'=>by rw[e];exact⟨rfl,s'.drop⟩);unfold u0 at fin ⊢;have g9:=s5.get;by_cases c1:op=139
 ·rw[aai c1]at fin ⊢;subst c1;simp only[EE,↓zq,Q1,zn,Z6];refine yf s5 (by simp[wh]) rfl λh6 s6=>?_;exact fin ⟨3,o.reg,o.rm,8,0,0,o.k⟩ st rfl s6
 rw[aaf c1]at fin ⊢;by_cases c2:op=99
 ·rw[aai c2]at fin ⊢;subst c2;simp only[EE,↓zq,Int.reduceEq,Q1,zn,Xq,Z6];refine yf s5 (by simp[wh]) rfl λh6 s6=>?_;exact fin ⟨3,o.reg,o.rm,4,0,0,o.k⟩ st rfl s6
 rw[aaf c2]at fin ⊢;by_cases c3:op=15/\second=190
 ·rw[aai c3]at fin ⊢;obtain⟨c3,c4⟩:=c3;subst c3;subst c4;simp only[EE,↓zq,Int.reduceEq,Q1,zn,Wz,WA,WB,Xq,Z6];refine yf s5 (by simp[wh]) rfl λh6 s6=>?_;exact fin ⟨3,o.reg,o.rm,1,0,0,o.k⟩ st rfl s6
 rw[aaf c3]at fin ⊢;by_cases c4:op=137
 ·rw[aai c4]at fin ⊢;subst c4;simp only[EE,↓zq,Int.reduceEq,Q1,zc,sG,Uu,Wz,WA,WB,Xq,Z6];refine yf s5 (by simp[wh]) rfl λh6 s6=>?_;simp only[EE,Q1,zn];refine yf s6 (by simp[wh]) rfl λh7 s7=>?_;exact fin ⟨4,o.reg,o.rm,8,0,0,o.k⟩ st rfl s7
 rw[aaf c4]at fin ⊢;by_cases c5:op=141
 ·rw[aai c5]at fin ⊢;subst c5;simp only[EE,↓zq,Int.reduceEq,Q1,zc,K6,Uu,Wz,WA,WB,Xq,Z6];refine yf s5 (by simp[wh]) rfl λh6 s6=>?_;exact fin ⟨5,o.reg,o.rm,0,0,0,o.k⟩ st rfl s6
 rw[aaf c5]at fin ⊢;have sf:=s5.f [3,0,1,2];have step:∀{h'},Sat lo h' (pt rb (.cells (zp [bv,.int .i64 st.1,.bool st.2] 2 [.bool true]) 77)::pt b9 (.cells (zC.row ⟨3,o.reg,o.rm,0,0,0,o.k⟩) 42)::pt b8 (.cells [.int .i64 0,.int .i64 0,.int .i64 0,.int .i64 0,.int .i64 0,.int .i64 0,.int .i64 0] 42)::pt b7 (.cells (WX o) 132)::L)->_:=λ{h'} s6=>fin (h':=h') ⟨3,o.reg,o.rm,0,0,0,o.k⟩ (zY true st) rfl (by rw[J1];exact s6.f [1,2,3,0]);by_cases c6:op=15
 ·have c7:¬second=190:=λe=>c3 ⟨c6,e⟩;subst c6;simp only[EE,↓zq,Int.reduceEq,ZI,xa,K6,Uu,Wz,WA,WB,Xq,Z6,c7];refine yf sf (by simp) rfl λh6 s6=>?_;exact step s6
 ·simp only[EE,↓zq,ZI,xa,K6,Uu,Wz,WA,WB,Xq,Z6,c1,c2,c4,c5,c6];refine yf sf (by simp) rfl λh6 s6=>?_;exact step s6
theorem zfs(r:Fin 16):IntKind.wrap .u8 ↑(BitVec.ofInt (IntKind.bits .u8) (IntKind.wrap .u8 (IntKind.wrap .u8 ((r.val:Nat):Int)*2^min 3 (IntKind.bits .u8))) ||| BitVec.ofInt (IntKind.bits .u8) 1).toNat=((r.val:Nat):Int)*8+1:=by
 revert r;decide +kernel
theorem zfr{r:Int}(h0:0<=r)(h1:r<16):IntKind.wrap .u8 ↑(BitVec.ofInt (IntKind.bits .u8) (IntKind.wrap .u8 (IntKind.wrap .u8 r*2^min 3 (IntKind.bits .u8))) ||| BitVec.ofInt (IntKind.bits .u8) 1).toNat=r*8+1:=by
 obtain⟨f,rfl⟩:∃f:Fin 16,r=((f.val:Nat):Int):=⟨⟨r.toNat,by omega⟩,by show r=((r.toNat:Nat):Int);omega⟩;exact zfs f
theorem zbk(B:aD lo bv bs)(r0:0<=o.reg)(r1:o.reg<16)(s:Sat lo h (pt rb (Xg bv st)::L)):DC Tryz.prog 114 [rp rb,cg o] h (JK lo rb bv L (VP bs o st)):=by
 have bn:=B.nb;apply Lp;unfold Nb cg;simp only[EE,Value.cells,uw];refine qc s λb3 h2 s2=>?_;simp only[];refine qc s2 λb4 h3 s3=>?_;refine Kd (m5 B (s3.f [2,0,1])) ?_;rintro v h4 ⟨rfl,s4⟩;unfold VP;simp only[];generalize (wI bs st).1=k;generalize (wI bs st).2=st at s4 ⊢;have s5:=s4.f [1,2,0];have g3:=(s5.p 1).get;simp only[↓zq];by_cases c1:o.reg=7
 ·rw[aai c1];simp only[EE,Nat.reduceAdd,zu,zg,yI,yQ,wB,ve,CO,Uo,g3,c1];exact kK ⟨16,o.rm,0,0,0,0,k⟩ rfl s5 λh' s'=>⟨rfl,s'.drop⟩
 rw[aaf c1];by_cases c2:o.rm=4/\o.reg=5
 ·rw[aai c2];obtain⟨c2,c3⟩:=c2;simp only[EE,Nat.reduceAdd,Int.reduceEq,zu,zg,yI,Kx,wB,ve,CN,Ki,Kj,Uo,g3,c2,c3];exact kK ⟨23,0,0,0,0,0,k⟩ rfl s5 λh' s'=>⟨rfl,s'.drop⟩
 rw[aaf c2];by_cases c3:o.rm=4/\o.reg=0
 ·rw[aai c3];obtain⟨c3,c4⟩:=c3;simp only[EE,Nat.reduceAdd,Int.reduceEq,zu,zg,yI,Kx,wB,ve,CM,cR,cS,Ki,Kj,Uo,g3,c3,c4];exact kK ⟨24,0,0,0,0,0,k⟩ rfl s5 λh' s'=>⟨rfl,s'.drop⟩
 rw[aaf c3];have f1:=zfr r0 r1
 have rest:∀vs,fK (rp b3) (rp rb) (.int .i64 k) (rp b4) (JK lo rb bv L (⟨8,o.rm,0,qP (o.reg*8+1),0,0,k⟩,zY (decide (qP (o.reg*8+1)=0)) st)) vs h4:=λvs=>by
  unfold fK;simp only[EE,Int.reduceLE,Int.reduceToNat,zu,zg,Q3,wB,g3,f1];refine X2 (ND (o.reg*8+1) _) ?_;have gr:=s4.get;obtain⟨kk,bad⟩:=st;cases bad with
  |true=>
   simp only[EE,zu,Y6,ZI,xa,lT,fI,fJ,gr];refine yf s4 (by simp) rfl λh5 s5=>?_;have g3:=(s5.p 2).get;simp only[EE,Nat.reduceAdd,zu,zg,yI,Q2,ve,g3];exact kK ⟨8,o.rm,0,qP (o.reg*8+1),0,0,k⟩ rfl (s5.f [1,0,2]) λh' s'=>⟨rfl,(s'.f [1,0]).drop⟩
  |false=>
   simp only[EE,zu,Y6,ZI,xa,lT,fI,fJ,gr];refine yf s4 (by simp) rfl λh5 s5=>?_;have g3:=(s5.p 2).get;simp only[EE,Nat.reduceAdd,zu,zg,yI,Q2,ve,g3];exact kK ⟨8,o.rm,0,qP (o.reg*8+1),0,0,k⟩ rfl (s5.f [1,0,2]) λh' s'=>⟨rfl,(s'.f [1,0]).drop⟩
 by_cases c4:o.rm=4
 ·have c5:¬o.reg=5:=λe=>c2 ⟨c4,e⟩;have c6:¬o.reg=0:=λe=>c3 ⟨c4,e⟩;have d4:decide (o.rm=4)=true:=aa0 c4;simp only[EE,zu,zg,wB,ve,cR,cS,Ki,Kj,Uo,g3,c1,d4,c5,c6];exact rest _
 ·simp only[EE,zu,zg,wB,ve,cR,cS,Ki,Kj,Uo,g3,c1,c4];exact rest _
end
theorem zdU{lo:yT}{h:za}{L:List HP}{b:Nat}{o:vr}(s:Sat lo h (pt b o::L)):∃lo1,lo.Le lo1/\Sat lo1 (h.Wn [b]) L /\ ∀h2 L',Sat lo1 h2 L'->Sat lo (h2.gG h [b]) (pt b o::L'):=by
 have hg:=s.get;have hlt:=s.lt;have hbs:=s.base;obtain⟨a,ha,d,w,s⟩:=s;have hab:a b=some o:=by rw[ha b,aai rfl]
 have hlo:lo.get b=none:=d b o hab;have han:∀x,¬x=b->a x=none:=λx hx=>by rw[ha x,aaf hx]
 have uget:∀x,¬x=b->(lo.un a).get x=lo.get x:=λx hx=>yT.ki (han x hx);have hbs2:=s.base;refine⟨⟨λx=>if x=b then some none else lo.get x,lo.ro⟩,⟨rfl,λx y e=>?_⟩,s.to (λx hx e=>?_) ⟨hbs.ro,hbs.FE,λx y e=>?_⟩ rfl (aaj _) (λx hx e=>?_),λh2 L' s2=>?_⟩
 ·show(if x=b then some none else lo.get x)=some y;rw[aaf (λq=>by rw[q,hlo]at e;cases e)];exact e
 ·have hx:¬x=b:=λq=>by rw[q,yT.qb hab]at e;cases e
  show(if x=b then some none else lo.get x)=none;rw[aaf hx,<- uget x hx];exact e
 ·have e:(if x=b then some none else lo.get x)=some y:=e;rw[qu];by_cases hx:x=b
  ·subst hx;rw[aai rfl]at e;cases e;rw[aai (aar.2 rfl)];exact⟨rfl,hlt⟩
  ·rw[aaf hx]at e;rw[aaf (λq=>hx (aar.1 q))];exact hbs.get x y e
 ·have hx:¬x=b:=λq=>by rw[q,yT.qb hab]at e;cases e
  rw[qu,aaf (λq=>hx (aar.1 q))]
 ·have b2:=s2.base;have l2:b<h2.next:=(b2.get b none (by show(if b=b then some none else lo.get b)=_;rw[aai rfl])).2;refine⟨a,ha,d,w,s2.to (λx hx e=>?_) ⟨?_,?_,λx y e=>?_⟩ rfl (aaj _) (λx hx e=>?_)⟩
  ·have e:(if x=b then some none else lo.get x)=none:=e;by_cases q:x=b
   ·rw[aai q]at e;cases e
   ·rw[aaf q]at e;rw[uget x q];exact e
  ·exact b2.ro
  ·exact b2.FE
  ·show(h2.gG h [b]).get x=y/\x<h2.next;rw[Ys];by_cases q:x=b
   ·subst q;rw[aai (aar.2 rfl),hg];rw[yT.qb hab]at e;exact⟨abl e,l2⟩
   ·rw[aaf (λq2=>q (aar.1 q2))];rw[uget x q]at e;exact b2.get x y (by show(if x=b then some none else lo.get x)=_;rw[aaf q];exact e)
  ·have e:(if x=b then some none else lo.get x)=none:=e;have q:¬x=b:=λq=>by rw[aai q]at e;cases e
   rw[Ys,aaf (λq2=>q (aar.1 q2))]
section
variable {lo:yT}{h:za}{L:List HP}{bv:aaa}{bs:List Int}{rb:Nat}{st:RS}{o:pD}{op second ahead:Int}{b b2:Nat}{c2:List aaa}
theorem T2{n:Nat}{q:vr}{K:aaa->za->Prop}(B:aD lo bv bs)(s:Sat lo h (pt b q::pt rb (Xg bv st)::L))(k:∀h',Sat lo h' (pt b q::pt rb (Xg bv (wI bs st).2)::L)->K (.int .i64 (wI bs st).1) h'):VM Tryz.prog 65 [rp rb,.int .i64 4] 4 [(1,.pointer (some ⟨b,n,none⟩))] h K:=by
 obtain⟨lo1,l,s1,back⟩:=zdU s;refine PA (hid:=[b]) (by kernel_rfl) rfl (by simp[Fe,Nat.testBit]) (m5 (B.mono l) s1) ?_;rintro v h2 ⟨rfl,s2⟩;exact k _ (back h2 _ s2)
theorem zaK(B:aD lo bv bs)(r0:0<=o.reg)(r1:o.reg<16)(s:Sat lo h (pt rb (Xg bv st)::L)):DC Tryz.prog 97 [rp rb,.int .u8 op,cg o] h (JK lo rb bv L (singleR bs op o st)):=by
 have bn:=B.nb;apply Hu;unfold Ht cg;simp only[EE,Value.cells,↓zq,uw];refine qc s λb5 h2 s2=>?_;refine qc s2 λb6 h4 s4=>?_;have g5:=(s4.p 1).get;have gr:=(s4.p 2).get
 have bad:bm (rp rb) (rp b6) (JK lo rb bv L (VQ,zY true st)) [] h4:=by
  unfold bm;simp only[EE,ZI,xa];refine yf (s4.p 2) (by simp) rfl λh5 s5=>?_;simp only[EE,Nat.reduceAdd,yI,bu];exact kK VQ rfl (s5.f [1,0,2]) λh' s'=>⟨rfl,by rw[J1];exact(s'.f [1,0]).drop⟩
 unfold singleR;obtain⟨k,bd⟩:=st;by_cases c1:op=199
 ·rw[aai c1];subst c1
  have go:∀{h5:za} {q:Bool},Sat lo h5 (pt rb (Xg bv (k,q))::pt b6 (.cells [.int .i64 0,.int .i64 0,.int .i64 0,.int .i64 0,.int .i64 0,.int .i64 0,.int .i64 0] 42)::pt b5 (.cells (WX o) 132)::L)->(k,q)=zY (decide (¬o.reg=0)) (k,bd) ->
    VM Tryz.prog 65 [rp rb,.int .i64 4] 4 [(1,.pointer (some ⟨b5,1,none⟩))] h5 (fZ (.int .i64 o.rm) (rp b6) (JK lo rb bv L (⟨2,o.rm,0,0,0,0,(wI bs (zY (decide (¬o.reg=0)) (k,bd))).1⟩,(wI bs (zY (decide (¬o.reg=0)) (k,bd))).2))):=λ{h5 q} s5 e=>by
   rw[<- e];refine T2 B (s5.f [2,0,1]) λh6 s6=>?_;unfold fZ;simp only[EE,Nat.reduceAdd,yI,yQ];exact kK ⟨2,o.rm,0,0,0,0,(wI bs (k,q)).1⟩ rfl (s6.f [2,1,0]) λh' s'=>⟨rfl,(s'.f [1,0]).drop⟩
  cases bd with
  |true=>
   simp only[EE,zu,Y6,ZI,xa,f9,ga,bk,qO,gr];refine yf (s4.p 2) (by simp) rfl λh5 s5=>?_;have g5:=(s5.p 2).get;simp only[EE,zu,zg,ve,g5];exact go (q:=true) s5 rfl
  |false=>
   simp only[EE,zu,zg,Y6,ZI,wB,xa,f9,ga,bk,qO,g5,gr];refine yf (s4.p 2) (by simp) rfl λh5 s5=>?_;have g5:=(s5.p 2).get;simp only[EE,zu,zg,ve,g5];exact go (q := !decide (o.reg=0)) s5 (by simp[zY])
 rw[aaf c1];by_cases c2:op=129
 ·rw[aai c2];subst c2;simp only[EE,Nat.reduceAdd,Int.reduceEq,qQ,mw,oQ,jg,qO,g5];refine Kd (zbk B r0 r1 (s4.f [2,0,1])) ?_;rintro v h5 ⟨rfl,s5⟩;simp only[EE,Nat.reduceAdd,yI];exact kK _ rfl (s5.f [1,0,2]) λh' s'=>⟨rfl,(s'.f [1,0]).drop⟩
 rw[aaf c2];by_cases c3:op=247
 ·subst c3;by_cases c4:o.reg=2
  ·rw[aai ⟨rfl,c4⟩];simp only[EE,↓zq,Nat.reduceAdd,Int.reduceEq,zu,zg,yI,oW,wB,ve,tZ,UC,Zj,jg,qO,g5,c4];exact kK ⟨9,o.rm,0,2,0,0,0⟩ rfl s4 λh' s'=>⟨rfl,s'.drop⟩
  rw[aaf (λe=>c4 e.2)];by_cases c5:o.reg=3
  ·rw[aai ⟨rfl,c5⟩];simp only[EE,↓zq,Nat.reduceAdd,Int.reduceEq,zu,zg,yI,oW,wB,ve,tY,Ju,UC,Zj,jg,qO,g5,c5];exact kK ⟨9,o.rm,0,1,0,0,0⟩ rfl s4 λh' s'=>⟨rfl,s'.drop⟩
  rw[aaf (λe=>c5 e.2)];by_cases c6:o.reg=7
  ·rw[aai ⟨rfl,c6⟩];simp only[EE,↓zq,Nat.reduceAdd,Int.reduceEq,zu,zg,yI,Du,wB,ve,tX,gd,Ju,UC,Zj,jg,qO,g5,c6];exact kK ⟨14,0,o.rm,0,0,0,0⟩ rfl s4 λh' s'=>⟨rfl,s'.drop⟩
  rw[aaf (λe=>c6 e.2),aaf (by decide),aaf (by decide)];simp only[EE,↓zq,Int.reduceEq,zu,zg,wB,gd,Ju,UC,Zj,jg,qO,g5,c4,c5,c6];exact bad
 rw[aaf (λe=>c3 e.1),aaf (λe=>c3 e.1),aaf (λe=>c3 e.1)]
 have shift:∀J:List aaa->za->Prop,op=193\/op=211->bj (rp b5) h4 (rp rb) (.int .u8 op) (rp b6) (JK lo rb bv L (if op=193 then (⟨11,o.rm,0,if o.reg=7 then 20 else 19,0,0,(zG bs (zY (decide (¬o.reg=4 /\ ¬o.reg=7)) (k,bd))).1⟩,(zG bs (zY (decide (¬o.reg=4 /\ ¬o.reg=7)) (k,bd))).2)
   else (⟨12,o.rm,0,if o.reg=7 then 20 else 19,0,0,0⟩,zY (decide (¬o.reg=4 /\ ¬o.reg=7)) (k,bd)))) J:=λJ yy=>by
  unfold bj;simp only[EE,Value.cells,zu,zg,uw,oV,ve,g5];refine qc s4 λb7 h5 s5=>?_;simp only[EE,Nat.reduceAdd,yI];refine yf s5 (by simp) rfl λh6 s6=>?_
  have tail:∀{h7:za} (sb:Int),sb=(if o.reg=7 then 20 else 19)->Sat lo h7 (pt b7 (.cells (zC.row ⟨12,o.rm,0,sb,0,0,0⟩) 42)::pt b6 (.cells [.int .i64 0,.int .i64 0,.int .i64 0,.int .i64 0,.int .i64 0,.int .i64 0,.int .i64 0] 42)::pt b5 (.cells (WX o) 132)::pt rb (Xg bv (k,bd))::L) ->
    bh (rp rb) (rp b5) (.int .u8 op) (rp b7) (rp b6) (JK lo rb bv L (if op=193 then (⟨11,o.rm,0,if o.reg=7 then 20 else 19,0,0,(zG bs (zY (decide (¬o.reg=4 /\ ¬o.reg=7)) (k,bd))).1⟩,(zG bs (zY (decide (¬o.reg=4 /\ ¬o.reg=7)) (k,bd))).2)
   else (⟨12,o.rm,0,if o.reg=7 then 20 else 19,0,0,0⟩,zY (decide (¬o.reg=4 /\ ¬o.reg=7)) (k,bd)))) [] h7:=λ{h7} sb esb s7=>by
   rw[<- esb];unfold bh;have g5:=(s7.p 2).get;have gr:=(s7.p 3).get
   have go:∀{h8:za} {q:Bool},Sat lo h8 (pt rb (Xg bv (k,q))::pt b7 (.cells (zC.row ⟨12,o.rm,0,sb,0,0,0⟩) 42)::pt b6 (.cells [.int .i64 0,.int .i64 0,.int .i64 0,.int .i64 0,.int .i64 0,.int .i64 0,.int .i64 0] 42)::pt b5 (.cells (WX o) 132)::L)->(k,q)=zY (decide (¬o.reg=4 /\ ¬o.reg=7)) (k,bd) ->
     opt (nb [.int .u8 op,.int .u8 193] (zM Tryz.prog .eql 5 (.tmp 80) (.const (.int .u8 193)) (.int .u8 op) (.int .u8 193))) λt80=>CD t80 (λj82=>zF Tryz.prog (.func (.func 64) #[] #[]) [rp rb] h8 (ba (rp b7) j82)) (λj82=>j82 [] h8) (λvs83 h84=>opt (zf Tryz.prog 42 (rp b7) h84) λt86=>opt (nb [t86] (uv Tryz.prog 42 (rp b6) t86 h84)) λh92=>opt (zf Tryz.prog 42 (rp b6) h92) λr0=>rv [r0] h92 (JK lo rb bv L (if op=193 then (⟨11,o.rm,0,sb,0,0,(zG bs (zY (decide (¬o.reg=4 /\ ¬o.reg=7)) (k,bd))).1⟩,(zG bs (zY (decide (¬o.reg=4 /\ ¬o.reg=7)) (k,bd))).2)
   else (⟨12,o.rm,0,sb,0,0,0⟩,zY (decide (¬o.reg=4 /\ ¬o.reg=7)) (k,bd))))):=λ{h8 q} s8 eq=>by
    rw[<- eq];rcases yy with rfl|rfl
    ·rw[aai rfl];simp only[EE];refine Kd (U0 B s8) ?_;rintro v h9 ⟨rfl,s9⟩;have nb:=WV B.byte (k,q);have w:=yM nb.1 (by omega);simp only[EE,Q1,kN,zc,ba,w];refine yf (s9.p 1) (by simp) rfl λh10 s10=>?_;simp only[EE,LF,zw];refine yf s10 (by simp[wh]) rfl λh11 s11=>?_;exact lD ⟨11,o.rm,0,sb,0,0,(zG bs (k,q)).1⟩ rfl (s11.f [0,2,1]) λh' s'=>⟨rfl,(s'.f [1]).drop⟩
    ·rw[aaf (by decide)];simp only[EE,Int.reduceEq];exact lD ⟨12,o.rm,0,sb,0,0,0⟩ rfl (s8.f [1,2,0]) λh' s'=>⟨rfl,(s'.f [1]).drop⟩
   cases bd with
   |true=>
    simp only[EE,zu,Y6,ZI,xa,Qr,Qs,Qt,Qu,gr];refine yf (s7.p 3) (by simp) rfl λh8 s8=>?_;exact go (q:=true) s8 rfl
   |false=>
    by_cases d4:o.reg=4
    ·simp only[EE,zu,zg,Y6,ZI,wB,xa,Qr,Qs,Qt,Qu,g5,gr,d4];refine yf (s7.p 3) (by simp) rfl λh8 s8=>?_;exact go (q:=false) s8 (by simp[zY,d4])
    ·simp only[EE,zu,zg,Y6,ZI,wB,xa,Qr,Qs,Qt,Qu,g5,gr,d4];refine yf (s7.p 3) (by simp) rfl λh8 s8=>?_;exact go (q := !decide (o.reg=7)) s8 (by simp[zY,d4])
  have g5:=(s6.p 2).get;by_cases d7:o.reg=7
  ·have e7:decide (o.reg=7)=true:=aa0 d7;simp only[EE,zu,zg,Q1,wB,zn,g5,e7];refine yf s6 (by simp[wh]) rfl λh7 s7=>?_;exact tail 20 (by rw[aai d7]) s7
  ·have e7:decide (o.reg=7)=false:=aaY d7;simp only[EE,zu,zg,wB,g5,e7];exact tail 19 (by rw[aaf d7]) s6
 by_cases c4:op=193
 ·rw[aai c4];have:=λJ=>shift J (.inl c4);rw[aai c4]at this;subst c4;simp only[EE,nth,Int.reduceEq,Qv,Zj,jg,qO];exact this _
 rw[aaf c4];by_cases c5:op=211
 ·rw[aai c5];have:=λJ=>shift J (.inr c5);rw[aaf c4]at this;subst c5;simp only[EE,nth,Int.reduceEq,Qv,Zj,jg,qO];exact this _
 rw[aaf c5];simp only[EE,nth,Qv,Zj,jg,qO,c1,c2,c3,c4,c5];exact bad
end
section
variable {lo:yT}{h:za}{L:List HP}{bv:aaa}{bs:List Int}{rb:Nat}{st:RS}{o:pD}{op second ahead:Int}{b b2:Nat}{c2:List aaa}
theorem zeq(B:aD lo bv bs)(r0:0<=o.reg)(r1:o.reg<16)(s:Sat lo h (pt rb (Xg bv st)::L)):DC Tryz.prog 86 [rp rb,.int .u8 op,.int .u8 second,cg o] h (JK lo rb bv L (kJ bs op second o st)):=by
 have bn:=B.nb;apply Pd;unfold Sm cg;simp only[EE,Value.cells,uw];refine qc s λb7 h2 s2=>?_;refine qc s2 λb8 h4 s4=>?_;refine X2 (ND op _) ?_;have g7:=(s4.p 1).get;have gr:=(s4.p 2).get;unfold kJ;by_cases c0:qP op=0
 ·rw[aaf (λe=>e c0)];have goK:∀{K},ko (rp b7) (rp b8) K (.int .u8 op) (rp rb) (.int .u8 second) (.int .i64 0) h4->ko (rp b7) (rp b8) K (.int .u8 op) (rp rb) (.int .u8 second) (.int .i64 (qP op)) h4:=λx=>by rw[c0];exact x
  apply goK;by_cases c1:op=137
  ·rw[aai c1];subst c1;simp only[EE,↓zq,Nat.reduceAdd,zu,zg,yI,bw,wB,ve,C4,ZM,ko,g7];exact kK ⟨1,o.rm,o.reg,0,0,0,0⟩ rfl s4 λh' s'=>⟨rfl,s'.drop⟩
  rw[aaf c1];by_cases c2:op=99
  ·rw[aai c2];subst c2;simp only[EE,↓zq,Nat.reduceAdd,Int.reduceEq,zu,zg,yI,W2,wB,ve,C3,YF,ZM,ko,g7];exact kK ⟨10,o.reg,o.rm,4,0,0,0⟩ rfl s4 λh' s'=>⟨rfl,s'.drop⟩
  rw[aaf c2];by_cases c3:op=57
  ·rw[aai c3];subst c3;simp only[EE,↓zq,Nat.reduceAdd,Int.reduceEq,zu,zg,yI,bw,wB,ve,C1,XQ,YF,ZM,ko,g7];exact kK ⟨15,o.rm,o.reg,0,0,0,0⟩ rfl s4 λh' s'=>⟨rfl,s'.drop⟩
  rw[aaf c3];by_cases c4:op=105
  ·rw[aai c4];subst c4;obtain⟨k,bd⟩:=st
   have go:∀{h5:za} {q:Bool},Sat lo h5 (pt rb (Xg bv (k,q))::pt b8 (.cells [.int .i64 0,.int .i64 0,.int .i64 0,.int .i64 0,.int .i64 0,.int .i64 0,.int .i64 0] 42)::pt b7 (.cells (WX o) 132)::L)->(k,q)=zY (decide (¬o.reg=o.rm)) (k,bd) ->
     VM Tryz.prog 65 [rp rb,.int .i64 4] 4 [(1,.pointer (some ⟨b7,0,none⟩))] h5 (tE (.int .i64 o.reg) (rp b8) (JK lo rb bv L (⟨8,o.reg,0,13,0,0,(wI bs (zY (decide (¬o.reg=o.rm)) (k,bd))).1⟩,(wI bs (zY (decide (¬o.reg=o.rm)) (k,bd))).2))):=λ{h5 q} s5 e=>by
    rw[<- e];refine T2 B (s5.f [2,0,1]) λh6 s6=>?_;unfold tE;simp only[EE,Nat.reduceAdd,yI,Q2];exact kK ⟨8,o.reg,0,13,0,0,(wI bs (k,q)).1⟩ rfl (s6.f [2,1,0]) λh' s'=>⟨rfl,(s'.f [1,0]).drop⟩
   cases bd with
   |true=>
    simp only[EE,↓zq,Int.reduceEq,zu,Y6,ZI,xa,tF,tG,tH,lZ,WG,XQ,YF,ZM,ko,gr];refine yf (s4.p 2) (by simp) rfl λh5 s5=>?_;have g7:=(s5.p 2).get;simp only[EE,zu,zg,wB,g7];exact go (q:=true) s5 rfl
   |false=>
    simp only[EE,↓zq,Int.reduceEq,zu,zg,Y6,ZI,wB,ve,xa,tF,tG,tH,lZ,WG,XQ,YF,ZM,ko,g7,gr];refine yf (s4.p 2) (by simp) rfl λh5 s5=>?_;have g7:=(s5.p 2).get;simp only[EE,zu,zg,wB,g7];exact go (q := !decide (o.reg=o.rm)) s5 (by simp[zY])
  rw[aaf c4];by_cases c5:op=15
  ·rw[aai c5];subst c5;by_cases e1:second=175
   ·rw[aai e1];subst e1;simp only[EE,↓zq,Nat.reduceAdd,Int.reduceEq,zu,zg,yI,W2,wB,ve,Hl,iA,Kl,WG,XQ,YF,ZM,ko,g7];exact kK ⟨7,o.reg,o.rm,13,0,0,0⟩ rfl s4 λh' s'=>⟨rfl,s'.drop⟩
   rw[aaf e1];by_cases e2:second=190
   ·rw[aai e2];subst e2;simp only[EE,↓zq,Nat.reduceAdd,Int.reduceEq,zu,zg,yI,W2,wB,ve,Hk,tI,iA,Kl,WG,XQ,YF,ZM,ko,g7];exact kK ⟨10,o.reg,o.rm,3,0,0,0⟩ rfl s4 λh' s'=>⟨rfl,s'.drop⟩
   rw[aaf e2];simp only[EE,↓zq,Int.reduceEq,ZI,xa,tI,iA,C0,Kl,WG,XQ,YF,ZM,ko,e1,e2];refine yf (s4.p 2) (by simp) rfl λh5 s5=>?_;simp only[EE,Nat.reduceAdd,yI,bu];exact kK VQ rfl (s5.f [1,0,2]) λh' s'=>⟨rfl,by rw[J1];exact(s'.f [1,0]).drop⟩
  rw[aaf c5];simp only[EE,↓zq,Nat.reduceAdd,qQ,mw,Kl,WG,XQ,YF,ZM,C5,ko,g7,c1,c2,c3,c4,c5];refine Kd (zaK B r0 r1 (s4.f [2,0,1])) ?_;rintro v h5 ⟨rfl,s5⟩;simp only[EE,Nat.reduceAdd,yI];exact kK _ rfl (s5.f [1,0,2]) λh' s'=>⟨rfl,(s'.f [1,0]).drop⟩
 ·rw[aai c0];simp only[EE,Nat.reduceAdd,zu,zg,yI,W2,wB,ve,Hj,ko,g7,c0];exact kK ⟨7,o.rm,o.reg,qP op,0,0,0⟩ rfl s4 λh' s'=>⟨rfl,s'.drop⟩
end
abbrev vA:List aaa:=[.int .i64 0,.int .i64 0,.int .i64 0,.int .i64 0,.int .i64 0,.int .i64 0,.int .i64 0]
section
variable {lo:yT}{h:za}{L:List HP}{bv:aaa}{bs:List Int}{rb:Nat}{st:RS}{op second ahead:Int}{b b2 b4:Nat}{c2:List aaa}
theorem T9(b:List Int)(ahead z reg rm:Int)(t:RS):(KL b ahead z reg rm t).1.reg=reg:=by
 unfold KL;split
 ·rfl
 ·split
  ·rfl
  ·split <;> rfl
theorem zbT(B:xJ bs)(ahead:Int)(st:RS):0<=(uZ bs ahead st).1.reg/\(uZ bs ahead st).1.reg<16:=by
 rw[Mz,T9];have:=WV B st;unfold qT;split <;> omega
theorem SU(B:aD lo bv bs)(a0:0<=ahead)(a1:ahead<256)(J:List aaa)
  (s:Sat lo h (pt rb (Xg bv st)::pt b4 (.cells vA 42)::L)) :
  mr (.int .u8 op) (rp rb) (.int .u8 ahead) (rp b4) (JK lo rb bv L (if op=15 then qh bs ahead op (zG bs st).1 (zG bs st).2 else qh bs ahead op 0 st)) J h:=by
 have bn:=B.nb
 have core:∀{h:za} {st:RS} {second:Int} {X:zC×RS},X=qh bs ahead op second st->Sat lo h (pt rb (Xg bv st)::pt b4 (.cells vA 42)::L) ->
   zF Tryz.prog (.func (.func 84) #[] #[]) [rp rb,.int .u8 ahead] h (mq (rp rb) (.int .u8 op) (rp b4) (JK lo rb bv L X) [.int .u8 second]):=λ{h st second X} eX s=>by
  refine Kd (gB B a0 a1 s) ?_;rintro v h1 ⟨rfl,s1⟩;obtain⟨r0,r1⟩:=zbT B.byte ahead st
  have eX:X=(if (uZ bs ahead st).1.place=true then (⟨6,(uZ bs ahead st).1.reg,0,0,0,0,(uZ bs ahead st).1.k⟩,zY (decide (¬op=141)) (uZ bs ahead st).2)
   else if (uZ bs ahead st).1.memory=true then u0 op second (uZ bs ahead st).1 (uZ bs ahead st).2
   else kJ bs op second (uZ bs ahead st).1 (uZ bs ahead st).2):=eX
  generalize (uZ bs ahead st).1=o at r0 r1 eX ⊢;generalize (uZ bs ahead st).2=st at s1 eX ⊢;rw[eX];unfold mq;simp only[EE,Value.cells,Ap];refine qc s1 λb7 h2 s2=>?_;unfold cg;simp only[EE,Nat.reduceAdd,Al];refine yf s2 (by simp) rfl λh3 s3=>?_;have s3:Sat lo h3 (pt b7 (.cells (WX o) 132)::pt rb (Xg bv st)::pt b4 (.cells vA 42)::L):=s3;have g7:=s3.get;have gr:=(s3.p 1).get;by_cases hp:o.place=true
  ·rw[aai hp];obtain⟨k,bd⟩:=st;cases bd with
   |true=>
    simp only[EE,↓zq,zu,Y6,ZI,UR,xa,mi,mj,ml,Ko,g7,gr,hp];refine yf (s3.p 1) (by simp) rfl λh4 s4=>?_;have g7:=(s4.p 1).get;simp only[EE,Nat.reduceAdd,zu,yU,zg,yI,yQ,wB,KC,g7];exact kK ⟨6,o.reg,0,0,0,0,o.k⟩ rfl (s4.f [2,0,1]) λh' s'=>⟨rfl,(s'.f [1]).drop⟩
   |false=>
    simp only[EE,↓zq,zu,Y6,ZI,UR,xa,mi,mj,ml,Ko,g7,gr,hp];refine yf (s3.p 1) (by simp) rfl λh4 s4=>?_;have g7:=(s4.p 1).get;have eq:(k,!decide (op=141))=zY (decide (¬op=141)) (k,false):=by simp[zY]
    rw[<- eq];simp only[EE,Nat.reduceAdd,zu,yU,zg,yI,yQ,wB,KC,g7];exact kK ⟨6,o.reg,0,0,0,0,o.k⟩ rfl (s4.f [2,0,1]) λh' s'=>⟨rfl,(s'.f [1]).drop⟩
  rw[aaf hp];have hp2:o.place=false:=by cases e:o.place with|true=>exact absurd e hp|false=>rfl
  by_cases hm:o.memory=true
  ·rw[aai hm]
   have e:zf Tryz.prog 132 (rp b7) h3=some (cg o):=by
    unfold cg;simp only[EE,Nat.reduceAdd,qQ,mw,g7]
   simp only[EE,nth,↓zq,zu,Y6,UQ,UR,Dh,mo,Ko,g7,hp2,hm,e];refine Kd (SE bn (s3.f [1,0,2])) ?_;rintro v h5 ⟨rfl,s5⟩;simp only[EE,Nat.reduceAdd,yI];exact kK _ rfl (s5.f [2,0,1]) λh' s'=>⟨rfl,(s'.f [1]).drop⟩
  rw[aaf hm];have hm2:o.memory=false:=by cases e:o.memory with|true=>exact absurd e hm|false=>rfl
  have e:zf Tryz.prog 132 (rp b7) h3=some (cg o):=by
   unfold cg;simp only[EE,Nat.reduceAdd,qQ,mw,g7]
  simp only[EE,nth,↓zq,zu,Y6,UQ,UR,mo,Ko,Di,g7,hp2,hm2,e];refine Kd (zeq B r0 r1 (s3.f [1,0,2])) ?_;rintro v h5 ⟨rfl,s5⟩;simp only[EE,Nat.reduceAdd,yI];exact kK _ rfl (s5.f [2,0,1]) λh' s'=>⟨rfl,(s'.f [1]).drop⟩
 unfold mr;by_cases c:op=15
 ·rw[aai c];have d:decide (op=15)=true:=aa0 c;simp only[EE,d];refine Kd (U0 B s) ?_;rintro v h1 ⟨rfl,s1⟩;exact core rfl s1
 ·rw[aaf c];simp only[EE,c];exact core rfl s
theorem zeJ(B:aD lo bv bs)(a0:0<=ahead)(a1:ahead<256)(s:Sat lo h (pt rb (Xg bv st)::L)):DC Tryz.prog 67 [rp rb,.int .u8 ahead] h (JK lo rb bv L (Xc bs ahead st)):=by
 have bn:=B.nb;apply Ph;unfold Sr;simp only[EE,Value.cells,uw];refine qc s λb4 h2 s2=>?_;refine Kd (U0 B (s2.f [1,0])) ?_;rintro v h3 ⟨rfl,s3⟩;have zb:=WV B.byte st
 have eX:Xc bs ahead st=(let t:=zG bs st
  if 184<=t.1/\t.1<=191 then (⟨2,t.1-184+ahead%2*8,0,0,0,0,(Ul bs (zY (decide (ahead/4%2=1)) t.2)).1⟩,(Ul bs (zY (decide (ahead/4%2=1)) t.2)).2)
  else if t.1=153 then (⟨13,0,0,0,0,0,0⟩,zY (decide (¬ahead=72)) t.2)
  else if t.1=237 then (⟨25,0,0,0,0,0,0⟩,zY (decide (¬ahead=72)) t.2)
  else if t.1=239 then (⟨26,0,0,0,0,0,0⟩,zY (decide (¬ahead=72)) t.2)
  else if t.1=15 then qh bs ahead t.1 (zG bs t.2).1 (zG bs t.2).2
  else qh bs ahead t.1 0 t.2):=rfl
 rw[eX];simp only[];generalize (zG bs st).1=z at zb ⊢;generalize (zG bs st).2=st at s3 ⊢;obtain⟨z0,z1⟩:=zb;unfold Dj;have f4:=SV a0 a1;have f1:=mF a0 a1;have g:=s3.get;by_cases c1:184<=z/\z<=191
 ·rw[aai c1];obtain⟨c1,c2⟩:=c1;have c1':z ≥ 184:=c1
  have w1:IntKind.wrap .u8 (z-184)=z-184:=by
   simp only[IntKind.wrap,IntKind.bits,IntKind.signed];simp;omega
  have w2:=yM (z:=z-184) (by omega) (by omega);have BA:ahead%2=0\/ahead%2=1:=by omega
  have w3:=yM (z:=ahead%2) (by omega) (by omega);have w4:=yM (z:=ahead%2*8) (by omega) (by omega);have w5:=yM (z:=z-184+ahead%2*8) (by omega) (by omega);obtain⟨k,bd⟩:=st
  have go:∀{h5:za} {q:Bool},Sat lo h5 (pt rb (Xg bv (k,q))::pt b4 (.cells vA 42)::L)->(k,q)=zY (decide (ahead/4%2=1)) (k,bd) ->
     zF Tryz.prog (.func (.func 65) #[] #[]) [rp rb,.int .i64 8] h5 (t7 (.int .i64 (z-184+ahead%2*8)) (rp b4) (JK lo rb bv L (⟨2,z-184+ahead%2*8,0,0,0,0,(Ul bs (zY (decide (ahead/4%2=1)) (k,bd))).1⟩,(Ul bs (zY (decide (ahead/4%2=1)) (k,bd))).2))):=λ{h5 q} s5 e=>by
   rw[<- e];refine Kd (zej B s5) ?_;rintro v h6 ⟨rfl,s6⟩;unfold t7;simp only[EE,Nat.reduceAdd,yI,yQ];exact kK ⟨2,z-184+ahead%2*8,0,0,0,0,(Ul bs (k,q)).1⟩ rfl (s6.f [1,0]) λh' s'=>⟨rfl,s'⟩
  cases bd with
  |true=>
   simp only[EE,zu,Y6,ZI,xa,iC,iD,iE,iF,WI,g,c1',c2];refine yf s3 (by simp) rfl λh4 s4=>?_;simp only[EE,qC,f1,w1,w2,w3,w4,w5];exact go (q:=true) s4 rfl
  |false=>
   by_cases q4:ahead/4%2=1
   ·rw[aai q4]at f4;simp only[EE,Int.reduceEq,zu,Y6,ZI,xa,iC,iD,iE,iF,WI,g,c1',c2,f4];refine yf s3 (by simp) rfl λh4 s4=>?_;simp only[EE,qC,f1,w1,w2,w3,w4,w5];exact go (q:=true) s4 (by simp[zY,q4])
   ·rw[aaf q4]at f4;simp only[EE,zu,Y6,ZI,xa,iC,iD,iE,iF,WI,g,c1',c2,f4];refine yf s3 (by simp) rfl λh4 s4=>?_;simp only[EE,qC,f1,w1,w2,w3,w4,w5];exact go (q:=false) s4 (by simp[zY,q4])
 rw[aaf c1]
 have into:∀{R:aaa->za->Prop},mu (.int .u8 z) (rp rb) (.int .u8 ahead) (rp b4) R [] h3->opt (nb [.int .u8 z,.int .u8 184] (zM Tryz.prog .geq 5 (.tmp 9) (.const (.int .u8 184)) (.int .u8 z) (.int .u8 184))) λt11=>GD t11 true (λk4=>k4 (.int .u8 z) h3) (WI t11 (rp rb) (.int .u8 ahead) (.int .u8 z) (rp b4) R) h3:=λ{R} x=>by
  by_cases d1:z ≥ 184
  ·have d2:¬z<=191:=λe=>c1 ⟨d1,e⟩;simp only[EE,WI,d1,d2];exact x
  ·simp only[EE,WI,d1];exact x
 refine into ?_;unfold mu
 have one:∀(n:Int) {R:aaa->za->Prop},(∀h4 q,(st.1,q)=zY (decide (¬ahead=72)) st->Sat lo h4 (pt rb (Xg bv (st.1,q))::pt b4 (.cells vA 42)::L)->BK (bp (.int .u8 z) (rp b4) h4 R) (me (rp b4) R))->∀J,mh (rp rb) h3 (.int .u8 ahead) (.int .u8 z) (rp b4) R J:=λn {R} k J=>by
  unfold mh;obtain⟨kk,bd⟩:=st;cases bd with
  |true=>
   simp only[EE,zu,Y6,xa,mg,g];unfold mf;simp only[EE,ZI,xa];refine yf s3 (by simp) rfl λh4 s4=>?_;exact k h4 true rfl s4
  |false=>
   simp only[EE,zu,Y6,xa,mg,g];unfold mf;simp only[EE,ZI,xa];refine yf s3 (by simp) rfl λh4 s4=>?_;exact k h4 (!decide (ahead=72)) (by simp[zY]) s4
 by_cases c2:z=153
 ·rw[aai c2];subst c2;simp only[EE,Kp,Kq];refine one 0 (λh4 q e s4=>?_) _;rw[<- e];simp only[EE,↓zq,Nat.reduceAdd,yI,uk,Hw,bp];exact kK ⟨13,0,0,0,0,0,0⟩ rfl (s4.f [1,0]) λh' s'=>⟨rfl,s'⟩
 rw[aaf c2];by_cases c3:z=237
 ·rw[aai c3];subst c3;simp only[EE,Int.reduceEq,Kp,Kq];refine one 0 (λh4 q e s4=>?_) _;rw[<- e];simp only[EE,↓zq,Nat.reduceAdd,Int.reduceEq,yI,uk,Hv,t8,bp];exact kK ⟨25,0,0,0,0,0,0⟩ rfl (s4.f [1,0]) λh' s'=>⟨rfl,s'⟩
 rw[aaf c3];by_cases c4:z=239
 ·rw[aai c4];subst c4;simp only[EE,Int.reduceEq,Kp,Kq];refine one 0 (λh4 q e s4=>?_) _;rw[<- e];simp only[EE,↓zq,Nat.reduceAdd,Int.reduceEq,yI,uk,t8,bp,me];exact kK ⟨26,0,0,0,0,0,0⟩ rfl (s4.f [1,0]) λh' s'=>⟨rfl,s'⟩
 rw[aaf c4];simp only[EE,Kp,Kq,c2,c3,c4];exact SU B a0 a1 _ s3
end
open Go.Eb (vu yw y9 yE m8)
section
variable {lo:yT}{h:za}{L:List HP}{bv yv:aaa}{bs ys:List Int}{rb:Nat}{st:RS}{op second ahead:Int}{b b2 b4 b8:Nat}{c2:List aaa}
theorem IV(b:List Int)(z:Int):∀(ys:List Int) (st:RS),Xb b (ys++[z]) st=zY (decide (¬(zG b (Xb b ys st)).1=z)) (zG b (Xb b ys st)).2
 |[],st=>rfl
 |y::ys,st=>by
  show Xb b (ys++[z]) _=_;rw[IV b z ys];rfl
theorem zax{n:Nat}{J:List aaa->za->Prop}(B:aD lo bv bs)(hn:ys.length=n)(Ui:ys.length<=100)(s:Sat lo h (vu yv ys::pt rb (Xg bv st)::L))(k:∀h',Sat lo h' (vu yv ys::pt rb (Xg bv (Xb bs ys st))::L)->J [] h') :
  LP (fS (.int .i64 n) J yv (rp rb)) [.int .i64 0] h:=by
 subst hn;have bn:=B.nb;refine qo (λm vs h'=>∃j:Nat,j<=ys.length/\m=ys.length-j/\vs=[.int .i64 j]/\Sat lo h' (vu yv ys::pt rb (Xg bv (Xb bs (ys.take j) st))::L)) ys.length ⟨0,aaP _,rfl,rfl,s⟩ ?_;rintro m vs h1 ⟨j,hj,rfl,rfl,s1⟩;unfold fS;by_cases hc:(j:Int)<(ys.length:Int)
 ·obtain⟨z,hz⟩:∃z,ys[j]? = some z:=⟨_,aag (by omega)⟩;obtain⟨b,o,c,t,a1,_,a2,a3⟩:=LI (yw s1 aak) hz;have et:ys.take (j+1)=ys.take j++[z]:=by rw[abd,hz];rfl
  have hin:=inc (show j<4611686018427387904 by omega);simp only[EE,nth,↓zq,zu,Vs,tt,tu,hc,a1,a2,a3];refine Kd (U0 B (s1.f [1,0])) ?_;rintro v h2 ⟨rfl,s2⟩;have es:=IV bs z (ys.take j) st;rw[<- et]at es;generalize (zG bs (Xb bs (ys.take j) st)).1=w at es ⊢;generalize (zG bs (Xb bs (ys.take j) st)).2=t2 at es s2 ⊢;have g:=s2.get;obtain⟨kk,bd⟩:=t2
  have fin:∀{h3 q},(kk,q)=Xb bs (ys.take (j+1)) st->Sat lo h3 (pt rb (Xg bv (kk,q))::vu yv ys::L)->(λvs' h'=>∃m,m<ys.length-j /\ ∃j:Nat,j<=ys.length/\m=ys.length-j/\vs'=[Value.int .i64 j]/\Sat lo h' (vu yv ys::pt rb (Xg bv (Xb bs (ys.take j) st))::L)) [.int .i64 (j+1:Nat)] h3:=λ{h3 q} e s3=>
   ⟨ys.length-(j+1),by omega,j+1,by omega,rfl,rfl,by rw[<- e];exact s3.f [1,0]⟩
  by_cases hw:w=z
  ·simp only[EE,zu,Y6,ZI,xa,fP,fQ,fR,hw,g];refine yf s2 (by simp) rfl λh3 s3=>?_;simp only[EE,nth,hin];exact fin (q:=bd) (by rw[es];simp[zY,hw]) s3
  ·simp only[EE,ZI,xa,fP,fQ,fR,hw];refine yf s2 (by simp) rfl λh3 s3=>?_;simp only[EE,nth,hin];exact fin (q:=true) (by rw[es];simp[zY,hw]) s3
 ·have:j=ys.length:=by omega
  subst this;rw[abv]at s1;simp only[EE,nth,hc];exact k _ s1
theorem zbS(b:List Int)(ahead z reg rm:Int)(t:RS):(KL b ahead z reg rm t).1.rm=rm:=by
 unfold KL;split
 ·rfl
 ·split
  ·rfl
  ·split <;> rfl
theorem zem(B:xJ bs)(ahead:Int)(st:RS):0<=(uZ bs ahead st).1.rm/\(uZ bs ahead st).1.rm<16:=by
 rw[Mz,zbS];have:=WV B st;unfold ZY;split <;> omega
theorem zf5{b9 k:Nat}{bd:Bool}{o:pD}{cc:Int}(B:aD lo bv bs)(r0:0<=o.rm)(r1:o.rm<16)(s:Sat lo h (pt b9 (.cells (WX o) 132)::pt rb (Xg bv (k,bd))::pt b8 (.cells (zC.row ⟨17,0,0,0,cc,0,0⟩) 42)::pt b4 (.cells vA 42)::L)){t1 t2:Bool}{v2:aaa}(hv:t1=false->v2=.bool t2) :
  Qq (.bool t1) (rp rb) (rp b9) (rp b8) (rp b4) (JK lo rb bv L (⟨17,o.rm,0,0,cc,0,0⟩,Xb bs [zj 72 o.rm o.rm,15,182,zW o.rm o.rm] (k,t1||t2))) v2 h:=by
 have bn:=B.nb;have g9:=s.get;unfold Qq;cases t1 with
 |true=>
  simp only[EE,ZI,xa];refine yf (s.p 1) (by simp) rfl λh1 s1=>?_;have s1:Sat lo h1 (pt rb (Xg bv (k,true))::pt b9 (.cells (WX o) 132)::pt b8 (.cells (zC.row ⟨17,0,0,0,cc,0,0⟩) 42)::pt b4 (.cells vA 42)::L):=s1;have g9:=(s1.p 1).get;simp only[EE,zu,zg,Q1,ve,zJ,g9];refine yf (s1.p 2) (by simp) rfl λh2 s2=>?_;have s2:Sat lo h2 (pt b8 (.cells (zC.row ⟨17,o.rm,0,0,cc,0,0⟩) 42)::pt rb (Xg bv (k,true))::pt b9 (.cells (WX o) 132)::pt b4 (.cells vA 42)::L):=s2;have s3:=yE s2 [15,182] 4 (by decide);have g8:(h2.push (.cells [.int .u8 15,.int .u8 182] 5)).get b8=some (.cells (zC.row ⟨17,o.rm,0,0,cc,0,0⟩) 42):=(s3.p 1).get;simp only[EE,zu,zg,xe,zJ,g8];refine Kd (m8 (base:=72) (.inl rfl) (yw s3 aak) (by simp) r0 r1 r0 r1) ?_;rintro r h4 s4;have s5:=s3.join s4;have s5:Sat lo h4 (vu r [zj 72 o.rm o.rm,15,182,zW o.rm o.rm]::vu (.slice (some ⟨h2.next,0,none⟩) 2 4) [15,182]::pt b8 (.cells (zC.row ⟨17,o.rm,0,0,cc,0,0⟩) 42)::pt rb (Xg bv (k,true))::pt b9 (.cells (WX o) 132)::pt b4 (.cells vA 42)::L):=s5;have s6:=s5.f [0,3,1,2,4,5];have ln:=λq h'=>zX (yw s6 aak) q h';have rn:=y9 s5;unfold aY;simp only[EE,↓zq,Nat.reduceAdd,ln,rn];refine zax B rfl (by simp) s6 λh5 s7=>?_;exact lD ⟨17,o.rm,0,0,cc,0,0⟩ rfl (s7.f [3,5,1,0,2,4]) λh' s'=>⟨rfl,(s'.f [1,2,3,0]).drop.drop.drop⟩
 |false=>
  obtain rfl:=hv rfl;simp only[EE,ZI,xa];refine yf (s.p 1) (by simp) rfl λh1 s1=>?_;have s1:Sat lo h1 (pt rb (Xg bv (k,t2))::pt b9 (.cells (WX o) 132)::pt b8 (.cells (zC.row ⟨17,0,0,0,cc,0,0⟩) 42)::pt b4 (.cells vA 42)::L):=s1;have g9:=(s1.p 1).get;simp only[EE,zu,zg,Q1,ve,zJ,g9];refine yf (s1.p 2) (by simp) rfl λh2 s2=>?_;have s2:Sat lo h2 (pt b8 (.cells (zC.row ⟨17,o.rm,0,0,cc,0,0⟩) 42)::pt rb (Xg bv (k,t2))::pt b9 (.cells (WX o) 132)::pt b4 (.cells vA 42)::L):=s2;have s3:=yE s2 [15,182] 4 (by decide);have g8:(h2.push (.cells [.int .u8 15,.int .u8 182] 5)).get b8=some (.cells (zC.row ⟨17,o.rm,0,0,cc,0,0⟩) 42):=(s3.p 1).get;simp only[EE,zu,zg,xe,zJ,g8];refine Kd (m8 (base:=72) (.inl rfl) (yw s3 aak) (by simp) r0 r1 r0 r1) ?_;rintro r h4 s4;have s5:=s3.join s4;have s5:Sat lo h4 (vu r [zj 72 o.rm o.rm,15,182,zW o.rm o.rm]::vu (.slice (some ⟨h2.next,0,none⟩) 2 4) [15,182]::pt b8 (.cells (zC.row ⟨17,o.rm,0,0,cc,0,0⟩) 42)::pt rb (Xg bv (k,t2))::pt b9 (.cells (WX o) 132)::pt b4 (.cells vA 42)::L):=s5;have s6:=s5.f [0,3,1,2,4,5];have ln:=λq h'=>zX (yw s6 aak) q h';have rn:=y9 s5;unfold aY;simp only[EE,↓zq,Nat.reduceAdd,ln,rn];refine zax B rfl (by simp) s6 λh5 s7=>?_;exact lD ⟨17,o.rm,0,0,cc,0,0⟩ rfl (s7.f [3,5,1,0,2,4]) λh' s'=>⟨rfl,(s'.f [1,2,3,0]).drop.drop.drop⟩
theorem TX(B:aD lo bv bs)(a0:0<=ahead)(a1:ahead<256)(s:Sat lo h (pt rb (Xg bv st)::L)):DC Tryz.prog 68 [rp rb,.int .u8 ahead] h (JK lo rb bv L (ZE bs ahead st)):=by
 have bn:=B.nb;apply Hc;unfold Hb;simp only[EE,Value.cells,uw];refine qc s λb4 h2 s2=>?_;refine Kd (U0 B (s2.f [1,0])) ?_;rintro v h3 ⟨rfl,s3⟩;have zb:=WV B.byte st
 have eX:ZE bs ahead st=(let t:=zG bs st
  if t.1=136\/t.1=137 then
   (⟨4,(uZ bs ahead t.2).1.reg,(uZ bs ahead t.2).1.rm,if t.1=136 then 1 else 4,0,0,(uZ bs ahead t.2).1.k⟩,zY (!(uZ bs ahead t.2).1.memory) (uZ bs ahead t.2).2)
  else if t.1=15 then FJ bs ahead t.2
  else (VQ,zY true t.2)):=rfl
 rw[eX];simp only[];generalize (zG bs st).1=z at zb ⊢;generalize (zG bs st).2=st at s3 ⊢;obtain⟨z0,z1⟩:=zb;by_cases c1:z=136\/z=137
 ·rw[aai c1]
  have into:∀{R:aaa->za->Prop},(∀J:List aaa->za->Prop,(λj10=>zF Tryz.prog (.func (.func 84) #[] #[]) [rp rb,.int .u8 ahead] h3 (fO (rp rb) (.int .u8 z) (rp b4) R)) J)->BK (XP (.int .u8 z) h3 (rp rb) (.int .u8 ahead) (rp b4) R) (a8 (rp rb) (rp b4) R):=λ{R} x=>by
   rcases c1 with rfl|rfl
   ·simp only[EE,nth,↓zq,Vr,XP];exact x (λ_ _=>True)
   ·simp only[EE,nth,↓zq,Int.reduceEq,Vr,XP];exact x (λ_ _=>True)
  refine into λJ=>?_;refine Kd (gB B a0 a1 s3) ?_;rintro v h4 ⟨rfl,s4⟩;generalize (uZ bs ahead st).1=o;generalize (uZ bs ahead st).2=st at s4 ⊢;unfold fO cg;simp only[EE,Value.cells,Ap];refine qc s4 λb6 h5 s5=>?_;simp only[EE,Nat.reduceAdd,Al];refine yf s5 (by simp) rfl λh6 s6=>?_;have s6:Sat lo h6 (pt b6 (.cells (WX o) 132)::pt rb (Xg bv st)::pt b4 (.cells vA 42)::L):=s6;have g6:=s6.get;have gr:=(s6.p 1).get;obtain⟨k,bd⟩:=st;cases bd with
  |true=>
   simp only[EE,zu,Y6,ZI,xa,fM,fN,gr];refine yf (s6.p 1) (by simp) rfl λh7 s7=>?_;have s7:Sat lo h7 (pt rb (Xg bv (k,true))::pt b6 (.cells (WX o) 132)::pt b4 (.cells vA 42)::L):=s7;have e:(k,true)=zY (!o.memory) (k,true):=rfl;rw[<- e];have g6:=(s7.p 1).get;simp only[EE,Value.cells,zu,yU,zg,uw,J9,wB,ve,KC,g6];refine qc s7 λb7 h8 s8=>?_;simp only[EE,Nat.reduceAdd,yI];refine yf s8 (by simp) rfl λh9 s9=>?_;rcases c1 with rfl|rfl
   ·simp only[EE,Q1,zn];refine yf s9 (by simp[wh]) rfl λh10 s10=>?_;exact lD ⟨4,o.reg,o.rm,1,0,0,o.k⟩ rfl (s10.f [0,3,1,2]) λh' s'=>⟨rfl,(s'.f [1,0]).drop⟩
   ·simp only[EE,Int.reduceEq];exact lD ⟨4,o.reg,o.rm,4,0,0,o.k⟩ rfl (s9.f [0,3,1,2]) λh' s'=>⟨rfl,(s'.f [1,0]).drop⟩
  |false=>
   simp only[EE,zu,Y6,ZI,UQ,xa,fM,fN,g6,gr];refine yf (s6.p 1) (by simp) rfl λh7 s7=>?_;have s7:Sat lo h7 (pt rb (Xg bv (k,!o.memory))::pt b6 (.cells (WX o) 132)::pt b4 (.cells vA 42)::L):=s7;have e:(k,!o.memory)=zY (!o.memory) (k,false):=rfl;rw[<- e];have g6:=(s7.p 1).get;simp only[EE,Value.cells,zu,yU,zg,uw,J9,wB,ve,KC,g6];refine qc s7 λb7 h8 s8=>?_;simp only[EE,Nat.reduceAdd,yI];refine yf s8 (by simp) rfl λh9 s9=>?_;rcases c1 with rfl|rfl
   ·simp only[EE,Q1,zn];refine yf s9 (by simp[wh]) rfl λh10 s10=>?_;exact lD ⟨4,o.reg,o.rm,1,0,0,o.k⟩ rfl (s10.f [0,3,1,2]) λh' s'=>⟨rfl,(s'.f [1,0]).drop⟩
   ·simp only[EE,Int.reduceEq];exact lD ⟨4,o.reg,o.rm,4,0,0,o.k⟩ rfl (s9.f [0,3,1,2]) λh' s'=>⟨rfl,(s'.f [1,0]).drop⟩
 rw[aaf c1];have n1:¬z=136:=λe=>c1 (.inl e);have n2:¬z=137:=λe=>c1 (.inr e);by_cases c2:z=15
 ·rw[aai c2];subst c2;simp only[EE,nth,↓zq,Int.reduceEq,aZ,Vr,XP];refine Kd (U0 B s3) ?_;rintro v h4 ⟨rfl,s4⟩;unfold FJ;simp only[];generalize (zG bs st).1=y;generalize (zG bs st).2=st at s4 ⊢;unfold oP;simp only[EE];refine Kd (H2 (u8 (y-144)) s4 bn) ?_;rintro v h5 ⟨rfl,s5⟩;generalize (ZT (u8 (y-144)) st).1=cc;generalize (ZT (u8 (y-144)) st).2=st at s5 ⊢;unfold oO;simp only[EE,Value.cells,uw,mE];refine qc s5 λb8 h6 s6=>?_;simp only[EE,Nat.reduceAdd,yI];refine yf s6 (by simp) rfl λh7 s7=>?_;refine Kd (gB B a0 a1 (s7.f [1,0])) ?_;rintro v h8 ⟨rfl,s8⟩;obtain⟨r0,r1⟩:=zem B.byte ahead st;generalize (uZ bs ahead st).1=o at r0 r1 ⊢;generalize (uZ bs ahead st).2=st at s8 ⊢;unfold oN cg;simp only[EE,Value.cells,Ap];refine qc s8 λb9 h9 s9=>?_;simp only[EE,Nat.reduceAdd,Al];refine yf s9 (by simp) rfl λh10 s10=>?_;obtain⟨k,bd⟩:=st;have s10:Sat lo h10 (pt b9 (.cells (WX o) 132)::pt rb (Xg bv (k,bd))::pt b8 (.cells (zC.row ⟨17,0,0,0,cc,0,0⟩) 42)::pt b4 (.cells vA 42)::L):=s10;have g9:=s10.get;have gr:=(s10.p 1).get
  have fin:∀{t1:Bool} {v2:aaa} (t2:Bool),(t1=false->v2=.bool t2)->(t1||t2)=(bd||(o.memory||o.place||decide (¬o.reg=0)))->Qq (.bool t1) (rp rb) (rp b9) (rp b8) (rp b4) (JK lo rb bv L (⟨17,o.rm,0,0,cc,0,0⟩,Xb bs [zj 72 o.rm o.rm,15,182,zW o.rm o.rm] (zY (o.memory||o.place||decide (¬o.reg=0)) (k,bd)))) v2 h10:=λ{t1 v2} t2 hv e=>by
   have:=zf5 (cc:=cc) (t1:=t1) (t2:=t2) B r0 r1 s10 hv;rw[e]at this;exact this
  cases bd with
  |true=>
   simp only[EE,zu,Y6,xa,Vo,Vp,Vq,gr];exact fin true (λe=>by cases e) (by simp)
  |false=>
   cases em:o.memory with
   |true=>
    simp only[EE,zu,Y6,UQ,xa,Vo,Vp,Vq,g9,gr,em];rw[em]at fin;exact fin true (λe=>by cases e) (by simp)
   |false=>
    rw[em]at fin;cases ep:o.place with
    |true=>
     rw[ep]at fin;simp only[EE,zu,Y6,UQ,UR,xa,Vo,Vp,Vq,g9,gr,em,ep];exact fin true (λe=>by cases e) (by simp)
    |false=>
     rw[ep]at fin;simp only[EE,zu,zg,Y6,wB,UQ,UR,xa,Vo,Vp,Vq,g9,gr,em,ep];exact fin (!decide (o.reg=0)) (λ_=>rfl) (by simp)
 ·rw[aaf c2];simp only[EE,nth,↓zq,ZI,xa,aZ,Vr,XP,a8,n1,n2,c2];refine yf s3 (by simp) rfl λh5 s5=>?_;simp only[EE,Nat.reduceAdd,yI,bu];exact kK VQ rfl (s5.f [1,0]) λh' s'=>⟨rfl,by rw[J1];exact s'⟩
end
section
variable {lo:yT}{h:za}{L:List HP}{bv:aaa}{bs:List Int}{rb:Nat}{st:RS}{b b2:Nat}{c2:List aaa}
theorem zed(z:Fin 256):IntKind.wrap .u8 ↑(BitVec.ofInt (IntKind.bits .u8) ((z.val:Nat):Int) &&& ~~~ BitVec.ofInt (IntKind.bits .u8) 5).toNat=((z.val:Nat):Int)-((z.val:Nat):Int)%2-((z.val:Nat):Int)/4%2*4:=by
 revert z;decide +kernel
theorem zec{z:Int}(h0:0<=z)(h1:z<256):IntKind.wrap .u8 ↑(BitVec.ofInt (IntKind.bits .u8) z &&& ~~~ BitVec.ofInt (IntKind.bits .u8) 5).toNat=z-z%2-z/4%2*4:=by
 obtain⟨f,rfl⟩:=UM h0 h1;exact zed f
theorem Xa(x:zC){w:aaa}{R:aaa->za->Prop}(hw:zS w=false)(l2:c2.length=7)(s:Sat lo h (pt b2 (.cells c2 42)::L))(k:∀h',Sat lo h' L->R (vB [x.val,w]) h'):opt (Eo h b2 0 x.row) λh1=>opt (zf Tryz.prog 42 (rp b2) h1) λr0=>rv [r0,w] h1 R:=by
 obtain⟨v0,v1,v2,v3,v4,v5,v6,rfl⟩:∃v0 v1 v2 v3 v4 v5 v6,c2=[v0,v1,v2,v3,v4,v5,v6]:=by
  match c2,l2 with
  |[v0,v1,v2,v3,v4,v5,v6],_=>exact⟨v0,v1,v2,v3,v4,v5,v6,rfl⟩
 refine yf s (by simp) rfl λh1 s1=>?_;have g1:=s1.get;simp only[EE,zp,Nat.reduceAdd,qQ,wK,g1,hw];exact k _ s1.drop
theorem TA(B:aD lo bv bs)(s:Sat lo h (pt rb (Xg bv (0,false))::L)):DC Tryz.prog 32 [rp rb] h (λv h'=>v=vB [(x9 bs).1.val,.bool (x9 bs).2.1]/\Sat lo h' (pt rb (Xg bv (x9 bs).2.2)::L)):=by
 have bn:=B.nb;apply Sh;unfold zcC;simp only[EE,Value.cells,uw];refine qc s λb4 h2 s2=>?_;refine Kd (U0 B (s2.f [1,0])) ?_;rintro v h3 ⟨rfl,s3⟩;have zb:=WV B.byte (0,false);unfold x9;simp only[];generalize (zG bs (0,false)).1=z at zb ⊢;generalize (zG bs (0,false)).2=st at s3 ⊢;obtain⟨z0,z1⟩:=zb;by_cases c1:z=233
 ·rw[aai c1];subst c1;simp only[EE,↓zq,Vn];refine Kd (m5 B s3) ?_;rintro v h4 ⟨rfl,s4⟩;simp only[EE,Nat.reduceAdd,yI,Kx,Nc];exact Xa ⟨18,0,0,0,0,0,(wI bs st).1⟩ rfl rfl (s4.f [1,0]) λh' s'=>⟨rfl,s'⟩
 rw[aaf c1];by_cases c2:z=232
 ·rw[aai c2];subst c2;simp only[EE,↓zq,Int.reduceEq,Uv,Vn];refine Kd (m5 B s3) ?_;rintro v h4 ⟨rfl,s4⟩;simp only[EE,Nat.reduceAdd,yI,Kx,Nd];exact Xa ⟨21,0,0,0,0,0,(wI bs st).1⟩ rfl rfl (s4.f [1,0]) λh' s'=>⟨rfl,s'⟩
 rw[aaf c2];by_cases c3:z=15
 ·rw[aai c3];subst c3;simp only[EE,↓zq,Int.reduceEq,Kk,Uv,Vn];refine Kd (U0 B s3) ?_;rintro v h4 ⟨rfl,s4⟩;generalize (zG bs st).1=y;generalize (zG bs st).2=st at s4 ⊢;unfold Nh;simp only[EE];refine Kd (H2 (u8 (y-128)) s4 bn) ?_;rintro v h5 ⟨rfl,s5⟩;generalize (ZT (u8 (y-128)) st).1=cc;generalize (ZT (u8 (y-128)) st).2=st at s5 ⊢;unfold Ng;simp only[EE,Value.cells,uw,mE];refine qc s5 λb5 h6 s6=>?_;simp only[EE,Nat.reduceAdd,yI];refine yf s6 (by simp) rfl λh7 s7=>?_;refine Kd (m5 B (s7.f [1,0])) ?_;rintro v h8 ⟨rfl,s8⟩;unfold Nf;simp only[EE,LF,zw];refine yf (s8.p 1) (by simp[wh]) rfl λh9 s9=>?_;have s9:Sat lo h9 (pt b5 (.cells (zC.row ⟨19,0,0,0,cc,0,(wI bs st).1⟩) 42)::pt rb (Xg bv (wI bs st).2)::pt b4 (.cells vA 42)::L):=s9;have g5:=s9.get
  have e:zf Tryz.prog 42 (rp b5) h9=some (zC.val ⟨19,0,0,0,cc,0,(wI bs st).1⟩):=by
   simp only[EE,Nat.reduceAdd,qQ,wK,g5]
  simp only[EE,Nat.reduceAdd,yI,e];exact Xa ⟨19,0,0,0,cc,0,(wI bs st).1⟩ rfl rfl (s9.f [2,1,0]) λh' s'=>⟨rfl,(s'.f [1,0]).drop⟩
 rw[aaf c3];by_cases c4:z=195
 ·rw[aai c4];subst c4;simp only[EE,↓zq,Nat.reduceAdd,Int.reduceEq,yI,uk,Nk,aW,Kk,Uv,Vn];exact Xa ⟨22,0,0,0,0,0,0⟩ rfl rfl (s3.f [1,0]) λh' s'=>⟨rfl,s'⟩
 rw[aaf c4];have fm:=zec z0 z1;by_cases c5:z=72\/z=73\/z=76\/z=77
 ·rw[aai c5];have e72:z-z%2-z/4%2*4=72:=by rcases c5 with rfl|rfl|rfl|rfl <;> decide
  rw[e72]at fm;simp only[EE,↓zq,ir,aW,Kk,Uv,Vn,c1,c2,c3,c4,fm];refine Kd (zeJ B z0 z1 s3) ?_;rintro v h4 ⟨rfl,s4⟩;generalize (Xc bs z st).1=x;generalize (Xc bs z st).2=st at s4 ⊢;obtain⟨op,r,m,sub,cc,l,k⟩:=x;simp only[EE,Value.cells,uw,Ni];refine qc s4 λb6 h5 s5=>?_;simp only[EE,Nat.reduceAdd,yI];refine yf s5 (by simp) rfl λh6 s6=>?_;have s6:Sat lo h6 (pt b6 (.cells (zC.row ⟨op,r,m,sub,cc,l,k⟩) 42)::pt rb (Xg bv st)::pt b4 (.cells vA 42)::L):=s6;have g6:=s6.get;have hne:¬b4=b6:=(s6.f [2,0,1]).ne
  have e:zf Tryz.prog 42 (rp b6) h6=some (zC.val ⟨op,r,m,sub,cc,l,k⟩):=by
   simp only[EE,Nat.reduceAdd,qQ,wK,g6]
  simp only[EE,Nat.reduceAdd,Nat.reduceLeDiff,ab5,zu,zg,yI,zc,e,g6,Dq,hne,ab5,true_or];exact Xa ⟨op,r,m,sub,cc,l,k⟩ rfl rfl (s6.f [2,1,0]) λh' s'=>⟨rfl,(s'.f [1,0]).drop⟩
 rw[aaf c5];have e72:¬z-z%2-z/4%2*4=72:=by omega
 by_cases c6:z=64\/z=65\/z=68\/z=69
 ·rw[aai c6];have e64:z-z%2-z/4%2*4=64:=by rcases c6 with rfl|rfl|rfl|rfl <;> decide
  rw[e64]at fm;simp only[EE,↓zq,Int.reduceEq,Nj,EC,ir,aW,Kk,Uv,Vn,c1,c2,c3,c4,fm];refine Kd (TX B z0 z1 s3) ?_;rintro v h4 ⟨rfl,s4⟩;generalize (ZE bs z st).1=x;generalize (ZE bs z st).2=st at s4 ⊢;simp only[EE,Nat.reduceAdd,yI];exact Xa x rfl rfl (s4.f [1,0]) λh' s'=>⟨rfl,s'⟩
 rw[aaf c6];have e64:¬z-z%2-z/4%2*4=64:=by omega
 simp only[EE,↓zq,ZI,xa,EC,ir,aW,Kk,Uv,Vn,GC,c1,c2,c3,c4,fm,e72,e64];refine yf s3 (by simp) rfl λh5 s5=>?_;simp only[EE,Nat.reduceAdd,yI,bu];exact Xa VQ rfl rfl (s5.f [1,0]) λh' s'=>⟨rfl,by rw[J1];exact s'⟩
end
open Go.As (ZO qI)
theorem S6{P:Program}{g:FuncId}{args:List aaa}{c:aaa}{h:za}{K:aaa->za->Prop}{v:aaa}(hc:wA P g=true)(hn:yi args=true)(hn2:yi (args++[c])=true)(q:vt P g (args++[c]) h v)(k:K v h):zF P (.func (.func g) #[] #[c]) args h K :=
 ⟨hn,by simpa using hn2,.inl ⟨hc,by simpa using q.dc.mono (by rintro v1 h1 ⟨rfl,rfl⟩;exact k)⟩⟩
theorem zdm{h:za}{b:Nat}{t:TypeId}{s to:Int}(g:h.get b=some (.cells [.int .i64 to] t)):vt Tryz.prog 70 [.int .i64 s,rp b] h (.bool (decide (s=to))):=by
 apply yz;apply O4;unfold R7;have g2:h.lock.get b=some (.cells [.int .i64 to] t):=by rw[KF];exact g
 simp only[EE,zu,yU,g2];rfl
theorem Bd{to:Int}:∀{st:List Int} {n j:Nat} {s:Int},(∀i,i<j->∀s,st[i]? = some s->¬s=to)->st[j]? = some s->s=to->Bb st to n=some (n+j)
 |[],n,j,s,_,hs,_=>by cases hs
 |s0::ss,n,0,s,_,hs,e=>by
  have:s0=s:=by simpa using hs
  unfold Bb;rw[aai (by rw[this];exact e)];rfl
 |s0::ss,n,j+1,s,hno,hs,e=>by
  unfold Bb;rw[aaf (hno 0 (by omega) s0 rfl),Bd (n:=n+1) (j:=j) (λi hi s hs=>hno (i+1) (by omega) s (by simpa using hs)) (by simpa using hs) e]
  congr 1;omega
theorem Bc{to:Int}:∀{st:List Int} {n:Nat},(∀i,i<st.length->∀s,st[i]? = some s->¬s=to)->Bb st to n=none
 |[],n,_=>rfl
 |s0::ss,n,hno=>by
  unfold Bb;rw[aaf (hno 0 (by simp) s0 rfl)];exact Bc λi hi s hs=>hno (i+1) (by simp;omega) s (by simpa using hs)
def Fg(st:List Int)(to:Int):Int:=match Bb st to 0 with
 |some n=>n
 |none => -1
theorem zbt{h:za}{b:Nat}{t:TypeId}{to:Int}{sv:aaa}{st:List Int}(S:zK h sv st)(Ui:st.length<=1000000)(g:h.get b=some (.cells [.int .i64 to] t)) :
  vt Tryz.prog 69 [sv,.func (.func 70) #[] #[rp b]] h (.int .i64 (Fg st to)):=by
 apply vx;apply sC;unfold ou;replace S:=S.lock;replace g:h.lock.get b=some (.cells [.int .i64 to] t):=by rw[KF];exact g
 generalize h.lock=H at S g;have sn:=S.ai;have ln:=λr h'=>qI S r h';simp only[EE,↓zq,sn,ln];refine qo (λm vs h'=>∃j:Nat,j<=st.length/\m=st.length-j/\vs=[.int .i64 0,.int .i64 j]/\h'=H /\ ∀i,i<j->∀s,st[i]? = some s->¬s=to) st.length ⟨0,aaP _,rfl,rfl,rfl,λi hi=>by omega⟩ ?_;rintro m vs h1 ⟨j,hj,rfl,rfl,rfl,hno⟩;unfold dX;by_cases hc:(j:Int)<(st.length:Int)
 ·obtain⟨x,hx⟩:∃x,st[j]? = some x:=⟨_,aag (show j<st.length by omega)⟩;obtain⟨b',o,c,t',a1,_,a2,a3⟩:=ZO S hx;have hin:=inc (show j<4611686018427387904 by omega);simp only[EE,nth,↓zq,zu,zg,dV,hc,a1,a2,a3];refine S6 (by kernel_rfl) rfl rfl (zdm (s:=x) g) ?_;by_cases he:x=to
  ·have:Fg st to=j:=by
    unfold Fg;rw[Bd hno hx he,abt]
   simp only[EE,nth,he];rw[this];rfl
  ·simp only[EE,nth,dW,he,hin];refine⟨st.length-(j+1),by omega,j+1,by omega,rfl,rfl,λi hi s hs=>?_⟩;by_cases q:i<j
   ·exact hno i q s hs
   ·have:i=j:=(by omega);subst this;rw[hx]at hs;rw[<- abl hs];exact he
 ·have:j=st.length:=by omega
  subst this;simp only[EE,nth,Int.reduceNeg,hc]
  have:Fg st to = -1:=by
   unfold Fg;rw[Bc hno]
  rw[this];rfl
open Go.Rtl (vS)
open Go.Rm (ZG y6 xf)
open Go.Eb (BG QD)
abbrev zbs(cv sv gv:aaa)(mn pn:Int):aaa := .agg #[cv,sv,gv,.int .i64 mn,.int .i64 pn]
abbrev au(cv sv gv:aaa)(mn pn:Int):List aaa:=[cv,sv,gv,.int .i64 mn,.int .i64 pn]
structure RN (lo:yT) (cv sv gv:aaa) (code st gl:List Int):Prop where
 rc:Rd lo (y4 · cv code)
 rs:Rd lo (zK · sv st)
 rg:Rd lo (zK · gv gl)
 cn:zS cv=false
 sn:zS sv=false
 gn:zS gv=false
 cc:wG cv=true
 sc:wG sv=true
 gc:wG gv=true
 Ui:code.length<=1000000000
 zdQ:st.length<=1000000
 L5:gl.length<=1000
 gb:∀g,g∈gl->0<=g/\g<=65536
section
variable {lo:yT}{h:za}{L:List HP}{cv sv gv:aaa}{code st gl:List Int}{mn pn:Int}{x:zC}{behind:Int}
abbrev EV(lo:yT)(L:List HP)(g:Option zC)(v:aaa)(h':za):Prop:=Sat lo h' L /\ ∃(y:zC) (ok:Bool),v=vB [y.val,.bool ok]/\(match g with
 |some i=>ok=true/\y=i
 |none=>ok=false)
theorem mY{to:Int}:∀{az gl:List Int} {n j:Nat} {a g:Int},(∀i,i<j->∀a g,az[i]? = some a->gl[i]? = some g->¬(a<=to/\to-a<=g))->az[j]? = some a->gl[j]? = some g->a<=to/\to-a<=g->KJ az gl n to=some (n+j,to-a)
 |[],_,n,j,a,g,_,hs,_,_=>by cases hs
 |_::_,[],n,j,a,g,_,_,hs,_=>by cases hs
 |a0::az,g0::gl,n,0,a,g,_,ha,hg,e=>by
  have e1:a0=a:=by simpa using ha
  have e2:g0=g:=by simpa using hg
  unfold KJ;rw[aai (by rw[e1,e2];exact e),e1];rfl
 |a0::az,g0::gl,n,j+1,a,g,hno,ha,hg,e=>by
  unfold KJ;rw[aaf (hno 0 (by omega) a0 g0 rfl rfl),mY (n:=n+1) (j:=j) (λi hi a g ha hg=>hno (i+1) (by omega) a g (by simpa using ha) (by simpa using hg)) (by simpa using ha) (by simpa using hg) e]
  congr 2;omega
theorem mX{to:Int}:∀{az gl:List Int} {n:Nat},(∀(i:Nat) (a g:Int),az[i]? = some a->gl[i]? = some g->¬(a<=to/\to-a<=g))->KJ az gl n to=none
 |[],_,n,_=>rfl
 |_::_,[],n,_=>rfl
 |a0::az,g0::gl,n,hno=>by
  unfold KJ;rw[aaf (hno 0 a0 g0 rfl rfl)];exact mX λi a g ha hg=>hno (i+1) a g (by simpa using ha) (by simpa using hg)
theorem Mm{h:za}{y:aaa}{ys:List Int}(S:zE h y 1 (ys.map zV))(r:TypeId)(h':za):zB Tryz.prog .len [67] r [y] h'=some (.int .i64 ys.length,h'):=by
 rcases S with⟨rfl,e⟩|⟨b,off,cp,rfl,_⟩
 ·have:ys=[]:=by simpa using e
  subst this;rw[TK];rfl
 ·rw[TK,aau]
theorem Od{gl:List Int}(gb:∀g,g∈gl->0<=g/\g<=65536)(Ui:gl.length<=1000){i:Nat}{a:Int}(h:(vh gl 16777216)[i]? = some a):0<=a/\a<=100000000:=by
 have hi:i<gl.length:=by
  have:=(aaZ.1 h).1;rw[Up]at this;exact this
 rw[AY gl 16777216 i hi]at h;have:=bP (gl.take i) 16777216 (λg hg=>gb g (abp hg));have hl:((gl.take i).length:Int)<=1000:=by rw[aaM];omega
 rw[abl h]at this;omega
theorem gC{b b2:Nat}{c2:List aaa}(x:zC){w:Bool}{R:aaa->za->Prop}(l2:c2.length=7)(s:Sat lo h (pt b (.cells x.row 42)::pt b2 (.cells c2 42)::L))(k:∀h',Sat lo h' (pt b (.cells x.row 42)::L)->R (vB [x.val,.bool w]) h'):opt (zf Tryz.prog 42 (rp b) h) λt=>opt (nb [t] (uv Tryz.prog 42 (rp b2) t h)) λh1=>opt (zf Tryz.prog 42 (rp b2) h1) λr0=>rv [r0,.bool w] h1 R:=by
 have g:=s.get;have:=Xa (R:=R) (w := .bool w) x rfl l2 (s.f [1,0]) (λh' s'=>k h' s');obtain⟨p,r,m,sub,cc,l,kk⟩:=x
 have e:zf Tryz.prog 42 (rp b) h=some (zC.val ⟨p,r,m,sub,cc,l,kk⟩):=by
  simp only[EE,Nat.reduceAdd,qQ,wK,g]
 rw[e];simp only[EE,Nat.reduceAdd,yI];exact this
theorem zeh{b3 b4 b6 b8:Nat}{op r m sub cd l to:Int}(I:RN lo cv sv gv code st gl)(t0 : -8000000000<=to)(t1:to<=8000000000)
  (s:Sat lo h (pt b4 (.cells (zC.row ⟨op,r,m,sub,cd,l,0⟩) 42)::pt b8 (.cells [.int .i64 to] 2)::pt b6 (.cells vA 42)::pt b3 (.cells (au cv sv gv mn pn) 31)::L)) :
  sI (rp b3) (rp b8) (rp b4) (rp b6) (EV lo L ((KJ (vh gl 16777216) gl 0 to).map λr'=>⟨op,r,m,(r'.1:Int),cd,l,r'.2⟩)) [.bool false] h:=by
 have gn:=I.gn;have fg:=I.L5;have g3:=(s.p 3).get;unfold sI;simp only[EE,zu,ua,iR,g3];refine mK (by simp only[yi,gn,aaw]) (BG (I.rg.at s) I.gb I.L5) ?_;rintro pv h1 s1;have s2:=s.join s1;have pvn:=xf s2;have S:=y6 (vS s2 aak) (xH (f:=zV) (λ_=>rfl) _);have hlen:(vh gl 16777216).length=gl.length:=Up _ _;have ln:=λr h'=>Mm S r h';rw[hlen]at ln;unfold Gn;simp only[EE,nth,↓zq,ln,pvn];have s3:=s2.f [1,2,3,4,0];have s3:Sat lo h1 (pt b4 (.cells (zC.row ⟨op,r,m,sub,cd,l,0⟩) 42)::pt b8 (.cells [.int .i64 to] 2)::pt b6 (.cells vA 42)::pt b3 (.cells (au cv sv gv mn pn) 31)::ZG 2 1 pv ((vh gl 16777216).map zV)::L):=s3;have g4:=s3.get;have g8:=(s3.p 1).get;have g3:=(s3.p 3).get;have G:=I.rg.at s3;refine qo (λm vs h'=>∃j:Nat,j<=gl.length/\m=gl.length-j/\vs=[.bool false,.int .i64 j]/\h'=h1 /\ ∀i,i<j->∀a g,(vh gl 16777216)[i]? = some a->gl[i]? = some g->¬(a<=to/\to-a<=g)) gl.length ⟨0,aaP _,rfl,rfl,rfl,λi hi=>by omega⟩ ?_;rintro m' vs h2 ⟨j,hj,rfl,rfl,rfl,hno⟩;unfold Gk;by_cases hc:(j:Int)<(gl.length:Int)
 ·obtain⟨g,hg⟩:∃g,gl[j]? = some g:=⟨_,aag (by omega)⟩;obtain⟨a,ha⟩:∃a,(vh gl 16777216)[j]? = some a:=⟨_,aag (show j<(vh gl 16777216).length by rw[hlen];omega)⟩;obtain⟨b1,o1,c1,t1',a1,_,a2,a3⟩:=QD S ha;obtain⟨b2,o2,c2,t2,e1,_,e2,e3⟩:=ZO G hg;have hin:=inc (show j<4611686018427387904 by omega);have ab:=Od I.gb I.L5 ha;have wd:IntKind.wrap .i64 (to-a)=to-a:=by simp only[IntKind.wrap,IntKind.bits,IntKind.signed];simp;omega
  have next:∀vs',vs'=[.bool false,.int .i64 ((j+1:Nat):Int)]->¬(a<=to/\to-a<=g)->∃m,m<gl.length-j /\ ∃j:Nat,j<=gl.length/\m=gl.length-j/\vs'=[Value.bool false,.int .i64 j] /\ ∀i,i<j->∀a g,(vh gl 16777216)[i]? = some a->gl[i]? = some g->¬(a<=to/\to-a<=g):=λvs' ev hn=>
   ⟨gl.length-(j+1),by omega,j+1,by omega,rfl,ev,λi hi a' g' ha' hg'=>by
    by_cases q:i<j
    ·exact hno i q a' g' ha' hg'
    ·have:i=j:=(by omega);subst this;rw[ha]at ha';rw[hg]at hg';rw[<- abl ha',<- abl hg'];exact hn⟩
  by_cases q1:to ≥ a
  ·by_cases q2:to-a<=g
   ·rw[mY hno ha hg ⟨q1,q2⟩,abt];have hne:¬b4=b8:=s3.ne;simp only[EE,nth,↓zq,Nat.reduceAdd,Nat.reduceLeDiff,ab5,zu,yU,ua,zg,LF,Q1,iR,zn,zw,Gj,gT,gU,gV,gW,gX,gY,hc,a1,a2,a3,g8,g3,q1,q2,wd,e1,e2,e3,Dq,hne,ab5,true_or];refine yf s3 (by simp) rfl λh3 s4=>?_;refine yf s4 (by simp[wh]) rfl λh4 s5=>?_;exact gC ⟨op,r,m,(j:Int),cd,l,to-a⟩ rfl (s5.f [0,2,1,3,4]) λh' s'=>⟨(s'.f [0,1,2,3]).drop.drop.drop.drop,_,_,rfl,rfl,rfl⟩
   ·simp only[EE,nth,↓zq,zu,yU,ua,zg,iR,gT,gU,gV,gW,gX,gY,sH,hc,a1,a2,a3,g8,g3,q1,q2,wd,e1,e2,e3,hin];exact next _ rfl (λe=>q2 e.2)
  ·simp only[EE,nth,↓zq,zu,yU,gT,gU,gV,gW,gX,gY,sH,hc,a1,a2,a3,g8,q1,hin];exact next _ rfl (λe=>q1 e.1)
 ·have:j=gl.length:=by omega
  subst this;rw[mX λi a g ha hg=>hno i (aaZ.1 hg).1 a g ha hg];simp only[EE,nth,hc];unfold Gm;exact gC ⟨op,r,m,sub,cd,l,0⟩ rfl (s3.f [0,2,1,3,4]) λh' s'=>⟨s'.drop.drop.drop.drop,_,_,rfl,rfl⟩
theorem zeX(I:RN lo cv sv gv code st gl)(k0 : -4294967296<=x.k)(k1:x.k<=4294967296)(d0:0<=behind)(d1:behind<=2000000000)(s:Sat lo h L) :
  DC Tryz.prog 33 [zbs cv sv gv mn pn,x.val,.int .i64 behind] h (EV lo L (XV st gl code.length x (behind+x.k))):=by
 have cn:=I.cn;have sn:=I.sn;have gn:=I.gn;have cc:=I.cc;have sc:=I.sc;have gc:=I.gc;apply R8;unfold zcz;obtain⟨op,r,m,sub,cd,l,k⟩:=x;simp only at k0 k1;have w:=(show IntKind.wrap .i64 (behind+k)=behind+k by simp only[IntKind.wrap,IntKind.bits,IntKind.signed];simp;omega);simp only[EE,Value.cells,uw];refine qc s λb3 h2 s2=>?_;refine qc s2 λb4 h3 s3=>?_;refine qc s3 λb6 h4 s4=>?_;have g4:=(s4.p 1).get;simp only[EE,Value.cells,zu,yU,zgj,zw,g4,w];have t0 : -8000000000<=behind+k:=by omega
 have t1:behind+k<=8000000000:=by omega
 generalize behind+k=to at w t0 t1 ⊢;refine qc s4 λb8 h5 s5=>?_;simp only[LF];refine yf s5 (by simp) rfl λh6 s6=>?_;simp only[EE,LF,zw];refine yf (s6.p 2) (by simp) rfl λh7 s7=>?_;have s7:Sat lo h7 (pt b4 (.cells (zC.row ⟨op,r,m,sub,cd,l,0⟩) 42)::pt b8 (.cells [.int .i64 to] 2)::pt b6 (.cells vA 42)::pt b3 (.cells (au cv sv gv mn pn) 31)::L):=s7;have g4:=s7.get;simp only[EE,↓zq,zu,zg,zc,g4];have g8:=(s7.p 1).get;have g3:=(s7.p 3).get;have lnc:=λr h'=>zX (I.rc.at s7) r h';by_cases c1:op=18\/op=19
 ·have eg:XV st gl code.length ⟨op,r,m,sub,cd,l,k⟩ to=if 0<=to/\to<=(code.length:Int) then some ⟨op,r,m,sub,cd,to,0⟩ else none:=by
   unfold XV;rw[aai c1]
  rw[eg]
  have good:∀J,0<=to/\to<=(code.length:Int)->cJ (rp b8) h7 (rp b3) (rp b4) (rp b6) (EV lo L (if 0<=to/\to<=(code.length:Int) then some ⟨op,r,m,sub,cd,to,0⟩ else none)) J:=λJ hg=>by
   rw[aai hg];have n1:¬to<0:=by omega
   have n2:¬to>(code.length:Int):=by omega
   unfold cJ;simp only[EE,zu,yU,jI,uA,pM,pN,g3,g8,n1,n2,lnc,cn];unfold M4;simp only[EE,zu,yU,Q1,xK,g8];refine yf s7 (by simp) rfl λh8 s8=>?_;have s8:Sat lo h8 (pt b4 (.cells (zC.row ⟨op,r,m,sub,cd,to,0⟩) 42)::pt b8 (.cells [.int .i64 to] 2)::pt b6 (.cells vA 42)::pt b3 (.cells (au cv sv gv mn pn) 31)::L):=s8;have g4:=s8.get
   have e:zf Tryz.prog 42 (rp b4) h8=some (zC.val ⟨op,r,m,sub,cd,to,0⟩):=by
    simp only[EE,Nat.reduceAdd,qQ,wK,g4]
   simp only[EE,Nat.reduceAdd,yI,e];exact Xa ⟨op,r,m,sub,cd,to,0⟩ rfl rfl (s8.f [2,0,1,3]) λh' s'=>⟨s'.drop.drop.drop,_,_,rfl,rfl,rfl⟩
  have badg:∀J,¬(0<=to/\to<=(code.length:Int))->cJ (rp b8) h7 (rp b3) (rp b4) (rp b6) (EV lo L (if 0<=to/\to<=(code.length:Int) then some ⟨op,r,m,sub,cd,to,0⟩ else none)) J:=λJ hg=>by
   rw[aaf hg];unfold cJ
   have e:zf Tryz.prog 42 (rp b4) h7=some (zC.val ⟨op,r,m,sub,cd,l,0⟩):=by
    simp only[EE,Nat.reduceAdd,qQ,wK,g4]
   have fin:∀J,Ev (rp b4) h7 (rp b6) (EV lo L none) J:=λJ=>by
    unfold Ev;simp only[EE,Nat.reduceAdd,yI,e];exact Xa ⟨op,r,m,sub,cd,l,0⟩ rfl rfl (s7.f [2,0,1,3]) λh' s'=>⟨s'.drop.drop.drop,_,_,rfl,rfl⟩
   by_cases n1:to<0
   ·simp only[EE,zu,yU,pM,pN,g8,n1];exact fin _
   ·have n2:to>(code.length:Int):=(by omega);simp only[EE,zu,yU,jI,uA,pM,pN,g3,g8,n1,n2,lnc,cn];exact fin _
  have both:∀J,cJ (rp b8) h7 (rp b3) (rp b4) (rp b6) (EV lo L (if 0<=to/\to<=(code.length:Int) then some ⟨op,r,m,sub,cd,to,0⟩ else none)) J:=λJ=>by
   by_cases hg:0<=to/\to<=(code.length:Int)
   ·exact good J hg
   ·exact badg J hg
  rcases c1 with rfl|rfl
  ·simp only[EE,nth,gZ];exact both _
  ·simp only[EE,nth,Int.reduceEq,gZ];exact both _
 have n18:¬op=18:=λe=>c1 (.inl e);have n19:¬op=19:=λe=>c1 (.inr e);by_cases c2:op=21
 ·subst c2
  have eg:XV st gl code.length ⟨21,r,m,sub,cd,l,k⟩ to=(Bb st to 0).map λ(n:Nat)=>⟨21,r,m,(n:Int),cd,l,0⟩:=by
   unfold XV;rw[aaf c1];rfl
  rw[eg];simp only[EE,nth,Int.reduceEq,zu,ua,ji,M6,Ew,gZ,g3,abA];refine aq (by simp only[yi,sn,aaw];rfl) (zbt (I.rs.at s7) I.zdQ g8) ?_;unfold M5;simp only[EE,Q1,zn];refine yf s7 (by simp) rfl λh8 s8=>?_;have s8:Sat lo h8 (pt b4 (.cells (zC.row ⟨21,r,m,Fg st to,cd,l,0⟩) 42)::pt b8 (.cells [.int .i64 to] 2)::pt b6 (.cells vA 42)::pt b3 (.cells (au cv sv gv mn pn) 31)::L):=s8;have g4:=s8.get;have hne:¬b6=b4:=(s8.f [2,0,1,3]).ne
  have e:zf Tryz.prog 42 (rp b4) h8=some (zC.val ⟨21,r,m,Fg st to,cd,l,0⟩):=by
   simp only[EE,Nat.reduceAdd,qQ,wK,g4]
  simp only[EE,Nat.reduceAdd,Nat.reduceLeDiff,ab5,zu,zg,yI,zn,e,g4,Dq,hne,ab5,true_or];refine Xa ⟨21,r,m,Fg st to,cd,l,0⟩ rfl rfl (s8.f [2,0,1,3]) λh' s'=>⟨s'.drop.drop.drop,_,_,rfl,?_⟩;unfold Fg;cases Bb st to 0 with
  |none=>show decide ((-1:Int) ≥ 0)=false;decide
  |some n=>exact⟨aa0 (show(n:Int) ≥ 0 by omega),rfl⟩
 have eg:XV st gl code.length ⟨op,r,m,sub,cd,l,k⟩ to=(KJ (vh gl 16777216) gl 0 to).map λr'=>⟨op,r,m,(r'.1:Int),cd,l,r'.2⟩:=by
  unfold XV;rw[aaf c1,aaf c2]
 rw[eg];simp only[EE,nth,Ew,gZ,n18,n19,c2];exact zeh I t0 t1 s7
end
open Go.As (mR kH)
open Go.Eb (qi)
theorem Am{h:za}{cv:aaa}{code:List Int}(S:y4 h cv code){n:Nat}(hn:n<code.length):∃b o c,Dr Tryz.prog 29 cv (some (.int .i64 n)) none h=some (.slice (some ⟨b,o,none⟩) (code.length-n) c) /\ ∀h',y4 h' cv code->y4 h' (.slice (some ⟨b,o,none⟩) (code.length-n) c) (code.drop n):=by
 rcases S with⟨rfl,e⟩|⟨b,off,cp,rfl,hc⟩
 ·have:code=[]:=by simpa using e
  subst this;cases hn
 ·refine⟨b,off+n,cond (wide Tryz.prog h b 1) (UO cp n) 0,?_,λh' S'=>?_⟩
  ·rw[qv,aau];have e1:qf none code.length code.length=some code.length:=Qx ..
   have e2:qf (some (.int .i64 (n:Int))) 0 code.length=some n:=by
    rw[UE];have:(n:Int)<=code.length:=by omega
    simp only[show(0:Int)<=n by omega,this,aa6,and_self,abM]
   rw[e1];simp only[abg,e2,abR]
  ·rcases S' with⟨e,_⟩|⟨b',off',cp',e,hc'⟩
   ·cases e
   ·simp only[ab8,aab,ace]at e;obtain⟨⟨rfl,rfl,_⟩,_,rfl⟩:=e;refine .inr ⟨b,off+n,cond (wide Tryz.prog h b 1) (UO cp n) 0,?_,λ_=>?_⟩
    ·rw[aau,abj]
    ·obtain⟨c,t,h1,h2,h3⟩:=hc' (by intro q;have:code=[]:=by simpa using q
                                   subst this;cases hn)
     refine⟨c,t,h1,h2,λi r hr=>?_⟩;have:=h3 (n+i) r (by rw[aaH]at hr ⊢;rw[aaR]at hr;exact hr);have e:off+(n+i)*1=off+n+i*1:=by omega
     rw[e]at this;exact this
section
variable {lo:yT}{h:za}{L:List HP}{cv sv gv:aaa}{code st gl:List Int}{mn pn:Int}{i:Int}
def zbb(code st gl:List Int)(i:Int):aaa:=if 0<=i/\i<code.length then (match Cj st gl code.length (code.drop i.toNat) i.toNat with
 |some r=>vB [r.1.val,.int .i64 r.2,.int .i64 0]
 |none=>vB [VQ.val,.int .i64 0,.int .i64 7]) else vB [VQ.val,.int .i64 0,.int .i64 1]
theorem zas{b2:Nat}{c2:List aaa}(x:zC){w1 w2:aaa}{R:aaa->za->Prop}(hw1:zS w1=false)(hw2:zS w2=false)(l2:c2.length=7)(s:Sat lo h (pt b2 (.cells c2 42)::L))(k:∀h',Sat lo h' L->R (vB [x.val,w1,w2]) h'):opt (Eo h b2 0 x.row) λh1=>opt (zf Tryz.prog 42 (rp b2) h1) λr0=>rv [r0,w1,w2] h1 R:=by
 obtain⟨v0,v1,v2,v3,v4,v5,v6,rfl⟩:∃v0 v1 v2 v3 v4 v5 v6,c2=[v0,v1,v2,v3,v4,v5,v6]:=by
  match c2,l2 with
  |[v0,v1,v2,v3,v4,v5,v6],_=>exact⟨v0,v1,v2,v3,v4,v5,v6,rfl⟩
 refine yf s (by simp) rfl λh1 s1=>?_;have g1:=s1.get;simp only[EE,zp,Nat.reduceAdd,qQ,wK,g1];refine⟨?_,k _ s1.drop⟩;simp only[yi,hw1,hw2,aaw];rfl
abbrev zfg(lo:yT)(L:List HP)(r:Option (zC×Nat))(v:aaa)(h':za):Prop:=(v=match r with
 |some r=>vB [r.1.val,.int .i64 r.2,.int .i64 0]
 |none=>vB [VQ.val,.int .i64 0,.int .i64 7])/\Sat lo h' L
theorem LX{b2 b4 b8 b26:Nat}{bv:aaa}{t:RS}{x:zC}{ok:Bool}{vs:List aaa}{r:Option (zC×Nat)}(I:RN lo cv sv gv code st gl)(hr:r=if ok=true then (if kH gl x=true then some (x,t.1) else none) else none)
  (s:Sat lo h (pt b8 (.cells x.row 42)::pt b26 (Xg bv t)::pt b4 (.cells vA 42)::pt b2 (.cells (au cv sv gv mn pn) 31)::L)) :
  ft (rp b8) (rp b2) (rp b4) (zfg lo L r) vs (rp b26) [.bool ok] h:=by
 have gn:=I.gn;have g2:=(s.p 3).get;have g26:=(s.p 1).get;have g8:=s.get
 have bad:KZ (rp b4) h (zfg lo L none) (λ_ _=>True):=by
  unfold KZ;simp only[EE,Nat.reduceAdd,yI,bu];exact zas VQ rfl rfl rfl (s.f [2,0,1,3]) λh' s'=>⟨rfl,s'.drop.drop.drop⟩
 unfold KZ at bad
 have e:zf Tryz.prog 42 (rp b8) h=some x.val:=by
  obtain⟨op,r,m,sub,cd,l,k⟩:=x;simp only[EE,Nat.reduceAdd,qQ,wK,g8]
 have hne:¬b4=b26:=(s.f [2,1,0,3]).ne;unfold ft;cases ok with
 |false=>
  rw[aaf (by decide)]at hr;subst hr;simp only[EE,nth,K0,fq];exact bad
 |true=>
  simp only[EE,nth,zu,ua,iR,fq,e,g2];refine aq (by simp only[yi,gn,aaw];rfl) (mR (I.rg.at s)) ?_;cases hb:kH gl x with
  |false=>
   rw[aai rfl,hb,aaf (by decide)]at hr;subst hr;simp only[EE,K0];exact bad
  |true=>
   rw[aai rfl,hb,aai rfl]at hr;subst hr;simp only[EE,Nat.reduceAdd,Nat.reduceLeDiff,ab5,zu,zg,yI,iS,sk,K0,e,g26,Dq,hne,ab5,true_or];exact zas x rfl rfl rfl (s.f [2,0,1,3]) λh' s'=>⟨rfl,s'.drop.drop.drop⟩
theorem Td(I:RN lo cv sv gv code st gl)(bl:xJ code)(s:Sat lo h L):DC Tryz.prog 16 [zbs cv sv gv mn pn,.int .i64 i] h (λv h'=>v=zbb code st gl i/\Sat lo h' L):=by
 have cn:=I.cn;have sn:=I.sn;have gn:=I.gn;have cc:=I.cc;have sc:=I.sc;have gc:=I.gc;have Ui:=I.Ui;apply F5;unfold F4;simp only[EE,Value.cells,uw];refine qc s λb2 h2 s2=>?_;refine qc s2 λb4 h4 s4=>?_;have g2:=(s4.p 1).get;have lnc:=λr h'=>zX (I.rc.at s4) r h';unfold zbb
 have out:¬(0<=i/\i<code.length)->∀J,fp (rp b4) h4 (λv h'=>v=(if 0<=i/\i<code.length then (match Cj st gl code.length (code.drop i.toNat) i.toNat with
  |some r=>vB [r.1.val,.int .i64 r.2,.int .i64 0]
  |none=>vB [VQ.val,.int .i64 0,.int .i64 7]) else vB [VQ.val,.int .i64 0,.int .i64 1])/\Sat lo h' L) J:=λhn J=>by
  rw[aaf hn];unfold fp;simp only[EE,Nat.reduceAdd,yI,bu];exact zas VQ rfl rfl rfl s4 λh' s'=>⟨rfl,s'.drop⟩
 by_cases c1:i<0
 ·simp only[EE,Qd,Qe,c1];exact out (by omega) _
 by_cases c2:i ≥ (code.length:Int)
 ·simp only[EE,zu,jI,uA,Qd,Qe,c1,c2,g2,lnc,cn];exact out (by omega) _
 simp only[EE,zu,jI,uA,Qd,Qe,c1,c2,g2,lnc,cn];rw[aai ⟨by omega,by omega⟩];obtain⟨n,rfl⟩:∃n:Nat,i=n:=⟨i.toNat,by omega⟩;have hn:n<code.length:=by omega
 rw[aa6];obtain⟨bb,bo,bc,ea,bS⟩:=Am (I.rc.at s4) hn;unfold so;simp only[EE,Value.cells,zu,jI,za5,uA,g2,cn,ea,acy];refine qc s4 λb26 h5 s5=>?_;have bd:xJ (code.drop n):=λx hx=>bl x (abE hx);have B:aD lo (.slice (some ⟨bb,bo,none⟩) (code.length-n) bc) (code.drop n):=⟨λh b=>bS h (I.rc h b),rfl,by rw[abj];omega,bd⟩;refine Kd (TA B s5) ?_;rintro v h6 ⟨rfl,s6⟩
 have hE:Cj st gl code.length (code.drop n) n=if (x9 (code.drop n)).2.2.2=true then none
  else if (x9 (code.drop n)).2.1=true then (match XV st gl code.length (x9 (code.drop n)).1 (((n+(x9 (code.drop n)).2.2.1:Nat):Int)+(x9 (code.drop n)).1.k) with
   |some i=>if kH gl i=true then some (i,(x9 (code.drop n)).2.2.1) else none
   |none=>none)
  else if kH gl (x9 (code.drop n)).1=true then some ((x9 (code.drop n)).1,(x9 (code.drop n)).2.2.1) else none:=rfl
 have W:(x9 (code.drop n)).2.2.2=false->(x9 (code.drop n)).2.1=true->(x9 (code.drop n)).2.2.1<=7 /\ -4294967296<=(x9 (code.drop n)).1.k/\(x9 (code.drop n)).1.k<=4294967296:=λhok hfar=>by
  have W:=iZ bd hok;unfold Go.En.Read at W;rw[aai hfar]at W;obtain⟨y,d,F,hd,e1,A⟩:=W;have e1:(x9 (code.drop n)).1 = {y with k:=d}:=e1;have hn0:(x9 (code.drop n)).2.2.1=(ze y d).length:=by have:=A.2.2.1;simpa using this
  have hlen:=E6 F d;rw[e1,hn0];refine⟨by omega,?_⟩;have:=hd;unfold Go.Ar.zQ at this;simp only[aad,aaF]at this;show -4294967296<=d/\d<=4294967296;omega
 generalize Cj st gl code.length (code.drop n) n=r at hE ⊢;generalize (x9 (code.drop n)).1=x at W hE ⊢;generalize (x9 (code.drop n)).2.1=far at W hE ⊢;generalize (x9 (code.drop n)).2.2=t at W s6 hE ⊢;obtain⟨k,bad⟩:=t;simp only at W hE;have er:vB [x.val,.bool far]=.tuple #[x.val,.bool far]:=rfl;rw[er];unfold sl;simp only[EE,Value.cells,uw];refine qc s6 λb8 h7 s7=>?_;simp only[EE,Nat.reduceAdd,yI];refine yf s7 (by simp) rfl λh8 s8=>?_;have s8:Sat lo h8 (pt b8 (.cells x.row 42)::pt b26 (Xg (.slice (some ⟨bb,bo,none⟩) (code.length-n) bc) (k,bad))::pt b4 (.cells vA 42)::pt b2 (.cells (au cv sv gv mn pn) 31)::L):=s8;have g26:=(s8.p 1).get;cases bad with
 |true=>
  simp only[EE,zu,Y6,xa,g26];exact LX (ok:=false) I (by rw[hE,aai rfl,aaf (by decide)]) s8
 |false=>
  cases far with
  |false=>
   simp only[EE,zu,Y6,xa,g26];exact LX (ok:=true) I (by rw[hE,aaf (by decide),aaf (by decide),aai rfl]) s8
  |true=>
   simp only[EE,zu,Y6,xa,g26];obtain⟨k7,x0,x1⟩:=W rfl rfl;have g2:=(s8.p 3).get;have g8:=s8.get
   have e8:zf Tryz.prog 42 (rp b8) h8=some x.val:=by
    obtain⟨op,r,m,sub,cd,l,k⟩:=x;simp only[EE,Nat.reduceAdd,qQ,wK,g8]
   have e2:zf Tryz.prog 31 (rp b2) h8=some (zbs cv sv gv mn pn):=by
    simp only[EE,Nat.reduceAdd,qQ,UF,g2]
   have w:IntKind.wrap .i64 ((n:Int)+(k:Int))=((n+k:Nat):Int):=by
    simp only[IntKind.wrap,IntKind.bits,IntKind.signed];simp;omega
   unfold sj;simp only[EE,zu,zg,iS,e8,e2,g26,w];refine cdo (zeX (behind:=((n+k:Nat):Int)) I x0 x1 (by omega) (by omega) s8) ?_;rintro v h9 ⟨s9,y,ok,rfl,hy⟩;have er:vB [y.val,.bool ok]=.tuple #[y.val,.bool ok]:=rfl;rw[er];simp only[EE,Nat.reduceAdd,yI];refine yf s9 (by simp) rfl λh10 s10=>?_;refine LX (x:=y) (ok:=ok) I ?_ s10;rw[hE,aaf (by decide),aai rfl];cases hg:XV st gl code.length x (((n+k:Nat):Int)+x.k) with
   |none=>
    rw[hg]at hy;have hy:ok=false:=hy;subst hy;rfl
   |some i=>
    rw[hg]at hy;obtain⟨rfl,rfl⟩:=hy;rfl
end
end Go.Ed
namespace Go.Ec
open Go.Ai Go.Proofs
theorem mixed:Tryz.prog.follows .mixedOrders=true:=acf Tryz.checked
end Go.Ec
namespace Go.Ai
open Go.Ai Go.Proofs
end Go.Ai
namespace Go.Ec
open Go.Ai Go.Proofs
open Go.Rtl (zK zE Old inc yz xw)
open Go.Rm (zV xH Rd Rd.of Rd.at ZG y6)
open Go.As (zC Pg W8 kR VU uD ZO qI jO vw)
open Go.Eb (y4 vW LJ xO)
section
variable {h:za}{p:Pg}
end
open Go.Eb (Xt)
section
variable {h:za}{p q:Pg}
theorem LU(zs:List Int):∀s:ByteArray,bytesOf (zs.map λz=>Value.int .u8 z) s=some (zs.foldl (λs z=>s.push (UInt8.ofNat z.toNat)) s):=by
 induction zs with
 |nil=>intro s;rfl
 |cons z zs ih=>
  intro s;exact ih _
def Ww(zs:List Int):ByteArray:=zs.foldl (λs z=>s.push (UInt8.ofNat z.toNat)) .empty
theorem TZ(h:za):yS Tryz.prog 29 9 (.slice none 0 0) h=some (.string (Ww []),h):=by kernel_rfl
theorem cx{v:aaa}{zs:List Int}(S:y4 h v zs):yS Tryz.prog 29 9 v h=some (.string (Ww zs),h):=by
 have S0:=S
 have ab:Ss h v=some (.string (Ww zs)):=by
  rcases S with⟨rfl,e⟩|⟨b,off,cp,rfl,hc⟩
  ·have:zs=[]:=by simpa using e
   subst this;rfl
  ·have f:=(vW S0).2;rw[aau];unfold Ss;by_cases h0:zs.length=0
   ·have:zs=[]:=abm.1 h0;subst this;rfl
   ·have hb:Nat.beq zs.length 0=false:=by
     cases hz:Nat.beq zs.length 0 with
     |false=>rfl
     |true=>exact absurd (aal hz) h0
    obtain⟨c,t,_,hg,_⟩:=hc (by intro e;exact h0 (by simpa using congrArg List.length e));simp only[kh,hg,abR,hb,aaw]at f;simp only[hb,aaw,hg];cases hl:Nat.ble (off+zs.length) c.length with
    |false=>rw[hl]at f;cases f
    |true=>
     rw[hl]at f;simp only[aav,aab]at f ⊢;rw[f,LU];rfl
 have h1:z9 Tryz.prog (underlying 29)=some (.slice 5):=by kernel_rfl
 have h2:z9 Tryz.prog (underlying 9)=some .string:=by kernel_rfl
 have h3:z9 Tryz.prog (underlying 5)=some (.int .u8):=by kernel_rfl
 rcases S0 with⟨rfl,e⟩|⟨b,off,cp,rfl,hc⟩
 ·have:zs=[]:=by simpa using e
  subst this;exact TZ h
 ·have h5:(cond (flat (.slice (some ⟨b,off,none⟩) (zs.map xO).length cp)) (fl (z9 Tryz.prog (convert 29 9 (.slice (some ⟨b,off,none⟩) (zs.map xO).length cp)))) none)=none:=rfl;unfold yS Jw;rw[h5];simp only[h1,h2,h3,ab,abw]
end
end Go.Ec
namespace Go.Ed
open Go.Ai Go.Proofs
open Go.Rtl (zK zE Old inc yz xw vx i0 vS)
open Go.Rm (ZG y6 xf zV xH Rd Rd.of Rd.at Rd.mono)
open Go.As (zC Pg ZO qI)
open Go.Eb (y4 xO zX i5 vR qi vW)
open Go.Ec (cx Ww)
open Go.En
theorem iK{h:za}{cv:aaa}{code:List Int}(S:y4 h cv code){i j:Nat}(hi:i<=j)(hj:j<=code.length){lo:Option aaa}(hlo:(lo=none/\i=0)\/lo=some (.int .i64 i)):∃bv,Dr Tryz.prog 29 cv lo (some (.int .i64 j)) h=some bv/\zS bv=false /\ ∀h',y4 h' cv code->y4 h' bv ((code.drop i).take (j-i)):=by
 have el:∀m:Nat,i<=m->qf lo 0 m=some i:=λm hm=>by
  rcases hlo with⟨rfl,rfl⟩|rfl
  ·exact Qx ..
  ·rw[UE];have:(i:Int)<=m:=by omega
   simp only[show(0:Int)<=i by omega,this,aa6,and_self,abM]
 have eh:qf (some (.int .i64 (j:Int))) code.length code.length=some j:=by
  rw[UE];have:(j:Int)<=code.length:=by omega
  simp only[show(0:Int)<=j by omega,this,aa6,and_self,abM]
 rcases S with⟨rfl,e⟩|⟨b,off,cp,rfl,hc⟩
 ·have:code=[]:=by simpa using e
  subst this;have:j=0:=by simpa using hj
  subst this;have:i=0:=by omega
  subst this;refine⟨.slice none 0 0,?_,rfl,λh' S'=>S'⟩;rw[vZ];have eh':qf (some (.int .i64 ((0:Nat):Int))) 0 0=some 0:=eh;rw[eh'];simp only[abg,el 0 (aaj _)]
 ·refine⟨.slice (some ⟨b,off+i,none⟩) (j-i) (cond (wide Tryz.prog h b 1) (UO cp i) 0),?_,rfl,λh' S'=>?_⟩
  ·rw[qv,aau,eh];simp only[abg,el j hi,abR]
  ·rcases S' with⟨e,_⟩|⟨b',off',cp',e,hc'⟩
   ·cases e
   ·simp only[ab8,aab,ace]at e;obtain⟨⟨rfl,rfl,_⟩,_,rfl⟩:=e;refine .inr ⟨b,off+i,cond (wide Tryz.prog h b 1) (UO cp i) 0,?_,λhne=>?_⟩
    ·rw[aau,aaM,abj,abV (by omega)]
    ·obtain⟨c,t,h1,h2,h3⟩:=hc' (by
      intro q;have:code=[]:=by simpa using q
      subst this;exact hne (by simp))
     refine⟨c,t,h1,h2,λk r hr=>?_⟩;rw[aaH]at hr
     have hk:k<j-i:=by
      have:=(aaZ.1 (show(((code.drop i).take (j-i)).map xO)[k]? = some r by rw[aaH];exact hr)).1;rw[aau,aaM]at this;omega
     rw[aaV hk,aaR]at hr;have:=h3 (i+k) r (by rw[aaH];exact hr);have e:off+(i+k)*1=off+i+k*1:=by omega
     rw[e]at this;exact this
def A9(bs:List Int):Int:=if bs.length=4 then Vy bs else QN bs
theorem w32(v:Int):IntKind.wrap .i32 (IntKind.wrap .u32 v)=IntKind.wrap .i32 v:=by
 simp only[IntKind.wrap,IntKind.bits,IntKind.signed];simp
theorem Mk{h:za}{bv:aaa}{bs:List Int}(S:y4 h bv bs)(hb:xJ bs)(Ui:bs.length<=8):vt Tryz.prog 75 [bv] h (.int .i64 (A9 bs)):=by
 apply vx;replace S:y4 h.lock bv bs:=zE.lock S;apply Pa;unfold Sg;generalize h.lock=H at S;have sn:zS bv=false:=zE.ai S;have ln:=λr h'=>zX S r h';simp only[↓zq];refine qo (λm vs h'=>∃j:Nat,j<=bs.length/\m=bs.length-j/\vs=[.int .u64 (VH (bs.take j)),.int .i64 j]/\h'=H) bs.length ⟨0,aaP _,rfl,rfl,rfl⟩ ?_;rintro m vs h1 ⟨j,hj,rfl,rfl,rfl⟩;unfold Gz;by_cases hc:(j:Int)<(bs.length:Int)
 ·obtain⟨z,hz⟩:∃z,bs[j]? = some z:=⟨_,aag (by omega)⟩;obtain⟨b,o,c,t,a1,_,a2,a3⟩:=LI S hz;have zb:=hb z (aaz hz);have et:bs.take (j+1)=bs.take j++[z]:=by rw[abd,hz];rfl
  have hin:=inc (show j<4611686018427387904 by omega);obtain⟨v0,v1⟩:=nh (bs.take j) λx hx=>hb x (abp hx);have ll:(bs.take j).length=j:=by rw[aaM];omega
  rw[ll]at v1;have om:=OD (i:=j) (by omega) v0 v1 zb.1 zb.2;have es:VH (bs.take j)+z*2^(8*j)=VH (bs.take (j+1)):=by rw[et,ri,ll]
  rw[es]at om
  have e8:IntKind.wrap .i64 (8*(j:Int))=8*(j:Int):=by
   simp only[IntKind.wrap,IntKind.bits,IntKind.signed];simp;omega
  have e9:IntKind.wrap .u64 (8*(j:Int))=8*(j:Int):=by
   simp only[IntKind.wrap,IntKind.bits,IntKind.signed];simp;omega
  have n9:(8*(j:Int)) ≥ 0:=by omega
  have n8:¬(8*(j:Int))<0:=by omega
  simp only[EE,nth,↓zq,zu,Vs,N5,H3,Gx,Gy,sn,ln,hc,a1,a2,a3,e8,e9,n9,hin,om];exact⟨bs.length-(j+1),by omega,j+1,by omega,rfl,rfl⟩
 ·have:j=bs.length:=by omega
  subst this;rw[abv];simp only[EE,nth,sn,ln,hc];unfold GB A9;by_cases h4:bs.length=4
  ·have h4':decide ((bs.length:Int)=4)=true:=aa0 (by omega);rw[aai h4];simp only[EE,nth,LW,PD,iN,GA,sn,ln,h4',w32];rfl
  ·have h4':decide ((bs.length:Int)=4)=false:=aaY (by omega);rw[aaf h4];simp only[EE,nth,Tc,sn,ln,h4'];rfl
theorem NK(bs:ByteArray):∀(n i:Nat) (r:List UInt8),bs.size-i=n->ByteArray.toList.loop bs i r=r.reverse++bs.data.toList.drop i
 |0,i,r,h=>by
  unfold ByteArray.toList.loop;have hh:¬i<bs.size:=by omega
  rw[aaf hh]
  have:bs.data.toList.length<=i:=by
   have:bs.data.toList.length=bs.size:=abh;omega
  rw[List.drop_eq_nil_of_le this,aa7]
 |n+1,i,r,h=>by
  unfold ByteArray.toList.loop;have hh:i<bs.size:=by omega
  rw[aai hh,NK bs n (i+1) _ (by omega)]
  have hl:i<bs.data.toList.length:=by
   have:bs.data.toList.length=bs.size:=abh;omega
  rw[abH hl,List.reverse_cons,aa1]
  congr 2
  have:bs.get! i=bs.data.toList[i]:=by
   show bs.data[i]! = _;rw[getElem!_pos bs.data i (by simpa using hl)];simp
  rw[this];rfl
theorem NJ(bs:ByteArray):bs.toList=bs.data.toList:=by
 unfold ByteArray.toList;rw[NK bs _ 0 [] rfl];simp
theorem FM:∀(zs:List Int) (s:ByteArray),(zs.foldl (λs z=>s.push (UInt8.ofNat z.toNat)) s).data.toList=s.data.toList++zs.map λz=>UInt8.ofNat z.toNat
 |[],s=>by simp
 |z::zs,s=>by
  rw[acm,FM zs];show(s.data.push _).toList++_=_;rw[Array.toList_push,abq,aa1];rfl
theorem SY{a b:Int}(a0:0<=a)(a1:a<256)(b0:0<=b)(b1:b<256)(h:UInt8.ofNat a.toNat=UInt8.ofNat b.toNat):a=b:=by
 have:=congrArg UInt8.toNat h;rw[UInt8.toNat_ofNat',UInt8.toNat_ofNat']at this;omega
theorem zaS{xs ys:List Int}(hx:xJ xs)(hy:xJ ys)(h:Ww xs=Ww ys):xs=ys:=by
 have h2:(Ww xs).data.toList=(Ww ys).data.toList:=by rw[h]
 unfold Ww at h2;rw[FM,FM]at h2;have h3:(xs.map λz=>UInt8.ofNat z.toNat)=ys.map λz=>UInt8.ofNat z.toNat:=List.append_cancel_left h2;clear h h2
 induction xs generalizing ys with
 |nil=>cases ys with
  |nil=>rfl
  |cons y ys=>cases h3
 |cons x xs ih=>cases ys with
  |nil=>cases h3
  |cons y ys=>
   simp only[abq,abr]at h3;have bx:=hx x aak;have by':=hy y aak;rw[SY bx.1 bx.2 by'.1 by'.2 h3.1,ih (λz hz=>hx z (aaC _ hz)) (λz hz=>hy z (aaC _ hz)) h3.2]
theorem Ep{xs ys:List Int}(hx:xJ xs)(hy:xJ ys):((Ww xs).toList == (Ww ys).toList)=decide (xs=ys):=by
 by_cases e:xs=ys
 ·subst e;rw[aa0 rfl,aay]
 ·rw[aaY e];cases hq:((Ww xs).toList == (Ww ys).toList) with
  |false=>rfl
  |true=>
   have h:=eq_of_beq hq;rw[NJ,NJ]at h;refine absurd (zaS hx hy ?_) e;have h2:(Ww xs).data=(Ww ys).data:=Array.toList_inj.1 h;cases h3:Ww xs with
   |mk d=>cases h4:Ww ys with
    |mk d'=>rw[h3,h4]at h2;exact congrArg ByteArray.mk h2
theorem HS{h:za}{bv xv:aaa}{bs xs:List Int}(S:y4 h bv bs)(X:y4 h xv xs)(hb:xJ bs)(hx:xJ xs):vt Tryz.prog 36 [bv,xv] h (.bool (decide (qa bs xs))):=by
 apply yz;replace S:y4 h.lock bv bs:=zE.lock S;replace X:y4 h.lock xv xs:=zE.lock X;apply Gq;unfold Gp;generalize h.lock=H at S X;have sn:zS bv=false:=zE.ai S;have xn:zS xv=false:=zE.ai X;have ln:=λr h'=>zX S r h';have lx:=λr h'=>zX X r h';by_cases c1:(xs.length:Int)>0
 ·by_cases c2:(xs.length:Int)<=(bs.length:Int)
  ·obtain⟨tv,e1,tn,eS⟩:=iK S (i:=0) (j:=xs.length) (aaP _) (by omega) (lo:=none) (.inl ⟨rfl,rfl⟩);have T:=eS H S;rw[abT,Nat.sub_zero]at T;have t1:=cx T;have t2:=cx X;simp only[EE,zc5,K8,K9,Ja,Jb,Jc,Jd,sn,xn,ln,lx,c1,c2,e1,tn,t1,t2,acy];rw[Ep (λx hx=>hb x (abp hx)) hx]
   have:decide (qa bs xs)=decide (bs.take xs.length=xs):=by
    apply decide_eq_decide.2;exact⟨λe=>e.2.2,λe=>⟨by omega,by omega,e⟩⟩
   rw[this];rfl
  ·have:decide (qa bs xs)=false:=aaY λe=>c2 (by have:=e.2.1;omega);rw[this];simp only[EE,K8,K9,Ja,Jb,Jc,Jd,sn,xn,ln,lx,c1,c2];rfl
 ·have:decide (qa bs xs)=false:=aaY λe=>c1 (by have:=e.1;omega);rw[this];simp only[EE,K8,K9,Ja,Jb,Jc,Jd,xn,lx,c1];rfl
open Go.Eb (YL QD)
section
variable {lo:yT}{h:za}{L:List HP}{sv gv:aaa}{st gl:List Int}{x:zC}{to:Int}{n:Nat}
structure GlR (lo:yT) (sv gv:aaa) (st gl:List Int):Prop where
 rs:Rd lo (zK · sv st)
 rg:Rd lo (zK · gv gl)
 sn:zS sv=false
 gn:zS gv=false
 zdQ:st.length<=1000000
 L5:gl.length<=1000
 gb:∀g,g∈gl->0<=g/\g<=65536
theorem zbe{b5 b10:Nat}{op r m sub cd l:Int}(I:GlR lo sv gv st gl)(t0 : -8000000000<=to)(t1:to<=8000000000)(h4:¬r=4)
  (s:Sat lo h (pt b5 (.cells (zC.row ⟨op,r,m,sub,cd,l,0⟩) 42)::pt b10 (.cells vA 42)::L)) :
  c9 (rp b5) (rp b10) (EV lo L ((KJ (vh gl 16777216) gl 0 to).map λr'=>⟨op,r,m,(r'.1:Int),cd,l,r'.2⟩)) gv (.int .i64 to) [.bool false] h:=by
 have gn:=I.gn;have fg:=I.L5;have g5:=s.get;unfold c9;simp only[EE,nth,zu,zg,zJ,g5,h4];unfold CT;refine mK (by simp only[yi,gn,aaw]) (YL (I.rg.at s) I.gb I.L5) ?_;rintro pv h1 s1;have s2:=s.join s1;have pvn:=xf s2;have S:=y6 (vS s2 aak) (xH (f:=zV) (λ_=>rfl) _);have hlen:(vh gl 16777216).length=gl.length:=Up _ _;have ln:=λr h'=>Mm S r h';rw[hlen]at ln;simp only[nth,↓zq];have s3:Sat lo h1 (pt b5 (.cells (zC.row ⟨op,r,m,sub,cd,l,0⟩) 42)::pt b10 (.cells vA 42)::ZG 2 1 pv ((vh gl 16777216).map zV)::L):=s2.f [1,2,0];have g4:=s3.get;have G:=I.rg.at s3;refine qo (λm vs h'=>∃j:Nat,j<=gl.length/\m=gl.length-j/\vs=[.bool false,.int .i64 j]/\h'=h1 /\ ∀i,i<j->∀a g,(vh gl 16777216)[i]? = some a->gl[i]? = some g->¬(a<=to/\to-a<=g)) gl.length ⟨0,aaP _,rfl,rfl,rfl,λi hi=>by omega⟩ ?_;rintro m' vs h2 ⟨j,hj,rfl,rfl,rfl,hno⟩;unfold CR;by_cases hc:(j:Int)<(gl.length:Int)
 ·obtain⟨g,hg⟩:∃g,gl[j]? = some g:=⟨_,aag (by omega)⟩;obtain⟨a,ha⟩:∃a,(vh gl 16777216)[j]? = some a:=⟨_,aag (show j<(vh gl 16777216).length by rw[hlen];omega)⟩;obtain⟨b1,o1,c1,t1',a1,p1,a2,a3⟩:=QD S ha;obtain⟨b2,o2,c2,t2,e1,_,e2,e3⟩:=ZO G hg;have hin:=inc (show j<4611686018427387904 by omega);have ab:=Od I.gb I.L5 ha;have gb:=I.gb g (aaz hg);have wd:IntKind.wrap .i64 (to-a)=to-a:=by simp only[IntKind.wrap,IntKind.bits,IntKind.signed];simp;omega
  have wp:IntKind.wrap .i64 (a+g)=a+g:=by simp only[IntKind.wrap,IntKind.bits,IntKind.signed];simp;omega
  have next:∀vs',vs'=[.bool false,.int .i64 ((j+1:Nat):Int)]->¬(a<=to/\to-a<=g)->∃m,m<gl.length-j /\ ∃j:Nat,j<=gl.length/\m=gl.length-j/\vs'=[Value.bool false,.int .i64 j] /\ ∀i,i<j->∀a g,(vh gl 16777216)[i]? = some a->gl[i]? = some g->¬(a<=to/\to-a<=g):=λvs' ev hn=>
   ⟨gl.length-(j+1),by omega,j+1,by omega,rfl,ev,λi hi a' g' ha' hg'=>by
    by_cases q:i<j
    ·exact hno i q a' g' ha' hg'
    ·have:i=j:=(by omega);subst this;rw[ha]at ha';rw[hg]at hg';rw[<- abl ha',<- abl hg'];exact hn⟩
  by_cases q1:to ≥ a
  ·by_cases q2:to<=a+g
   ·rw[mY hno ha hg ⟨q1,by omega⟩,abt];simp only[EE,nth,↓zq,zu,yU,zg,Q1,zn,CQ,cT,cU,cV,cW,cX,cY,cZ,ln,pvn,hc,a1,a2,a3,q1,q2,wp,e1,e2,e3];refine yf s3 (by simp) rfl λh3 s4=>?_;have S4:=y6 (vS s4 (aaC _ (aaC _ aak))) (xH (f:=zV) (λ_=>rfl) _);obtain⟨b1',o1',c1',t1'',a1',p1',a2',a3'⟩:=QD S4 ha;rw[a1]at a1';simp only[aab,Value.pointer.injEq,ace,and_true]at a1';obtain⟨rfl,rfl⟩:=a1';simp only[EE,LF,zw,a2',a3',wd];refine yf s4 (by simp[wh]) rfl λh4 s5=>?_;exact gC ⟨op,r,m,(j:Int),cd,l,to-a⟩ rfl s5 λh' s'=>⟨s'.drop.drop,_,_,rfl,rfl,rfl⟩
   ·simp only[EE,nth,↓zq,zu,yU,zg,cT,cU,cV,cW,cX,cY,cZ,lU,ln,pvn,hc,a1,a2,a3,q1,q2,wp,e1,e2,e3,hin];exact next _ rfl (λe=>q2 (by omega))
  ·simp only[EE,nth,↓zq,zu,yU,cT,cU,cV,cW,cX,cY,cZ,lU,ln,pvn,hc,a1,a2,a3,q1,hin];exact next _ rfl (λe=>q1 e.1)
 ·have:j=gl.length:=by omega
  subst this;rw[mX λi a g ha hg=>hno i (aaZ.1 hg).1 a g ha hg];simp only[EE,nth,ln,pvn,hc];unfold CS;exact gC ⟨op,r,m,sub,cd,l,0⟩ rfl s3 λh' s'=>⟨s'.drop.drop,_,_,rfl,rfl⟩
theorem Mh(I:GlR lo sv gv st gl)(t0 : -8000000000<=to)(t1:to<=8000000000)(hk:x.k=0)(ho:x.op=18\/x.op=19\/x.op=21\/x.op=6)(s:Sat lo h L) :
  DC Tryz.prog 77 [x.val,.int .i64 to,.int .i64 n,sv,gv] h (EV lo L (Wu st gl n x to)):=by
 have sn:=I.sn;have gn:=I.gn;apply O9;unfold Sf;obtain⟨op,r,m,sub,cd,l,k⟩:=x;have hk:k=0:=hk;subst hk;have ho:op=18\/op=19\/op=21\/op=6:=ho;simp only[EE,Value.cells,uw];refine qc s λb5 h2 s2=>?_;refine qc s2 λb10 h3 s3=>?_;have s3:Sat lo h3 (pt b5 (.cells (zC.row ⟨op,r,m,sub,cd,l,0⟩) 42)::pt b10 (.cells vA 42)::L):=s3.f [1,0];have g5:=s3.get;simp only[EE,↓zq,zu,zg,zc,g5];by_cases c1:op=18\/op=19
 ·have eg:Wu st gl n ⟨op,r,m,sub,cd,l,0⟩ to=if 0<=to/\to<=(n:Int) then some ⟨op,r,m,sub,cd,to,0⟩ else none:=by
   unfold Wu XV;have:¬(op=6/\r=4):=by omega
   rw[aaf this,aai c1]
  rw[eg]
  have both:∀J,sQ (rp b5) (.int .i64 to) h3 (.int .i64 n) (rp b10) (EV lo L (if 0<=to/\to<=(n:Int) then some ⟨op,r,m,sub,cd,to,0⟩ else none)) J:=λJ=>by
   unfold sQ;simp only[EE,Q1,xK];refine yf s3 (by simp) rfl λh4 s4=>?_;have s4:Sat lo h4 (pt b5 (.cells (zC.row ⟨op,r,m,sub,cd,to,0⟩) 42)::pt b10 (.cells vA 42)::L):=s4;have g5:=s4.get
   have e:zf Tryz.prog 42 (rp b5) h4=some (zC.val ⟨op,r,m,sub,cd,to,0⟩):=by
    simp only[EE,Nat.reduceAdd,qQ,wK,g5]
   by_cases q1:to ≥ 0
   ·by_cases q2:to<=(n:Int)
    ·rw[aai ⟨q1,q2⟩];simp only[EE,Nat.reduceAdd,yI,ia,e,q1,q2];exact Xa ⟨op,r,m,sub,cd,to,0⟩ rfl rfl (s4.f [1,0]) λh' s'=>⟨s'.drop,_,_,rfl,rfl,rfl⟩
    ·rw[aaf (λe=>q2 e.2)];simp only[EE,Nat.reduceAdd,yI,ia,e,q1,q2];exact Xa ⟨op,r,m,sub,cd,to,0⟩ rfl rfl (s4.f [1,0]) λh' s'=>⟨s'.drop,_,_,rfl,rfl⟩
   ·rw[aaf (λe=>q1 e.1)];simp only[EE,Nat.reduceAdd,yI,ia,e,q1];exact Xa ⟨op,r,m,sub,cd,to,0⟩ rfl rfl (s4.f [1,0]) λh' s'=>⟨s'.drop,_,_,rfl,rfl⟩
  rcases c1 with rfl|rfl
  ·simp only[EE,nth,aU];exact both _
  ·simp only[EE,nth,Int.reduceEq,aU];exact both _
 have n18:¬op=18:=λe=>c1 (.inl e);have n19:¬op=19:=λe=>c1 (.inr e);by_cases c2:op=21
 ·subst c2
  have eg:Wu st gl n ⟨21,r,m,sub,cd,l,0⟩ to=(Bb st to 0).map λ(n:Nat)=>⟨21,r,m,(n:Int),cd,l,0⟩:=by
   unfold Wu XV;rw[aaf (by simp),aaf c1];rfl
  rw[eg];simp only[EE,nth,↓zq,Int.reduceEq,sR,aU];have G:=I.rs.at s3;have fs:=I.zdQ;have ln:=λr h'=>qI G r h';refine qo (λm vs h'=>∃j:Nat,j<=st.length/\m=st.length-j/\vs=[.bool false,.int .i64 j]/\h'=h3 /\ ∀i,i<j->∀s,st[i]? = some s->¬s=to) st.length ⟨0,aaP _,rfl,rfl,rfl,λi hi=>by omega⟩ ?_;rintro m' vs h2 ⟨j,hj,rfl,rfl,rfl,hno⟩;unfold Gv;by_cases hc:(j:Int)<(st.length:Int)
  ·obtain⟨z,hz⟩:∃z,st[j]? = some z:=⟨_,aag (by omega)⟩;obtain⟨b',o,c,t',a1,_,a2,a3⟩:=ZO G hz;have hin:=inc (show j<4611686018427387904 by omega);by_cases he:z=to
   ·rw[Bd hno hz he,abt];have de:decide (z=to)=true:=aa0 he;simp only[EE,nth,↓zq,zu,zg,Q1,zn,Gt,sP,ln,sn,hc,a1,a2,a3,de];refine yf s3 (by simp) rfl λh4 s4=>?_;exact gC ⟨21,r,m,(j:Int),cd,l,0⟩ rfl s4 λh' s'=>⟨s'.drop,_,_,rfl,rfl,rfl⟩
   ·simp only[EE,nth,↓zq,zu,zg,sP,Gu,ln,sn,hc,a1,a2,a3,he,hin];refine⟨st.length-(j+1),by omega,j+1,by omega,rfl,rfl,λi hi s hs=>?_⟩;by_cases q:i<j
    ·exact hno i q s hs
    ·have:i=j:=(by omega);subst this;rw[hz]at hs;rw[<- abl hs];exact he
  ·have:j=st.length:=by omega
   subst this;rw[Bc hno];simp only[EE,nth,ln,sn,hc];unfold Gw;exact gC ⟨21,r,m,sub,cd,l,0⟩ rfl s3 λh' s'=>⟨s'.drop,_,_,rfl,rfl⟩
 have c3:op=6:=by omega
 subst c3;simp only[EE,nth,Int.reduceEq,sR,aU];by_cases h4:r=4
 ·subst h4
  have eg:Wu st gl n ⟨6,4,m,sub,cd,l,0⟩ to=none:=by
   unfold Wu;rw[aai ⟨rfl,rfl⟩]
  rw[eg];unfold c9;simp only[EE,zu,zg,zJ,CP,g5];exact gC ⟨6,4,m,sub,cd,l,0⟩ rfl s3 λh' s'=>⟨s'.drop,_,_,rfl,rfl⟩
 ·have eg:Wu st gl n ⟨6,r,m,sub,cd,l,0⟩ to=(KJ (vh gl 16777216) gl 0 to).map λr'=>⟨6,r,m,(r'.1:Int),cd,l,r'.2⟩:=by
   unfold Wu XV;rw[aaf (λe=>h4 e.2),aaf (by simp),aaf (by simp)]
  rw[eg];exact zbe I t0 t1 h4 s3
end
end Go.Ed
