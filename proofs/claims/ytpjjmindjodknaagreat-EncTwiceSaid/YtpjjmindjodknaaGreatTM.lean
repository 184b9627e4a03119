import Derived.Test.YtpjjmindjodknaaGreatTL
set_option linter.unusedVariables false
set_option linter.unusedSimpArgs false
set_option maxRecDepth 100000
namespace Go.En
open Go.Ai Go.Proofs
open Go.As (zo Pg)
open Go.Ar (zO zM)
inductive Shape:zo->Prop
 |mov (r m:Int):Shape ⟨1,r,m,0,0,0,0⟩
 |movk (r k:Int):Go.Mem.qU k->Shape ⟨2,r,0,0,0,0,k⟩
 |load (r m s k:Int):Shape ⟨3,r,m,s,0,0,k⟩
 |sU (r m s k:Int):Shape ⟨4,r,m,s,0,0,k⟩
 |lea (r m k:Int):Shape ⟨5,r,m,0,0,0,k⟩
 |H8 (r m s:Int):Shape ⟨7,r,m,s,0,0,0⟩
 |aluk (r s k:Int):Shape ⟨8,r,0,s,0,0,k⟩
 |un (r s:Int):Shape ⟨9,r,0,s,0,0,0⟩
 |ext (r m s:Int):Shape ⟨10,r,m,s,0,0,0⟩
 |shift (r s k:Int):Shape ⟨11,r,0,s,0,0,k⟩
 |shiftc (r s:Int):Shape ⟨12,r,0,s,0,0,0⟩
 |cqo:Shape ⟨13,0,0,0,0,0,0⟩
 |idiv (m:Int):Shape ⟨14,0,m,0,0,0,0⟩
 |cmp (r m:Int):Shape ⟨15,r,m,0,0,0,0⟩
 |cmpk (r k:Int):Shape ⟨16,r,0,0,0,0,k⟩
 |set (r cc:Int):Shape ⟨17,r,0,0,cc,0,0⟩
 |ret:Shape ⟨22,0,0,0,0,0,0⟩
 |enter (k:Int):Shape ⟨23,0,0,0,0,0,k⟩
 |leave (k:Int):Shape ⟨24,0,0,0,0,0,k⟩
 |inI:Shape ⟨25,0,0,0,0,0,0⟩
 |outI:Shape ⟨26,0,0,0,0,0,0⟩
theorem AG(n:Int):Go.Mem.qU (IntKind.wrap .i64 n):=by
 unfold Go.Mem.qU;simp only[IntKind.wrap,IntKind.bits,IntKind.signed];simp;split <;> omega
theorem B3(bs:List Int):Go.Mem.qU (KA bs)/\Go.Mem.qU (fo bs):=⟨AG _,AG _⟩
section
variable {b:List Int}{x:zo}{r m k:Int}
theorem MQ(h:x∈fH r m):Shape x:=by
 simp only[fH,aaz,abE,acC]at h;rcases h with rfl|rfl|rfl|rfl|rfl|rfl|rfl|rfl|rfl|rfl
 ·exact .mov _ _
 ·exact .cmp _ _
 ·exact .idiv _
 ·exact .ext _ _ _
 ·exact .ext _ _ _
 ·exact .un _ _
 ·exact .un _ _
 ·exact .shiftc _ _
 ·exact .shiftc _ _
 ·exact .H8 _ _ _
theorem O0(hk:Go.Mem.qU k)(h:x∈kL r m k):Shape x:=by
 unfold kL at h;rcases aaD.1 h with h|h
 ·rcases aaD.1 h with h|h
  ·simp only[kL0,aaz,abE,acC]at h;rcases h with rfl|rfl|rfl|rfl|rfl|rfl
   ·exact .movk _ _ hk
   ·exact .cmpk _ _
   ·exact .lea _ _ _
   ·exact .enter _
   ·exact .leave _
   ·exact .aluk _ _ _
  ·unfold kL1 at h;obtain⟨s,_,rfl⟩:=aa0.1 h;exact .aluk _ _ _
 ·unfold kL2 at h;obtain⟨s,_,h⟩:=List.mem_flatMap.1 h;simp only[aaz,abE,acC]at h;rcases h with rfl|rfl
  ·exact .load _ _ _ _
  ·exact .sU _ _ _ _
theorem lD{ks:List Int}(hk:∀k,k∈ks->Go.Mem.qU k)(h:x∈Cj r m ks):Shape x:=by
 unfold Cj at h;rcases aaD.1 h with h|h
 ·rcases aaD.1 h with h|h
  ·rcases aaD.1 h with h|h
   ·exact MQ h
   ·unfold zbY at h;obtain⟨s,_,rfl⟩:=aa0.1 h;exact .H8 _ _ _
  ·unfold zbB at h;obtain⟨s,_,rfl⟩:=aa0.1 h;exact .set _ _
 ·obtain⟨k,h1,h2⟩:=List.mem_flatMap.1 h;exact O0 (hk k h1) h2
theorem zac{p:Nat}(h:k∈So b p):Go.Mem.qU k:=by
 unfold So at h;rcases aaD.1 h with h|h
 ·split at h
  ·rw[aat.1 h];exact(B3 _).1
  ·cases h
 ·split at h
  ·rw[aat.1 h];exact(B3 _).1
  ·cases h
theorem Uj(h:x∈ZL b):Shape x:=by
 unfold ZL at h;rcases aaD.1 h with h|h
 ·rcases aaD.1 h with h|h
  ·rcases aaD.1 h with h|h
   ·unfold g3 at h;split at h
    ·rcases aaD.1 h with h|h
     ·exact lD (λk=>zac) h
     ·split at h
      ·exact lD (λk=>zac) h
      ·cases h
    ·cases h
   ·unfold sJ at h;split at h
    ·rw[aat.1 h];exact .movk _ _ (B3 _).2
    ·cases h
  ·unfold g4 at h;split at h
   ·simp only[aaz,abE,acC]at h;rcases h with rfl|rfl <;> exact .shift _ _ _
   ·cases h
 ·simp only[EI,aaz,abE,acC]at h;rcases h with rfl|rfl|rfl|rfl
  ·exact .cqo
  ·exact .ret
  ·exact .inI
  ·exact .outI
theorem SH(S:Shape x)(h:zO x=true):YY x \/ ∃r k,x=⟨2,r,0,0,0,0,k⟩/\zX r/\Go.Mem.qU k /\ ¬zM k=true:=by
 unfold zO at h;simp only[aac,aao,aam]at h;obtain⟨_,_,h3,h4,h5,h6,h7⟩:=h;unfold Go.Ar.Xh at h3;unfold Go.Ar.Wl at h4;unfold Go.Ar.UK at h5;unfold Go.Ar.tailD at h7
 have R:∀{op:Int},x.op=op->Go.As.fW op=true->zX x.r:=λe1 e2=>by
  rw[e1,e2,abr,aao,aba,aam,aam]at h3;unfold zX;omega
 have M:∀{op:Int},x.op=op->Go.As.KF op=true->zX x.m:=λe1 e2=>by
  rw[e1,e2,abr,aao,aba,aam,aam]at h4;unfold zX;omega
 have W:∀{op:Int},x.op=op->Go.As.VA op=true->¬x.r=4:=λe1 e2=>by
  rw[e1,e2,abr,aao,aam]at h5;exact h5
 have sm:∀k:Int,0<=k->k<=65536->zM k=true:=λk a b=>by
  unfold zM;rw[aac,aaG,aaG];omega
 cases S with
 |mov r m=>exact .inl (.mov r m (R rfl rfl) (M rfl rfl))
 |movk r k hk=>
  by_cases hs:zM k=true
  ·exact .inl (.movk r k (R rfl rfl) hs)
  ·exact .inr ⟨r,k,rfl,R rfl rfl,hk,hs⟩
 |load r m s k=>
  simp at h7;rcases h7.1 with rfl|rfl|rfl
  ·exact .inl (.load1 r m k (R rfl rfl) (M rfl rfl) h7.2)
  ·exact .inl (.load4 r m k (R rfl rfl) (M rfl rfl) h7.2)
  ·exact .inl (.load8 r m k (R rfl rfl) (M rfl rfl) h7.2)
 |sU r m s k=>
  simp at h7;rcases h7.1 with rfl|rfl|rfl
  ·exact .inl (.sto1 r m k (R rfl rfl) (M rfl rfl) h7.2)
  ·exact .inl (.sto4 r m k (R rfl rfl) (M rfl rfl) h7.2)
  ·exact .inl (.sto8 r m k (R rfl rfl) (M rfl rfl) h7.2)
 |lea r m k=>simp at h7;exact .inl (.lea r m k (R rfl rfl) (M rfl rfl) h7)
 |H8 r m s=>
  simp[Go.As.kY]at h7;rcases h7 with rfl|rfl|rfl|rfl|rfl|rfl
  ·exact .inl (.H8 r m _ (R rfl rfl) (M rfl rfl) (by decide))
  ·exact .inl (.H8 r m _ (R rfl rfl) (M rfl rfl) (by decide))
  ·exact .inl (.mul r m (R rfl rfl) (M rfl rfl))
  ·exact .inl (.H8 r m _ (R rfl rfl) (M rfl rfl) (by decide))
  ·exact .inl (.H8 r m _ (R rfl rfl) (M rfl rfl) (by decide))
  ·exact .inl (.H8 r m _ (R rfl rfl) (M rfl rfl) (by decide))
 |aluk r s k=>
  simp[Go.As.kY]at h7;have w:¬r=4:=W rfl rfl;rcases h7.1 with rfl|rfl|rfl|rfl|rfl|rfl
  ·exact .inl (.aluk r k _ (R rfl rfl) w h7.2 (by decide))
  ·exact .inl (.aluk r k _ (R rfl rfl) w h7.2 (by decide))
  ·exact .inl (.mulk r k (R rfl rfl) h7.2)
  ·exact .inl (.aluk r k _ (R rfl rfl) w h7.2 (by decide))
  ·exact .inl (.aluk r k _ (R rfl rfl) w h7.2 (by decide))
  ·exact .inl (.aluk r k _ (R rfl rfl) w h7.2 (by decide))
 |un r s=>simp at h7;exact .inl (.un r s (R rfl rfl) h7)
 |ext r m s=>
  simp at h7;rcases h7 with rfl|rfl
  ·exact .inl (.ext3 r m (R rfl rfl) (M rfl rfl))
  ·exact .inl (.ext4 r m (R rfl rfl) (M rfl rfl))
 |shift r s k=>simp at h7;exact .inl (.shift r k s (R rfl rfl) h7.2.1 (by omega) h7.1)
 |shiftc r s=>simp at h7;exact .inl (.shiftc r s (R rfl rfl) h7)
 |cqo=>exact .inl .cqo
 |idiv m=>exact .inl (.idiv m (M rfl rfl))
 |cmp r m=>exact .inl (.cmp r m (R rfl rfl) (M rfl rfl))
 |cmpk r k=>simp at h7;exact .inl (.cmpk r k (R rfl rfl) h7)
 |set r cc=>simp[Go.As.ZI]at h7;exact .inl (.set r cc (R rfl rfl) h7.1 h7.2)
 |ret=>exact .inl .ret
 |enter k=>simp at h7;exact .inl (.enter k (sm k h7.1 h7.2))
 |leave k=>simp at h7;exact .inl (.leave k (sm k h7.1 h7.2))
 |inI=>exact .inl .inI
 |outI=>exact .inl .outI
def XQ(b x:List Int):Prop:=0<x.length/\x.length<=b.length/\b.take x.length=x
theorem oS{xs:List Int}(h:XQ b xs):b=xs++b.drop xs.length:=by
 conv=>lhs;rw[<- abl xs.length b,h.2.2]
def Bb(b:List Int)(x:zo):Prop:=x.op=2/\zM x.k=true/\10<=b.length/\XQ b (bK x)
theorem FP(x:zo):(bK x).length=10:=by unfold bK;rw[aaB,wW];rfl
theorem Rr{x:zo}(yj:x.op=2)(hs:zM x.k=true){p q:List Int}(e:b=ze x 0++p)(e2:b=bK x++q):False:=by
 obtain⟨op,r,m,sub,cc,l,k⟩:=x;simp only at yj hs;subst yj;have e0:ze ⟨2,r,m,sub,cc,l,k⟩ 0=if zM k=true then [zH 72 0 r,199,xB 0 r]++xz 4 k else [zH 72 0 r,184+r%8]++xz 8 k:=rfl;rw[e0,aah hs]at e;rw[e]at e2
 have:(199:Int)=184+r%8:=by
  have:=congrArg (λl=>l[1]?) e2;have h:=abg this;exact h
 omega
theorem pJ(hb:xa b)(S:Shape x)(h:zO x=true):(XQ b (ze x 0)->xM b=(x,false,(ym x,false)))/\(Bb b x->xM b=(x,false,(10,false))):=by
 have N:=SH S h
 constructor
 ·intro hbg;have e:=oS hbg;rcases N with N|⟨r,k,rfl,R,hk,hs⟩
  ·obtain⟨n,hn⟩:=MU N (b.drop (ze x 0).length);rw[<- e]at hn;have W:=fq hb (by rw[hn]);rw[hn]at W;have W:bM b (x,(n,false)):=by unfold Read at W;rw[aae (by simp)]at W;exact W
   rcases W.2 with A|⟨h1,h2,A⟩
   ·have:=A.2.2.1;have e2:n=ym x:=by simpa [ym] using this
    rw[hn,e2]
   ·exact(Rr h1 h2 e A.all).elim
  ·have e0:ze ⟨2,r,0,0,0,0,k⟩ 0=if zM k=true then [zH 72 0 r,199,xB 0 r]++xz 4 k else [zH 72 0 r,184+r%8]++xz 8 k:=rfl
   have hsz:ym ⟨2,r,0,0,0,0,k⟩=10:=by
    unfold ym;rw[e0,aae hs,aaB,wW];rfl
   rw[hsz];rw[e0,aae hs]at e;exact I7 (rest:=b.drop _) R.1 R.2 hk e
 ·rintro⟨h1,h2,h3,h4⟩;have e:=oS h4;cases S with
  |movk r k hk=>
   have R:zX r:=by
    rcases N with N|⟨r',k',e2,R,_⟩
    ·cases N with
     |movk r k a b=>exact a
    ·cases e2;exact R
   exact I7 (rest:=b.drop _) R.1 R.2 hk e
  |_=>exact absurd h1 (by simp)
end
open Go.As (uH)
instance (b x:List Int):Decidable (XQ b x):=by unfold XQ;infer_instance
instance (b:List Int)(x:zo):Decidable (Bb b x):=by unfold Bb;infer_instance
def findD(b:List Int):List zo->Option (zo×Nat)
 |[]=>none
 |x::l=>if zO x=true then (if XQ b (ze x 0) then some (x,ym x) else if Bb b x then some (x,10) else findD b l) else findD b l
theorem Qf{b:List Int}{y:zo}{m:Nat}:∀{l:List zo},findD b l=some (y,m)->y∈l/\zO y=true/\((XQ b (ze y 0)/\m=ym y)\/(Bb b y/\m=10))
 |[],h=>by cases h
 |x::l,h=>by
  unfold findD at h;split at h
  ·rename_i hr;split at h
   ·rename_i hbg;simp only[aab,aaf]at h;obtain⟨rfl,rfl⟩:=h;exact⟨aak,hr,.inl ⟨hbg,rfl⟩⟩
   ·split at h
    ·rename_i hw;simp only[aab,aaf]at h;obtain⟨rfl,rfl⟩:=h;exact⟨aak,hr,.inr ⟨hw,rfl⟩⟩
    ·have:=Qf h;exact⟨aar _ this.1,this.2⟩
  ·have:=Qf h;exact⟨aar _ this.1,this.2⟩
theorem hQ{b:List Int}{x:zo}:∀{l:List zo},findD b l=none->x∈l->zO x=true->¬XQ b (ze x 0) /\ ¬Bb b x
 |[],_,h,_=>by cases h
 |y::l,h,hx,hr=>by
  unfold findD at h;rcases aaz.1 hx with rfl|hx
  ·rw[aah hr]at h;split at h
   ·cases h
   ·split at h
    ·cases h
    ·exact⟨by assumption,by assumption⟩
  ·split at h
   ·split at h
    ·cases h
    ·split at h
     ·cases h
     ·exact hQ h hx hr
   ·exact hQ h hx hr
section
variable {b:List Int}{x y:zo}{m n:Nat}
theorem AA(hb:xa b)(h:findD b (ZL b)=some (y,m)):xM b=(y,false,(m,false))/\zO y=true:=by
 obtain⟨h1,h2,h3⟩:=Qf h;have g:=pJ hb (Uj h1) h2;rcases h3 with⟨a,rfl⟩|⟨a,rfl⟩
 ·exact⟨g.1 a,h2⟩
 ·exact⟨g.2 a,h2⟩
theorem iA(S:Shape x):0<(ze x 0).length:=by
 cases S <;> unfold ze <;> (try simp only[reduceIte,Int.reduceEq]) <;> (repeat' split) <;> simp
theorem Am{t:RS}{xs:List Int}(A:Xj b (0,false) t xs)(h:0<xs.length):XQ b xs:=by
 refine⟨h,A.ge,?_⟩;rw[A.all,List.take_left' rfl]
theorem MT(hb:xa b)(h:xM b=(x,false,(n,false)))(hr:zO x=true):findD b (ZL b)=some (x,n):=by
 have W:=fq hb (by rw[h]);rw[h]at W;have W:bM b (x,(n,false)):=by unfold Read at W;rw[aae (by simp)]at W;exact W
 have S:=Uj W.1;have pos:=iA S;cases hf:findD b (ZL b) with
 |none=>
  have:=hQ hf W.1 hr;rcases W.2 with A|⟨h1,h2,A⟩
  ·exact absurd (Am A pos) this.1
  ·exact absurd ⟨h1,h2,by have:=A.ge;rw[FP]at this;exact this,Am A (by show 0<(bK x).length;rw[FP];decide)⟩ this.2
 |some r=>
  obtain⟨y,m⟩:=r;have:=(AA hb hf).1;rw[h]at this;simp only[aaf]at this;obtain⟨rfl,_,rfl,_⟩:=this;rfl
end
def KD:List Int->List Int->Nat->Int->Option (Nat×Int)
 |a::az,g::gs,n,to=>if a<=to/\to-a<=g then some (n,to-a) else KD az gs (n+1) to
 |_,_,_,_=>none
def pO:List Int->Int->Nat->Option Nat
 |[],_,_=>none
 |s::ss,to,n=>if s=to then some n else pO ss to (n+1)
def Z6(st gl:List Int)(len:Nat)(x:zo)(to:Int):Option zo :=
 if x.op=18\/x.op=19 then (if 0<=to/\to<=(len:Int) then some {x with k:=0,l:=to} else none)
 else if x.op=21 then (pO st to 0).map λ(n:Nat)=>{x with k:=0,sub:=(n:Int)}
 else (KD (yi gl 16777216) gl 0 to).map λr=>{x with sub:=(r.1:Int),k:=r.2}
def Q1(st gl:List Int)(len:Nat)(b:List Int)(p:Nat):Option (zo×Nat) :=
 if (xM b).2.2.2=true then none
 else if (xM b).2.1=true then (match Z6 st gl len (xM b).1 (((p+(xM b).2.2.1:Nat):Int)+(xM b).1.k) with
  |some i=>if uH gl i=true then some (i,(xM b).2.2.1) else none
  |none=>none)
 else if uH gl (xM b).1=true then some ((xM b).1,(xM b).2.2.1) else none
def Ep(b:List Int)(n:Nat):List zo:=[⟨18,0,0,0,0,0,0⟩,⟨21,0,0,0,0,0,0⟩]++((List.range 6).map λc=>⟨19,0,0,0,21+(c:Nat),0,0⟩)++(if n=7 then [⟨6,qP (qm b 2) (qm b 0),0,0,0,0,0⟩] else [])
def Zi(b:List Int)(n:Nat):Int:=KA ((b.drop (n-4)).take 4)
def ic(b:List Int)(n:Nat):Option zo:=(Ep b n).find? λx=>decide (ze x (Zi b n)=b.take n)
def EP(st gl:List Int)(len:Nat)(x:zo)(to:Int):Option zo:=if x.op=6/\x.r=4 then none else Z6 st gl len x to
def bG(st gl:List Int)(len:Nat)(b:List Int)(p:Nat):List Nat->Option (zo×Nat)
 |[]=>none
 |n::ns=>if n<=b.length then (match ic b n with
  |some x=>(EP st gl len x (((p+n:Nat):Int)+Zi b n)).map λi=>(i,n)
  |none=>bG st gl len b p ns) else none
def R2(st gl:List Int)(len:Nat)(b:List Int)(p:Nat):Option (zo×Nat):=match findD b (ZL b) with
 |some r=>some r
 |none=>bG st gl len b p [5,6,7]
section
variable {b:List Int}{x y:zo}{m n:Nat}
theorem Ow(hb:xa b)(h:x∈Ep b n):dp x:=by
 have hbt:∀i,0<=qm b i/\qm b i<256:=λi=>by
  unfold qm;cases hi:b[i]? with
  |none=>exact⟨Int.le_refl _,by decide⟩
  |some v=>exact hb v (aax hi)
 unfold Ep at h;rcases aaD.1 h with h|h
 ·rcases aaD.1 h with h|h
  ·simp only[aaz,abE,acC]at h;rcases h with rfl|rfl
   ·exact .jmp
   ·exact .call
  ·obtain⟨c,hc,rfl⟩:=aa0.1 h;have:=abj.1 hc;exact .jcc _ (by omega) (by omega)
 ·split at h
  ·rw[aat.1 h];exact .pW _ (JD (hbt 2).1 (hbt 2).2).1
  ·cases h
theorem EF(F:dp y){d:Int}(hd:zM d=true)(rest:List Int):xM (ze y d++rest)=({y with k:=d},true,((ze y d).length,false)):=by
 cases F with
 |jmp=>exact S9 hd _ rfl
 |call=>exact Tb hd _ rfl
 |jcc cc a c=>exact Ta hd ⟨19,0,0,0,cc,0,0⟩ rfl a c
 |pW r R=>exact zbr hd ⟨6,r,0,0,0,0,0⟩ rfl R.1 R.2
theorem Gy(hb:xa b)(hn:n<=b.length)(h4:4<=n):zM (Zi b n)=true:=by
 unfold Zi;refine lr (by rw[aa3,abM];omega) λz hz=>hb z (ab8 (abV hz))
theorem pN(hb:xa b)(hn:n<=b.length)(h4:4<=n)(h:ic b n=some x):dp x/\xM b=({x with k:=Zi b n},true,(n,false)):=by
 unfold ic at h;have hx:=List.mem_of_find?_eq_some h;have hp:=List.find?_some h;have e:ze x (Zi b n)=b.take n:=by simpa using hp
 have F:=Ow hb hx;refine⟨F,?_⟩;have r:=EF F (Gy hb hn h4) (b.drop n);rw[e,abl,aa3,acr hn]at r;exact r
theorem BS(F:dp y)(d:Int):(ze y d).length=5\/(ze y d).length=6\/(ze y d).length=7:=by
 cases F with
 |jmp=>exact .inl rfl
 |call=>exact .inl rfl
 |jcc cc a c=>exact .inr (.inl rfl)
 |pW r R=>exact .inr (.inr rfl)
theorem OK(F:dp y){d:Int}(hd:zM d=true){t:RS}(A:Xj b (0,false) t (ze y d)):Zi b (ze y d).length=d:=by
 have e:=A.all;have hl:4<=(ze y d).length:=by have:=BS F d;omega
 obtain⟨pre,hp⟩:∃pre:List Int,ze y d=pre++xz 4 d/\pre.length=(ze y d).length-4:=by
  cases F with
  |jmp=>exact⟨[233],rfl,rfl⟩
  |call=>exact⟨[232],rfl,rfl⟩
  |jcc cc a c=>exact⟨[15,128+vC cc],rfl,rfl⟩
  |pW r R=>exact⟨[zH 72 r 0,141,5+r%8*8],rfl,rfl⟩
 unfold Zi
 have:b=pre++(xz 4 d++b.drop (ze y d).length):=by
  conv=>lhs;rw[e,hp.1,aa4]
  rw[<- hp.1]
 rw[this];rw[<- hp.2];rw[List.drop_left' rfl];rw[List.take_left' (wW 4 d)];exact aq hd
theorem R8(F:dp y){d:Int}{t:RS}(A:Xj b (0,false) t (ze y d)):y∈Ep b (ze y d).length:=by
 cases F with
 |jmp=>exact aaK _ (aaK _ (by simp))
 |call=>exact aaK _ (aaK _ (by simp))
 |jcc cc a c=>
  refine aaK _ (aaX _ (aa0.2 ⟨(cc-21).toNat,abj.2 (by omega),?_⟩));have:21+(((cc-21).toNat:Nat):Int)=cc:=by omega
  rw[this]
 |pW r R=>
  refine aaX _ ?_;have hl:(ze ⟨6,r,0,0,0,0,0⟩ d).length=7:=rfl;rw[hl,aah rfl];have b0:=WV A (i:=0) (v:=zH 72 r 0) rfl;have b2:=WV A (i:=2) (v:=5+r%8*8) rfl;rw[b0.1,b2.1,fL (b:=0) R.1 R.2 (fP r 0).2.1 (by omega)];exact aat.2 rfl
end
section
variable {b:List Int}{x y:zo}{m n:Nat}{st gl:List Int}
theorem rO(S:Shape x)(gl:List Int):uH gl x=zO x:=by
 have h:=Go.Ar.OV gl x
 have h1:Go.Ar.jG x=true:=by
  unfold Go.Ar.jG;cases S <;> simp
 have h2:Go.Ar.Wk gl x=true:=by
  unfold Go.Ar.Wk;cases S <;> simp
 rw[h1,h2,acz,acz]at h;exact h
theorem AI{len p:Nat}:∀{ns:List Nat},(∀n,n∈ns->n<=b.length->ic b n=none)->bG st gl len b p ns=none
 |[],h=>rfl
 |n::ns,h=>by
  unfold bG;by_cases c:n<=b.length
  ·rw[aah c,h n aak c];exact AI λk hk=>h k (aar _ hk)
  ·rw[aae c]
theorem IH{len p n0:Nat}{i:zo}:∀{ns:List Nat},n0∈ns->(∀n,n∈ns->n<=n0\/True)->(∀n,n∈ns->¬n=n0->n<=b.length->ic b n=none)->(∀n,n∈ns->n<=b.length\/n0<n)->ns.Pairwise (· < ·)->ic b n0=some i->bG st gl len b p ns=(EP st gl len i (((p+n0:Nat):Int)+Zi b n0)).map λj=>(j,n0)
 |[],h,_,_,_,_,_=>by cases h
 |n::ns,h,h1,h2,h3,h4,h5=>by
  have h4':=List.pairwise_cons.1 h4;unfold bG;by_cases e:n=n0
  ·subst e
   have c:n<=b.length:=by
    rcases h3 n aak with q|q
    ·exact q
    ·omega
   rw[aah c,h5]
  ·have hm:n0∈ns:=by
    rcases aaz.1 h with q|q
    ·exact absurd q.symm e
    ·exact q
   have lt:=h4'.1 n0 hm
   have c:n<=b.length:=by
    rcases h3 n aak with q|q
    ·exact q
    ·omega
   rw[aah c,h2 n aak e c];exact IH hm (λk _ => .inr trivial) (λk hk=>h2 k (aar _ hk)) (λk hk=>h3 k (aar _ hk)) h4'.2 h5
theorem IS{to:Int}:∀(az gl:List Int) (n:Nat) {r:Nat×Int},KD az gl n to=some r->n<=r.1/\r.1<n+gl.length/\0<=r.2/\r.2<=gl.getD (r.1-n) 0
 |a::az,g::gl,n,r,h=>by
  unfold KD at h;split at h
  ·rename_i q;simp only[aab]at h;subst h;refine⟨aaj _,by simp,by omega,?_⟩;show to-a<=(g::gl).getD (n-n) 0;rw[acw];exact q.2
  ·have:=IS az gl (n+1) h;obtain⟨h1,h2,h3,h4⟩:=this;refine⟨by omega,by simp;omega,h3,?_⟩;obtain⟨k,hk⟩:∃k,r.1-n=k+1:=⟨r.1-n-1,by omega⟩;rw[hk];have:r.1-(n+1)=k:=by omega
   rw[this]at h4;exact h4
 |[],_,n,r,h=>by cases h
 |_::_,[],n,r,h=>by cases h
theorem Mo(F:dp y){len:Nat}{to:Int}{i:zo}(h:Z6 st gl len y to=some i):uH gl i = !decide (y.op=6/\y.r=4):=by
 unfold Z6 at h;cases F with
 |jmp=>
  simp at h;rw[<- h.2];rfl
 |jcc cc a c=>
  simp at h;rw[<- h.2];have:cc=21\/cc=22\/cc=23\/cc=24\/cc=25\/cc=26:=by omega
  rcases this with rfl|rfl|rfl|rfl|rfl|rfl <;> rfl
 |call=>
  simp at h;obtain⟨n,_,rfl⟩:=h;rfl
 |pW r R=>
  simp at h;obtain⟨n,k,h1,rfl⟩:=h;obtain⟨b1,b2,b3,b4⟩:=IS _ _ _ h1;have R0:=R.1;have R1:=R.2;rw[Nat.sub_zero]at b4;have b2:(n:Int)<gl.length:=by have:n<0+gl.length:=b2;omega
  have b3:0<=k:=b3;have b4:k<=gl.getD n 0:=b4;have b5:k<=gl[n]?.getD 0:=by rw[<- abd];exact b4
  unfold uH Go.As.ZO Go.As.yn;have e1:Go.As.fW 6=true:=rfl;have e2:Go.As.VA 6=true:=rfl;have e3:Go.As.KF 6=false:=rfl;simp only[e1,e2,e3,abb];by_cases h4:r=4
  ·subst h4;simp
  ·simp[h4,R0,R1,b2,b3,b5]
theorem zaK(hb:xa b)(len p:Nat):R2 st gl len b p=Q1 st gl len b p:=by
 unfold R2;cases hf:findD b (ZL b) with
 |some r=>
  obtain⟨y,m⟩:=r;obtain⟨h1,h2⟩:=AA hb hf;have S:=Uj (Qf hf).1;unfold Q1;rw[h1];rw[aae (by simp),aae (by simp),aah (by rw[rO S];exact h2)]
 |none=>
  have none_of:(∀n,n∈[5,6,7]->n<=b.length->∀x,ic b n=some x->False)->bG st gl len b p [5,6,7]=none:=λh=>AI λn hn hl=>by
   cases hh:ic b n with
   |none=>rfl
   |some x=>exact(h n hn hl x hh).elim
  have four:∀n,n∈[5,6,7]->4<=n:=λn hn=>by simp at hn;omega
  show bG st gl len b p [5,6,7]=_;unfold Q1;by_cases hbad:(xM b).2.2.2=true
  ·rw[aah hbad];refine none_of λn hn hl x hh=>?_;have:=(pN hb hl (four n hn) hh).2;rw[this]at hbad;cases hbad
  rw[aae hbad];have hok:(xM b).2.2.2=false:=by simpa using hbad
  have W:=fq hb hok;by_cases hfar:(xM b).2.1=true
  ·rw[aah hfar];unfold Read at W;rw[aah hfar]at W;obtain⟨y,d,F,hd,e1,A⟩:=W;have e1:(xM b).1 = {y with k:=d}:=e1;have hn0:(xM b).2.2.1=(ze y d).length:=by have:=A.2.2.1;simpa using this
   have hge:=A.ge;have hlen:=BS F d;have hy:=R8 F A;have hdist:=OK F hd A;rw[hn0,e1]
   have uniq:∀n,n∈[5,6,7]->n<=b.length->∀x,ic b n=some x->n=(ze y d).length/\x=y:=λn hn hl x hh=>by
    obtain⟨Fx,r⟩:=pN hb hl (four n hn) hh;rw[r]at hn0 e1;have hn0:n=(ze y d).length:=hn0;refine⟨hn0,?_⟩;have e1:({x with k:=Zi b n}:zo) = {y with k:=d}:=e1;have k0:∀{z:zo},dp z->z.k=0:=λFz=>by cases Fz <;> rfl
    obtain⟨a1,a2,a3,a4,a5,a6,a7⟩:=x;obtain⟨b1,b2,b3,b4,b5,b6,b7⟩:=y;have:=k0 Fx;have:=k0 F;simp only[zo.mk.injEq]at e1;simp only at *
    obtain⟨rfl,rfl,rfl,rfl,rfl,rfl,_⟩:=e1
    subst_vars
    rfl
   have hit:ic b (ze y d).length=some y:=by
    have hs:∃x,ic b (ze y d).length=some x:=by
     unfold ic;rw[hdist]
     have:((Ep b (ze y d).length).find? λx=>decide (ze x d=b.take (ze y d).length)).isSome=true:=by
      rw[List.find?_isSome];refine⟨y,hy,?_⟩;rw[A.all,List.take_left' rfl];simp
     exact Option.isSome_iff_exists.1 this
    obtain⟨x,hx⟩:=hs;have:=(uniq _ (by simp;omega) hge x hx).2;rw[hx,this]
   rw[IH (n0:=(ze y d).length) (i:=y) (by simp;omega) (λ_ _ => .inr trivial) (λn hn hne hl=>by
    cases hh:ic b n with
    |none=>rfl
    |some x=>exact absurd (uniq n hn hl x hh).1 hne) (λn hn=>by
     simp at hn;by_cases q:n<=b.length
     ·exact .inl q
     ·exact .inr (by omega)) (by decide) hit,hdist]
   have eg:∀to,Z6 st gl len {y with k:=d} to=Z6 st gl len y to:=λto=>rfl
   show(EP st gl len y (((p+(ze y d).length:Nat):Int)+d)).map _=match Z6 st gl len {y with k:=d} (((p+(ze y d).length:Nat):Int)+d) with
    |some i=>if uH gl i=true then some (i,(ze y d).length) else none
    |none=>none
   rw[eg];unfold EP;cases hg:Z6 st gl len y (((p+(ze y d).length:Nat):Int)+d) with
   |none=>split <;> rfl
   |some i=>
    have gg:=Mo F hg;by_cases h4:y.op=6/\y.r=4
    ·rw[aah h4];simp only[gg];rw[aa1 h4];rfl
    ·rw[aae h4];simp only[gg];rw[aaT h4];rfl
  ·rw[aae hfar];have hfar:(xM b).2.1=false:=by simpa using hfar
   have e:xM b=((xM b).1,false,((xM b).2.2.1,false)):=Prod.ext rfl (Prod.ext hfar (Prod.ext rfl hok));unfold Read at W;rw[aae (by rw[hfar];simp)]at W;have S:=Uj W.1;have S:Shape (xM b).1:=S
   have hno:¬uH gl (xM b).1=true:=λh=>by
    rw[rO S]at h;have:=MT hb e h;rw[hf]at this;cases this
   rw[aae hno];refine none_of λn hn hl x hh=>?_;have:=(pN hb hl (four n hn) hh).2;rw[this]at hfar;cases hfar
end
end Go.En
namespace Go.Ed
open Go.Ai Go.Proofs
open Go.Rtl (zv zE Old inc z8 yS)
open Go.Rm (zQ yJ Rd Rd.of Rd.at Rd.mono)
open Go.As (zo Pg)
open Go.Eb (xb yI ye lO uA)
open Go.En
theorem zb7{h:za}{sv:aaa}{zs:List Int}(S:xb h sv zs){i:Nat}{z:Int}(hz:zs[i]? = some z):∃b o c t,vG Tryz.prog 29 sv (.int .i64 i)=some (.pointer (some ⟨b,o,none⟩))/\b<h.next/\h.get b=some (.cells c t)/\c[o]? = some (.int .u8 z):=by
 obtain⟨b,o,c,t,⟨off,cp,e1,e2⟩,hi,hb,hg,_,_,hk⟩:=zE.spot S (i:=i) (r:=yI z) (by rw[aay,hz];rfl) rfl;refine⟨b,o,c,t,?_,hb,hg,by have:=hk 0 (by decide);exact this⟩;rw[e1,zcD,aah (by omega),e2,abb]
abbrev Yn(bv:aaa)(s:RS):wS := .cells [bv,.int .i64 s.1,.bool s.2] 77
abbrev rp(b:Nat):aaa := .pointer (some ⟨b,0,none⟩)
structure r5 (lo:yH) (bv:aaa) (bs:List Int):Prop where
 rd:Rd lo (xb · bv bs)
 nb:zR bv=false
 bD:bs.length<=1000000000
 byte:xa bs
theorem r5.mono{lo lo':yH}{bv:aaa}{bs:List Int}(B:r5 lo bv bs)(l:lo.Le lo'):r5 lo' bv bs:=⟨B.rd.mono l,B.nb,B.bD,B.byte⟩
section
variable {lo:yH}{h:za}{L:List HP}{bv:aaa}{bs:List Int}{rb:Nat}{st:RS}
theorem Vz(B:r5 lo bv bs)(s:Sat lo h (pt rb (Yn bv st)::L)):DC Tryz.prog 64 [rp rb] h (λv h'=>v=.int .u8 (zw bs st).1/\Sat lo h' (pt rb (Yn bv (zw bs st).2)::L)):=by
 apply LG;unfold NK;have g:=s.get;have S:=B.rd.at s;have ln:=λr h'=>ye S r h';have bn:=B.nb;have bD:=B.bD;obtain⟨k,bad⟩:=st;by_cases hc:bs.length<=k
 ·have hc':(k:Int) ≥ (bs.length:Int):=by omega
  have e:zw bs (k,bad)=(0,(k,true)):=by unfold zw;rw[aas hc]
  rw[e];simp only[EE,zu,jE,zg,j2,BR,eW,yT,DE,g,ln,hc',bn];refine zY s (by simp) rfl λh1 s1=>?_;simp only[EE];exact s1
 ·have hc':¬(k:Int) ≥ (bs.length:Int):=by omega
  obtain⟨z,hz⟩:∃z,bs[k]? = some z:=⟨_,aag (by omega)⟩;have e:zw bs (k,bad)=(z,(k+1,bad)):=by unfold zw;rw[hz]
  rw[e];have hin:=inc (show k<4611686018427387904 by omega);simp only[EE,zu,jE,zg,U6,BR,eW,DF,g,ln,hc',bn,hin];refine zY s (by simp) rfl λh1 s1=>?_;have g1:=s1.get;have S1:=B.rd.at s1;obtain⟨b,o,c,t,a1,_,a2,a3⟩:=zb7 S1 hz;have hin2:IntKind.wrap .i64 (((k+1:Nat):Int)-1)=(k:Int):=by simp only[IntKind.wrap,IntKind.bits,IntKind.signed];simp;omega
  simp only[EE,zt,zu,jE,zg,zbW,BR,eW,g1,hin2,a1,a2,a3];exact s1
theorem fB(bs:List Int)(B:xa bs):∀(n:Nat) (st:RS),(qQ bs n st).1.length=n/\xa (qQ bs n st).1
 |0,st=>⟨rfl,λx hx=>by cases hx⟩
 |n+1,st=>by
  obtain⟨h1,h2⟩:=fB bs B n st;refine⟨by show((qQ bs n st).1++[_]).length=_;rw[aaB,h1];rfl,?_⟩;intro x hx;rcases aaD.1 hx with hx|hx
  ·exact h2 x hx
  ·rw[aat.1 hx];unfold zw;split
   ·rename_i v hv;exact B v (aax hv)
   ·exact⟨Int.le_refl 0,by show(0:Int)<256;decide⟩
theorem Ff(B:r5 lo bv bs)(s:Sat lo h (pt rb (Yn bv st)::L)){n:Nat}(hn:n=4\/n=8):DC Tryz.prog 65 [rp rb,.int .i64 n] h (λv h'=>v=.int .i64 (if n=4 then wk bs st else W3 bs st).1/\Sat lo h' (pt rb (Yn bv (if n=4 then wk bs st else W3 bs st).2)::L)):=by
 apply DH;unfold DG;simp only[↓zB];refine kW (λm vs h'=>∃i:Nat,i<=n/\m=n-i/\vs=[.int .u64 (VL (qQ bs i st).1),.int .i64 i]/\Sat lo h' (pt rb (Yn bv (qQ bs i st).2)::L)) n ⟨0,aaS _,rfl,rfl,s⟩ ?_;rintro m vs h1 ⟨i,hi,rfl,rfl,s1⟩;unfold nP;by_cases hc:(i:Int)<(n:Int)
 ·have e8:IntKind.wrap .i64 (8*(i:Int))=8*(i:Int):=by
   have:(i:Int)<8:=by rcases hn with rfl|rfl <;> omega
   simp only[IntKind.wrap,IntKind.bits,IntKind.signed];simp;omega
  have n8:¬(8*(i:Int))<0:=by omega
  have n9:(8*(i:Int)) ≥ 0:=by omega
  obtain⟨l1,l2⟩:=fB bs B.byte i st;obtain⟨v0,v1⟩:=rT _ l2;rw[l1]at v1;have hin:=inc (show i<4611686018427387904 by omega);simp only[EE,nth,↓zB,hc];refine KI (Vz B s1) ?_;rintro v h2 ⟨rfl,s2⟩;have zb:0<=(zw bs (qQ bs i st).2).1/\(zw bs (qQ bs i st).2).1<256:=(fB bs B.byte (i+1) st).2 _ (aaX _ (aat.2 rfl));have om:=SS (i:=i) (by rcases hn with rfl|rfl <;> omega) v0 v1 zb.1 zb.2
  have es:VL (qQ bs i st).1+(zw bs (qQ bs i st).2).1*2^(8*i)=VL (qQ bs (i+1) st).1:=by
   show _=VL ((qQ bs i st).1++[_]);rw[Cy,l1]
  rw[es]at om;simp only[EE,nth,Oy,nN,nO,e8,n9,hin,om];exact⟨n-(i+1),by omega,i+1,by omega,rfl,rfl,s2⟩
 ·have:i=n:=by omega
  subst this;rcases hn with rfl|rfl
  ·simp only[EE,nth,cC,hc];refine⟨rfl,?_⟩;rw[aah rfl];exact⟨rfl,s1⟩
  ·simp only[EE,nth,cC,hc];refine⟨rfl,?_⟩;rw[aae (by decide)];exact⟨rfl,s1⟩
theorem iq(B:r5 lo bv bs)(s:Sat lo h (pt rb (Yn bv st)::L)):DC Tryz.prog 65 [rp rb,.int .i64 4] h (λv h'=>v=.int .i64 (wk bs st).1/\Sat lo h' (pt rb (Yn bv (wk bs st).2)::L)):=Ff B s (n:=4) (.inl rfl)
theorem zbf(B:r5 lo bv bs)(s:Sat lo h (pt rb (Yn bv st)::L)):DC Tryz.prog 65 [rp rb,.int .i64 8] h (λv h'=>v=.int .i64 (W3 bs st).1/\Sat lo h' (pt rb (Yn bv (W3 bs st).2)::L)):=Ff B s (n:=8) (.inr rfl)
end
open Go.Rtl (x9 Jv)
open Go.Eb (ae Uf)
def FK:List Int:=[11,12,16,17,18]
theorem H9(op:Int)(h:za):vw Tryz.prog 96 [.int .u8 op] h (.int .i64 (qe op)):=by
 apply x9;apply FZ;unfold HE;generalize h.lock=H;simp only[EE,↓zB,eN,B8];refine kW (λm vs h'=>∃j:Nat,j<=5/\m=5-j/\vs=[.int .i64 0,.int .i64 j]/\h'=H.push (.cells [.int .i64 11,.int .i64 12,.int .i64 16,.int .i64 17,.int .i64 18] 3) /\ ∀x,x∈FK.take j->¬kY x=op) 5 ⟨0,aaS _,rfl,rfl,rfl,λx hx=>by cases hx⟩ ?_;rintro m vs h1 ⟨j,hj,rfl,rfl,rfl,hno⟩;unfold tG;have nx:(H.push (.cells [.int .i64 11,.int .i64 12,.int .i64 16,.int .i64 17,.int .i64 18] 3)).get H.next=some (.cells [.int .i64 11,.int .i64 12,.int .i64 16,.int .i64 17,.int .i64 18] 3):=wQ;generalize H.push (.cells [.int .i64 11,.int .i64 12,.int .i64 16,.int .i64 17,.int .i64 18] 3)=G at nx ⊢;generalize H.next=a at nx ⊢
 have step:∀(x:Int) (j:Nat),j<5->FK[j]? = some x->(∀x,x∈FK.take j->¬kY x=op)->¬kY x=op->∀y,y∈FK.take (j+1)->¬kY y=op:=λx j hj hx hno hne y hy=>by
  rw[abw,hx]at hy;rcases aaD.1 hy with hy|hy
  ·exact hno y hy
  ·rw[aat.1 hy];exact hne
 have cs:([.int .i64 11,.int .i64 12,.int .i64 16,.int .i64 17,.int .i64 18]:List aaa)=FK.map λx=>Value.int .i64 x:=rfl;rw[cs]at nx;by_cases hc:(j:Int)<((5:Nat):Int)
 ·obtain⟨x,hx⟩:∃x,FK[j]? = some x:=⟨_,aag (show j<5 by omega)⟩;have hc2:(FK.map λx=>Value.int .i64 x)[j]? = some (.int .i64 x):=by rw[aay,hx];rfl
  have hix:vG Tryz.prog 22 (.slice (some ⟨a,0,none⟩) 5 7) (.int .i64 j)=some (.pointer (some ⟨a,j,none⟩)):=by
   rw[Wi,aah (by omega)];simp
  have hin:=inc (show j<4611686018427387904 by omega);simp only[EE,nth,↓zB,zu,zg,tE,nx,hc,hix,hc2];refine VM (ae x _) ?_;by_cases he:kY x=op
  ·have:qe op=x:=by
    rw[<- he];have:=aax hx;simp only[FK,aaz,abE,acC]at this;rcases this with rfl|rfl|rfl|rfl|rfl <;> decide
   simp only[EE,gd,he];rw[this];rfl
  ·simp only[EE,nth,gd,tF,he,hin];exact⟨5-(j+1),by omega,j+1,by omega,rfl,rfl,step x j (by omega) hx hno he⟩
 ·have:j=5:=by omega
  subst this;simp only[EE,nth,hc];have h1:=hno 11 (by decide);have h2:=hno 12 (by decide);have h3:=hno 16 (by decide);have h4:=hno 17 (by decide);have h5:=hno 18 (by decide)
  have:qe op=0:=by
   unfold qe;rw[aae (λe=>h1 (by rw[e];decide)),aae (λe=>h2 (by rw[e];decide)),aae (λe=>h3 (by rw[e];decide)),aae (λe=>h4 (by rw[e];decide)),aae (λe=>h5 (by rw[e];decide))]
  rw[this];rfl
def Rv:List Int:=[21,22,23,26,24,25]
theorem zq{c x:Int}(hx:x∈Rv)(he:vC x=c):Jj c=some x:=by
 rw[<- he];simp only[Rv,aaz,abE,acC]at hx;rcases hx with rfl|rfl|rfl|rfl|rfl|rfl <;> decide
theorem Mc{c:Int}(hno:∀x,x∈Rv->¬vC x=c):Jj c=none:=by
 unfold Jj;have h1:=hno 21 (by decide);have h2:=hno 22 (by decide);have h3:=hno 23 (by decide);have h4:=hno 26 (by decide);have h5:=hno 24 (by decide);have h6:=hno 25 (by decide);rw[aae (λe=>h1 (by rw[e];decide)),aae (λe=>h2 (by rw[e];decide)),aae (λe=>h3 (by rw[e];decide)),aae (λe=>h4 (by rw[e];decide)),aae (λe=>h5 (by rw[e];decide)),aae (λe=>h6 (by rw[e];decide))]
section
variable {lo:yH}{h:za}{L:List HP}{bv:aaa}{bs:List Int}{rb:Nat}{st:RS}
theorem Ey(c:Int)(s:Sat lo h (pt rb (Yn bv st)::L))(bn:zR bv=false):DC Tryz.prog 66 [rp rb,.int .u8 c] h (λv h'=>v=.int .i64 (Zh c st).1/\Sat lo h' (pt rb (Yn bv (Zh c st).2)::L)):=by
 apply gf;unfold aY;simp only[EE,↓zB,aM,B8];have cs:([.int .i64 21,.int .i64 22,.int .i64 23,.int .i64 26,.int .i64 24,.int .i64 25]:List aaa)=Rv.map λx=>Value.int .i64 x:=rfl;rw[cs];have s1:=s.push (.cells (Rv.map λx=>Value.int .i64 x) 3);generalize h.push (.cells (Rv.map λx=>Value.int .i64 x) 3)=G at s1 ⊢;generalize h.next=a at s1 ⊢;refine kW (λm vs h'=>∃j:Nat,j<=6/\m=6-j/\vs=[.int .i64 0,.int .i64 j]/\h'=G /\ ∀x,x∈Rv.take j->¬vC x=c) 6 ⟨0,aaS _,rfl,rfl,rfl,λx hx=>by cases hx⟩ ?_;rintro m vs h1 ⟨j,hj,rfl,rfl,rfl,hno⟩;unfold Kt;have nx:=s1.get;by_cases hc:(j:Int)<((6:Nat):Int)
 ·obtain⟨x,hx⟩:∃x,Rv[j]? = some x:=⟨_,aag (show j<6 by omega)⟩;have hm:=aax hx;have hc2:(Rv.map λx=>Value.int .i64 x)[j]? = some (.int .i64 x):=by rw[aay,hx];rfl
  have hix:vG Tryz.prog 22 (.slice (some ⟨a,0,none⟩) 6 8) (.int .i64 j)=some (.pointer (some ⟨a,j,none⟩)):=by
   rw[Wi,aah (by omega)];simp
  have hin:=inc (show j<4611686018427387904 by omega)
  have hb:21<=x/\x<=26:=by
   simp only[Rv,aaz,abE,acC]at hm;omega
  simp only[EE,nth,↓zB,zu,zg,Kq,nx,hc,hix,hc2];refine VM (Uf hb.1 hb.2 _) ?_;by_cases he:vC x=c
  ·have e:Zh c st=(x,st):=by unfold Zh;rw[zq hm he]
   rw[e];simp only[EE,Wt,he];exact s1.drop
  ·simp only[EE,nth,Wt,Kr,he,hin];refine⟨6-(j+1),by omega,j+1,by omega,rfl,rfl,λy hy=>?_⟩;rw[abw,hx]at hy;rcases aaD.1 hy with hy|hy
   ·exact hno y hy
   ·rw[aat.1 hy];exact he
 ·have:j=6:=by omega
  subst this;have e:Zh c st=(0,zU true st):=by unfold Zh;rw[Mc hno]
  rw[e];have s2:=s1.f [1,0];have g:=s2.get;simp only[EE,nth,j2,yT,Ku,hc];refine zY s2 (by simp) rfl λh1 s1=>?_;simp only[EE]
  have:Yn bv (zU true st)=.cells [bv,.int .i64 st.1,.bool true] 77:=by
   unfold zU;rw[Bool.or_true]
  rw[this];exact(s1.p 1).drop
end
abbrev XK(o:lJ):List aaa:=[.int .i64 o.reg,.int .i64 o.rm,.bool o.memory,.bool o.place,.int .i64 o.k]
def JA(o:lJ):aaa := .agg #[.int .i64 o.reg,.int .i64 o.rm,.bool o.memory,.bool o.place,.int .i64 o.k]
section
variable {lo:yH}{h:za}{L:List HP}{bv:aaa}{bs:List Int}{rb:Nat}{st:RS}
theorem XI(B:xa bs)(st:RS):0<=(zw bs st).1/\(zw bs st).1<256:=(fB bs B 1 st).2 _ (aaX _ (aat.2 rfl))
theorem za8(z:Fin 256):IntKind.wrap .u8 ↑(BitVec.ofInt (IntKind.bits .u8) ((z.val:Nat):Int) &&& BitVec.ofInt (IntKind.bits .u8) 7).toNat=((z.val:Nat):Int)%8:=by
 revert z;decide +kernel
theorem zbd(z:Fin 256):IntKind.wrap .u8 ↑(BitVec.ofInt (IntKind.bits .u8) (((z.val:Nat):Int).fdiv (2^min 3 (IntKind.bits .u8))) &&& BitVec.ofInt (IntKind.bits .u8) 7).toNat=((z.val:Nat):Int)/8%8:=by
 revert z;decide +kernel
theorem zc4(z:Fin 256):((z.val:Nat):Int).fdiv (2^min 6 (IntKind.bits .u8))=((z.val:Nat):Int)/64:=by
 revert z;decide +kernel
theorem zay(z:Fin 256):IntKind.wrap .u8 ↑(BitVec.ofInt (IntKind.bits .u8) ((z.val:Nat):Int) &&& BitVec.ofInt (IntKind.bits .u8) 4).toNat=if ((z.val:Nat):Int)/4%2=1 then 4 else 0:=by
 revert z;decide +kernel
theorem zax(z:Fin 256):IntKind.wrap .u8 ↑(BitVec.ofInt (IntKind.bits .u8) ((z.val:Nat):Int) &&& BitVec.ofInt (IntKind.bits .u8) 1).toNat=((z.val:Nat):Int)%2:=by
 revert z;decide +kernel
theorem U7{z:Int}(h0:0<=z)(h1:z<256):∃f:Fin 256,z=((f.val:Nat):Int):=⟨⟨z.toNat,by omega⟩,by show z=((z.toNat:Nat):Int);omega⟩
section
variable {z:Int}(h0:0<=z)(h1:z<256)
include h0 h1
theorem Pf:IntKind.wrap .u8 ↑(BitVec.ofInt (IntKind.bits .u8) z &&& BitVec.ofInt (IntKind.bits .u8) 7).toNat=z%8:=by
 obtain⟨f,rfl⟩:=U7 h0 h1;exact za8 f
theorem zbc:IntKind.wrap .u8 ↑(BitVec.ofInt (IntKind.bits .u8) (z.fdiv (2^min 3 (IntKind.bits .u8))) &&& BitVec.ofInt (IntKind.bits .u8) 7).toNat=z/8%8:=by
 obtain⟨f,rfl⟩:=U7 h0 h1;exact zbd f
theorem zc3:z.fdiv (2^min 6 (IntKind.bits .u8))=z/64:=by
 obtain⟨f,rfl⟩:=U7 h0 h1;exact zc4 f
theorem Oo:IntKind.wrap .u8 ↑(BitVec.ofInt (IntKind.bits .u8) z &&& BitVec.ofInt (IntKind.bits .u8) 4).toNat=if z/4%2=1 then 4 else 0:=by
 obtain⟨f,rfl⟩:=U7 h0 h1;exact zay f
theorem Gr:IntKind.wrap .u8 ↑(BitVec.ofInt (IntKind.bits .u8) z &&& BitVec.ofInt (IntKind.bits .u8) 1).toNat=z%2:=by
 obtain⟨f,rfl⟩:=U7 h0 h1;exact zax f
end
theorem Z5{z:Int}(h0:0<=z)(h1:z<1000000):IntKind.wrap .i64 z=z:=by
 simp only[IntKind.wrap,IntKind.bits,IntKind.signed];simp;omega
def Qo(b:List Int)(ahead z reg rm:Int)(t:RS):lJ×RS :=
 if z/64=3 then (⟨reg,rm,false,false,0⟩,t)
 else if z/64=2 then (⟨reg,rm,true,false,(wk b (iB b rm t)).1⟩,(wk b (iB b rm t)).2)
 else if z/64=0 then (⟨reg,rm,false,true,(wk b (zU (decide (¬z%8=5)||decide (ahead%2=1)) t)).1⟩,(wk b (zU (decide (¬z%8=5)||decide (ahead%2=1)) t)).2)
 else (⟨reg,rm,false,false,0⟩,zU true t)
theorem G8(b:List Int)(ahead:Int)(s:RS):uy b ahead s=Qo b ahead (zw b s).1 (qP (zw b s).1 ahead) (Y3 (zw b s).1 ahead) (zw b s).2:=rfl
section
variable {b4 b6:Nat}{z ahead reg rm:Int}{c4:List aaa}{O:lJ}{T:RS}{J:List aaa}
abbrev PD(lo:yH)(rb:Nat)(bv:aaa)(L:List HP)(O:lJ)(T:RS)(v:aaa)(h':za):Prop:=v=JA O/\Sat lo h' (pt rb (Yn bv T)::L)
theorem Ko(bv:aaa)(t:RS):Yn bv (zU true t)=.cells [bv,.int .i64 t.1,.bool true] 77:=by
 show wS.cells [bv,.int .i64 t.1,.bool (t.2||true)] _=_;rw[Bool.or_true]
theorem op3(B:r5 lo bv bs){mm pl:Bool}{K:List aaa->za->Prop}{vs:List aaa}
  (s:Sat lo h (pt b6 (.cells (XK ⟨reg,rm,mm,pl,0⟩) 132)::pt rb (Yn bv st)::L))
  (k:∀h',Sat lo h' (pt b6 (.cells (XK ⟨reg,rm,mm,pl,(wk bs st).1⟩) 132)::pt rb (Yn bv (wk bs st).2)::L)->K [] h'):ZY (rp rb) (rp b6) K vs h:=by
 unfold ZY;refine KI (iq B (s.f [1,0])) ?_;rintro v h2 ⟨rfl,s2⟩;simp only[EE,LW,Qe];refine zY (s2.p 1) (by simp) rfl λh3 s3=>?_;exact k h3 s3
theorem zcU(B:r5 lo bv bs)(hz0:0<=z)(hz1:z<256)(ha0:0<=ahead)(ha1:ahead<256)(r0:0<=rm)(r1:rm<16)(l4:c4.length=5)
  (s:Sat lo h (pt b6 (.cells (XK ⟨reg,rm,false,false,0⟩) 132)::pt rb (Yn bv st)::pt b4 (.cells c4 132)::L)) :
  Uy (.int .u8 z) (rp b6) (rp rb) (.int .u8 ahead) (rp b4) (PD lo rb bv L (Qo bs ahead z reg rm st).1 (Qo bs ahead z reg rm st).2) J h:=by
 have bn:=B.nb;have f6:=zc3 hz0 hz1;have f7:=Pf hz0 hz1;have f1:=Gr ha0 ha1;unfold Uy
 have fin:∀{h':za} {o:lJ} {t:RS},Qo bs ahead z reg rm st=(o,t)->Sat lo h' (pt b6 (.cells (XK o) 132)::pt rb (Yn bv t)::pt b4 (.cells c4 132)::L)->(opt (zd Tryz.prog 132 (rp b6) h') λt79=>opt (nb [t79] (vH Tryz.prog 132 (rp b4) t79 h')) λh71=>opt (zd Tryz.prog 132 (rp b4) h71) λr0=>rv [r0] h71 (PD lo rb bv L (Qo bs ahead z reg rm st).1 (Qo bs ahead z reg rm st).2)):=λ{h' o t} e s=>by
  obtain⟨v0,v1,v2,v3,v4,rfl⟩:∃v0 v1 v2 v3 v4,c4=[v0,v1,v2,v3,v4]:=by
   match c4,l4 with
   |[v0,v1,v2,v3,v4],_=>exact⟨v0,v1,v2,v3,v4,rfl⟩
  have g:=s.get;rw[e];unfold XK at g;simp only[EE,Nat.reduceAdd,jY,gQ,oK,g];refine zY (s.f [2,1,0]) (by simp) rfl λh1 s1=>?_;have g1:=s1.get;simp only[EE,zt,Nat.reduceAdd,jY,gQ,g1];exact⟨rfl,(s1.f [0,2,1]).drop.drop⟩
 have:z/64=0\/z/64=1\/z/64=2\/z/64=3:=by omega
 unfold XK at s;rcases this with e|e|e|e
 ·simp only[EE,↓zB,seval,j2,Vt,bq,Ux,XO,Yd,f6,e];refine zY s (by simp) rfl λh1 s1=>?_
  have go:∀{h2:za} {t:RS},t=zU (decide (¬z%8=5)||decide (ahead%2=1)) st->Sat lo h2 (pt rb (Yn bv t)::pt b6 (.cells (XK ⟨reg,rm,false,true,0⟩) 132)::pt b4 (.cells c4 132)::L)->ZY (rp rb) (rp b6) (λ_ h22=>opt (zd Tryz.prog 132 (rp b6) h22) λt79=>opt (nb [t79] (vH Tryz.prog 132 (rp b4) t79 h22)) λh71=>opt (zd Tryz.prog 132 (rp b4) h71) λr0=>rv [r0] h71 (PD lo rb bv L (Qo bs ahead z reg rm st).1 (Qo bs ahead z reg rm st).2)) [] h2:=λ{h2 t} et s2=>by
   refine op3 B (s2.p 1) λh3 s3=>fin ?_ s3;unfold Qo;rw[e,et];rfl
  unfold ZY at go;have g1:=(s1.p 1).get;have wr:=(s1.p 1);obtain⟨k,bad⟩:=st;have ry:ahead%2=0\/ahead%2=1:=by omega
  cases bad with
  |true=>
   simp only[EE,zu,Ye,j2,yT,Y8,Y9,Xa,Xb,Yc,g1];refine zY wr (by simp) rfl λh2 s2=>?_;simp only[];exact go (t:=(k,true)) (by simp[zU]) s2
  |false=>
   by_cases h5:z%8=5
   ·rcases ry with o1|o1
    ·simp only[EE,zu,Ye,j2,yT,Y8,Y9,Xa,Xb,Yc,g1,f7,h5,f1,o1];refine zY wr (by simp) rfl λh2 s2=>?_;simp only[];exact go (t:=(k,false)) (by simp[zU,h5,o1]) s2
    ·simp only[EE,Int.reduceEq,zu,Ye,j2,yT,Y8,Y9,Xa,Xb,Yc,g1,f7,h5,f1,o1];refine zY wr (by simp) rfl λh2 s2=>?_;simp only[];exact go (t:=(k,true)) (by simp[zU,h5,o1]) s2
   ·simp only[EE,zu,Ye,j2,yT,Y8,Y9,Xa,Xb,Yc,g1,f7,h5];refine zY wr (by simp) rfl λh2 s2=>?_;simp only[];exact go (t:=(k,true)) (by simp[zU,h5]) s2
 ·have g:=(s.p 1).get;simp only[EE,↓zB,seval,j2,yT,Ux,XO,Yd,f6,e];refine zY (s.p 1) (by simp) rfl λh1 s1=>?_;simp only[];refine fin (o:=⟨reg,rm,false,false,0⟩) (t:=zU true st) ?_ (by rw[Ko];exact s1.p 1);unfold Qo;rw[e];rfl
 ·simp only[EE,↓zB,seval,j2,Vs,br,XO,Yd,f6,e];refine zY s (by simp) rfl λh1 s1=>?_
  have go:∀{h2:za} {t:RS} {vs:List aaa},t=iB bs rm st->Sat lo h2 (pt b6 (.cells (XK ⟨reg,rm,true,false,0⟩) 132)::pt rb (Yn bv t)::pt b4 (.cells c4 132)::L)->ZY (rp rb) (rp b6) (λ_ h22=>opt (zd Tryz.prog 132 (rp b6) h22) λt79=>opt (nb [t79] (vH Tryz.prog 132 (rp b4) t79 h22)) λh71=>opt (zd Tryz.prog 132 (rp b4) h71) λr0=>rv [r0] h71 (PD lo rb bv L (Qo bs ahead z reg rm st).1 (Qo bs ahead z reg rm st).2)) vs h2:=λ{h2 t vs} et s2=>by
   refine op3 B s2 λh3 s3=>fin ?_ s3;unfold Qo;rw[e,et];rfl
  have g1:=s1.get;have f8:=Go.Eb.oG r0 r1;by_cases h4:rm%8=4
  ·simp only[EE,zt,zu,zg,wJ,g1,f8,h4];refine KI (Vz B (s1.f [1,0])) ?_;rintro v h2 ⟨rfl,s2⟩;have es:iB bs rm st=zU (decide (¬(zw bs st).1=36)) (zw bs st).2:=by unfold iB;rw[aah h4]
   by_cases h36:(zw bs st).1=36
   ·simp only[EE,WR,WS,h36];exact go (by rw[es];simp[zU,h36]) (s2.p 1)
   ·simp only[EE,j2,yT,WR,WS,h36];refine zY s2 (by simp) rfl λh3 s3=>?_;exact go (t:=zU true (zw bs st).2) (by rw[es];simp[zU,h36]) (by rw[Ko];exact s3.p 1)
  ·simp only[EE,zt,zu,zg,wJ,WR,WS,g1,f8,h4];exact go (by unfold iB;rw[aae h4]) s1
 ·simp only[EE,↓zB,Int.reduceLE,Int.reduceToNat,Yd,f6,e];refine fin ?_ s;unfold Qo;rw[e];rfl
theorem zcV(B:r5 lo bv bs)(hz0:0<=z)(hz1:z<256)(ha0:0<=ahead)(ha1:ahead<256)(l4:c4.length=5)
  (s:Sat lo h (pt b6 (.cells (XK ⟨reg,z%8,false,false,0⟩) 132)::pt rb (Yn bv st)::pt b4 (.cells c4 132)::L)) :
  Uz (.int .u8 ahead) (rp b6) (.int .u8 z) (rp rb) (rp b4) (PD lo rb bv L (Qo bs ahead z reg (Y3 z ahead) st).1 (Qo bs ahead z reg (Y3 z ahead) st).2) J h:=by
 have f1:=Gr ha0 ha1;have ry:ahead%2=0\/ahead%2=1:=by omega
 unfold Uz;rcases ry with o1|o1
 ·simp only[EE,f1,o1];have e:Y3 z ahead=z%8:=by unfold Y3;rw[aae (by omega)];omega
  rw[e];exact zcU B hz0 hz1 ha0 ha1 (by omega) (by omega) l4 s
 ·have g:=s.get;have e:Y3 z ahead=z%8+8:=by unfold Y3;rw[aah o1]
  have w:=Z5 (z:=z%8+8) (by omega) (by omega);simp only[EE,Int.reduceEq,zu,zg,U6,wJ,eu,f1,o1,g,w];refine zY s (by simp) rfl λh1 s1=>?_;rw[e];exact zcU (reg:=reg) (rm:=z%8+8) B hz0 hz1 ha0 ha1 (by omega) (by omega) l4 s1
theorem cW(B:r5 lo bv bs)(ha0:0<=ahead)(ha1:ahead<256)(s:Sat lo h (pt rb (Yn bv st)::L)):DC Tryz.prog 84 [rp rb,.int .u8 ahead] h (λv h'=>v=JA (uy bs ahead st).1/\Sat lo h' (pt rb (Yn bv (uy bs ahead st).2)::L)):=by
 apply so;unfold nQ;rw[G8];simp only[EE,Value.cells,oR];refine vR s λb4 h2 s2=>?_;refine KI (Vz B (s2.f [1,0])) ?_;rintro v h3 ⟨rfl,s3⟩;obtain⟨z0,z1⟩:=XI B.byte st;generalize (zw bs st).1=z at z0 z1 ⊢;generalize (zw bs st).2=st at s3 ⊢;have f1:=zbc z0 z1;have f2:=Pf z0 z1;have w1:=Z5 (z:=z/8%8) (by omega) (by omega);have w2:=Z5 (z:=z%8) (by omega) (by omega);unfold bt;simp only[EE,Value.cells,Int.reduceLE,Int.reduceToNat,oR,Gp,pj,f1,f2,w1,w2];refine vR s3 λb6 h5 s5=>?_;simp only[EE,Nat.reduceAdd,oK];refine zY s5 (by simp) rfl λh6 s6=>?_;have f4:=Oo ha0 ha1;by_cases h4:ahead/4%2=1
 ·have g:=s6.get;rw[aah h4]at f4;have e:qP z ahead=z/8%8+8:=by unfold qP;rw[aah h4]
  have w:=Z5 (z:=z/8%8+8) (by omega) (by omega);simp only[EE,zt,Nat.reduceAdd,Int.reduceEq,zu,zg,U6,xZ,en,f4,g,w];refine zY s6 (by simp[x6]) rfl λh7 s7=>?_;rw[e];exact zcV (reg:=z/8%8+8) B z0 z1 ha0 ha1 rfl s7
 ·rw[aae h4]at f4;have e:qP z ahead=z/8%8:=by unfold qP;rw[aae h4];omega
  simp only[EE,f4];rw[e];exact zcV (reg:=z/8%8) B z0 z1 ha0 ha1 rfl s6
end
end
abbrev Q6(lo:yH)(rb:Nat)(bv:aaa)(L:List HP)(x:zo×RS)(v:aaa)(h':za):Prop:=v=x.1.val/\Sat lo h' (pt rb (Yn bv x.2)::L)
section
variable {lo:yH}{h:za}{L:List HP}{bv:aaa}{bs:List Int}{rb:Nat}{st:RS}{o:lJ}{op second ahead:Int}{b b2:Nat}{c2:List aaa}
theorem qS(x:zo){R:aaa->za->Prop}(l2:c2.length=7)(s:Sat lo h (pt b2 (.cells c2 42)::L))(k:∀h',Sat lo h' L->R x.val h'):opt (sU h b2 0 x.row) λh1=>opt (zd Tryz.prog 42 (rp b2) h1) λr0=>rv [r0] h1 R:=by
 obtain⟨v0,v1,v2,v3,v4,v5,v6,rfl⟩:∃v0 v1 v2 v3 v4 v5 v6,c2=[v0,v1,v2,v3,v4,v5,v6]:=by
  match c2,l2 with
  |[v0,v1,v2,v3,v4,v5,v6],_=>exact⟨v0,v1,v2,v3,v4,v5,v6,rfl⟩
 refine zY s (by simp) rfl λh1 s1=>?_;have g1:=s1.get;simp only[EE,zt,Nat.reduceAdd,jY,vu,g1];exact k _ s1.drop
theorem fO(x:zo){R:aaa->za->Prop}(l2:c2.length=7)(s:Sat lo h (pt b (.cells x.row 42)::pt b2 (.cells c2 42)::L))(k:∀h',Sat lo h' L->R x.val h'):opt (zd Tryz.prog 42 (rp b) h) λt=>opt (nb [t] (vH Tryz.prog 42 (rp b2) t h)) λh1=>opt (zd Tryz.prog 42 (rp b2) h1) λr0=>rv [r0] h1 R:=by
 have g:=s.get;have:=qS (R:=R) x l2 (s.f [1,0]) (λh' s'=>k h' s'.drop);obtain⟨p,r,m,sub,cc,l,kk⟩:=x
 have e:zd Tryz.prog 42 (rp b) h=some (zo.val ⟨p,r,m,sub,cc,l,kk⟩):=by
  simp only[EE,Nat.reduceAdd,jY,vu,g]
 rw[e];simp only[EE,Nat.reduceAdd,yV];exact this
theorem N2(bn:zR bv=false)(s:Sat lo h (pt rb (Yn bv st)::L)):DC Tryz.prog 85 [rp rb,.int .u8 op,.int .u8 second,JA o] h (Q6 lo rb bv L (uz op second o st)):=by
 apply CY;unfold CX JA;simp only[EE,Value.cells,uM];refine vR s λb7 h2 s2=>?_;simp only[EE,zu,xP,zg,xZ,wJ,Qe];refine vR s2 λb8 h3 s3=>?_;have g7:=(s3.p 1).get;simp only[EE,Value.cells,uM,sD,g7];refine vR s3 λb9 h4 s4=>?_;simp only[EE,Nat.reduceAdd,yV];refine zY s4 (by simp) rfl λh5 s5=>?_;have fin:∀{h':za} (x:zo) (t:RS),uz op second o st=(x,t)->Sat lo h' (pt b9 (.cells x.row 42)::pt b8 (.cells [.int .i64 0,.int .i64 0,.int .i64 0,.int .i64 0,.int .i64 0,.int .i64 0,.int .i64 0] 42)::pt b7 (.cells (XK o) 132)::pt rb (Yn bv t)::L)->_:=λ{h'} x t e s=>fO (R:=Q6 lo rb bv L (uz op second o st)) x rfl s (λh' s'=>by rw[e];exact⟨rfl,s'.drop⟩);unfold uz at fin ⊢;have g9:=s5.get;by_cases c1:op=139
 ·rw[aah c1]at fin ⊢;subst c1;simp only[EE,↓zB,U6,zn,Zn];refine zY s5 (by simp[x6]) rfl λh6 s6=>?_;exact fin ⟨3,o.reg,o.rm,8,0,0,o.k⟩ st rfl s6
 rw[aae c1]at fin ⊢;by_cases c2:op=99
 ·rw[aah c2]at fin ⊢;subst c2;simp only[EE,↓zB,Int.reduceEq,U6,zn,Yo,Zn];refine zY s5 (by simp[x6]) rfl λh6 s6=>?_;exact fin ⟨3,o.reg,o.rm,4,0,0,o.k⟩ st rfl s6
 rw[aae c2]at fin ⊢;by_cases c3:op=15/\second=190
 ·rw[aah c3]at fin ⊢;obtain⟨c3,c4⟩:=c3;subst c3;subst c4;simp only[EE,↓zB,Int.reduceEq,U6,zn,Xp,Xq,Xr,Yo,Zn];refine zY s5 (by simp[x6]) rfl λh6 s6=>?_;exact fin ⟨3,o.reg,o.rm,1,0,0,o.k⟩ st rfl s6
 rw[aae c3]at fin ⊢;by_cases c4:op=137
 ·rw[aah c4]at fin ⊢;subst c4;simp only[EE,↓zB,Int.reduceEq,U6,zc,m6,Vc,Xp,Xq,Xr,Yo,Zn];refine zY s5 (by simp[x6]) rfl λh6 s6=>?_;simp only[EE,U6,zn];refine zY s6 (by simp[x6]) rfl λh7 s7=>?_;exact fin ⟨4,o.reg,o.rm,8,0,0,o.k⟩ st rfl s7
 rw[aae c4]at fin ⊢;by_cases c5:op=141
 ·rw[aah c5]at fin ⊢;subst c5;simp only[EE,↓zB,Int.reduceEq,U6,zc,QD,Vc,Xp,Xq,Xr,Yo,Zn];refine zY s5 (by simp[x6]) rfl λh6 s6=>?_;exact fin ⟨5,o.reg,o.rm,0,0,0,o.k⟩ st rfl s6
 rw[aae c5]at fin ⊢;have sf:=s5.f [3,0,1,2];have step:∀{h'},Sat lo h' (pt rb (.cells (zt [bv,.int .i64 st.1,.bool st.2] 2 [.bool true]) 77)::pt b9 (.cells (zo.row ⟨3,o.reg,o.rm,0,0,0,o.k⟩) 42)::pt b8 (.cells [.int .i64 0,.int .i64 0,.int .i64 0,.int .i64 0,.int .i64 0,.int .i64 0,.int .i64 0] 42)::pt b7 (.cells (XK o) 132)::L)->_:=λ{h'} s6=>fin (h':=h') ⟨3,o.reg,o.rm,0,0,0,o.k⟩ (zU true st) rfl (by rw[Ko];exact s6.f [1,2,3,0]);by_cases c6:op=15
 ·have c7:¬second=190:=λe=>c3 ⟨c6,e⟩;subst c6;simp only[EE,↓zB,Int.reduceEq,j2,yT,QD,Vc,Xp,Xq,Xr,Yo,Zn,c7];refine zY sf (by simp) rfl λh6 s6=>?_;exact step s6
 ·simp only[EE,↓zB,j2,yT,QD,Vc,Xp,Xq,Xr,Yo,Zn,c1,c2,c4,c5,c6];refine zY sf (by simp) rfl λh6 s6=>?_;exact step s6
theorem zcr(r:Fin 16):IntKind.wrap .u8 ↑(BitVec.ofInt (IntKind.bits .u8) (IntKind.wrap .u8 (IntKind.wrap .u8 ((r.val:Nat):Int)*2^min 3 (IntKind.bits .u8))) ||| BitVec.ofInt (IntKind.bits .u8) 1).toNat=((r.val:Nat):Int)*8+1:=by
 revert r;decide +kernel
theorem zcq{r:Int}(h0:0<=r)(h1:r<16):IntKind.wrap .u8 ↑(BitVec.ofInt (IntKind.bits .u8) (IntKind.wrap .u8 (IntKind.wrap .u8 r*2^min 3 (IntKind.bits .u8))) ||| BitVec.ofInt (IntKind.bits .u8) 1).toNat=r*8+1:=by
 obtain⟨f,rfl⟩:∃f:Fin 16,r=((f.val:Nat):Int):=⟨⟨r.toNat,by omega⟩,by show r=((r.toNat:Nat):Int);omega⟩;exact zcr f
theorem Sc(B:r5 lo bv bs)(r0:0<=o.reg)(r1:o.reg<16)(s:Sat lo h (pt rb (Yn bv st)::L)):DC Tryz.prog 114 [rp rb,JA o] h (Q6 lo rb bv L (Ww bs o st)):=by
 have bn:=B.nb;apply F5;unfold HJ JA;simp only[EE,Value.cells,uM];refine vR s λb3 h2 s2=>?_;simp only[];refine vR s2 λb4 h3 s3=>?_;refine KI (iq B (s3.f [2,0,1])) ?_;rintro v h4 ⟨rfl,s4⟩;unfold Ww;simp only[];generalize (wk bs st).1=k;generalize (wk bs st).2=st at s4 ⊢;have s5:=s4.f [1,2,0];have g3:=(s5.p 1).get;simp only[↓zB];by_cases c1:o.reg=7
 ·rw[aah c1];simp only[EE,Nat.reduceAdd,zu,zg,yV,Wg,xZ,wJ,tL,W4,g3,c1];exact qS ⟨16,o.rm,0,0,0,0,k⟩ rfl s5 λh' s'=>⟨rfl,s'.drop⟩
 rw[aae c1];by_cases c2:o.rm=4/\o.reg=5
 ·rw[aah c2];obtain⟨c2,c3⟩:=c2;simp only[EE,Nat.reduceAdd,Int.reduceEq,zu,zg,yV,ah,xZ,wJ,tK,UR,US,W4,g3,c2,c3];exact qS ⟨23,0,0,0,0,0,k⟩ rfl s5 λh' s'=>⟨rfl,s'.drop⟩
 rw[aae c2];by_cases c3:o.rm=4/\o.reg=0
 ·rw[aah c3];obtain⟨c3,c4⟩:=c3;simp only[EE,Nat.reduceAdd,Int.reduceEq,zu,zg,yV,ah,xZ,wJ,tJ,JY,JZ,UR,US,W4,g3,c3,c4];exact qS ⟨24,0,0,0,0,0,k⟩ rfl s5 λh' s'=>⟨rfl,s'.drop⟩
 rw[aae c3];have f1:=zcq r0 r1
 have rest:∀vs,ck (rp b3) (rp rb) (.int .i64 k) (rp b4) (Q6 lo rb bv L (⟨8,o.rm,0,qe (o.reg*8+1),0,0,k⟩,zU (decide (qe (o.reg*8+1)=0)) st)) vs h4:=λvs=>by
  unfold ck;simp only[EE,Int.reduceLE,Int.reduceToNat,zu,zg,ph,xZ,g3,f1];refine VM (H9 (o.reg*8+1) _) ?_;have gr:=s4.get;obtain⟨kk,bad⟩:=st;cases bad with
  |true=>
   simp only[EE,zu,Ye,j2,yT,gh,ch,cj,gr];refine zY s4 (by simp) rfl λh5 s5=>?_;have g3:=(s5.p 2).get;simp only[EE,Nat.reduceAdd,zu,zg,yV,UA,wJ,g3];exact qS ⟨8,o.rm,0,qe (o.reg*8+1),0,0,k⟩ rfl (s5.f [1,0,2]) λh' s'=>⟨rfl,(s'.f [1,0]).drop⟩
  |false=>
   simp only[EE,zu,Ye,j2,yT,gh,ch,cj,gr];refine zY s4 (by simp) rfl λh5 s5=>?_;have g3:=(s5.p 2).get;simp only[EE,Nat.reduceAdd,zu,zg,yV,UA,wJ,g3];exact qS ⟨8,o.rm,0,qe (o.reg*8+1),0,0,k⟩ rfl (s5.f [1,0,2]) λh' s'=>⟨rfl,(s'.f [1,0]).drop⟩
 by_cases c4:o.rm=4
 ·have c5:¬o.reg=5:=λe=>c2 ⟨c4,e⟩;have c6:¬o.reg=0:=λe=>c3 ⟨c4,e⟩;have d4:decide (o.rm=4)=true:=aa1 c4;simp only[EE,zu,zg,xZ,wJ,JY,JZ,UR,US,W4,g3,c1,d4,c5,c6];exact rest _
 ·simp only[EE,zu,zg,xZ,wJ,JY,JZ,UR,US,W4,g3,c1,c4];exact rest _
end
theorem zaQ{lo:yH}{h:za}{L:List HP}{b:Nat}{o:wS}(s:Sat lo h (pt b o::L)):∃lo1,lo.Le lo1/\Sat lo1 (h.Xe [b]) L /\ ∀h2 L',Sat lo1 h2 L'->Sat lo (h2.dg h [b]) (pt b o::L'):=by
 have hg:=s.get;have hlt:=s.lt;have hbs:=s.base;obtain⟨a,ha,d,w,s⟩:=s;have hab:a b=some o:=by rw[ha b,aah rfl]
 have hlo:lo.get b=none:=d b o hab;have han:∀x,¬x=b->a x=none:=λx hx=>by rw[ha x,aae hx]
 have uget:∀x,¬x=b->(lo.un a).get x=lo.get x:=λx hx=>yH.qA (han x hx);have hbs2:=s.base;refine⟨⟨λx=>if x=b then some none else lo.get x,lo.ro⟩,⟨rfl,λx y e=>?_⟩,s.to (λx hx e=>?_) ⟨hbs.ro,hbs.Fw,λx y e=>?_⟩ rfl (aaj _) (λx hx e=>?_),λh2 L' s2=>?_⟩
 ·show(if x=b then some none else lo.get x)=some y;rw[aae (λq=>by rw[q,hlo]at e;cases e)];exact e
 ·have hx:¬x=b:=λq=>by rw[q,yH.uB hab]at e;cases e
  show(if x=b then some none else lo.get x)=none;rw[aae hx,<- uget x hx];exact e
 ·have e:(if x=b then some none else lo.get x)=some y:=e;rw[uT];by_cases hx:x=b
  ·subst hx;rw[aah rfl]at e;cases e;rw[aah (aat.2 rfl)];exact⟨rfl,hlt⟩
  ·rw[aae hx]at e;rw[aae (λq=>hx (aat.1 q))];exact hbs.get x y e
 ·have hx:¬x=b:=λq=>by rw[q,yH.uB hab]at e;cases e
  rw[uT,aae (λq=>hx (aat.1 q))]
 ·have b2:=s2.base;have l2:b<h2.next:=(b2.get b none (by show(if b=b then some none else lo.get b)=_;rw[aah rfl])).2;refine⟨a,ha,d,w,s2.to (λx hx e=>?_) ⟨?_,?_,λx y e=>?_⟩ rfl (aaj _) (λx hx e=>?_)⟩
  ·have e:(if x=b then some none else lo.get x)=none:=e;by_cases q:x=b
   ·rw[aah q]at e;cases e
   ·rw[aae q]at e;rw[uget x q];exact e
  ·exact b2.ro
  ·exact b2.Fw
  ·show(h2.dg h [b]).get x=y/\x<h2.next;rw[ZK];by_cases q:x=b
   ·subst q;rw[aah (aat.2 rfl),hg];rw[yH.uB hab]at e;exact⟨abg e,l2⟩
   ·rw[aae (λq2=>q (aat.1 q2))];rw[uget x q]at e;exact b2.get x y (by show(if x=b then some none else lo.get x)=_;rw[aae q];exact e)
  ·have e:(if x=b then some none else lo.get x)=none:=e;have q:¬x=b:=λq=>by rw[aah q]at e;cases e
   rw[ZK,aae (λq2=>q (aat.1 q2))]
section
variable {lo:yH}{h:za}{L:List HP}{bv:aaa}{bs:List Int}{rb:Nat}{st:RS}{o:lJ}{op second ahead:Int}{b b2:Nat}{c2:List aaa}
theorem Px{n:Nat}{q:wS}{K:aaa->za->Prop}(B:r5 lo bv bs)(s:Sat lo h (pt b q::pt rb (Yn bv st)::L))(k:∀h',Sat lo h' (pt b q::pt rb (Yn bv (wk bs st).2)::L)->K (.int .i64 (wk bs st).1) h'):Wu Tryz.prog 65 [rp rb,.int .i64 4] 4 [(1,.pointer (some ⟨b,n,none⟩))] h K:=by
 obtain⟨lo1,l,s1,back⟩:=zaQ s;refine Mb (hid:=[b]) (by kernel_rfl) rfl (by simp[BZ,Nat.testBit]) (iq (B.mono l) s1) ?_;rintro v h2 ⟨rfl,s2⟩;exact k _ (back h2 _ s2)
theorem Rg(B:r5 lo bv bs)(r0:0<=o.reg)(r1:o.reg<16)(s:Sat lo h (pt rb (Yn bv st)::L)):DC Tryz.prog 97 [rp rb,.int .u8 op,JA o] h (Q6 lo rb bv L (singleR bs op o st)):=by
 have bn:=B.nb;apply DP;unfold DO JA;simp only[EE,Value.cells,↓zB,uM];refine vR s λb5 h2 s2=>?_;refine vR s2 λb6 h4 s4=>?_;have g5:=(s4.p 1).get;have gr:=(s4.p 2).get
 have bad:K8 (rp rb) (rp b6) (Q6 lo rb bv L (WY,zU true st)) [] h4:=by
  unfold K8;simp only[EE,j2,yT];refine zY (s4.p 2) (by simp) rfl λh5 s5=>?_;simp only[EE,Nat.reduceAdd,yV,gU];exact qS WY rfl (s5.f [1,0,2]) λh' s'=>⟨rfl,by rw[Ko];exact(s'.f [1,0]).drop⟩
 unfold singleR;obtain⟨k,bd⟩:=st;by_cases c1:op=199
 ·rw[aah c1];subst c1
  have go:∀{h5:za} {q:Bool},Sat lo h5 (pt rb (Yn bv (k,q))::pt b6 (.cells [.int .i64 0,.int .i64 0,.int .i64 0,.int .i64 0,.int .i64 0,.int .i64 0,.int .i64 0] 42)::pt b5 (.cells (XK o) 132)::L)->(k,q)=zU (decide (¬o.reg=0)) (k,bd) ->
    Wu Tryz.prog 65 [rp rb,.int .i64 4] 4 [(1,.pointer (some ⟨b5,1,none⟩))] h5 (cG (.int .i64 o.rm) (rp b6) (Q6 lo rb bv L (⟨2,o.rm,0,0,0,0,(wk bs (zU (decide (¬o.reg=0)) (k,bd))).1⟩,(wk bs (zU (decide (¬o.reg=0)) (k,bd))).2))):=λ{h5 q} s5 e=>by
   rw[<- e];refine Px B (s5.f [2,0,1]) λh6 s6=>?_;unfold cG;simp only[EE,Nat.reduceAdd,yV,Wg];exact qS ⟨2,o.rm,0,0,0,0,(wk bs (k,q)).1⟩ rfl (s6.f [2,1,0]) λh' s'=>⟨rfl,(s'.f [1,0]).drop⟩
  cases bd with
  |true=>
   simp only[EE,zu,Ye,j2,yT,cH,cI,K7,qb,gr];refine zY (s4.p 2) (by simp) rfl λh5 s5=>?_;have g5:=(s5.p 2).get;simp only[EE,zu,zg,wJ,g5];exact go (q:=true) s5 rfl
  |false=>
   simp only[EE,zu,zg,Ye,j2,xZ,yT,cH,cI,K7,qb,g5,gr];refine zY (s4.p 2) (by simp) rfl λh5 s5=>?_;have g5:=(s5.p 2).get;simp only[EE,zu,zg,wJ,g5];exact go (q := !decide (o.reg=0)) s5 (by simp[zU])
 rw[aae c1];by_cases c2:op=129
 ·rw[aah c2];subst c2;simp only[EE,Nat.reduceAdd,Int.reduceEq,jY,gQ,iY,kp,qb,g5];refine KI (Sc B r0 r1 (s4.f [2,0,1])) ?_;rintro v h5 ⟨rfl,s5⟩;simp only[EE,Nat.reduceAdd,yV];exact qS _ rfl (s5.f [1,0,2]) λh' s'=>⟨rfl,(s'.f [1,0]).drop⟩
 rw[aae c2];by_cases c3:op=247
 ·subst c3;by_cases c4:o.reg=2
  ·rw[aah ⟨rfl,c4⟩];simp only[EE,↓zB,Nat.reduceAdd,Int.reduceEq,zu,zg,yV,i9,xZ,wJ,oh,Vi,jD,kp,qb,g5,c4];exact qS ⟨9,o.rm,0,2,0,0,0⟩ rfl s4 λh' s'=>⟨rfl,s'.drop⟩
  rw[aae (λe=>c4 e.2)];by_cases c5:o.reg=3
  ·rw[aah ⟨rfl,c5⟩];simp only[EE,↓zB,Nat.reduceAdd,Int.reduceEq,zu,zg,yV,i9,xZ,wJ,og,QN,Vi,jD,kp,qb,g5,c5];exact qS ⟨9,o.rm,0,1,0,0,0⟩ rfl s4 λh' s'=>⟨rfl,s'.drop⟩
  rw[aae (λe=>c5 e.2)];by_cases c6:o.reg=7
  ·rw[aah ⟨rfl,c6⟩];simp only[EE,↓zB,Nat.reduceAdd,Int.reduceEq,zu,zg,yV,L4,xZ,wJ,oe,cJ,QN,Vi,jD,kp,qb,g5,c6];exact qS ⟨14,0,o.rm,0,0,0,0⟩ rfl s4 λh' s'=>⟨rfl,s'.drop⟩
  rw[aae (λe=>c6 e.2),aae (by decide),aae (by decide)];simp only[EE,↓zB,Int.reduceEq,zu,zg,xZ,cJ,QN,Vi,jD,kp,qb,g5,c4,c5,c6];exact bad
 rw[aae (λe=>c3 e.1),aae (λe=>c3 e.1),aae (λe=>c3 e.1)]
 have shift:∀J:List aaa->za->Prop,op=193\/op=211->K6 (rp b5) h4 (rp rb) (.int .u8 op) (rp b6) (Q6 lo rb bv L (if op=193 then (⟨11,o.rm,0,if o.reg=7 then 20 else 19,0,0,(zw bs (zU (decide (¬o.reg=4 /\ ¬o.reg=7)) (k,bd))).1⟩,(zw bs (zU (decide (¬o.reg=4 /\ ¬o.reg=7)) (k,bd))).2)
   else (⟨12,o.rm,0,if o.reg=7 then 20 else 19,0,0,0⟩,zU (decide (¬o.reg=4 /\ ¬o.reg=7)) (k,bd)))) J:=λJ yj=>by
  unfold K6;simp only[EE,Value.cells,zu,zg,uM,Ej,wJ,g5];refine vR s4 λb7 h5 s5=>?_;simp only[EE,Nat.reduceAdd,yV];refine zY s5 (by simp) rfl λh6 s6=>?_
  have tail:∀{h7:za} (sb:Int),sb=(if o.reg=7 then 20 else 19)->Sat lo h7 (pt b7 (.cells (zo.row ⟨12,o.rm,0,sb,0,0,0⟩) 42)::pt b6 (.cells [.int .i64 0,.int .i64 0,.int .i64 0,.int .i64 0,.int .i64 0,.int .i64 0,.int .i64 0] 42)::pt b5 (.cells (XK o) 132)::pt rb (Yn bv (k,bd))::L) ->
    K5 (rp rb) (rp b5) (.int .u8 op) (rp b7) (rp b6) (Q6 lo rb bv L (if op=193 then (⟨11,o.rm,0,if o.reg=7 then 20 else 19,0,0,(zw bs (zU (decide (¬o.reg=4 /\ ¬o.reg=7)) (k,bd))).1⟩,(zw bs (zU (decide (¬o.reg=4 /\ ¬o.reg=7)) (k,bd))).2)
   else (⟨12,o.rm,0,if o.reg=7 then 20 else 19,0,0,0⟩,zU (decide (¬o.reg=4 /\ ¬o.reg=7)) (k,bd)))) [] h7:=λ{h7} sb esb s7=>by
   rw[<- esb];unfold K5;have g5:=(s7.p 2).get;have gr:=(s7.p 3).get
   have go:∀{h8:za} {q:Bool},Sat lo h8 (pt rb (Yn bv (k,q))::pt b7 (.cells (zo.row ⟨12,o.rm,0,sb,0,0,0⟩) 42)::pt b6 (.cells [.int .i64 0,.int .i64 0,.int .i64 0,.int .i64 0,.int .i64 0,.int .i64 0,.int .i64 0] 42)::pt b5 (.cells (XK o) 132)::L)->(k,q)=zU (decide (¬o.reg=4 /\ ¬o.reg=7)) (k,bd) ->
     opt (nb [.int .u8 op,.int .u8 193] (zT Tryz.prog .eql 5 (.tmp 80) (.const (.int .u8 193)) (.int .u8 op) (.int .u8 193))) λt80=>CD t80 (λj82=>zL Tryz.prog (.func (.func 64) #[] #[]) [rp rb] h8 (K4 (rp b7) j82)) (λj82=>j82 [] h8) (λvs83 h84=>opt (zd Tryz.prog 42 (rp b7) h84) λt86=>opt (nb [t86] (vH Tryz.prog 42 (rp b6) t86 h84)) λh92=>opt (zd Tryz.prog 42 (rp b6) h92) λr0=>rv [r0] h92 (Q6 lo rb bv L (if op=193 then (⟨11,o.rm,0,sb,0,0,(zw bs (zU (decide (¬o.reg=4 /\ ¬o.reg=7)) (k,bd))).1⟩,(zw bs (zU (decide (¬o.reg=4 /\ ¬o.reg=7)) (k,bd))).2)
   else (⟨12,o.rm,0,sb,0,0,0⟩,zU (decide (¬o.reg=4 /\ ¬o.reg=7)) (k,bd))))):=λ{h8 q} s8 eq=>by
    rw[<- eq];rcases yj with rfl|rfl
    ·rw[aah rfl];simp only[EE];refine KI (Vz B s8) ?_;rintro v h9 ⟨rfl,s9⟩;have nb:=XI B.byte (k,q);have w:=Z5 nb.1 (by omega);simp only[EE,U6,zaI,zc,K4,w];refine zY (s9.p 1) (by simp) rfl λh10 s10=>?_;simp only[EE,LW,zC];refine zY s10 (by simp[x6]) rfl λh11 s11=>?_;exact fO ⟨11,o.rm,0,sb,0,0,(zw bs (k,q)).1⟩ rfl (s11.f [0,2,1]) λh' s'=>⟨rfl,(s'.f [1]).drop⟩
    ·rw[aae (by decide)];simp only[EE,Int.reduceEq];exact fO ⟨12,o.rm,0,sb,0,0,0⟩ rfl (s8.f [1,2,0]) λh' s'=>⟨rfl,(s'.f [1]).drop⟩
   cases bd with
   |true=>
    simp only[EE,zu,Ye,j2,yT,V3,V4,V5,V6,gr];refine zY (s7.p 3) (by simp) rfl λh8 s8=>?_;exact go (q:=true) s8 rfl
   |false=>
    by_cases d4:o.reg=4
    ·simp only[EE,zu,zg,Ye,j2,xZ,yT,V3,V4,V5,V6,g5,gr,d4];refine zY (s7.p 3) (by simp) rfl λh8 s8=>?_;exact go (q:=false) s8 (by simp[zU,d4])
    ·simp only[EE,zu,zg,Ye,j2,xZ,yT,V3,V4,V5,V6,g5,gr,d4];refine zY (s7.p 3) (by simp) rfl λh8 s8=>?_;exact go (q := !decide (o.reg=7)) s8 (by simp[zU,d4])
  have g5:=(s6.p 2).get;by_cases d7:o.reg=7
  ·have e7:decide (o.reg=7)=true:=aa1 d7;simp only[EE,zu,zg,U6,xZ,zn,g5,e7];refine zY s6 (by simp[x6]) rfl λh7 s7=>?_;exact tail 20 (by rw[aah d7]) s7
  ·have e7:decide (o.reg=7)=false:=aaT d7;simp only[EE,zu,zg,xZ,g5,e7];exact tail 19 (by rw[aae d7]) s6
 by_cases c4:op=193
 ·rw[aah c4];have:=λJ=>shift J (.inl c4);rw[aah c4]at this;subst c4;simp only[EE,nth,Int.reduceEq,V7,jD,kp,qb];exact this _
 rw[aae c4];by_cases c5:op=211
 ·rw[aah c5];have:=λJ=>shift J (.inr c5);rw[aae c4]at this;subst c5;simp only[EE,nth,Int.reduceEq,V7,jD,kp,qb];exact this _
 rw[aae c5];simp only[EE,nth,V7,jD,kp,qb,c1,c2,c3,c4,c5];exact bad
end
section
variable {lo:yH}{h:za}{L:List HP}{bv:aaa}{bs:List Int}{rb:Nat}{st:RS}{o:lJ}{op second ahead:Int}{b b2:Nat}{c2:List aaa}
theorem zbm(B:r5 lo bv bs)(r0:0<=o.reg)(r1:o.reg<16)(s:Sat lo h (pt rb (Yn bv st)::L)):DC Tryz.prog 86 [rp rb,.int .u8 op,.int .u8 second,JA o] h (Q6 lo rb bv L (qR bs op second o st)):=by
 have bn:=B.nb;apply LH;unfold NL JA;simp only[EE,Value.cells,uM];refine vR s λb7 h2 s2=>?_;refine vR s2 λb8 h4 s4=>?_;refine VM (H9 op _) ?_;have g7:=(s4.p 1).get;have gr:=(s4.p 2).get;unfold qR;by_cases c0:qe op=0
 ·rw[aae (λe=>e c0)];have goK:∀{K},qE (rp b7) (rp b8) K (.int .u8 op) (rp rb) (.int .u8 second) (.int .i64 0) h4->qE (rp b7) (rp b8) K (.int .u8 op) (rp rb) (.int .u8 second) (.int .i64 (qe op)) h4:=λx=>by rw[c0];exact x
  apply goK;by_cases c1:op=137
  ·rw[aah c1];subst c1;simp only[EE,↓zB,Nat.reduceAdd,zu,zg,yV,i7,xZ,wJ,tT,Zb,qE,g7];exact qS ⟨1,o.rm,o.reg,0,0,0,0⟩ rfl s4 λh' s'=>⟨rfl,s'.drop⟩
  rw[aae c1];by_cases c2:op=99
  ·rw[aah c2];subst c2;simp only[EE,↓zB,Nat.reduceAdd,Int.reduceEq,zu,zg,yV,XP,xZ,wJ,tS,ZZ,Zb,qE,g7];exact qS ⟨10,o.reg,o.rm,4,0,0,0⟩ rfl s4 λh' s'=>⟨rfl,s'.drop⟩
  rw[aae c2];by_cases c3:op=57
  ·rw[aah c3];subst c3;simp only[EE,↓zB,Nat.reduceAdd,Int.reduceEq,zu,zg,yV,i7,xZ,wJ,tR,YQ,ZZ,Zb,qE,g7];exact qS ⟨15,o.rm,o.reg,0,0,0,0⟩ rfl s4 λh' s'=>⟨rfl,s'.drop⟩
  rw[aae c3];by_cases c4:op=105
  ·rw[aah c4];subst c4;obtain⟨k,bd⟩:=st
   have go:∀{h5:za} {q:Bool},Sat lo h5 (pt rb (Yn bv (k,q))::pt b8 (.cells [.int .i64 0,.int .i64 0,.int .i64 0,.int .i64 0,.int .i64 0,.int .i64 0,.int .i64 0] 42)::pt b7 (.cells (XK o) 132)::L)->(k,q)=zU (decide (¬o.reg=o.rm)) (k,bd) ->
     Wu Tryz.prog 65 [rp rb,.int .i64 4] 4 [(1,.pointer (some ⟨b7,0,none⟩))] h5 (nR (.int .i64 o.reg) (rp b8) (Q6 lo rb bv L (⟨8,o.reg,0,13,0,0,(wk bs (zU (decide (¬o.reg=o.rm)) (k,bd))).1⟩,(wk bs (zU (decide (¬o.reg=o.rm)) (k,bd))).2))):=λ{h5 q} s5 e=>by
    rw[<- e];refine Px B (s5.f [2,0,1]) λh6 s6=>?_;unfold nR;simp only[EE,Nat.reduceAdd,yV,UA];exact qS ⟨8,o.reg,0,13,0,0,(wk bs (k,q)).1⟩ rfl (s6.f [2,1,0]) λh' s'=>⟨rfl,(s'.f [1,0]).drop⟩
   cases bd with
   |true=>
    simp only[EE,↓zB,Int.reduceEq,zu,Ye,j2,yT,nS,nT,nU,gx,Xu,YQ,ZZ,Zb,qE,gr];refine zY (s4.p 2) (by simp) rfl λh5 s5=>?_;have g7:=(s5.p 2).get;simp only[EE,zu,zg,xZ,g7];exact go (q:=true) s5 rfl
   |false=>
    simp only[EE,↓zB,Int.reduceEq,zu,zg,Ye,j2,xZ,wJ,yT,nS,nT,nU,gx,Xu,YQ,ZZ,Zb,qE,g7,gr];refine zY (s4.p 2) (by simp) rfl λh5 s5=>?_;have g7:=(s5.p 2).get;simp only[EE,zu,zg,xZ,g7];exact go (q := !decide (o.reg=o.rm)) s5 (by simp[zU])
  rw[aae c4];by_cases c5:op=15
  ·rw[aah c5];subst c5;by_cases e1:second=175
   ·rw[aah e1];subst e1;simp only[EE,↓zB,Nat.reduceAdd,Int.reduceEq,zu,zg,yV,XP,xZ,wJ,DK,ew,UU,Xu,YQ,ZZ,Zb,qE,g7];exact qS ⟨7,o.reg,o.rm,13,0,0,0⟩ rfl s4 λh' s'=>⟨rfl,s'.drop⟩
   rw[aae e1];by_cases e2:second=190
   ·rw[aah e2];subst e2;simp only[EE,↓zB,Nat.reduceAdd,Int.reduceEq,zu,zg,yV,XP,xZ,wJ,DJ,nV,ew,UU,Xu,YQ,ZZ,Zb,qE,g7];exact qS ⟨10,o.reg,o.rm,3,0,0,0⟩ rfl s4 λh' s'=>⟨rfl,s'.drop⟩
   rw[aae e2];simp only[EE,↓zB,Int.reduceEq,j2,yT,nV,ew,tQ,UU,Xu,YQ,ZZ,Zb,qE,e1,e2];refine zY (s4.p 2) (by simp) rfl λh5 s5=>?_;simp only[EE,Nat.reduceAdd,yV,gU];exact qS WY rfl (s5.f [1,0,2]) λh' s'=>⟨rfl,by rw[Ko];exact(s'.f [1,0]).drop⟩
  rw[aae c5];simp only[EE,↓zB,Nat.reduceAdd,jY,gQ,UU,Xu,YQ,ZZ,Zb,tU,qE,g7,c1,c2,c3,c4,c5];refine KI (Rg B r0 r1 (s4.f [2,0,1])) ?_;rintro v h5 ⟨rfl,s5⟩;simp only[EE,Nat.reduceAdd,yV];exact qS _ rfl (s5.f [1,0,2]) λh' s'=>⟨rfl,(s'.f [1,0]).drop⟩
 ·rw[aah c0];simp only[EE,Nat.reduceAdd,zu,zg,yV,XP,xZ,wJ,DI,qE,g7,c0];exact qS ⟨7,o.rm,o.reg,qe op,0,0,0⟩ rfl s4 λh' s'=>⟨rfl,s'.drop⟩
end
abbrev j8:List aaa:=[.int .i64 0,.int .i64 0,.int .i64 0,.int .i64 0,.int .i64 0,.int .i64 0,.int .i64 0]
section
variable {lo:yH}{h:za}{L:List HP}{bv:aaa}{bs:List Int}{rb:Nat}{st:RS}{op second ahead:Int}{b b2 b4:Nat}{c2:List aaa}
theorem PE(b:List Int)(ahead z reg rm:Int)(t:RS):(Qo b ahead z reg rm t).1.reg=reg:=by
 unfold Qo;split
 ·rfl
 ·split
  ·rfl
  ·split <;> rfl
theorem SR(B:xa bs)(ahead:Int)(st:RS):0<=(uy bs ahead st).1.reg/\(uy bs ahead st).1.reg<16:=by
 rw[G8,PE];have:=XI B st;unfold qP;split <;> omega
theorem On(B:r5 lo bv bs)(a0:0<=ahead)(a1:ahead<256)(J:List aaa)
  (s:Sat lo h (pt rb (Yn bv st)::pt b4 (.cells j8 42)::L)) :
  gO (.int .u8 op) (rp rb) (.int .u8 ahead) (rp b4) (Q6 lo rb bv L (if op=15 then uE bs ahead op (zw bs st).1 (zw bs st).2 else uE bs ahead op 0 st)) J h:=by
 have bn:=B.nb
 have core:∀{h:za} {st:RS} {second:Int} {X:zo×RS},X=uE bs ahead op second st->Sat lo h (pt rb (Yn bv st)::pt b4 (.cells j8 42)::L) ->
   zL Tryz.prog (.func (.func 84) #[] #[]) [rp rb,.int .u8 ahead] h (gN (rp rb) (.int .u8 op) (rp b4) (Q6 lo rb bv L X) [.int .u8 second]):=λ{h st second X} eX s=>by
  refine KI (cW B a0 a1 s) ?_;rintro v h1 ⟨rfl,s1⟩;obtain⟨r0,r1⟩:=SR B.byte ahead st
  have eX:X=(if (uy bs ahead st).1.place=true then (⟨6,(uy bs ahead st).1.reg,0,0,0,0,(uy bs ahead st).1.k⟩,zU (decide (¬op=141)) (uy bs ahead st).2)
   else if (uy bs ahead st).1.memory=true then uz op second (uy bs ahead st).1 (uy bs ahead st).2
   else qR bs op second (uy bs ahead st).1 (uy bs ahead st).2):=eX
  generalize (uy bs ahead st).1=o at r0 r1 eX ⊢;generalize (uy bs ahead st).2=st at s1 eX ⊢;rw[eX];unfold gN;simp only[EE,Value.cells,oR];refine vR s1 λb7 h2 s2=>?_;unfold JA;simp only[EE,Nat.reduceAdd,oK];refine zY s2 (by simp) rfl λh3 s3=>?_;have s3:Sat lo h3 (pt b7 (.cells (XK o) 132)::pt rb (Yn bv st)::pt b4 (.cells j8 42)::L):=s3;have g7:=s3.get;have gr:=(s3.p 1).get;by_cases hp:o.place=true
  ·rw[aah hp];obtain⟨k,bd⟩:=st;cases bd with
   |true=>
    simp only[EE,↓zB,zu,Ye,j2,Vt,yT,gH,gI,gJ,UX,g7,gr,hp];refine zY (s3.p 1) (by simp) rfl λh4 s4=>?_;have g7:=(s4.p 1).get;simp only[EE,Nat.reduceAdd,zu,xP,zg,yV,Wg,xZ,Qe,g7];exact qS ⟨6,o.reg,0,0,0,0,o.k⟩ rfl (s4.f [2,0,1]) λh' s'=>⟨rfl,(s'.f [1]).drop⟩
   |false=>
    simp only[EE,↓zB,zu,Ye,j2,Vt,yT,gH,gI,gJ,UX,g7,gr,hp];refine zY (s3.p 1) (by simp) rfl λh4 s4=>?_;have g7:=(s4.p 1).get;have eq:(k,!decide (op=141))=zU (decide (¬op=141)) (k,false):=by simp[zU]
    rw[<- eq];simp only[EE,Nat.reduceAdd,zu,xP,zg,yV,Wg,xZ,Qe,g7];exact qS ⟨6,o.reg,0,0,0,0,o.k⟩ rfl (s4.f [2,0,1]) λh' s'=>⟨rfl,(s'.f [1]).drop⟩
  rw[aae hp];have hp2:o.place=false:=by cases e:o.place with|true=>exact absurd e hp|false=>rfl
  by_cases hm:o.memory=true
  ·rw[aah hm]
   have e:zd Tryz.prog 132 (rp b7) h3=some (JA o):=by
    unfold JA;simp only[EE,Nat.reduceAdd,jY,gQ,g7]
   simp only[EE,nth,↓zB,zu,Ye,Vs,Vt,Ab,gK,UX,g7,hp2,hm,e];refine KI (N2 bn (s3.f [1,0,2])) ?_;rintro v h5 ⟨rfl,s5⟩;simp only[EE,Nat.reduceAdd,yV];exact qS _ rfl (s5.f [2,0,1]) λh' s'=>⟨rfl,(s'.f [1]).drop⟩
  rw[aae hm];have hm2:o.memory=false:=by cases e:o.memory with|true=>exact absurd e hm|false=>rfl
  have e:zd Tryz.prog 132 (rp b7) h3=some (JA o):=by
   unfold JA;simp only[EE,Nat.reduceAdd,jY,gQ,g7]
  simp only[EE,nth,↓zB,zu,Ye,Vs,Vt,gK,UX,Ad,g7,hp2,hm2,e];refine KI (zbm B r0 r1 (s3.f [1,0,2])) ?_;rintro v h5 ⟨rfl,s5⟩;simp only[EE,Nat.reduceAdd,yV];exact qS _ rfl (s5.f [2,0,1]) λh' s'=>⟨rfl,(s'.f [1]).drop⟩
 unfold gO;by_cases c:op=15
 ·rw[aah c];have d:decide (op=15)=true:=aa1 c;simp only[EE,d];refine KI (Vz B s) ?_;rintro v h1 ⟨rfl,s1⟩;exact core rfl s1
 ·rw[aae c];simp only[EE,c];exact core rfl s
theorem zbH(B:r5 lo bv bs)(a0:0<=ahead)(a1:ahead<256)(s:Sat lo h (pt rb (Yn bv st)::L)):DC Tryz.prog 67 [rp rb,.int .u8 ahead] h (Q6 lo rb bv L (Yk bs ahead st)):=by
 have bn:=B.nb;apply LL;unfold NP;simp only[EE,Value.cells,uM];refine vR s λb4 h2 s2=>?_;refine KI (Vz B (s2.f [1,0])) ?_;rintro v h3 ⟨rfl,s3⟩;have zb:=XI B.byte st
 have eX:Yk bs ahead st=(let t:=zw bs st
  if 184<=t.1/\t.1<=191 then (⟨2,t.1-184+ahead%2*8,0,0,0,0,(W3 bs (zU (decide (ahead/4%2=1)) t.2)).1⟩,(W3 bs (zU (decide (ahead/4%2=1)) t.2)).2)
  else if t.1=153 then (⟨13,0,0,0,0,0,0⟩,zU (decide (¬ahead=72)) t.2)
  else if t.1=237 then (⟨25,0,0,0,0,0,0⟩,zU (decide (¬ahead=72)) t.2)
  else if t.1=239 then (⟨26,0,0,0,0,0,0⟩,zU (decide (¬ahead=72)) t.2)
  else if t.1=15 then uE bs ahead t.1 (zw bs t.2).1 (zw bs t.2).2
  else uE bs ahead t.1 0 t.2):=rfl
 rw[eX];simp only[];generalize (zw bs st).1=z at zb ⊢;generalize (zw bs st).2=st at s3 ⊢;obtain⟨z0,z1⟩:=zb;unfold Ae;have f4:=Oo a0 a1;have f1:=Gr a0 a1;have g:=s3.get;by_cases c1:184<=z/\z<=191
 ·rw[aah c1];obtain⟨c1,c2⟩:=c1;have c1':z ≥ 184:=c1
  have w1:IntKind.wrap .u8 (z-184)=z-184:=by
   simp only[IntKind.wrap,IntKind.bits,IntKind.signed];simp;omega
  have w2:=Z5 (z:=z-184) (by omega) (by omega);have ry:ahead%2=0\/ahead%2=1:=by omega
  have w3:=Z5 (z:=ahead%2) (by omega) (by omega);have w4:=Z5 (z:=ahead%2*8) (by omega) (by omega);have w5:=Z5 (z:=z-184+ahead%2*8) (by omega) (by omega);obtain⟨k,bd⟩:=st
  have go:∀{h5:za} {q:Bool},Sat lo h5 (pt rb (Yn bv (k,q))::pt b4 (.cells j8 42)::L)->(k,q)=zU (decide (ahead/4%2=1)) (k,bd) ->
     zL Tryz.prog (.func (.func 65) #[] #[]) [rp rb,.int .i64 8] h5 (oq (.int .i64 (z-184+ahead%2*8)) (rp b4) (Q6 lo rb bv L (⟨2,z-184+ahead%2*8,0,0,0,0,(W3 bs (zU (decide (ahead/4%2=1)) (k,bd))).1⟩,(W3 bs (zU (decide (ahead/4%2=1)) (k,bd))).2))):=λ{h5 q} s5 e=>by
   rw[<- e];refine KI (zbf B s5) ?_;rintro v h6 ⟨rfl,s6⟩;unfold oq;simp only[EE,Nat.reduceAdd,yV,Wg];exact qS ⟨2,z-184+ahead%2*8,0,0,0,0,(W3 bs (k,q)).1⟩ rfl (s6.f [1,0]) λh' s'=>⟨rfl,s'⟩
  cases bd with
  |true=>
   simp only[EE,zu,Ye,j2,yT,ey,eA,eC,eD,Xw,g,c1',c2];refine zY s3 (by simp) rfl λh4 s4=>?_;simp only[EE,pj,f1,w1,w2,w3,w4,w5];exact go (q:=true) s4 rfl
  |false=>
   by_cases q4:ahead/4%2=1
   ·rw[aah q4]at f4;simp only[EE,Int.reduceEq,zu,Ye,j2,yT,ey,eA,eC,eD,Xw,g,c1',c2,f4];refine zY s3 (by simp) rfl λh4 s4=>?_;simp only[EE,pj,f1,w1,w2,w3,w4,w5];exact go (q:=true) s4 (by simp[zU,q4])
   ·rw[aae q4]at f4;simp only[EE,zu,Ye,j2,yT,ey,eA,eC,eD,Xw,g,c1',c2,f4];refine zY s3 (by simp) rfl λh4 s4=>?_;simp only[EE,pj,f1,w1,w2,w3,w4,w5];exact go (q:=false) s4 (by simp[zU,q4])
 rw[aae c1]
 have into:∀{R:aaa->za->Prop},gP (.int .u8 z) (rp rb) (.int .u8 ahead) (rp b4) R [] h3->opt (nb [.int .u8 z,.int .u8 184] (zT Tryz.prog .geq 5 (.tmp 9) (.const (.int .u8 184)) (.int .u8 z) (.int .u8 184))) λt11=>GD t11 true (λk4=>k4 (.int .u8 z) h3) (Xw t11 (rp rb) (.int .u8 ahead) (.int .u8 z) (rp b4) R) h3:=λ{R} x=>by
  by_cases d1:z ≥ 184
  ·have d2:¬z<=191:=λe=>c1 ⟨d1,e⟩;simp only[EE,Xw,d1,d2];exact x
  ·simp only[EE,Xw,d1];exact x
 refine into ?_;unfold gP
 have one:∀(n:Int) {R:aaa->za->Prop},(∀h4 q,(st.1,q)=zU (decide (¬ahead=72)) st->Sat lo h4 (pt rb (Yn bv (st.1,q))::pt b4 (.cells j8 42)::L)->BK (K9 (.int .u8 z) (rp b4) h4 R) (gD (rp b4) R))->∀J,gG (rp rb) h3 (.int .u8 ahead) (.int .u8 z) (rp b4) R J:=λn {R} k J=>by
  unfold gG;obtain⟨kk,bd⟩:=st;cases bd with
  |true=>
   simp only[EE,zu,Ye,yT,gF,g];unfold gE;simp only[EE,j2,yT];refine zY s3 (by simp) rfl λh4 s4=>?_;exact k h4 true rfl s4
  |false=>
   simp only[EE,zu,Ye,yT,gF,g];unfold gE;simp only[EE,j2,yT];refine zY s3 (by simp) rfl λh4 s4=>?_;exact k h4 (!decide (ahead=72)) (by simp[zU]) s4
 by_cases c2:z=153
 ·rw[aah c2];subst c2;simp only[EE,UY,UZ];refine one 0 (λh4 q e s4=>?_) _;rw[<- e];simp only[EE,↓zB,Nat.reduceAdd,yV,l7,DR,K9];exact qS ⟨13,0,0,0,0,0,0⟩ rfl (s4.f [1,0]) λh' s'=>⟨rfl,s'⟩
 rw[aae c2];by_cases c3:z=237
 ·rw[aah c3];subst c3;simp only[EE,Int.reduceEq,UY,UZ];refine one 0 (λh4 q e s4=>?_) _;rw[<- e];simp only[EE,↓zB,Nat.reduceAdd,Int.reduceEq,yV,l7,DQ,ot,K9];exact qS ⟨25,0,0,0,0,0,0⟩ rfl (s4.f [1,0]) λh' s'=>⟨rfl,s'⟩
 rw[aae c3];by_cases c4:z=239
 ·rw[aah c4];subst c4;simp only[EE,Int.reduceEq,UY,UZ];refine one 0 (λh4 q e s4=>?_) _;rw[<- e];simp only[EE,↓zB,Nat.reduceAdd,Int.reduceEq,yV,l7,ot,K9,gD];exact qS ⟨26,0,0,0,0,0,0⟩ rfl (s4.f [1,0]) λh' s'=>⟨rfl,s'⟩
 rw[aae c4];simp only[EE,UY,UZ,c2,c3,c4];exact On B a0 a1 _ s3
end
open Go.Eb (uO yD xt wM iu)
section
variable {lo:yH}{h:za}{L:List HP}{bv yv:aaa}{bs ys:List Int}{rb:Nat}{st:RS}{op second ahead:Int}{b b2 b4 b8:Nat}{c2:List aaa}
theorem FC(b:List Int)(z:Int):∀(ys:List Int) (st:RS),Yj b (ys++[z]) st=zU (decide (¬(zw b (Yj b ys st)).1=z)) (zw b (Yj b ys st)).2
 |[],st=>rfl
 |y::ys,st=>by
  show Yj b (ys++[z]) _=_;rw[FC b z ys];rfl
theorem P1{n:Nat}{J:List aaa->za->Prop}(B:r5 lo bv bs)(hn:ys.length=n)(bD:ys.length<=100)(s:Sat lo h (uO yv ys::pt rb (Yn bv st)::L))(k:∀h',Sat lo h' (uO yv ys::pt rb (Yn bv (Yj bs ys st))::L)->J [] h') :
  LP (cB (.int .i64 n) J yv (rp rb)) [.int .i64 0] h:=by
 subst hn;have bn:=B.nb;refine kW (λm vs h'=>∃j:Nat,j<=ys.length/\m=ys.length-j/\vs=[.int .i64 j]/\Sat lo h' (uO yv ys::pt rb (Yn bv (Yj bs (ys.take j) st))::L)) ys.length ⟨0,aaS _,rfl,rfl,s⟩ ?_;rintro m vs h1 ⟨j,hj,rfl,rfl,s1⟩;unfold cB;by_cases hc:(j:Int)<(ys.length:Int)
 ·obtain⟨z,hz⟩:∃z,ys[j]? = some z:=⟨_,aag (by omega)⟩;obtain⟨b,o,c,t,a1,_,a2,a3⟩:=zb7 (yD s1 aak) hz;have et:ys.take (j+1)=ys.take j++[z]:=by rw[abw,hz];rfl
  have hin:=inc (show j<4611686018427387904 by omega);simp only[EE,nth,↓zB,zu,zbW,nL,nM,hc,a1,a2,a3];refine KI (Vz B (s1.f [1,0])) ?_;rintro v h2 ⟨rfl,s2⟩;have es:=FC bs z (ys.take j) st;rw[<- et]at es;generalize (zw bs (Yj bs (ys.take j) st)).1=w at es ⊢;generalize (zw bs (Yj bs (ys.take j) st)).2=t2 at es s2 ⊢;have g:=s2.get;obtain⟨kk,bd⟩:=t2
  have fin:∀{h3 q},(kk,q)=Yj bs (ys.take (j+1)) st->Sat lo h3 (pt rb (Yn bv (kk,q))::uO yv ys::L)->(λvs' h'=>∃m,m<ys.length-j /\ ∃j:Nat,j<=ys.length/\m=ys.length-j/\vs'=[Value.int .i64 j]/\Sat lo h' (uO yv ys::pt rb (Yn bv (Yj bs (ys.take j) st))::L)) [.int .i64 (j+1:Nat)] h3:=λ{h3 q} e s3=>
   ⟨ys.length-(j+1),by omega,j+1,by omega,rfl,rfl,by rw[<- e];exact s3.f [1,0]⟩
  by_cases hw:w=z
  ·simp only[EE,zu,Ye,j2,yT,cx,cy,cA,hw,g];refine zY s2 (by simp) rfl λh3 s3=>?_;simp only[EE,nth,hin];exact fin (q:=bd) (by rw[es];simp[zU,hw]) s3
  ·simp only[EE,j2,yT,cx,cy,cA,hw];refine zY s2 (by simp) rfl λh3 s3=>?_;simp only[EE,nth,hin];exact fin (q:=true) (by rw[es];simp[zU,hw]) s3
 ·have:j=ys.length:=by omega
  subst this;rw[abD]at s1;simp only[EE,nth,hc];exact k _ s1
theorem SQ(b:List Int)(ahead z reg rm:Int)(t:RS):(Qo b ahead z reg rm t).1.rm=rm:=by
 unfold Qo;split
 ·rfl
 ·split
  ·rfl
  ·split <;> rfl
theorem zbh(B:xa bs)(ahead:Int)(st:RS):0<=(uy bs ahead st).1.rm/\(uy bs ahead st).1.rm<16:=by
 rw[G8,SQ];have:=XI B st;unfold Y3;split <;> omega
theorem zc1{b9 k:Nat}{bd:Bool}{o:lJ}{cc:Int}(B:r5 lo bv bs)(r0:0<=o.rm)(r1:o.rm<16)(s:Sat lo h (pt b9 (.cells (XK o) 132)::pt rb (Yn bv (k,bd))::pt b8 (.cells (zo.row ⟨17,0,0,0,cc,0,0⟩) 42)::pt b4 (.cells j8 42)::L)){t1 t2:Bool}{v2:aaa}(hv:t1=false->v2=.bool t2) :
  V2 (.bool t1) (rp rb) (rp b9) (rp b8) (rp b4) (Q6 lo rb bv L (⟨17,o.rm,0,0,cc,0,0⟩,Yj bs [zH 72 o.rm o.rm,15,182,xB o.rm o.rm] (k,t1||t2))) v2 h:=by
 have bn:=B.nb;have g9:=s.get;unfold V2;cases t1 with
 |true=>
  simp only[EE,j2,yT];refine zY (s.p 1) (by simp) rfl λh1 s1=>?_;have s1:Sat lo h1 (pt rb (Yn bv (k,true))::pt b9 (.cells (XK o) 132)::pt b8 (.cells (zo.row ⟨17,0,0,0,cc,0,0⟩) 42)::pt b4 (.cells j8 42)::L):=s1;have g9:=(s1.p 1).get;simp only[EE,zu,zg,U6,wJ,yy,g9];refine zY (s1.p 2) (by simp) rfl λh2 s2=>?_;have s2:Sat lo h2 (pt b8 (.cells (zo.row ⟨17,o.rm,0,0,cc,0,0⟩) 42)::pt rb (Yn bv (k,true))::pt b9 (.cells (XK o) 132)::pt b4 (.cells j8 42)::L):=s2;have s3:=wM s2 [15,182] 4 (by decide);have g8:(h2.push (.cells [.int .u8 15,.int .u8 182] 5)).get b8=some (.cells (zo.row ⟨17,o.rm,0,0,cc,0,0⟩) 42):=(s3.p 1).get;simp only[EE,zu,zg,uN,yy,g8];refine KI (iu (base:=72) (.inl rfl) (yD s3 aak) (by simp) r0 r1 r0 r1) ?_;rintro r h4 s4;have s5:=s3.join s4;have s5:Sat lo h4 (uO r [zH 72 o.rm o.rm,15,182,xB o.rm o.rm]::uO (.slice (some ⟨h2.next,0,none⟩) 2 4) [15,182]::pt b8 (.cells (zo.row ⟨17,o.rm,0,0,cc,0,0⟩) 42)::pt rb (Yn bv (k,true))::pt b9 (.cells (XK o) 132)::pt b4 (.cells j8 42)::L):=s5;have s6:=s5.f [0,3,1,2,4,5];have ln:=λq h'=>ye (yD s6 aak) q h';have rn:=xt s5;unfold K0;simp only[EE,↓zB,Nat.reduceAdd,ln,rn];refine P1 B rfl (by simp) s6 λh5 s7=>?_;exact fO ⟨17,o.rm,0,0,cc,0,0⟩ rfl (s7.f [3,5,1,0,2,4]) λh' s'=>⟨rfl,(s'.f [1,2,3,0]).drop.drop.drop⟩
 |false=>
  obtain rfl:=hv rfl;simp only[EE,j2,yT];refine zY (s.p 1) (by simp) rfl λh1 s1=>?_;have s1:Sat lo h1 (pt rb (Yn bv (k,t2))::pt b9 (.cells (XK o) 132)::pt b8 (.cells (zo.row ⟨17,0,0,0,cc,0,0⟩) 42)::pt b4 (.cells j8 42)::L):=s1;have g9:=(s1.p 1).get;simp only[EE,zu,zg,U6,wJ,yy,g9];refine zY (s1.p 2) (by simp) rfl λh2 s2=>?_;have s2:Sat lo h2 (pt b8 (.cells (zo.row ⟨17,o.rm,0,0,cc,0,0⟩) 42)::pt rb (Yn bv (k,t2))::pt b9 (.cells (XK o) 132)::pt b4 (.cells j8 42)::L):=s2;have s3:=wM s2 [15,182] 4 (by decide);have g8:(h2.push (.cells [.int .u8 15,.int .u8 182] 5)).get b8=some (.cells (zo.row ⟨17,o.rm,0,0,cc,0,0⟩) 42):=(s3.p 1).get;simp only[EE,zu,zg,uN,yy,g8];refine KI (iu (base:=72) (.inl rfl) (yD s3 aak) (by simp) r0 r1 r0 r1) ?_;rintro r h4 s4;have s5:=s3.join s4;have s5:Sat lo h4 (uO r [zH 72 o.rm o.rm,15,182,xB o.rm o.rm]::uO (.slice (some ⟨h2.next,0,none⟩) 2 4) [15,182]::pt b8 (.cells (zo.row ⟨17,o.rm,0,0,cc,0,0⟩) 42)::pt rb (Yn bv (k,t2))::pt b9 (.cells (XK o) 132)::pt b4 (.cells j8 42)::L):=s5;have s6:=s5.f [0,3,1,2,4,5];have ln:=λq h'=>ye (yD s6 aak) q h';have rn:=xt s5;unfold K0;simp only[EE,↓zB,Nat.reduceAdd,ln,rn];refine P1 B rfl (by simp) s6 λh5 s7=>?_;exact fO ⟨17,o.rm,0,0,cc,0,0⟩ rfl (s7.f [3,5,1,0,2,4]) λh' s'=>⟨rfl,(s'.f [1,2,3,0]).drop.drop.drop⟩
theorem Ps(B:r5 lo bv bs)(a0:0<=ahead)(a1:ahead<256)(s:Sat lo h (pt rb (Yn bv st)::L)):DC Tryz.prog 68 [rp rb,.int .u8 ahead] h (Q6 lo rb bv L (jZ bs ahead st)):=by
 have bn:=B.nb;apply DD;unfold DB;simp only[EE,Value.cells,uM];refine vR s λb4 h2 s2=>?_;refine KI (Vz B (s2.f [1,0])) ?_;rintro v h3 ⟨rfl,s3⟩;have zb:=XI B.byte st
 have eX:jZ bs ahead st=(let t:=zw bs st
  if t.1=136\/t.1=137 then
   (⟨4,(uy bs ahead t.2).1.reg,(uy bs ahead t.2).1.rm,if t.1=136 then 1 else 4,0,0,(uy bs ahead t.2).1.k⟩,zU (!(uy bs ahead t.2).1.memory) (uy bs ahead t.2).2)
  else if t.1=15 then Cx bs ahead t.2
  else (WY,zU true t.2)):=rfl
 rw[eX];simp only[];generalize (zw bs st).1=z at zb ⊢;generalize (zw bs st).2=st at s3 ⊢;obtain⟨z0,z1⟩:=zb;by_cases c1:z=136\/z=137
 ·rw[aah c1]
  have into:∀{R:aaa->za->Prop},(∀J:List aaa->za->Prop,(λj10=>zL Tryz.prog (.func (.func 84) #[] #[]) [rp rb,.int .u8 ahead] h3 (cw (rp rb) (.int .u8 z) (rp b4) R)) J)->BK (YP (.int .u8 z) h3 (rp rb) (.int .u8 ahead) (rp b4) R) (K3 (rp rb) (rp b4) R):=λ{R} x=>by
   rcases c1 with rfl|rfl
   ·simp only[EE,nth,↓zB,Wc,YP];exact x (λ_ _=>True)
   ·simp only[EE,nth,↓zB,Int.reduceEq,Wc,YP];exact x (λ_ _=>True)
  refine into λJ=>?_;refine KI (cW B a0 a1 s3) ?_;rintro v h4 ⟨rfl,s4⟩;generalize (uy bs ahead st).1=o;generalize (uy bs ahead st).2=st at s4 ⊢;unfold cw JA;simp only[EE,Value.cells,oR];refine vR s4 λb6 h5 s5=>?_;simp only[EE,Nat.reduceAdd,oK];refine zY s5 (by simp) rfl λh6 s6=>?_;have s6:Sat lo h6 (pt b6 (.cells (XK o) 132)::pt rb (Yn bv st)::pt b4 (.cells j8 42)::L):=s6;have g6:=s6.get;have gr:=(s6.p 1).get;obtain⟨k,bd⟩:=st;cases bd with
  |true=>
   simp only[EE,zu,Ye,j2,yT,ct,cu,gr];refine zY (s6.p 1) (by simp) rfl λh7 s7=>?_;have s7:Sat lo h7 (pt rb (Yn bv (k,true))::pt b6 (.cells (XK o) 132)::pt b4 (.cells j8 42)::L):=s7;have e:(k,true)=zU (!o.memory) (k,true):=rfl;rw[<- e];have g6:=(s7.p 1).get;simp only[EE,Value.cells,zu,xP,zg,uM,Kv,xZ,wJ,Qe,g6];refine vR s7 λb7 h8 s8=>?_;simp only[EE,Nat.reduceAdd,yV];refine zY s8 (by simp) rfl λh9 s9=>?_;rcases c1 with rfl|rfl
   ·simp only[EE,U6,zn];refine zY s9 (by simp[x6]) rfl λh10 s10=>?_;exact fO ⟨4,o.reg,o.rm,1,0,0,o.k⟩ rfl (s10.f [0,3,1,2]) λh' s'=>⟨rfl,(s'.f [1,0]).drop⟩
   ·simp only[EE,Int.reduceEq];exact fO ⟨4,o.reg,o.rm,4,0,0,o.k⟩ rfl (s9.f [0,3,1,2]) λh' s'=>⟨rfl,(s'.f [1,0]).drop⟩
  |false=>
   simp only[EE,zu,Ye,j2,Vs,yT,ct,cu,g6,gr];refine zY (s6.p 1) (by simp) rfl λh7 s7=>?_;have s7:Sat lo h7 (pt rb (Yn bv (k,!o.memory))::pt b6 (.cells (XK o) 132)::pt b4 (.cells j8 42)::L):=s7;have e:(k,!o.memory)=zU (!o.memory) (k,false):=rfl;rw[<- e];have g6:=(s7.p 1).get;simp only[EE,Value.cells,zu,xP,zg,uM,Kv,xZ,wJ,Qe,g6];refine vR s7 λb7 h8 s8=>?_;simp only[EE,Nat.reduceAdd,yV];refine zY s8 (by simp) rfl λh9 s9=>?_;rcases c1 with rfl|rfl
   ·simp only[EE,U6,zn];refine zY s9 (by simp[x6]) rfl λh10 s10=>?_;exact fO ⟨4,o.reg,o.rm,1,0,0,o.k⟩ rfl (s10.f [0,3,1,2]) λh' s'=>⟨rfl,(s'.f [1,0]).drop⟩
   ·simp only[EE,Int.reduceEq];exact fO ⟨4,o.reg,o.rm,4,0,0,o.k⟩ rfl (s9.f [0,3,1,2]) λh' s'=>⟨rfl,(s'.f [1,0]).drop⟩
 rw[aae c1];have n1:¬z=136:=λe=>c1 (.inl e);have n2:¬z=137:=λe=>c1 (.inr e);by_cases c2:z=15
 ·rw[aah c2];subst c2;simp only[EE,nth,↓zB,Int.reduceEq,K1,Wc,YP];refine KI (Vz B s3) ?_;rintro v h4 ⟨rfl,s4⟩;unfold Cx;simp only[];generalize (zw bs st).1=y;generalize (zw bs st).2=st at s4 ⊢;unfold iX;simp only[EE];refine KI (Ey (u8 (y-144)) s4 bn) ?_;rintro v h5 ⟨rfl,s5⟩;generalize (Zh (u8 (y-144)) st).1=cc;generalize (Zh (u8 (y-144)) st).2=st at s5 ⊢;unfold iW;simp only[EE,Value.cells,uM,Al];refine vR s5 λb8 h6 s6=>?_;simp only[EE,Nat.reduceAdd,yV];refine zY s6 (by simp) rfl λh7 s7=>?_;refine KI (cW B a0 a1 (s7.f [1,0])) ?_;rintro v h8 ⟨rfl,s8⟩;obtain⟨r0,r1⟩:=zbh B.byte ahead st;generalize (uy bs ahead st).1=o at r0 r1 ⊢;generalize (uy bs ahead st).2=st at s8 ⊢;unfold iV JA;simp only[EE,Value.cells,oR];refine vR s8 λb9 h9 s9=>?_;simp only[EE,Nat.reduceAdd,oK];refine zY s9 (by simp) rfl λh10 s10=>?_;obtain⟨k,bd⟩:=st;have s10:Sat lo h10 (pt b9 (.cells (XK o) 132)::pt rb (Yn bv (k,bd))::pt b8 (.cells (zo.row ⟨17,0,0,0,cc,0,0⟩) 42)::pt b4 (.cells j8 42)::L):=s10;have g9:=s10.get;have gr:=(s10.p 1).get
  have fin:∀{t1:Bool} {v2:aaa} (t2:Bool),(t1=false->v2=.bool t2)->(t1||t2)=(bd||(o.memory||o.place||decide (¬o.reg=0)))->V2 (.bool t1) (rp rb) (rp b9) (rp b8) (rp b4) (Q6 lo rb bv L (⟨17,o.rm,0,0,cc,0,0⟩,Yj bs [zH 72 o.rm o.rm,15,182,xB o.rm o.rm] (zU (o.memory||o.place||decide (¬o.reg=0)) (k,bd)))) v2 h10:=λ{t1 v2} t2 hv e=>by
   have:=zc1 (cc:=cc) (t1:=t1) (t2:=t2) B r0 r1 s10 hv;rw[e]at this;exact this
  cases bd with
  |true=>
   simp only[EE,zu,Ye,yT,X9,Wa,Wb,gr];exact fin true (λe=>by cases e) (by simp)
  |false=>
   cases em:o.memory with
   |true=>
    simp only[EE,zu,Ye,Vs,yT,X9,Wa,Wb,g9,gr,em];rw[em]at fin;exact fin true (λe=>by cases e) (by simp)
   |false=>
    rw[em]at fin;cases ep:o.place with
    |true=>
     rw[ep]at fin;simp only[EE,zu,Ye,Vs,Vt,yT,X9,Wa,Wb,g9,gr,em,ep];exact fin true (λe=>by cases e) (by simp)
    |false=>
     rw[ep]at fin;simp only[EE,zu,zg,Ye,xZ,Vs,Vt,yT,X9,Wa,Wb,g9,gr,em,ep];exact fin (!decide (o.reg=0)) (λ_=>rfl) (by simp)
 ·rw[aae c2];simp only[EE,nth,↓zB,j2,yT,K1,Wc,YP,K3,n1,n2,c2];refine zY s3 (by simp) rfl λh5 s5=>?_;simp only[EE,Nat.reduceAdd,yV,gU];exact qS WY rfl (s5.f [1,0]) λh' s'=>⟨rfl,by rw[Ko];exact s'⟩
end
section
variable {lo:yH}{h:za}{L:List HP}{bv:aaa}{bs:List Int}{rb:Nat}{st:RS}{b b2:Nat}{c2:List aaa}
theorem zbb(z:Fin 256):IntKind.wrap .u8 ↑(BitVec.ofInt (IntKind.bits .u8) ((z.val:Nat):Int) &&& ~~~ BitVec.ofInt (IntKind.bits .u8) 5).toNat=((z.val:Nat):Int)-((z.val:Nat):Int)%2-((z.val:Nat):Int)/4%2*4:=by
 revert z;decide +kernel
theorem zba{z:Int}(h0:0<=z)(h1:z<256):IntKind.wrap .u8 ↑(BitVec.ofInt (IntKind.bits .u8) z &&& ~~~ BitVec.ofInt (IntKind.bits .u8) 5).toNat=z-z%2-z/4%2*4:=by
 obtain⟨f,rfl⟩:=U7 h0 h1;exact zbb f
theorem JE(x:zo){w:aaa}{R:aaa->za->Prop}(hw:zR w=false)(l2:c2.length=7)(s:Sat lo h (pt b2 (.cells c2 42)::L))(k:∀h',Sat lo h' L->R (xV [x.val,w]) h'):opt (sU h b2 0 x.row) λh1=>opt (zd Tryz.prog 42 (rp b2) h1) λr0=>rv [r0,w] h1 R:=by
 obtain⟨v0,v1,v2,v3,v4,v5,v6,rfl⟩:∃v0 v1 v2 v3 v4 v5 v6,c2=[v0,v1,v2,v3,v4,v5,v6]:=by
  match c2,l2 with
  |[v0,v1,v2,v3,v4,v5,v6],_=>exact⟨v0,v1,v2,v3,v4,v5,v6,rfl⟩
 refine zY s (by simp) rfl λh1 s1=>?_;have g1:=s1.get;simp only[EE,zt,Nat.reduceAdd,jY,vu,g1,hw];exact k _ s1.drop
theorem OW(B:r5 lo bv bs)(s:Sat lo h (pt rb (Yn bv (0,false))::L)):DC Tryz.prog 32 [rp rb] h (λv h'=>v=xV [(xM bs).1.val,.bool (xM bs).2.1]/\Sat lo h' (pt rb (Yn bv (xM bs).2.2)::L)):=by
 have bn:=B.nb;apply NH;unfold TI;simp only[EE,Value.cells,uM];refine vR s λb4 h2 s2=>?_;refine KI (Vz B (s2.f [1,0])) ?_;rintro v h3 ⟨rfl,s3⟩;have zb:=XI B.byte (0,false);unfold xM;simp only[];generalize (zw bs (0,false)).1=z at zb ⊢;generalize (zw bs (0,false)).2=st at s3 ⊢;obtain⟨z0,z1⟩:=zb;by_cases c1:z=233
 ·rw[aah c1];subst c1;simp only[EE,↓zB,X8];refine KI (iq B s3) ?_;rintro v h4 ⟨rfl,s4⟩;simp only[EE,Nat.reduceAdd,yV,ah,HK];exact JE ⟨18,0,0,0,0,0,(wk bs st).1⟩ rfl rfl (s4.f [1,0]) λh' s'=>⟨rfl,s'⟩
 rw[aae c1];by_cases c2:z=232
 ·rw[aah c2];subst c2;simp only[EE,↓zB,Int.reduceEq,Vd,X8];refine KI (iq B s3) ?_;rintro v h4 ⟨rfl,s4⟩;simp only[EE,Nat.reduceAdd,yV,ah,HL];exact JE ⟨21,0,0,0,0,0,(wk bs st).1⟩ rfl rfl (s4.f [1,0]) λh' s'=>⟨rfl,s'⟩
 rw[aae c2];by_cases c3:z=15
 ·rw[aah c3];subst c3;simp only[EE,↓zB,Int.reduceEq,UT,Vd,X8];refine KI (Vz B s3) ?_;rintro v h4 ⟨rfl,s4⟩;generalize (zw bs st).1=y;generalize (zw bs st).2=st at s4 ⊢;unfold HO;simp only[EE];refine KI (Ey (u8 (y-128)) s4 bn) ?_;rintro v h5 ⟨rfl,s5⟩;generalize (Zh (u8 (y-128)) st).1=cc;generalize (Zh (u8 (y-128)) st).2=st at s5 ⊢;unfold HN;simp only[EE,Value.cells,uM,Al];refine vR s5 λb5 h6 s6=>?_;simp only[EE,Nat.reduceAdd,yV];refine zY s6 (by simp) rfl λh7 s7=>?_;refine KI (iq B (s7.f [1,0])) ?_;rintro v h8 ⟨rfl,s8⟩;unfold HM;simp only[EE,LW,zC];refine zY (s8.p 1) (by simp[x6]) rfl λh9 s9=>?_;have s9:Sat lo h9 (pt b5 (.cells (zo.row ⟨19,0,0,0,cc,0,(wk bs st).1⟩) 42)::pt rb (Yn bv (wk bs st).2)::pt b4 (.cells j8 42)::L):=s9;have g5:=s9.get
  have e:zd Tryz.prog 42 (rp b5) h9=some (zo.val ⟨19,0,0,0,cc,0,(wk bs st).1⟩):=by
   simp only[EE,Nat.reduceAdd,jY,vu,g5]
  simp only[EE,Nat.reduceAdd,yV,e];exact JE ⟨19,0,0,0,cc,0,(wk bs st).1⟩ rfl rfl (s9.f [2,1,0]) λh' s'=>⟨rfl,(s'.f [1,0]).drop⟩
 rw[aae c3];by_cases c4:z=195
 ·rw[aah c4];subst c4;simp only[EE,↓zB,Nat.reduceAdd,Int.reduceEq,yV,l7,HS,KY,UT,Vd,X8];exact JE ⟨22,0,0,0,0,0,0⟩ rfl rfl (s3.f [1,0]) λh' s'=>⟨rfl,s'⟩
 rw[aae c4];have fm:=zba z0 z1;by_cases c5:z=72\/z=73\/z=76\/z=77
 ·rw[aah c5];have e72:z-z%2-z/4%2*4=72:=by rcases c5 with rfl|rfl|rfl|rfl <;> decide
  rw[e72]at fm;simp only[EE,↓zB,dY,KY,UT,Vd,X8,c1,c2,c3,c4,fm];refine KI (zbH B z0 z1 s3) ?_;rintro v h4 ⟨rfl,s4⟩;generalize (Yk bs z st).1=x;generalize (Yk bs z st).2=st at s4 ⊢;obtain⟨op,r,m,sub,cc,l,k⟩:=x;simp only[EE,Value.cells,uM,HQ];refine vR s4 λb6 h5 s5=>?_;simp only[EE,Nat.reduceAdd,yV];refine zY s5 (by simp) rfl λh6 s6=>?_;have s6:Sat lo h6 (pt b6 (.cells (zo.row ⟨op,r,m,sub,cc,l,k⟩) 42)::pt rb (Yn bv st)::pt b4 (.cells j8 42)::L):=s6;have g6:=s6.get;have hne:¬b4=b6:=(s6.f [2,0,1]).ne
  have e:zd Tryz.prog 42 (rp b6) h6=some (zo.val ⟨op,r,m,sub,cc,l,k⟩):=by
   simp only[EE,Nat.reduceAdd,jY,vu,g6]
  simp only[EE,Nat.reduceAdd,Nat.reduceLeDiff,acD,zu,zg,yV,zc,e,g6,Aj,hne,acD,true_or];exact JE ⟨op,r,m,sub,cc,l,k⟩ rfl rfl (s6.f [2,1,0]) λh' s'=>⟨rfl,(s'.f [1,0]).drop⟩
 rw[aae c5];have e72:¬z-z%2-z/4%2*4=72:=by omega
 by_cases c6:z=64\/z=65\/z=68\/z=69
 ·rw[aah c6];have e64:z-z%2-z/4%2*4=64:=by rcases c6 with rfl|rfl|rfl|rfl <;> decide
  rw[e64]at fm;simp only[EE,↓zB,Int.reduceEq,HR,Bo,dY,KY,UT,Vd,X8,c1,c2,c3,c4,fm];refine KI (Ps B z0 z1 s3) ?_;rintro v h4 ⟨rfl,s4⟩;generalize (jZ bs z st).1=x;generalize (jZ bs z st).2=st at s4 ⊢;simp only[EE,Nat.reduceAdd,yV];exact JE x rfl rfl (s4.f [1,0]) λh' s'=>⟨rfl,s'⟩
 rw[aae c6];have e64:¬z-z%2-z/4%2*4=64:=by omega
 simp only[EE,↓zB,j2,yT,Bo,dY,KY,UT,Vd,X8,Da,c1,c2,c3,c4,fm,e72,e64];refine zY s3 (by simp) rfl λh5 s5=>?_;simp only[EE,Nat.reduceAdd,yV,gU];exact JE WY rfl rfl (s5.f [1,0]) λh' s'=>⟨rfl,by rw[Ko];exact s'⟩
end
open Go.As (qu vq)
theorem Ot{P:Program}{g:FuncId}{args:List aaa}{c:aaa}{h:za}{K:aaa->za->Prop}{v:aaa}(hc:xW P g=true)(hn:yk args=true)(hn2:yk (args++[c])=true)(q:vw P g (args++[c]) h v)(k:K v h):zL P (.func (.func g) #[] #[c]) args h K :=
 ⟨hn,by simpa using hn2,.inl ⟨hc,by simpa using q.dc.mono (by rintro v1 h1 ⟨rfl,rfl⟩;exact k)⟩⟩
theorem zaq{h:za}{b:Nat}{t:TypeId}{s to:Int}(g:h.get b=some (.cells [.int .i64 to] t)):vw Tryz.prog 70 [.int .i64 s,rp b] h (.bool (decide (s=to))):=by
 apply z8;apply LB;unfold Ny;have g2:h.lock.get b=some (.cells [.int .i64 to] t):=by rw[Qg];exact g
 simp only[EE,zu,xP,g2];rfl
theorem fp{to:Int}:∀{st:List Int} {n j:Nat} {s:Int},(∀i,i<j->∀s,st[i]? = some s->¬s=to)->st[j]? = some s->s=to->pO st to n=some (n+j)
 |[],n,j,s,_,hs,_=>by cases hs
 |s0::ss,n,0,s,_,hs,e=>by
  have:s0=s:=by simpa using hs
  unfold pO;rw[aah (by rw[this];exact e)];rfl
 |s0::ss,n,j+1,s,hno,hs,e=>by
  unfold pO;rw[aae (hno 0 (by omega) s0 rfl),fp (n:=n+1) (j:=j) (λi hi s hs=>hno (i+1) (by omega) s (by simpa using hs)) (by simpa using hs) e]
  congr 1;omega
theorem EV{to:Int}:∀{st:List Int} {n:Nat},(∀i,i<st.length->∀s,st[i]? = some s->¬s=to)->pO st to n=none
 |[],n,_=>rfl
 |s0::ss,n,hno=>by
  unfold pO;rw[aae (hno 0 (by simp) s0 rfl)];exact EV λi hi s hs=>hno (i+1) (by simp;omega) s (by simpa using hs)
def B4(st:List Int)(to:Int):Int:=match pO st to 0 with
 |some n=>n
 |none => -1
theorem Sl{h:za}{b:Nat}{t:TypeId}{to:Int}{sv:aaa}{st:List Int}(S:zv h sv st)(bD:st.length<=1000000)(g:h.get b=some (.cells [.int .i64 to] t)) :
  vw Tryz.prog 69 [sv,.func (.func 70) #[] #[rp b]] h (.int .i64 (B4 st to)):=by
 apply x9;apply mT;unfold iR;replace S:=S.lock;replace g:h.lock.get b=some (.cells [.int .i64 to] t):=by rw[Qg];exact g
 generalize h.lock=H at S g;have sn:=S.Kc;have ln:=λr h'=>vq S r h';simp only[EE,↓zB,sn,ln];refine kW (λm vs h'=>∃j:Nat,j<=st.length/\m=st.length-j/\vs=[.int .i64 0,.int .i64 j]/\h'=H /\ ∀i,i<j->∀s,st[i]? = some s->¬s=to) st.length ⟨0,aaS _,rfl,rfl,rfl,λi hi=>by omega⟩ ?_;rintro m vs h1 ⟨j,hj,rfl,rfl,rfl,hno⟩;unfold aX;by_cases hc:(j:Int)<(st.length:Int)
 ·obtain⟨x,hx⟩:∃x,st[j]? = some x:=⟨_,aag (show j<st.length by omega)⟩;obtain⟨b',o,c,t',a1,_,a2,a3⟩:=qu S hx;have hin:=inc (show j<4611686018427387904 by omega);simp only[EE,nth,↓zB,zu,zg,aV,hc,a1,a2,a3];refine Ot (by kernel_rfl) rfl rfl (zaq (s:=x) g) ?_;by_cases he:x=to
  ·have:B4 st to=j:=by
    unfold B4;rw[fp hno hx he,abf]
   simp only[EE,nth,he];rw[this];rfl
  ·simp only[EE,nth,aW,he,hin];refine⟨st.length-(j+1),by omega,j+1,by omega,rfl,rfl,λi hi s hs=>?_⟩;by_cases q:i<j
   ·exact hno i q s hs
   ·have:i=j:=(by omega);subst this;rw[hx]at hs;rw[<- abg hs];exact he
 ·have:j=st.length:=by omega
  subst this;simp only[EE,nth,Int.reduceNeg,hc]
  have:B4 st to = -1:=by
   unfold B4;rw[EV hno]
  rw[this];rfl
open Go.Rtl (wm)
open Go.Rm (j7 yx yG)
open Go.Eb (rD Jd)
abbrev sL(cv sv gv:aaa)(mn pn:Int):aaa := .agg #[cv,sv,gv,.int .i64 mn,.int .i64 pn]
abbrev Zd(cv sv gv:aaa)(mn pn:Int):List aaa:=[cv,sv,gv,.int .i64 mn,.int .i64 pn]
structure Be (lo:yH) (cv sv gv:aaa) (code st gl:List Int):Prop where
 rc:Rd lo (xb · cv code)
 rs:Rd lo (zv · sv st)
 rg:Rd lo (zv · gv gl)
 cn:zR cv=false
 sn:zR sv=false
 gn:zR gv=false
 cc:xX cv=true
 sc:xX sv=true
 gc:xX gv=true
 bD:code.length<=1000000000
 zdo:st.length<=1000000
 R9:gl.length<=1000
 gb:∀g,g∈gl->0<=g/\g<=65536
section
variable {lo:yH}{h:za}{L:List HP}{cv sv gv:aaa}{code st gl:List Int}{mn pn:Int}{x:zo}{behind:Int}
abbrev LO(lo:yH)(L:List HP)(g:Option zo)(v:aaa)(h':za):Prop:=Sat lo h' L /\ ∃(y:zo) (ok:Bool),v=xV [y.val,.bool ok]/\(match g with
 |some i=>ok=true/\y=i
 |none=>ok=false)
theorem ax{to:Int}:∀{az gl:List Int} {n j:Nat} {a g:Int},(∀i,i<j->∀a g,az[i]? = some a->gl[i]? = some g->¬(a<=to/\to-a<=g))->az[j]? = some a->gl[j]? = some g->a<=to/\to-a<=g->KD az gl n to=some (n+j,to-a)
 |[],_,n,j,a,g,_,hs,_,_=>by cases hs
 |_::_,[],n,j,a,g,_,_,hs,_=>by cases hs
 |a0::az,g0::gl,n,0,a,g,_,ha,hg,e=>by
  have e1:a0=a:=by simpa using ha
  have e2:g0=g:=by simpa using hg
  unfold KD;rw[aah (by rw[e1,e2];exact e),e1];rfl
 |a0::az,g0::gl,n,j+1,a,g,hno,ha,hg,e=>by
  unfold KD;rw[aae (hno 0 (by omega) a0 g0 rfl rfl),ax (n:=n+1) (j:=j) (λi hi a g ha hg=>hno (i+1) (by omega) a g (by simpa using ha) (by simpa using hg)) (by simpa using ha) (by simpa using hg) e]
  congr 2;omega
theorem AN{to:Int}:∀{az gl:List Int} {n:Nat},(∀(i:Nat) (a g:Int),az[i]? = some a->gl[i]? = some g->¬(a<=to/\to-a<=g))->KD az gl n to=none
 |[],_,n,_=>rfl
 |_::_,[],n,_=>rfl
 |a0::az,g0::gl,n,hno=>by
  unfold KD;rw[aae (hno 0 a0 g0 rfl rfl)];exact AN λi a g ha hg=>hno (i+1) a g (by simpa using ha) (by simpa using hg)
theorem za5{h:za}{y:aaa}{ys:List Int}(S:zE h y 1 (ys.map zQ))(r:TypeId)(h':za):zF Tryz.prog .len [67] r [y] h'=some (.int .i64 ys.length,h'):=by
 rcases S with⟨rfl,e⟩|⟨b,off,cp,rfl,_⟩
 ·have:ys=[]:=by simpa using e
  subst this;rw[O9];rfl
 ·rw[O9,aaq]
theorem Sh{gl:List Int}(gb:∀g,g∈gl->0<=g/\g<=65536)(bD:gl.length<=1000){i:Nat}{a:Int}(h:(yi gl 16777216)[i]? = some a):0<=a/\a<=100000000:=by
 have hi:i<gl.length:=by
  have:=(aaM.1 h).1;rw[ak]at this;exact this
 rw[Qi gl 16777216 i hi]at h;have:=Qh (gl.take i) 16777216 (λg hg=>gb g (abV hg));have hl:((gl.take i).length:Int)<=1000:=by rw[aa3];omega
 rw[abg h]at this;omega
theorem PY{b b2:Nat}{c2:List aaa}(x:zo){w:Bool}{R:aaa->za->Prop}(l2:c2.length=7)(s:Sat lo h (pt b (.cells x.row 42)::pt b2 (.cells c2 42)::L))(k:∀h',Sat lo h' (pt b (.cells x.row 42)::L)->R (xV [x.val,.bool w]) h'):opt (zd Tryz.prog 42 (rp b) h) λt=>opt (nb [t] (vH Tryz.prog 42 (rp b2) t h)) λh1=>opt (zd Tryz.prog 42 (rp b2) h1) λr0=>rv [r0,.bool w] h1 R:=by
 have g:=s.get;have:=JE (R:=R) (w := .bool w) x rfl l2 (s.f [1,0]) (λh' s'=>k h' s');obtain⟨p,r,m,sub,cc,l,kk⟩:=x
 have e:zd Tryz.prog 42 (rp b) h=some (zo.val ⟨p,r,m,sub,cc,l,kk⟩):=by
  simp only[EE,Nat.reduceAdd,jY,vu,g]
 rw[e];simp only[EE,Nat.reduceAdd,yV];exact this
theorem zbe{b3 b4 b6 b8:Nat}{op r m sub cd l to:Int}(I:Be lo cv sv gv code st gl)(t0 : -8000000000<=to)(t1:to<=8000000000)
  (s:Sat lo h (pt b4 (.cells (zo.row ⟨op,r,m,sub,cd,l,0⟩) 42)::pt b8 (.cells [.int .i64 to] 2)::pt b6 (.cells j8 42)::pt b3 (.cells (Zd cv sv gv mn pn) 31)::L)) :
  m8 (rp b3) (rp b8) (rp b4) (rp b6) (LO lo L ((KD (yi gl 16777216) gl 0 to).map λr'=>⟨op,r,m,(r'.1:Int),cd,l,r'.2⟩)) [.bool false] h:=by
 have gn:=I.gn;have fg:=I.R9;have g3:=(s.p 3).get;unfold m8;simp only[EE,zu,wi,eV,g3];refine sE (by simp only[yk,gn,aaH]) (rD (I.rg.at s) I.gb I.R9) ?_;rintro pv h1 s1;have s2:=s.join s1;have pvn:=yG s2;have S:=yx (wm s2 aak) (yJ (f:=zQ) (λ_=>rfl) _);have hlen:(yi gl 16777216).length=gl.length:=ak _ _;have ln:=λr h'=>za5 S r h';rw[hlen]at ln;unfold C2;simp only[EE,nth,↓zB,ln,pvn];have s3:=s2.f [1,2,3,4,0];have s3:Sat lo h1 (pt b4 (.cells (zo.row ⟨op,r,m,sub,cd,l,0⟩) 42)::pt b8 (.cells [.int .i64 to] 2)::pt b6 (.cells j8 42)::pt b3 (.cells (Zd cv sv gv mn pn) 31)::j7 2 1 pv ((yi gl 16777216).map zQ)::L):=s3;have g4:=s3.get;have g8:=(s3.p 1).get;have g3:=(s3.p 3).get;have G:=I.rg.at s3;refine kW (λm vs h'=>∃j:Nat,j<=gl.length/\m=gl.length-j/\vs=[.bool false,.int .i64 j]/\h'=h1 /\ ∀i,i<j->∀a g,(yi gl 16777216)[i]? = some a->gl[i]? = some g->¬(a<=to/\to-a<=g)) gl.length ⟨0,aaS _,rfl,rfl,rfl,λi hi=>by omega⟩ ?_;rintro m' vs h2 ⟨j,hj,rfl,rfl,rfl,hno⟩;unfold C0;by_cases hc:(j:Int)<(gl.length:Int)
 ·obtain⟨g,hg⟩:∃g,gl[j]? = some g:=⟨_,aag (by omega)⟩;obtain⟨a,ha⟩:∃a,(yi gl 16777216)[j]? = some a:=⟨_,aag (show j<(yi gl 16777216).length by rw[hlen];omega)⟩;obtain⟨b1,o1,c1,t1',a1,_,a2,a3⟩:=Jd S ha;obtain⟨b2,o2,c2,t2,e1,_,e2,e3⟩:=qu G hg;have hin:=inc (show j<4611686018427387904 by omega);have ab:=Sh I.gb I.R9 ha;have wd:IntKind.wrap .i64 (to-a)=to-a:=by simp only[IntKind.wrap,IntKind.bits,IntKind.signed];simp;omega
  have next:∀vs',vs'=[.bool false,.int .i64 ((j+1:Nat):Int)]->¬(a<=to/\to-a<=g)->∃m,m<gl.length-j /\ ∃j:Nat,j<=gl.length/\m=gl.length-j/\vs'=[Value.bool false,.int .i64 j] /\ ∀i,i<j->∀a g,(yi gl 16777216)[i]? = some a->gl[i]? = some g->¬(a<=to/\to-a<=g):=λvs' ev hn=>
   ⟨gl.length-(j+1),by omega,j+1,by omega,rfl,ev,λi hi a' g' ha' hg'=>by
    by_cases q:i<j
    ·exact hno i q a' g' ha' hg'
    ·have:i=j:=(by omega);subst this;rw[ha]at ha';rw[hg]at hg';rw[<- abg ha',<- abg hg'];exact hn⟩
  by_cases q1:to ≥ a
  ·by_cases q2:to-a<=g
   ·rw[ax hno ha hg ⟨q1,q2⟩,abf];have hne:¬b4=b8:=s3.ne;simp only[EE,nth,↓zB,Nat.reduceAdd,Nat.reduceLeDiff,acD,zu,xP,wi,zg,LW,U6,eV,zn,zC,CZ,dI,dJ,dK,dL,dM,dN,hc,a1,a2,a3,g8,g3,q1,q2,wd,e1,e2,e3,Aj,hne,acD,true_or];refine zY s3 (by simp) rfl λh3 s4=>?_;refine zY s4 (by simp[x6]) rfl λh4 s5=>?_;exact PY ⟨op,r,m,(j:Int),cd,l,to-a⟩ rfl (s5.f [0,2,1,3,4]) λh' s'=>⟨(s'.f [0,1,2,3]).drop.drop.drop.drop,_,_,rfl,rfl,rfl⟩
   ·simp only[EE,nth,↓zB,zu,xP,wi,zg,eV,dI,dJ,dK,dL,dM,dN,m7,hc,a1,a2,a3,g8,g3,q1,q2,wd,e1,e2,e3,hin];exact next _ rfl (λe=>q2 e.2)
  ·simp only[EE,nth,↓zB,zu,xP,dI,dJ,dK,dL,dM,dN,m7,hc,a1,a2,a3,g8,q1,hin];exact next _ rfl (λe=>q1 e.1)
 ·have:j=gl.length:=by omega
  subst this;rw[AN λi a g ha hg=>hno i (aaM.1 hg).1 a g ha hg];simp only[EE,nth,hc];unfold C1;exact PY ⟨op,r,m,sub,cd,l,0⟩ rfl (s3.f [0,2,1,3,4]) λh' s'=>⟨s'.drop.drop.drop.drop,_,_,rfl,rfl⟩
theorem zbV(I:Be lo cv sv gv code st gl)(k0 : -4294967296<=x.k)(k1:x.k<=4294967296)(d0:0<=behind)(d1:behind<=2000000000)(s:Sat lo h L) :
  DC Tryz.prog 33 [sL cv sv gv mn pn,x.val,.int .i64 behind] h (LO lo L (Z6 st gl code.length x (behind+x.k))):=by
 have cn:=I.cn;have sn:=I.sn;have gn:=I.gn;have cc:=I.cc;have sc:=I.sc;have gc:=I.gc;apply Nz;unfold TD;obtain⟨op,r,m,sub,cd,l,k⟩:=x;simp only at k0 k1;have w:=(show IntKind.wrap .i64 (behind+k)=behind+k by simp only[IntKind.wrap,IntKind.bits,IntKind.signed];simp;omega);simp only[EE,Value.cells,uM];refine vR s λb3 h2 s2=>?_;refine vR s2 λb4 h3 s3=>?_;refine vR s3 λb6 h4 s4=>?_;have g4:=(s4.p 1).get;simp only[EE,Value.cells,zu,xP,zdf,zC,g4,w];have t0 : -8000000000<=behind+k:=by omega
 have t1:behind+k<=8000000000:=by omega
 generalize behind+k=to at w t0 t1 ⊢;refine vR s4 λb8 h5 s5=>?_;simp only[LW];refine zY s5 (by simp) rfl λh6 s6=>?_;simp only[EE,LW,zC];refine zY (s6.p 2) (by simp) rfl λh7 s7=>?_;have s7:Sat lo h7 (pt b4 (.cells (zo.row ⟨op,r,m,sub,cd,l,0⟩) 42)::pt b8 (.cells [.int .i64 to] 2)::pt b6 (.cells j8 42)::pt b3 (.cells (Zd cv sv gv mn pn) 31)::L):=s7;have g4:=s7.get;simp only[EE,↓zB,zu,zg,zc,g4];have g8:=(s7.p 1).get;have g3:=(s7.p 3).get;have lnc:=λr h'=>ye (I.rc.at s7) r h';by_cases c1:op=18\/op=19
 ·have eg:Z6 st gl code.length ⟨op,r,m,sub,cd,l,k⟩ to=if 0<=to/\to<=(code.length:Int) then some ⟨op,r,m,sub,cd,to,0⟩ else none:=by
   unfold Z6;rw[aah c1]
  rw[eg]
  have good:∀J,0<=to/\to<=(code.length:Int)->JR (rp b8) h7 (rp b3) (rp b4) (rp b6) (LO lo L (if 0<=to/\to<=(code.length:Int) then some ⟨op,r,m,sub,cd,to,0⟩ else none)) J:=λJ hg=>by
   rw[aah hg];have n1:¬to<0:=by omega
   have n2:¬to>(code.length:Int):=by omega
   unfold JR;simp only[EE,zu,xP,jE,uF,lQ,lR,g3,g8,n1,n2,lnc,cn];unfold HB;simp only[EE,zu,xP,U6,xw,g8];refine zY s7 (by simp) rfl λh8 s8=>?_;have s8:Sat lo h8 (pt b4 (.cells (zo.row ⟨op,r,m,sub,cd,to,0⟩) 42)::pt b8 (.cells [.int .i64 to] 2)::pt b6 (.cells j8 42)::pt b3 (.cells (Zd cv sv gv mn pn) 31)::L):=s8;have g4:=s8.get
   have e:zd Tryz.prog 42 (rp b4) h8=some (zo.val ⟨op,r,m,sub,cd,to,0⟩):=by
    simp only[EE,Nat.reduceAdd,jY,vu,g4]
   simp only[EE,Nat.reduceAdd,yV,e];exact JE ⟨op,r,m,sub,cd,to,0⟩ rfl rfl (s8.f [2,0,1,3]) λh' s'=>⟨s'.drop.drop.drop,_,_,rfl,rfl,rfl⟩
  have badg:∀J,¬(0<=to/\to<=(code.length:Int))->JR (rp b8) h7 (rp b3) (rp b4) (rp b6) (LO lo L (if 0<=to/\to<=(code.length:Int) then some ⟨op,r,m,sub,cd,to,0⟩ else none)) J:=λJ hg=>by
   rw[aae hg];unfold JR
   have e:zd Tryz.prog 42 (rp b4) h7=some (zo.val ⟨op,r,m,sub,cd,l,0⟩):=by
    simp only[EE,Nat.reduceAdd,jY,vu,g4]
   have fin:∀J,Bk (rp b4) h7 (rp b6) (LO lo L none) J:=λJ=>by
    unfold Bk;simp only[EE,Nat.reduceAdd,yV,e];exact JE ⟨op,r,m,sub,cd,l,0⟩ rfl rfl (s7.f [2,0,1,3]) λh' s'=>⟨s'.drop.drop.drop,_,_,rfl,rfl⟩
   by_cases n1:to<0
   ·simp only[EE,zu,xP,lQ,lR,g8,n1];exact fin _
   ·have n2:to>(code.length:Int):=(by omega);simp only[EE,zu,xP,jE,uF,lQ,lR,g3,g8,n1,n2,lnc,cn];exact fin _
  have both:∀J,JR (rp b8) h7 (rp b3) (rp b4) (rp b6) (LO lo L (if 0<=to/\to<=(code.length:Int) then some ⟨op,r,m,sub,cd,to,0⟩ else none)) J:=λJ=>by
   by_cases hg:0<=to/\to<=(code.length:Int)
   ·exact good J hg
   ·exact badg J hg
  rcases c1 with rfl|rfl
  ·simp only[EE,nth,dO];exact both _
  ·simp only[EE,nth,Int.reduceEq,dO];exact both _
 have n18:¬op=18:=λe=>c1 (.inl e);have n19:¬op=19:=λe=>c1 (.inr e);by_cases c2:op=21
 ·subst c2
  have eg:Z6 st gl code.length ⟨21,r,m,sub,cd,l,k⟩ to=(pO st to 0).map λ(n:Nat)=>⟨21,r,m,(n:Int),cd,l,0⟩:=by
   unfold Z6;rw[aae c1];rfl
  rw[eg];simp only[EE,nth,Int.reduceEq,zu,wi,u7,HD,Bl,dO,g3,abv];refine gZ (by simp only[yk,sn,aaH];rfl) (Sl (I.rs.at s7) I.zdo g8) ?_;unfold HC;simp only[EE,U6,zn];refine zY s7 (by simp) rfl λh8 s8=>?_;have s8:Sat lo h8 (pt b4 (.cells (zo.row ⟨21,r,m,B4 st to,cd,l,0⟩) 42)::pt b8 (.cells [.int .i64 to] 2)::pt b6 (.cells j8 42)::pt b3 (.cells (Zd cv sv gv mn pn) 31)::L):=s8;have g4:=s8.get;have hne:¬b6=b4:=(s8.f [2,0,1,3]).ne
  have e:zd Tryz.prog 42 (rp b4) h8=some (zo.val ⟨21,r,m,B4 st to,cd,l,0⟩):=by
   simp only[EE,Nat.reduceAdd,jY,vu,g4]
  simp only[EE,Nat.reduceAdd,Nat.reduceLeDiff,acD,zu,zg,yV,zn,e,g4,Aj,hne,acD,true_or];refine JE ⟨21,r,m,B4 st to,cd,l,0⟩ rfl rfl (s8.f [2,0,1,3]) λh' s'=>⟨s'.drop.drop.drop,_,_,rfl,?_⟩;unfold B4;cases pO st to 0 with
  |none=>show decide ((-1:Int) ≥ 0)=false;decide
  |some n=>exact⟨aa1 (show(n:Int) ≥ 0 by omega),rfl⟩
 have eg:Z6 st gl code.length ⟨op,r,m,sub,cd,l,k⟩ to=(KD (yi gl 16777216) gl 0 to).map λr'=>⟨op,r,m,(r'.1:Int),cd,l,r'.2⟩:=by
  unfold Z6;rw[aae c1,aae c2]
 rw[eg];simp only[EE,nth,Bl,dO,n18,n19,c2];exact zbe I t0 t1 s7
end
open Go.As (ib uH)
open Go.Eb (wO)
theorem Oh{h:za}{cv:aaa}{code:List Int}(S:xb h cv code){n:Nat}(hn:n<code.length):∃b o c,TM Tryz.prog 29 cv (some (.int .i64 n)) none h=some (.slice (some ⟨b,o,none⟩) (code.length-n) c) /\ ∀h',xb h' cv code->xb h' (.slice (some ⟨b,o,none⟩) (code.length-n) c) (code.drop n):=by
 rcases S with⟨rfl,e⟩|⟨b,off,cp,rfl,hc⟩
 ·have:code=[]:=by simpa using e
  subst this;cases hn
 ·refine⟨b,off+n,cond (wide Tryz.prog h b 1) (QZ cp n) 0,?_,λh' S'=>?_⟩
  ·rw[VI,aaq];have e1:jc none code.length code.length=some code.length:=Ja ..
   have e2:jc (some (.int .i64 (n:Int))) 0 code.length=some n:=by
    rw[cK];have:(n:Int)<=code.length:=by omega
    simp only[show(0:Int)<=n by omega,this,abb,and_self,abZ]
   rw[e1];simp only[acg,e2,abI]
  ·rcases S' with⟨e,_⟩|⟨b',off',cp',e,hc'⟩
   ·cases e
   ·simp only[Value.slice.injEq,aab,Addr.mk.injEq]at e;obtain⟨⟨rfl,rfl,_⟩,_,rfl⟩:=e;refine .inr ⟨b,off+n,cond (wide Tryz.prog h b 1) (QZ cp n) 0,?_,λ_=>?_⟩
    ·rw[aaq,abM]
    ·obtain⟨c,t,h1,h2,h3⟩:=hc' (by intro q;have:code=[]:=by simpa using q
                                   subst this;cases hn)
     refine⟨c,t,h1,h2,λi r hr=>?_⟩;have:=h3 (n+i) r (by rw[aay]at hr ⊢;rw[aaQ]at hr;exact hr);have e:off+(n+i)*1=off+n+i*1:=by omega
     rw[e]at this;exact this
section
variable {lo:yH}{h:za}{L:List HP}{cv sv gv:aaa}{code st gl:List Int}{mn pn:Int}{i:Int}
def zaJ(code st gl:List Int)(i:Int):aaa:=if 0<=i/\i<code.length then (match Q1 st gl code.length (code.drop i.toNat) i.toNat with
 |some r=>xV [r.1.val,.int .i64 r.2,.int .i64 0]
 |none=>xV [WY.val,.int .i64 0,.int .i64 7]) else xV [WY.val,.int .i64 0,.int .i64 1]
theorem PX{b2:Nat}{c2:List aaa}(x:zo){w1 w2:aaa}{R:aaa->za->Prop}(hw1:zR w1=false)(hw2:zR w2=false)(l2:c2.length=7)(s:Sat lo h (pt b2 (.cells c2 42)::L))(k:∀h',Sat lo h' L->R (xV [x.val,w1,w2]) h'):opt (sU h b2 0 x.row) λh1=>opt (zd Tryz.prog 42 (rp b2) h1) λr0=>rv [r0,w1,w2] h1 R:=by
 obtain⟨v0,v1,v2,v3,v4,v5,v6,rfl⟩:∃v0 v1 v2 v3 v4 v5 v6,c2=[v0,v1,v2,v3,v4,v5,v6]:=by
  match c2,l2 with
  |[v0,v1,v2,v3,v4,v5,v6],_=>exact⟨v0,v1,v2,v3,v4,v5,v6,rfl⟩
 refine zY s (by simp) rfl λh1 s1=>?_;have g1:=s1.get;simp only[EE,zt,Nat.reduceAdd,jY,vu,g1];refine⟨?_,k _ s1.drop⟩;simp only[yk,hw1,hw2,aaH];rfl
abbrev zcd(lo:yH)(L:List HP)(r:Option (zo×Nat))(v:aaa)(h':za):Prop:=(v=match r with
 |some r=>xV [r.1.val,.int .i64 r.2,.int .i64 0]
 |none=>xV [WY.val,.int .i64 0,.int .i64 7])/\Sat lo h' L
theorem Gx{b2 b4 b8 b26:Nat}{bv:aaa}{t:RS}{x:zo}{ok:Bool}{vs:List aaa}{r:Option (zo×Nat)}(I:Be lo cv sv gv code st gl)(hr:r=if ok=true then (if uH gl x=true then some (x,t.1) else none) else none)
  (s:Sat lo h (pt b8 (.cells x.row 42)::pt b26 (Yn bv t)::pt b4 (.cells j8 42)::pt b2 (.cells (Zd cv sv gv mn pn) 31)::L)) :
  bP (rp b8) (rp b2) (rp b4) (zcd lo L r) vs (rp b26) [.bool ok] h:=by
 have gn:=I.gn;have g2:=(s.p 3).get;have g26:=(s.p 1).get;have g8:=s.get
 have bad:Qx (rp b4) h (zcd lo L none) (λ_ _=>True):=by
  unfold Qx;simp only[EE,Nat.reduceAdd,yV,gU];exact PX WY rfl rfl rfl (s.f [2,0,1,3]) λh' s'=>⟨rfl,s'.drop.drop.drop⟩
 unfold Qx at bad
 have e:zd Tryz.prog 42 (rp b8) h=some x.val:=by
  obtain⟨op,r,m,sub,cd,l,k⟩:=x;simp only[EE,Nat.reduceAdd,jY,vu,g8]
 have hne:¬b4=b26:=(s.f [2,1,0,3]).ne;unfold bP;cases ok with
 |false=>
  rw[aae (by decide)]at hr;subst hr;simp only[EE,nth,Qy,bO];exact bad
 |true=>
  simp only[EE,nth,zu,wi,eV,bO,e,g2];refine gZ (by simp only[yk,gn,aaH];rfl) (ib (I.rg.at s)) ?_;cases hb:uH gl x with
  |false=>
   rw[aah rfl,hb,aae (by decide)]at hr;subst hr;simp only[EE,Qy];exact bad
  |true=>
   rw[aah rfl,hb,aah rfl]at hr;subst hr;simp only[EE,Nat.reduceAdd,Nat.reduceLeDiff,acD,zu,zg,yV,eW,mJ,Qy,e,g26,Aj,hne,acD,true_or];exact PX x rfl rfl rfl (s.f [2,0,1,3]) λh' s'=>⟨rfl,s'.drop.drop.drop⟩
theorem OB(I:Be lo cv sv gv code st gl)(bl:xa code)(s:Sat lo h L):DC Tryz.prog 16 [sL cv sv gv mn pn,.int .i64 i] h (λv h'=>v=zaJ code st gl i/\Sat lo h' L):=by
 have cn:=I.cn;have sn:=I.sn;have gn:=I.gn;have cc:=I.cc;have sc:=I.sc;have gc:=I.gc;have bD:=I.bD;apply CP;unfold CO;simp only[EE,Value.cells,uM];refine vR s λb2 h2 s2=>?_;refine vR s2 λb4 h4 s4=>?_;have g2:=(s4.p 1).get;have lnc:=λr h'=>ye (I.rc.at s4) r h';unfold zaJ
 have out:¬(0<=i/\i<code.length)->∀J,bN (rp b4) h4 (λv h'=>v=(if 0<=i/\i<code.length then (match Q1 st gl code.length (code.drop i.toNat) i.toNat with
  |some r=>xV [r.1.val,.int .i64 r.2,.int .i64 0]
  |none=>xV [WY.val,.int .i64 0,.int .i64 7]) else xV [WY.val,.int .i64 0,.int .i64 1])/\Sat lo h' L) J:=λhn J=>by
  rw[aae hn];unfold bN;simp only[EE,Nat.reduceAdd,yV,gU];exact PX WY rfl rfl rfl s4 λh' s'=>⟨rfl,s'.drop⟩
 by_cases c1:i<0
 ·simp only[EE,VS,VT,c1];exact out (by omega) _
 by_cases c2:i ≥ (code.length:Int)
 ·simp only[EE,zu,jE,uF,VS,VT,c1,c2,g2,lnc,cn];exact out (by omega) _
 simp only[EE,zu,jE,uF,VS,VT,c1,c2,g2,lnc,cn];rw[aah ⟨by omega,by omega⟩];obtain⟨n,rfl⟩:∃n:Nat,i=n:=⟨i.toNat,by omega⟩;have hn:n<code.length:=by omega
 rw[abb];obtain⟨bb,bo,bc,ea,bS⟩:=Oh (I.rc.at s4) hn;unfold mL;simp only[EE,Value.cells,zu,jE,RR,uF,g2,cn,ea,Bool.and_self];refine vR s4 λb26 h5 s5=>?_;have bd:xa (code.drop n):=λx hx=>bl x (ab8 hx);have B:r5 lo (.slice (some ⟨bb,bo,none⟩) (code.length-n) bc) (code.drop n):=⟨λh b=>bS h (I.rc h b),rfl,by rw[abM];omega,bd⟩;refine KI (OW B s5) ?_;rintro v h6 ⟨rfl,s6⟩
 have hE:Q1 st gl code.length (code.drop n) n=if (xM (code.drop n)).2.2.2=true then none
  else if (xM (code.drop n)).2.1=true then (match Z6 st gl code.length (xM (code.drop n)).1 (((n+(xM (code.drop n)).2.2.1:Nat):Int)+(xM (code.drop n)).1.k) with
   |some i=>if uH gl i=true then some (i,(xM (code.drop n)).2.2.1) else none
   |none=>none)
  else if uH gl (xM (code.drop n)).1=true then some ((xM (code.drop n)).1,(xM (code.drop n)).2.2.1) else none:=rfl
 have W:(xM (code.drop n)).2.2.2=false->(xM (code.drop n)).2.1=true->(xM (code.drop n)).2.2.1<=7 /\ -4294967296<=(xM (code.drop n)).1.k/\(xM (code.drop n)).1.k<=4294967296:=λhok hfar=>by
  have W:=fq bd hok;unfold Go.En.Read at W;rw[aah hfar]at W;obtain⟨y,d,F,hd,e1,A⟩:=W;have e1:(xM (code.drop n)).1 = {y with k:=d}:=e1;have hn0:(xM (code.drop n)).2.2.1=(ze y d).length:=by have:=A.2.2.1;simpa using this
  have hlen:=BS F d;rw[e1,hn0];refine⟨by omega,?_⟩;have:=hd;unfold Go.Ar.zM at this;simp only[aac,aaG]at this;show -4294967296<=d/\d<=4294967296;omega
 generalize Q1 st gl code.length (code.drop n) n=r at hE ⊢;generalize (xM (code.drop n)).1=x at W hE ⊢;generalize (xM (code.drop n)).2.1=far at W hE ⊢;generalize (xM (code.drop n)).2.2=t at W s6 hE ⊢;obtain⟨k,bad⟩:=t;simp only at W hE;have er:xV [x.val,.bool far]=.tuple #[x.val,.bool far]:=rfl;rw[er];unfold mK;simp only[EE,Value.cells,uM];refine vR s6 λb8 h7 s7=>?_;simp only[EE,Nat.reduceAdd,yV];refine zY s7 (by simp) rfl λh8 s8=>?_;have s8:Sat lo h8 (pt b8 (.cells x.row 42)::pt b26 (Yn (.slice (some ⟨bb,bo,none⟩) (code.length-n) bc) (k,bad))::pt b4 (.cells j8 42)::pt b2 (.cells (Zd cv sv gv mn pn) 31)::L):=s8;have g26:=(s8.p 1).get;cases bad with
 |true=>
  simp only[EE,zu,Ye,yT,g26];exact Gx (ok:=false) I (by rw[hE,aah rfl,aae (by decide)]) s8
 |false=>
  cases far with
  |false=>
   simp only[EE,zu,Ye,yT,g26];exact Gx (ok:=true) I (by rw[hE,aae (by decide),aae (by decide),aah rfl]) s8
  |true=>
   simp only[EE,zu,Ye,yT,g26];obtain⟨k7,x0,x1⟩:=W rfl rfl;have g2:=(s8.p 3).get;have g8:=s8.get
   have e8:zd Tryz.prog 42 (rp b8) h8=some x.val:=by
    obtain⟨op,r,m,sub,cd,l,k⟩:=x;simp only[EE,Nat.reduceAdd,jY,vu,g8]
   have e2:zd Tryz.prog 31 (rp b2) h8=some (sL cv sv gv mn pn):=by
    simp only[EE,Nat.reduceAdd,jY,Xk,g2]
   have w:IntKind.wrap .i64 ((n:Int)+(k:Int))=((n+k:Nat):Int):=by
    simp only[IntKind.wrap,IntKind.bits,IntKind.signed];simp;omega
   unfold mI;simp only[EE,zu,zg,eW,e8,e2,g26,w];refine cdo (zbV (behind:=((n+k:Nat):Int)) I x0 x1 (by omega) (by omega) s8) ?_;rintro v h9 ⟨s9,y,ok,rfl,hy⟩;have er:xV [y.val,.bool ok]=.tuple #[y.val,.bool ok]:=rfl;rw[er];simp only[EE,Nat.reduceAdd,yV];refine zY s9 (by simp) rfl λh10 s10=>?_;refine Gx (x:=y) (ok:=ok) I ?_ s10;rw[hE,aae (by decide),aah rfl];cases hg:Z6 st gl code.length x (((n+k:Nat):Int)+x.k) with
   |none=>
    rw[hg]at hy;have hy:ok=false:=hy;subst hy;rfl
   |some i=>
    rw[hg]at hy;obtain⟨rfl,rfl⟩:=hy;rfl
end
end Go.Ed
namespace Go.Ec
open Go.Ai Go.Proofs Go.Proofs.Tryz
noncomputable abbrev zz:=prog
abbrev VK:=aaa->za->Prop
abbrev LK:=List aaa->za->Prop
abbrev ci(n:Int):Operand := .const (.int .i64 n)
abbrev fn(n:Nat):aaa := .func (.func n) #[] #[]
variable {h:za}{t0 t1 t2 t3 t4 t5 t6:aaa}{R:VK}
def qs:FuncId->Nat:=λg=>([(31,2)].lookup g).getD 0
theorem mixed:prog.follows .mixedOrders=true:=aci Tryz.checked
theorem xY{f:FuncId}{args:List aaa}{X:Prop}(e:Rz zz (bC zz qs) 200 f args h R=X)(hw:X):DC zz f args h R:=UO mixed (q:=qs) (n:=200) (Eq.mpr e hw)
def lU:=λc (R:VK) d (e:LK) f (a:za)=>
 opt (pk c f (.bool false)) λg=>CD g (λb=>rv [.bool false] a R)
 (λb=>b [nth d 0] a)
 (λh i=>e [nth h 0] i)
def lV:=λa (R:VK) c (d:LK) e (b:za)=>
 zf a true (zi .gtr 2 63 e 1024) b (lU a R c d) b
def lW:=λa (R:VK) d (e:LK) f (c:za)=>
 zf a true (zk zz 42 f 6) c (λg b=>zf a true (zd zz 2 g b) b (lV a R d e) b) c
def lX:=λa b (R:VK) (e:LK) f (c:za)=>
 GD a true (λg=>g (nth b 1) c) (λh d=>zf a true (vG zz 48 f h) d (lW a R b e) d) c
def lY:=λa d (R:VK) (e:LK) f (c:za)=>
 zf a true (zk zz 50 f 1) c (λg b=>zf a true (zd zz 48 g b) b (lX a d R e) b) c
def lZ:=λa d e (R:VK) (f:LK) g (b:za)=>
 GD a true (λh=>h (nth d 1) b) (λi c=>zf a true (vG zz 23 g i) c (lY a e R f) c) b
def l5:=λd (a:za) e f (R:VK) (g:LK)=>
 zJ 25 d 1 23 a λh=>opt (vG zz 23 h (nth e 1)) λi=>zJ 50 i 1 48 a λj=>opt (vG zz 48 j (nth f 1)) λk=>zJ 42 k 0 3 a λl=>opt (zi .eql 3 51 l 23) λb=>zf b true (zk zz 25 d 1) a (λm c=>zf b true (zd zz 23 m c) c (lZ b e f R g) c) a
def Bn:=λa (b:LK) c (d:za)=>
 opt (zi .add 3 40 (nth a 1) 1) λe=>b [nth c 0,e] d
def HI:=λc d (g:LK) (R:VK) a (b:za) (h:LK)=>
 zJ 25 c 1 23 b λi=>opt (vG zz 23 i (nth d 1)) λj=>zJ 50 j 1 48 b λk=>zP (qo 48 k b) λl e=>opt (wZ .lss 3 31 38 (nth a 1) l) λm=>CD m (λf=>f [] e)
 (λf=>g [nth a 0] e)
 (λo n=>BK (l5 c n d a R)
 (Bn a h))
def nj:=λc (a:za) b (R:VK) (f:LK)=>
 zJ 25 c 1 23 a λg=>opt (vG zz 23 g (nth b 1)) λh=>zJ 50 h 1 48 a λi=>zP (qo 48 i a) λj d=>opt (zi .gtr 3 29 j 60) λk=>CD k (λe=>rv [.bool false] d R)
 (λe=>e [nth b 0] d)
 (λl m=>BK (λn=>LP (HI c b n R)
 [nth l 0,.int .i64 0] m)
 (λo p=>f [nth o 0] p))
def C5:=λa (b:LK) c (d:za)=>
 opt (zi .add 3 21 (nth a 1) 1) λe=>b [nth c 0,e] d
def C6:=λb (f:LK) (R:VK) a (c:za) (g:LK)=>
 zJ 25 b 1 23 c λh=>zP (qo 23 h c) λi d=>opt (wZ .lss 3 16 19 (nth a 1) i) λj=>CD j (λe=>e [] d)
 (λe=>f [nth a 0] d)
 (λl k=>BK (nj b k a R)
 (C5 a g))
def nk:=λd (a:za) b (R:VK) (e:LK)=>
 zJ 25 d 0 22 a λf=>Z8 22 f (nth b 1) 3 a λg=>opt (zi .gtr 3 77 g 1024) λh=>CD h (λc=>rv [.bool false] a R)
 (λc=>c [nth b 0] a)
 (λi j=>e [nth i 0] j)
def C7:=λa (b:LK) c (d:za)=>
 opt (zi .add 3 71 (nth a 1) 1) λe=>b [nth c 0,e] d
def C8:=λb (f:LK) (R:VK) a (c:za) (g:LK)=>
 zJ 25 b 0 22 c λh=>zP (qo 22 h c) λi d=>opt (wZ .lss 3 66 69 (nth a 1) i) λj=>CD j (λe=>e [] d)
 (λe=>f [nth a 0] d)
 (λl k=>BK (nk b k a R)
 (C7 a g))
def C9:=λa (R:VK) b (c:za)=>
 BK (λd=>LP (C6 a d R)
 [nth b 0,.int .i64 0] c)
 (λe f=>BK (λg=>LP (C8 a g R)
 [nth e 0,.int .i64 0] f)
 (λi h=>rv [.bool true] h R))
def dQ:=λa (R:VK) e f (b:za)=>
 zf a false (zi .gtr 3 13 f 6) b (λg c=>opt (pk a (.bool true) g) λh=>CD h (λd=>rv [.bool false] c R)
 (λd=>d [.bool false] c)
 (C9 e R)) b
def dR:=λa (R:VK) d e (b:za)=>
 zf a false (zd zz 22 e b) b (λf c=>GD a false (λg=>zP (qo 22 f c) λh i=>g h i) (dQ a R d) c) b
def TH:=λ(h:za) b (R:VK)=>
 opt (nb [b] (some (Value.cells b).toList)) λf=>nw h f 25 λa c=>zJ 25 a 1 23 c λg=>zP (qo 23 g c) λi d=>opt (zi .gtr 3 8 i 6) λe=>zf e false (zk zz 25 a 0) d (dR e R a) d
theorem NF(hw:TH h t0 R):DC zz 8 [t0] h R:=xY (by kernel_rfl) hw
def Db:=λd b (a:za) e (R:VK) (f:LK)=>
 Z8 22 d (nth b 1) 3 a λg=>Z8 22 e (nth b 1) 3 a λh=>opt (wZ .neq 3 20 24 g h) λi=>CD i (λc=>rv [.bool false] a R)
 (λc=>c [nth b 0] a)
 (λj k=>f [nth j 0] k)
def Dc:=λa (b:LK) c (d:za)=>
 opt (zi .add 3 15 (nth a 1) 1) λe=>b [nth c 0,e] d
def Dd:=λb (e:LK) f (R:VK) a (g:za) (h:LK)=>
 zP (qo 22 b g) λi c=>opt (wZ .lss 3 11 13 (nth a 1) i) λj=>CD j (λd=>d [] c)
 (λd=>e [nth a 0] c)
 (λl k=>BK (Db b a k f R)
 (Dc a h))
def NI:=λ(h:za) a b (R:VK)=>
 zP (qo 22 a h) λe f=>zP (qo 22 b f) λg c=>opt (wZ .neq 3 7 9 e g) λi=>CD i (λd=>rv [.bool false] c R)
 (λd=>d [.bool false] c)
 (λj k=>BK (λl=>LP (Dd a l b R)
 [nth j 0,.int .i64 0] k)
 (λn m=>rv [.bool true] m R))
theorem LF(hw:NI h t0 t1 R):DC zz 13 [t0,t1] h R:=xY (by kernel_rfl) hw
end Go.Ec
namespace Go.Ai
open Go.Ai Go.Proofs
end Go.Ai
namespace Go.Ec
open Go.Ai Go.Proofs
open Go.Rtl (zv zE Old inc z8 yS)
open Go.Rm (zQ yJ Rd Rd.of Rd.at j7 yx)
open Go.As (zo Pg Xn uQ We vp qu vq kU x8)
open Go.Eb (xb vy Gm yI)
structure Small (p:Pg):Prop where
 fl:p.funcs.length<=6
 gl:p.globals.length<=6
 cf:∀f,f∈p.funcs->f.code.length<=60
theorem df{p:Pg}(S:Small p):Go.En.yg p.funcs<=1000000:=by
 have:∀fs:List Go.As.Fn,(∀f,f∈fs->f.code.length<=60)->Go.En.yg fs<=600*fs.length:=λfs=>by
  induction fs with
  |nil=>intro _;exact aaj _
  |cons f fs ih=>
   intro h;have a:=ih λg hg=>h g (aar _ hg);have b:=h f aak;have c:=Go.En.rP f.code;show Go.En.zD f.code+Go.En.yg fs<=600*(fs.length+1);omega
 have a:=this p.funcs S.cf;have:=S.fl;omega
section
variable {h:za}{p:Pg}
theorem OM(P:uQ h p):DC Tryz.prog 8 [p.val] h (λv h'=>∃B,v=.bool B/\(B=true->Small p)/\Sat (.of h) h' []):=by
 apply UP;intro wf;have s0:Sat (.of h) h []:=Sat.self wf.2;have RP:Rd (.of h) (uQ · p):=Rd.of (yH.Wx h) P λh' o=>P.old o;apply NF;unfold TH;have gvn:=P.globals.Kc;have gvc:=P.globals.Au;have fvn:=P.funcs.Kc;have fvc:=P.funcs.Au;simp only[EE,Value.cells];refine vR s0 λb5 h2 s2=>?_;have g5:=s2.get;have no:∀h' L,Sat (.of h) h' (pt b5 (.cells p.row 25)::L)->∃B,Value.bool false=.bool B/\(B=true->Small p)/\Sat (.of h) h' L:=λh' L s=>⟨false,rfl,λq=>(by cases q),s.drop⟩;have fl:=kU (RP.at s2).funcs 3;have gl:=vq (RP.at s2).globals 3;by_cases c1:(p.funcs.length:Int)>6
 ·simp only[EE,zu,vI,yO,dQ,dR,g5,fvn,fl,c1];exact no _ [] s2
 by_cases c2:(p.globals.length:Int)>6
 ·simp only[EE,zu,wi,vI,xp,yO,dQ,dR,g5,gvn,fvn,fl,gl,c1,c2];exact no _ [] s2
 simp only[EE,nth,↓zB,zu,wi,vI,xp,yO,C9,dQ,dR,g5,gvn,fvn,fl,gl,c1,c2];refine kW (λm vs h'=>∃(i:Nat) (v0:aaa),i<=p.funcs.length/\m=p.funcs.length-i/\vs=[v0,.int .i64 (i:Nat)]/\(∀f,f∈p.funcs.take i->f.code.length<=60)/\h'=h2) p.funcs.length ⟨0,_,aaS _,rfl,rfl,λf hf=>by simp at hf,rfl⟩ ?_;rintro m vs h' ⟨i,v0,hi,rfl,rfl,hsm,rfl⟩;unfold C6;by_cases hc:(i:Int)<(p.funcs.length:Int)
 ·obtain⟨f,hf⟩:∃f,p.funcs[i]? = some f:=⟨_,aag (by omega)⟩;obtain⟨bf,o,cf,tf,hix,hbf,hgf,hof,htf,hkf⟩:=We (RP.at s2).funcs (i:=i) (r:=f.row) (by rw[aay,hf];rfl) rfl;have F:=(RP.at s2).fns f (aax hf);have cn:=F.code.Kc;have cl:=x8 F.code 3;have k1:=hkf 1 (by decide);have k1:cf[o+1]? = some f.cv:=k1;have hin:=inc (show i<4611686018427387904 by omega);by_cases d1:(f.code.length:Int)>60
  ·simp only[EE,nth,↓zB,zu,vI,qd,yO,wP,nj,hc,g5,fvn,fl,hix,hgf,k1,cn,cl,d1];exact no _ [] s2
  simp only[EE,nth,↓zB,zu,vI,qd,yO,wP,nj,C5,hc,g5,fvn,fl,hix,hgf,k1,cn,cl,d1]
  have hsm2:∀g,g∈p.funcs.take (i+1)->g.code.length<=60:=λg hg=>by
   rw[abw,hf]at hg;rcases aaD.1 hg with q|q
   ·exact hsm g q
   ·simp at q;subst q;omega
  refine kW (λm vs h9=>∃(j:Nat) (v0:aaa),j<=f.code.length/\m=f.code.length-j/\vs=[v0,.int .i64 (j:Nat)]/\h9=h') f.code.length ⟨0,_,aaS _,rfl,rfl,rfl⟩ ?_;rintro m vs h9 ⟨j,v1,hj,rfl,rfl,rfl⟩;unfold HI;by_cases hc2:(j:Int)<(f.code.length:Int)
  ·obtain⟨x,hx⟩:∃x,f.code[j]? = some x:=⟨_,aag (by omega)⟩;obtain⟨bi,oi,ci,ti,ha,hbi,hgi,hle,htk,hki⟩:=vp F.code (i:=j) (r:=x.row) (by rw[aay,hx];rfl) rfl;have q0:=hki 0 (by decide);have q0:ci[oi]? = some (.int .i64 x.op):=q0;have q6:=hki 6 (by decide);have q6:ci[oi+6]? = some (.int .i64 x.k):=q6;have hjn:=inc (show j<4611686018427387904 by omega);by_cases e1:x.op=23
   ·by_cases e2:x.k>1024
    ·simp only[EE,nth,↓zB,zu,xP,vI,zg,qd,yO,zc,zC,wP,lU,lV,lW,lX,lY,lZ,l5,hc2,g5,hix,hgf,k1,cn,cl,ha,hgi,q0,q6,e1,e2];exact no _ [] s2
    ·simp only[EE,nth,↓zB,zu,xP,vI,zg,qd,yO,zc,zC,wP,lU,lV,lW,lX,lY,lZ,l5,Bn,hc2,g5,hix,hgf,k1,cn,cl,ha,hgi,q0,q6,e1,e2,hjn];exact⟨f.code.length-(j+1),by omega,j+1,_,by omega,rfl,rfl⟩
   ·simp only[EE,nth,↓zB,zu,vI,zg,qd,yO,zc,wP,lU,lV,lW,lX,lY,lZ,l5,Bn,hc2,g5,hix,hgf,k1,cn,cl,ha,hgi,q0,e1,hjn];exact⟨f.code.length-(j+1),by omega,j+1,_,by omega,rfl,rfl⟩
  ·simp only[EE,nth,zu,vI,qd,yO,wP,hc2,g5,hix,hgf,k1,cn,cl,hin];exact⟨p.funcs.length-(i+1),by omega,i+1,_,by omega,rfl,rfl,hsm2⟩
 have ei:i=p.funcs.length:=by omega
 subst ei;rw[abD]at hsm;simp only[EE,nth,zu,vI,yO,hc,g5,fvn,fl];refine kW (λm vs h9=>∃(i:Nat) (v0:aaa),i<=p.globals.length/\m=p.globals.length-i/\vs=[v0,.int .i64 (i:Nat)]/\h9=h') p.globals.length ⟨0,_,aaS _,rfl,rfl,rfl⟩ ?_;rintro m vs h9 ⟨i,v0,hi,rfl,rfl,rfl⟩;unfold C8;by_cases hc:(i:Int)<(p.globals.length:Int)
 ·obtain⟨z,hz⟩:∃z,p.globals[i]? = some z:=⟨_,aag (by omega)⟩;obtain⟨b11,o11,c11,t11,ix11,lt11,g11,k11⟩:=qu (RP.at s2).globals hz;have hin:=inc (show i<4611686018427387904 by omega);by_cases d1:z>1024
  ·simp only[EE,nth,↓zB,zu,wi,zg,xp,nk,hc,g5,gvn,gl,ix11,g11,k11,d1];exact no _ [] s2
  ·simp only[EE,nth,↓zB,zu,wi,zg,xp,nk,C7,hc,g5,gvn,gl,ix11,g11,k11,d1,hin];exact⟨p.globals.length-(i+1),by omega,i+1,_,by omega,rfl,rfl⟩
 ·simp only[EE,nth,zu,wi,xp,hc,g5,gvn,gl];exact⟨true,rfl,λ_=>⟨by omega,by omega,hsm⟩,s2.drop⟩
theorem OY{av bv:aaa}{zs:List Int}(A:zv h av zs)(B:zv h bv zs)(hl:zs.length<4611686018427387904):vw Tryz.prog 13 [av,bv] h (.bool true):=by
 apply z8;replace A:=A.lock;replace B:=B.lock;generalize h.lock=L at A B;apply LF;unfold NI;have an:=A.Kc;have bn:=B.Kc;have la:=λh'=>vq A 3 h';have lb:=λh'=>vq B 3 h';have e0:(!decide ((zs.length:Int)=(zs.length:Int)))=false:=by simp
 simp only[EE,nth,↓zB,an,bn,la,lb];refine kW (λm vs h'=>∃(i:Nat) (v0:aaa),i<=zs.length/\m=zs.length-i/\vs=[v0,.int .i64 (i:Nat)]/\h'=L) zs.length ⟨0,_,aaS _,rfl,rfl,rfl⟩ ?_;rintro m vs h' ⟨i,v0,hi,rfl,rfl,rfl⟩;unfold Dd;by_cases hc:(i:Int)<(zs.length:Int)
 ·obtain⟨z,hz⟩:∃z,zs[i]? = some z:=⟨_,aag (by omega)⟩;obtain⟨b1,o1,c1,t1,x1,l1,g1,k1⟩:=qu A hz;obtain⟨b2,o2,c2,t2,x2,l2,g2,k2⟩:=qu B hz;have hin:=inc (show i<4611686018427387904 by omega);have e1:(!decide (z=z))=false:=by simp
  simp only[EE,nth,↓zB,zu,zg,Db,Dc,an,la,hc,x1,x2,g1,g2,k1,k2,hin];exact⟨zs.length-(i+1),by omega,i+1,_,by omega,rfl,rfl⟩
 ·simp only[EE,nth,an,la,hc];rfl
end
open Go.Eb (Ys)
section
variable {h:za}{p q:Pg}
theorem Gt(zs:List Int):∀s:ByteArray,bytesOf (zs.map λz=>Value.int .u8 z) s=some (zs.foldl (λs z=>s.push (UInt8.ofNat z.toNat)) s):=by
 induction zs with
 |nil=>intro s;rfl
 |cons z zs ih=>
  intro s;exact ih _
def FM(zs:List Int):ByteArray:=zs.foldl (λs z=>s.push (UInt8.ofNat z.toNat)) .empty
theorem Pu(h:za):w9 Tryz.prog 29 9 (.slice none 0 0) h=some (.string (FM []),h):=by kernel_rfl
theorem rU{v:aaa}{zs:List Int}(S:xb h v zs):w9 Tryz.prog 29 9 v h=some (.string (FM zs),h):=by
 have S0:=S
 have ab:NQ h v=some (.string (FM zs)):=by
  rcases S with⟨rfl,e⟩|⟨b,off,cp,rfl,hc⟩
  ·have:zs=[]:=by simpa using e
   subst this;rfl
  ·have f:=(vy S0).2;rw[aaq];unfold NQ;by_cases h0:zs.length=0
   ·have:zs=[]:=aa9.1 h0;subst this;rfl
   ·have hb:Nat.beq zs.length 0=false:=by
     cases hz:Nat.beq zs.length 0 with
     |false=>rfl
     |true=>exact absurd (aal hz) h0
    obtain⟨c,t,_,hg,_⟩:=hc (by intro e;exact h0 (by simpa using congrArg List.length e));simp only[qp,hg,abI,hb,aaH]at f;simp only[hb,aaH,hg];cases hl:Nat.ble (off+zs.length) c.length with
    |false=>rw[hl]at f;cases f
    |true=>
     rw[hl]at f;simp only[aaw,aab]at f ⊢;rw[f,Gt];rfl
 have h1:yd Tryz.prog (underlying 29)=some (.slice 5):=by kernel_rfl
 have h2:yd Tryz.prog (underlying 9)=some .string:=by kernel_rfl
 have h3:yd Tryz.prog (underlying 5)=some (.int .u8):=by kernel_rfl
 rcases S0 with⟨rfl,e⟩|⟨b,off,cp,rfl,hc⟩
 ·have:zs=[]:=by simpa using e
  subst this;exact Pu h
 ·have h5:(cond (flat (.slice (some ⟨b,off,none⟩) (zs.map yI).length cp)) (fl (yd Tryz.prog (convert 29 9 (.slice (some ⟨b,off,none⟩) (zs.map yI).length cp)))) none)=none:=rfl;unfold w9 QP;rw[h5];simp only[h1,h2,h3,ab,abn]
end
end Go.Ec
