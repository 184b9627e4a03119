/- A part of the proof. -/
import Derived.Test.YtfhacoddmpbgnaaGreatDoorTH
import Derived.Test.YtfhacoddmpbgnaaGreatDoorTE
import Derived.Test.YtfhacoddmpbgnaaGreatDoorTD
set_option linter.unusedVariables false
set_option linter.unusedSimpArgs false
set_option maxRecDepth 100000
namespace Go.Ai
noncomputable section
variable {P:Program}
def kO(q:FuncId->Nat)(o:Oper):Nat:=match o.op with
 | .load _ _=>1
 | .store _ _ _=>2
 |_=>(match wC q o with
  |0=>0
  |1=>3
  |_=>4)
def zbz(x y:Nat):Bool:=Nat.beq x 0||Nat.beq y 0||((Nat.beq x 1||Nat.beq x 3)&&(Nat.beq y 1||Nat.beq y 3))||(Nat.beq x 1&&Nat.beq y 2)||(Nat.beq x 2&&Nat.beq y 1)
def tB(q:FuncId->Nat):List Oper->List Nat->List (Nat×Nat)->Bool
 |[],_,_=>true
 |o::os,ms,prev=>Nat.ble (kO q o) 3&&(prev.all λx=>(y9 ms o).testBit x.1||zbz x.2 (kO q o))&&tB q os (ms++[y9 ms o]) ((ms.length,kO q o)::prev)
def zaq(q:FuncId->Nat)(ops:Array Oper):Bool:=Wq ops ops.toList 0 [] []&&tB q ops.toList [] []
def szL(P:Program)(t:TypeId):Nat:=match yO P (isAgg t) with
 |some true=>(match yO P (sizeOf t) with
  |some n=>n
  |none=>0)
 |_=>1
def szS(P:Program)(t:TypeId):Nat:=match yO P (sizeOf t) with
 |some n=>n
 |none=>0
def apt(n:Nat)(a:aaa)(m:Nat)(c:aaa):Prop:=match a,c with
 | .pointer (some ⟨b,o,none⟩),.pointer (some ⟨c,p,none⟩)=>b≠c\/o+n<=p\/p+m<=o
 |_,_=>False
theorem T5{n m b o c p:Nat}:apt n (.pointer (some ⟨b,o,none⟩)) m (.pointer (some ⟨c,p,none⟩))=(b≠c\/o+n<=p\/p+m<=o):=rfl
def nt(m:Nat)(st:Bool)(n:Nat)(a:aaa):List (Nat×Bool×Nat×aaa)->Prop->Prop
 |[],Q=>Q
 |x::l,Q=>sel (m.testBit x.1||(st == x.2.1)) (nt m st n a l Q) (apt n a x.2.2.1 x.2.2.2/\nt m st n a l Q)
def Sd(P:Program)(s:Env)(o:Oper)(m:Nat)(fl:List (Nat×Bool×Nat×aaa))(h:za)(K:aaa->za->Prop):Prop:=match o.op with
 | .load t a=>nt m false (szL P t) (ev s a) fl (opt (zd P t (ev s a) h) λv=>K v h)
 | .store t a x=>nt m true (szS P t) (ev s a) fl (opt (nb [ev s x] (xO P t (ev s a) (ev s x) h)) λh'=>K undef h')
 | .call {callee := .value (.func g),args,argTypes}=>qd P g (oz s args.toList) h λv=>K v h
 |_=>opA P s o h K
def LO(P:Program)(s:Env)(o:Oper)(i:Nat)(fl:List (Nat×Bool×Nat×aaa)):List (Nat×Bool×Nat×aaa):=match o.op with
 | .load t a=>fl++[(i,false,szL P t,ev s a)]
 | .store t a _=>fl++[(i,true,szS P t,ev s a)]
 |_=>fl
def LM(P:Program)(ops:Array Oper):List Oper->Nat->List Nat->List (Nat×Bool×Nat×aaa)->Env->za->(Env->za->Prop)->Prop
 |[],_,_,_,s,h,K=>K s h
 |o::os,i,ms,fl,s,h,K=>(match o.guard with
  |none=>Sd P s o (y9 ms o) fl h λv h1=>(match s.put o.dst v with
   |some s1=>LM P ops os (i+1) (ms++[y9 ms o]) (LO P s o i fl) s1 h1 K
   |none=>False)
  |some (j,want)=>(match (ops[j]?).bind (·.dst) with
   |none=>False
   |some d=>GD (s.get d) want (Sd P s o (y9 ms o) fl h) (λv h1=>(match s.put o.dst v with
    |some s1=>LM P ops os (i+1) (ms++[y9 ms o]) (LO P s o i fl) s1 h1 K
    |none=>False)) h))
def OT(P:Program)(q:FuncId->Nat)(ops:Array Oper)(s:Env)(h:za)(K:Env->za->Prop):Prop:=sel (zaq q ops) (LM P ops ops.toList 0 [] [] s h K) False
theorem ie{m:Nat}{st:Bool}{n:Nat}{a:aaa}:∀{l:List (Nat×Bool×Nat×aaa)} {Q:Prop},nt m st n a l Q->Q /\ ∀x,x∈l->m.testBit x.1=false->x.2.1≠st->apt n a x.2.2.1 x.2.2.2
 |[],Q,h=>⟨h,λx hx=>(by cases hx)⟩
 |y::l,Q,h=>by
  unfold nt at h;cases hb:(m.testBit y.1||(st == y.2.1)) with
  |true=>
   rw[hb]at h;obtain⟨h1,h2⟩:=ie (l:=l) h;refine⟨h1,λx hx hm hs=>?_⟩;rcases abt.1 hx with rfl|hx
   ·rw[hm,acZ,beq_iff_eq]at hb;exact absurd hb.symm hs
   ·exact h2 x hx hm hs
  |false=>
   rw[hb]at h;obtain⟨h0,h⟩:=h;obtain⟨h1,h2⟩:=ie (l:=l) h;refine⟨h1,λx hx hm hs=>?_⟩;rcases abt.1 hx with rfl|hx
   ·exact h0
   ·exact h2 x hx hm hs
theorem sS(vs:List aaa):∀(c:List aaa) (o k:Nat),k<o\/o+vs.length<=k->(zb c o vs)[k]? = c[k]?:=by
 induction vs with
 |nil=>intro c o k _;rfl
 |cons v vs ih=>
  intro c o k hk;simp only[zb];simp only[aaD]at hk;rw[ih _ _ _ (by omega),aa3 (by omega)]
theorem sF{c vs:List aaa}{t:TypeId}{o off n:Nat}(h:off+n<=o\/o+vs.length<=off):oA (some (.cells (zb c o vs) t)) off n=oA (some (.cells c t)) off n:=by
 simp only[oA,Yy];by_cases hl:off+n<=c.length
 ·rw[aai hl,aai hl]
  congr 1
  apply aa9;intro k;by_cases hk:k<n
  ·rw[aaX hk,aaX hk,aa0,aa0,sS _ _ _ _ (by omega)]
  ·rw[aal (by simp;omega),aal (by simp;omega)]
 ·rw[aac hl,aac hl]
theorem P9{t:TypeId}{b off:Nat}{g g2:za}{v:aaa}(h:zd P t (.pointer (some ⟨b,off,none⟩)) g=some v)(e:oA (g2.get b) off (szL P t)=oA (g.get b) off (szL P t)):zd P t (.pointer (some ⟨b,off,none⟩)) g2=some v:=by
 unfold zd szL at *
 simp only at *
 cases hg:g.get b with
 |none=>rw[hg]at h;cases h
 |some ob=>
  rw[hg]at h e;cases ob with
  |cells c t1=>
   simp only at h;cases ha:yO P (isAgg t) with
   |none=>rw[ha]at h;cases h
   |some ag=>
    rw[ha]at h e;cases ag with
    |true=>
     simp only at h e;cases hs:yO P (sizeOf t) with
     |none=>rw[hs]at h;cases h
     |some n=>
      rw[hs]at h e;simp only at h e;obtain⟨hle,h⟩:=zF h;rw[acm]at hle;simp only[oA,aai hle]at e;cases hg2:g2.get b with
      |none=>rw[hg2]at e;cases e
      |some ob2=>
       rw[hg2]at e;cases ob2 with
       |cells c2 t2=>
        simp only at e;split at e
        ·rename_i hle2;simp only[aab]at e;simp only[show Nat.ble (off+n) c2.length=true by rw[acm];exact hle2,aaB,e];exact h
        ·cases e
       |_=>simp at e
    |false=>
     simp only at h e
     have hlt:off<c.length:=by
      rcases aas off c.length with q|q
      ·exact q
      ·rw[aal q]at h;cases h
     simp only[oA,aai (show off+1<=c.length from hlt)]at e;cases hg2:g2.get b with
     |none=>rw[hg2]at e;cases e
     |some ob2=>
      rw[hg2]at e;cases ob2 with
      |cells c2 t2=>
       simp only at e;split at e
       ·simp only[aab]at e;have:=congrArg (λl=>l[0]?) e;simp only[aaX (Nat.zero_lt_one),aa0,acw]at this;exact this.trans h
       ·cases e
      |_=>simp at e
  |_=>simp at h
def RY(P:Program)(ops:Array Oper)(x:yT):Option (Nat×Nat×Nat):=match x.o.op with
 | .load t a=>(match jW x.s a with
   |some (.pointer (some ⟨b,off,none⟩))=>cond (yN ops x.s x.o) (some (b,off,szL P t)) none
   |_=>none)
 |_=>none
structure RZ (P:Program) (q:FuncId->Nat) (ops:Array Oper) (fl:List (Nat×Bool×Nat×aaa)) (x:yT):Prop where
 k0:kO q x.o=0->(∀b,x.rd b=false) /\ ∀b,x.tc b=false
 k13:kO q x.o=1\/kO q x.o=3->∀b,x.tc b=false
 k1:kO q x.o=1->(∀b,x.rd b=false) \/ ∃b off sp n,(∀c,x.rd c=true->c=b)/\(sp=none->RY P ops x=some (b,off,n))/\(x.j,false,n,Value.pointer (some ⟨b,off,sp⟩))∈fl
 k2:kO q x.o=2->((∀b,x.rd b=false) /\ ∀b,x.tc b=false) \/ ∃b off n c vs t,(∀d,x.rd d=true ↔ d=b)/\(∀d,x.tc d=true ↔ d=b)/\x.g.get b=some (.cells c t)/\x.g'.get b=some (.cells (zb c off vs) t)/\vs.length=n/\(x.j,true,n,Value.pointer (some ⟨b,off,none⟩))∈fl
theorem RZ.mono{q:FuncId->Nat}{ops:Array Oper}{fl fl':List (Nat×Bool×Nat×aaa)}{x:yT}(r:RZ P q ops fl x)(h:∀e,e∈fl->e∈fl'):RZ P q ops fl' x :=
 ⟨r.k0,r.k13,λe=>by
  rcases r.k1 e with h1|⟨b,off,sp,n,h1,h2,h3⟩
  ·exact .inl h1
  ·exact .inr ⟨b,off,sp,n,h1,h2,h _ h3⟩,λe=>by
  rcases r.k2 e with h1|⟨b,off,n,c,vs,t,h1,h2,h3,h4,h5,h6⟩
  ·exact .inl h1
  ·exact .inr ⟨b,off,n,c,vs,t,h1,h2,h3,h4,h5,h _ h6⟩⟩
structure V5 (P:Program) (ops:Array Oper) (s0:Env) (h0:za) (A:List yT) (i:Nat) (s:Env) (h:za):Prop where
 js:A.map (·.j)=List.range i
 env:∀t,s.get t=KC A s0 t
 size:s.size=s0.size
 heap:∀b,h.get b=Wl A h0 b
 ro:h.ro=h0.ro
 next:h.next=h0.next
 wf:WF h
 told:∀A1 r A2,A=A1++r::A2->SW (RY P ops) P ops s0 h0 A1 r
 JI:∀A1 r A2,A=A1++r::A2->∀e,e∈r.o.after->Region.binds .any e=true->∃x,x∈A1/\x.j=e.on
 apart:∀A1 x A2 y A3,A=A1++x::(A2++y::A3)->Prec ops x.j y.j\/UP (RY P ops) ops x y
structure tI (P:Program) (q:FuncId->Nat) (ops:Array Oper) (s0:Env) (h0:za) (A:List yT) (i:Nat) (o:Oper) (s:Env) (h:za) (u:aaa) (h1:za) (m:Nat) (fl fl1:List (Nat×Bool×Nat×aaa)) (y:yT):Prop where
 hj:y.j=i
 y8:y.o=o
 za6:y.v=u
 told:SW (RY P ops) P ops s0 h0 A y
 rz:RZ P q ops fl1 y
 heap:∀b,h1.get b=if y.tc b=true then y.g'.get b else h.get b
 ro:h1.ro=h.ro
 next:h1.next=h.next
 wf:WF h1
 af:AF h h1
 nt:∀e,e∈fl->m.testBit e.1=false->(kO q o=1/\e.2.1=true->((∀b,y.rd b=false) \/ ∃b off sp n,(∀c,y.rd c=true->c=b)/\(sp=none->RY P ops y=some (b,off,n))/\apt n (.pointer (some ⟨b,off,sp⟩)) e.2.2.1 e.2.2.2)) /\
  (kO q o=2/\e.2.1=false->((∀b,y.tc b=false) \/ ∃b off n c vs t,(∀d,y.rd d=true ↔ d=b)/\(∀d,y.tc d=true ↔ d=b)/\y.g.get b=some (.cells c t)/\y.g'.get b=some (.cells (zb c off vs) t)/\vs.length=n/\apt n (.pointer (some ⟨b,off,none⟩)) e.2.2.1 e.2.2.2))
section
variable {q:FuncId->Nat}{ops:Array Oper}{s0:Env}{h0:za}{A:List yT}{i:Nat}{o:Oper}{s:Env}{h:za}{m:Nat}{fl fl1:List (Nat×Bool×Nat×aaa)}
theorem lY(F:V5 P ops s0 h0 A i s h)(ho:ops[i]? = some o)(hput:∀d,o.dst=some d->d<s.size){u:aaa}(hs:Z2 P ops s o (h.pick []) u (h.pick []))(hlk:∀t a,o.op=.load t a->yN ops s o=false):∃y,tI P q ops s0 h0 A i o s h u h m fl fl1 y:=by
 refine⟨⟨i,o,u,s,h.pick [],h.pick [],λ_=>false,λ_=>false⟩,rfl,rfl,rfl,
  ⟨⟨ho,F.env,F.size,λb=>by rw[qq];simp,F.ro,by show h0.next<=h.next;rw[F.next];exact aam _,λx hx=>?_,aam _,hs,λd hd=>by rw[<- F.size];exact hput d hd,λb hb=>(by cases hb),λb _=>rfl,λb o' hb=>(by cases hb)⟩,⟨F.next,F.next⟩,λb0 off n e=>?_⟩,
  ⟨λ_=>⟨λ_=>rfl,λ_=>rfl⟩,λ_ _=>rfl,λ_ => .inl λ_=>rfl,λ_ => .inl ⟨λ_=>rfl,λ_=>rfl⟩⟩,λb=>by simp,rfl,rfl,F.wf,.refl _,λe he hm=>⟨λ_ => .inl λ_=>rfl,λ_ => .inl λ_=>rfl⟩⟩
 ·obtain⟨A1,A2,rfl⟩:=aaZ hx;have:=(F.told A1 x A2 rfl).still.2;show x.g'.next<=h.next;rw[this,F.next];exact aam _
 ·exfalso;unfold RY at e;simp only at e;split at e
  ·rename_i t a y8;split at e
   ·rw[hlk t a y8]at e;cases e
   ·cases e
  ·cases e
theorem Ph(F:V5 P ops s0 h0 A i s h):∀x,x∈A->x.g'.next<=h.next:=λx hx=>by
 obtain⟨A1,A2,rfl⟩:=aaZ hx;have:=(F.told A1 x A2 rfl).still.2;rw[this,F.next];exact aam _
theorem zbq(F:V5 P ops s0 h0 A i s h):h0.next<=h.next:=by rw[F.next];exact aam _
theorem zff{h:za}(w:WF h){b:Nat}(hb:¬b<h.next):h.get b=none:=by
 cases hh:h.get b with|none=>rfl|some o'=>exact absurd (w b o' hh) hb
theorem Ca(F:V5 P ops s0 h0 A i s h)(ho:ops[i]? = some o)(hput:∀d,o.dst=some d->d<s.size){u:aaa}(hs:Z2 P ops s o h u h)(hk:kO q o=3):∃y,tI P q ops s0 h0 A i o s h u h m fl fl1 y:=by
 have hrd:∀b,(Nat.blt b h.next=true) ↔ b<h.next:=λb=>by rw[aa5]
 have nl:∀t a,o.op=.load t a->False:=λt a e=>by unfold kO at hk;rw[e]at hk;cases hk
 refine⟨⟨i,o,u,s,h,h,λb=>Nat.blt b h.next,λ_=>false⟩,rfl,rfl,rfl,
  ⟨⟨ho,F.env,F.size,λb=>?_,F.ro,zbq F,Ph F,aam _,hs,λd hd=>by rw[<- F.size];exact hput d hd,λb hb=>(by cases hb),λb _=>rfl,λb o' hb=>(by cases hb)⟩,⟨F.next,F.next⟩,λb0 off n e=>?_⟩,
  ⟨λe=>by simp only at e;omega,λ_ _=>rfl,λe=>by simp only at e;omega,λe=>by simp only at e;omega⟩,λb=>by simp,rfl,rfl,F.wf,.refl _,λe he hm=>⟨λ⟨e,_⟩=>by omega,λ⟨e,_⟩=>by omega⟩⟩
 ·show h.get b=if Nat.blt b h.next=true then Wl A h0 b else none;by_cases hb:b<h.next
  ·rw[aai ((hrd b).2 hb),F.heap]
  ·rw[aac (λe=>hb ((hrd b).1 e)),zff F.wf hb]
 ·exfalso;unfold RY at e;cases y8:o.op <;> simp only[y8]at e <;> first|(cases e;done)|exact nl _ _ y8
theorem Nh(F:V5 P ops s0 h0 A i s h)(ho:ops[i]? = some o)(hput:∀d,o.dst=some d->d<s.size)(hw:yN ops s o=true){t:TypeId}{a:Operand}(y8:o.op=.load t a){av u:aaa}(hav:jW s a=some av)(hl:zd P t av h=some u)
  (hcl:∀e,e∈fl->m.testBit e.1=false->e.2.1≠false->apt (szL P t) av e.2.2.1 e.2.2.2):∃y,tI P q ops s0 h0 A i o s h u h m fl (fl++[(i,false,szL P t,av)]) y:=by
 have hk1:kO q o=1:=by unfold kO;rw[y8]
 obtain⟨b,off,sp,rfl,hsp⟩:∃b off sp,av=.pointer (some ⟨b,off,sp⟩) /\ ∀g:za,g.get b=h.get b->zd P t av g=some u:=by
  unfold zd at hl;split at hl
  ·rename_i b off;exact⟨b,off,none,rfl,λg hg=>by unfold zd;simp only;rw[hg];exact hl⟩
  ·rename_i b off;exact⟨b,off,some 0,rfl,λg hg=>by unfold zd;simp only;rw[hg];exact hl⟩
  ·cases hl
 have sem:∀g:za,zd P t (.pointer (some ⟨b,off,sp⟩)) g=some u->Z2 P ops s o g u g:=λg hg => .inr ⟨hw,.inl (by unfold iS;simp only[y8,hav,hg,one])⟩
 refine⟨⟨i,o,u,s,h.pick [b],h.pick [b],λc=>decide (c=b),λ_=>false⟩,rfl,rfl,rfl,
  ⟨⟨ho,F.env,F.size,λc=>?_,F.ro,(zbq F:h0.next<=h.next),λx hx=>Ph F x hx,aam _,sem _ (hsp _ (by rw[qq,aai (by simp)])),λd hd=>by rw[<- F.size];exact hput d hd,λb hb=>(by cases hb),λb _=>rfl,λb o' hb=>(by cases hb)⟩,⟨F.next,F.next⟩,λb0 off0 n e=>?_⟩,
  ⟨λe=>by simp only at e;omega,λ_ _=>rfl,λ_ => .inr ⟨b,off,sp,szL P t,λc hc=>by simpa using hc,λhsp0=>?_,by simp⟩,λe=>by simp only at e;omega⟩,λb=>by simp,rfl,rfl,F.wf,.refl _,λe he hm=>⟨λ⟨_,h1⟩ => .inr ⟨b,off,sp,szL P t,λc hc=>by simpa using hc,λhsp0=>?_,hcl e he hm (by rw[h1];simp)⟩,λ⟨e,_⟩=>by omega⟩⟩
 ·show(h.pick [b]).get c=if decide (c=b)=true then Wl A h0 c else none;rw[qq];by_cases e:c=b
  ·subst e;simp[F.heap]
  ·simp[e]
 ·unfold RY at e;simp only[y8,hav]at e;cases sp with
  |some k=>simp at e
  |none=>
   simp only[hw,aaB,aab,aah]at e;obtain⟨rfl,rfl,rfl⟩:=e;exact⟨by simp,λc hc=>by simpa using hc,λ_=>rfl,λg hg=>sem g (P9 (hsp _ (by rw[qq,aai (by simp)])) hg)⟩
 ·subst hsp0;unfold RY;simp only[y8,hav,hw,aaB]
 ·subst hsp0;unfold RY;simp only[y8,hav,hw,aaB]
theorem I4(F:V5 P ops s0 h0 A i s h)(ho:ops[i]? = some o)(hput:∀d,o.dst=some d->d<s.size)(hw:yN ops s o=true){t:TypeId}{a x:Operand}(y8:o.op=.store t a x){av xv:aaa}(hav:jW s a=some av)(hxv:jW s x=some xv){h1:za}(hl:xO P t av xv h=some h1)
  (hcl:∀e,e∈fl->m.testBit e.1=false->e.2.1≠true->apt (szS P t) av e.2.2.1 e.2.2.2):∃y,tI P q ops s0 h0 A i o s h undef h1 m fl (fl++[(i,true,szS P t,av)]) y:=by
 have hk2:kO q o=2:=by unfold kO;rw[y8]
 have af:=Ea hl
 obtain⟨b,off,c,t',rfl,hg,hn,hh1,hst⟩:∃b off c t',av=.pointer (some ⟨b,off,none⟩)/\h.get b=some (.cells c t')/\xv.cells.size=szS P t/\h1=h.set b (some (.cells (zb c off xv.cells.toList) t')) /\
   ∀g:za,g.get b=h.get b->g.ro=h.ro->xO P t av xv g=some (g.set b (some (.cells (zb c off xv.cells.toList) t'))):=by
  unfold xO at hl;split at hl
  ·rename_i b off;split at hl
   ·cases hl
   ·rename_i c t' hg;split at hl
    ·cases hl
    ·rename_i n hs;obtain⟨hc,hl⟩:=zF hl;simp only[aab]at hl;have hc':=hc;simp only[aaj,acQ]at hc';refine⟨b,off,c,t',rfl,hg,?_,hl.symm,λg hgg hro=>?_⟩
     ·unfold szS;rw[hs];exact hc'.1.1.1
     ·unfold xO;simp only;rw[hgg,hg];simp only[hs,hro,hc,aaB]
   ·cases hl
  ·cases hl
 subst hh1;have eq1:∀d,(decide (d=b)=true) ↔ d=b:=λd=>by simp
 have g2:((h.pick [b]).set b (some (.cells (zb c off xv.cells.toList) t'))).get b=some (.cells (zb c off xv.cells.toList) t'):=by rw[za.yI,aai rfl]
 have g1:(h.pick [b]).get b=some (.cells c t'):=by rw[qq,aai (by simp)];exact hg
 refine⟨⟨i,o,undef,s,h.pick [b],(h.pick [b]).set b (some (.cells (zb c off xv.cells.toList) t')),λd=>decide (d=b),λd=>decide (d=b)⟩,rfl,rfl,rfl,
  ⟨⟨ho,F.env,F.size,λd=>?_,F.ro,(zbq F:h0.next<=h.next),λx hx=>Ph F x hx,aam _,.inr ⟨hw,.inl ?_⟩,λd hd=>by rw[<- F.size];exact hput d hd,λd hd => .inl hd,λd hd=>?_,λd o' hd _ _=>?_⟩,⟨F.next,F.next⟩,λb0 off0 n e=>?_⟩,
  ⟨λe=>by simp only at e;omega,λe=>by simp only at e;omega,λe=>by simp only at e;omega,λ_ => .inr ⟨b,off,szS P t,c,xv.cells.toList,t',eq1,eq1,g1,g2,by simpa using hn,by simp⟩⟩,λd=>?_,rfl,rfl,λd o' hd=>?_,af,λe he hm=>⟨λ⟨e,_⟩=>by omega,λ⟨_,h1⟩ => .inr ⟨b,off,szS P t,c,xv.cells.toList,t',eq1,eq1,g1,g2,by simpa using hn,hcl e he hm (by rw[h1];simp)⟩⟩⟩
 ·show(h.pick [b]).get d=if decide (d=b)=true then Wl A h0 d else none;rw[qq];by_cases e:d=b
  ·subst e;simp[F.heap]
  ·simp[e]
 ·unfold iS;simp only[y8,hav,hxv,hst (h.pick [b]) (by rw[qq,aai (by simp)]) rfl]
 ·have hd:decide (d=b)=false:=hd;have:d≠b:=λe=>by rw[(eq1 d).2 e]at hd;cases hd
  rw[za.yI,aac this]
 ·have:=(eq1 d).1 hd;subst this;rw[g1];simp
 ·exfalso;unfold RY at e;simp only[y8]at e;cases e
 ·show(h.set b _).get d=if decide (d=b)=true then _ else _;by_cases e:d=b
  ·subst e;rw[aai (by simp),za.yI,aai rfl,za.yI,aai rfl]
  ·rw[aac (by simp[e]),za.yI,aac e]
 ·rw[za.yI]at hd;show d<h.next;split at hd
  ·rename_i e;subst e;exact F.wf _ _ hg
  ·exact F.wf _ _ hd
theorem EF(F:V5 P ops s0 h0 A i s h)(hron:h.ro<=h.next)(ho:ops[i]? = some o)(hput:∀d,o.dst=some d->d<s.size)(hw:yN ops s o=true)(hkz:kO q o<=3){r:Env}(hl:Le r s)
  {K:aaa->za->Prop} (hk:Sd P r o m fl h K):∃v u h1 y,(zU v=true\/v=u)/\K v h1/\tI P q ops s0 h0 A i o s h u h1 m fl (LO P r o i fl) y:=by
 unfold Sd at hk;split at hk
 ·rename_i t a y8;obtain⟨hk,hc⟩:=ie hk;obtain⟨v,he,hK⟩:=qL hk
  have hnb:zU (ev r a)=false:=by
   cases hb:zU (ev r a) with
   |false=>rfl
   |true=>obtain⟨k,p,z,e2⟩:=VY hb;rw[e2]at he;cases he
  have hav:=Xv hl hnb;obtain⟨y,hy⟩:=Nh (q:=q) (m:=m) (fl:=fl) F ho hput hw y8 hav he hc;exact⟨v,v,h,y,.inr rfl,hK,by unfold LO;simp only[y8];exact hy⟩
 ·rename_i t a x y8;obtain⟨hk,hc⟩:=ie hk;obtain⟨h1,he,hK⟩:=qL hk;obtain⟨hn,he⟩:=qF he
  have hnx:zU (ev r x)=false:=by
   cases hb:zU (ev r x) with
   |false=>rfl
   |true=>simp only[yD,hb,aaB]at hn;cases hn
  have hnb:zU (ev r a)=false:=by
   cases hb:zU (ev r a) with
   |false=>rfl
   |true=>obtain⟨k,p,z,e2⟩:=VY hb;rw[e2]at he;cases he
  obtain⟨y,hy⟩:=I4 (q:=q) (m:=m) (fl:=fl) F ho hput hw y8 (Xv hl hnb) (Xv hl hnx) he hc;exact⟨undef,undef,h1,y,.inr rfl,hK,by unfold LO;simp only[y8];exact hy⟩
 ·rename_i g args ts y8;obtain⟨hc,hn,v,hsc,hT,hK⟩:=hk;have ef:jW s (.func g)=some (.func (.func g) #[] #[]):=rfl
  have hT2:TC P g (oz r args.toList) h (λv1 h1=>v1=v/\h1=h) :=
   (hT.quiet (λv1 _ e=>by rw[e];exact hsc)).mono (by rintro v1 h1 ⟨⟨_,e1⟩,e2⟩;exact⟨e1,e2⟩)
  have hk3:kO q o=3:=by
   unfold kO at hkz ⊢;simp only[y8]at hkz ⊢;have:wC q o=nT (q g):=by unfold wC;simp only[y8]
   rw[this]at hkz ⊢;have kc:nT (q g)=1\/nT (q g)=2\/nT (q g)=3:=by unfold nT;split <;> simp
   rcases kc with e|e|e <;> rw[e]at hkz ⊢ <;> simp at hkz ⊢
  obtain⟨y,hy⟩:=Ca (q:=q) (m:=m) (fl:=fl) (fl1:=LO P r o i fl) F ho hput (u:=v) (.inr ⟨hw,.inr (.inl ⟨.func g,args,ts,g,#[],#[],_,y8,ef,cS hl hn,hc,by simpa using hT2⟩)⟩) hk3;exact⟨v,v,h,y,.inr rfl,hK,hy⟩
 ·rename_i n1 n2 n3;obtain⟨v,u,h',he,hv,hK⟩:=ZR hl hk;have hnc:=U7 he
  have hkk:kO q o=(match wC q o with
   |0=>0
   |1=>3
   |_=>4):=by
   unfold kO;split
   ·rename_i t a y8;exact absurd y8 (n1 t a)
   ·rename_i t a x y8;exact absurd y8 (n2 t a x)
   ·rfl
  have hcase:wC q o=0\/wC q o=1:=by
   rw[hkk]at hkz;split at hkz
   ·left;assumption
   ·right;assumption
   ·omega
  rcases hcase with h0'|h1'
  ·obtain⟨rfl,hany⟩:=Ci h0' hnc he;obtain⟨y,hy⟩:=lY (q:=q) (m:=m) (fl:=fl) (fl1:=LO P r o i fl) F ho hput (u:=u) (.inr ⟨hw,.inl (hany _)⟩) (λt a e=>absurd e (n1 t a));exact⟨v,u,h',y,hv,hK,hy⟩
  ·obtain rfl:=fQ h1' hnc he;obtain⟨y,hy⟩:=Ca (q:=q) (m:=m) (fl:=fl) (fl1:=LO P r o i fl) F ho hput (u:=u) (.inr ⟨hw,.inl he⟩) (by rw[hkk,h1'];rfl);exact⟨v,u,h',y,hv,hK,hy⟩
theorem zcn{n m b o c p k:Nat}{l vs:List aaa}{t:TypeId}(h:apt n (.pointer (some ⟨b,o,none⟩)) m (.pointer (some ⟨c,p,none⟩)))(e:b=c)(hv:vs.length=m):oA (some (.cells (zb l p vs) t)) o n=oA (some (.cells l t)) o n:=by
 rw[T5]at h;exact sF (by omega)
theorem T6{n m b o c p:Nat}{l vs:List aaa}{t:TypeId}(h:apt m (.pointer (some ⟨c,p,none⟩)) n (.pointer (some ⟨b,o,none⟩)))(e:b=c)(hv:vs.length=m):oA (some (.cells (zb l p vs) t)) o n=oA (some (.cells l t)) o n:=by
 rw[T5]at h;exact sF (by omega)
theorem MU{u:aaa}{h1:za}{x y:yT}(hxA:x∈A)(hx:RZ P q ops fl x)(N:tI P q ops s0 h0 A i o s h u h1 m fl fl1 y)(hkx:kO q x.o<=3)(hky:kO q o<=3)
  (hs:YT ops x.o y.o=true) (hbit:m.testBit x.j=false) (hp:zbz (kO q x.o) (kO q o)=true):UP (RY P ops) ops x y:=by
 have ff:∀{b:Bool},b≠true->b=false:=λh=>by simpa using h
 simp only[YT,aaj]at hs;obtain⟨a1,a2⟩:=hs
 have d1:∀d,x.o.dst=some d->d∉y.o.looksAt ops/\y.o.dst≠some d:=by
  intro d hd;rw[hd]at a1;simp only[aaj,aaC,aaL,aaN]at a1;exact⟨a1.1,a1.2⟩
 have d2:∀d,y.o.dst=some d->d∉x.o.looksAt ops:=by
  intro d hd;rw[hd]at a2;simp only[aaC,aaL,aaN]at a2;exact a2
 have hyo:=N.y8;have hy:=N.rz;unfold zbz at hp;simp only[abb,aaj,acQ]at hp;rcases hp with(((hp|hp)|⟨hp,hq⟩)|⟨hp,hq⟩)|⟨hp,hq⟩
 ·obtain⟨r,t⟩:=hx.k0 hp;exact⟨d1,d2,λb hb=>(by rw[t b]at hb;cases hb),λb _ => .inl (r b)⟩
 ·obtain⟨r,t⟩:=hy.k0 (by rw[hyo];exact hp);exact⟨d1,d2,λb _=>⟨t b,.inl (r b)⟩,λb hb=>(by rw[t b]at hb;cases hb)⟩
 ·have tx:=hx.k13 hp;have ty:=hy.k13 (by rw[hyo];exact hq);exact⟨d1,d2,λb hb=>(by rw[tx b]at hb;cases hb),λb hb=>(by rw[ty b]at hb;cases hb)⟩
 ·
  have tx:=hx.k13 (.inl hp);refine⟨d1,d2,λb hb=>(by rw[tx b]at hb;cases hb),λb hb=>?_⟩;rcases hx.k1 hp with hn|⟨bx,ox,sp,nx,c1,c2,c3⟩
  ·exact .inl (hn b)
  ·rcases (N.nt _ c3 hbit).2 ⟨hq,rfl⟩ with hn|⟨by',oy,ny,c,vs,t,e1,e2,e3,e4,e5,e6⟩
   ·rw[hn b]at hb;cases hb
   ·have hb':=(e2 b).1 hb;subst hb';cases hr:x.rd b with
    |false=>exact .inl rfl
    |true=>
     have hbx:=c1 b hr;cases sp with
     |some k=>exact e6.elim
     |none=>
      refine .inr ⟨ox,nx,by rw[c2 rfl,hbx],(e1 b).2 rfl,?_⟩;rw[e3,e4];exact T6 e6 hbx.symm e5
 ·
  have ty:=hy.k13 (.inl (by rw[hyo];exact hq));refine⟨d1,d2,λb hb=>⟨ty b,?_⟩,λb hb=>(by rw[ty b]at hb;cases hb)⟩;rcases hx.k2 hp with⟨_,hn⟩|⟨bx,ox,nx,c,vs,t,e1,e2,e3,e4,e5,e6⟩
  ·rw[hn b]at hb;cases hb
  ·have hb':=(e2 b).1 hb;subst hb';rcases (N.nt _ e6 hbit).1 ⟨hq,rfl⟩ with hn|⟨by',oy,sp,ny,c1,c2,c3⟩
   ·exact .inl (hn b)
   ·cases hr:y.rd b with
    |false=>exact .inl rfl
    |true=>
     have hby:=c1 b hr;cases sp with
     |some k=>exact c3.elim
     |none=>
      refine .inr ⟨oy,ny,by rw[c2 rfl,hby],(e1 b).2 rfl,?_⟩;rw[e3,e4];exact zcn (k:=0) c3 hby.symm e5
end
theorem Pz{q:FuncId->Nat}{ops:Array Oper}{s0:Env}{h0:za}(hro0:h0.ro<=h0.next):∀(l:List Oper) (i:Nat) (ms:List Nat) (A:List yT) (prev:List (Nat×Nat)) (fl:List (Nat×Bool×Nat×aaa)) (r s:Env) (h:za) {K:Env->za->Prop},
  ops.toList.drop i=l->i<=ops.size->i0 ops ms->ms.length=i->V5 P ops s0 h0 A i s h->(∀x,x∈A->(x.j,kO q x.o)∈prev/\kO q x.o<=3/\RZ P q ops fl x)->Wq ops l i ms (A.reverse.map λx=>(x.j,x.o))=true->tB q l ms prev=true ->
  Le r s->LM P ops l i ms fl r h K->∃A' r' s' h',V5 P ops s0 h0 A' ops.size s' h'/\Le r' s'/\K r' h'/\Fr (Kp l) s s'/\AF h h'
 |[],i,ms,A,prev,fl,r,s,h,K,hl,hle,hm,hml,F,hrp,hst,hkd,hle1,hk=>by
  have:i=ops.size:=by
   have:=congrArg List.length hl;simp at this;omega
  subst this;exact⟨A,r,s,h,F,hle1,hk,.refl _ _,.refl _⟩
 |o::os,i,ms,A,prev,fl,r,s,h,K,hl,hle,hm,hml,F,hrp,hst,hkd,hle1,hk=>by
  have ho:ops[i]? = some o:=by
   have:=congrArg (λl=>l[0]?) hl;simp only[aa0,aak]at this;simpa using this
  have hlt:i<ops.size:=by
   rcases aas i ops.size with h|h
   ·exact h
   ·rw[aaO h]at ho;cases ho
  have hl':ops.toList.drop (i+1)=os:=by rw[<- acS,hl];rfl
  simp only[Wq,aaj]at hst;obtain⟨⟨hedge,hslots⟩,hst⟩:=hst;simp only[tB,aaj,acm]at hkd;obtain⟨⟨hkz,hpair⟩,hkd⟩:=hkd
  have go:∀(v u:aaa) (h1:za) (y:yT),(zU v=true\/v=u)->tI P q ops s0 h0 A i o s h u h1 (y9 ms o) fl (LO P r o i fl) y ->
    (match r.put o.dst v with|some s1=>LM P ops os (i+1) (ms++[y9 ms o]) (LO P r o i fl) s1 h1 K|none=>False) ->
    ∃A' r' s' h',V5 P ops s0 h0 A' ops.size s' h'/\Le r' s'/\K r' h'/\Fr (Kp (o::os)) s s'/\AF h h':=by
   intro v u h1 y hv N hk;split at hk
   case h_2=>exact hk.elim
   rename_i r1 hp;obtain⟨s1,hp1,hl1⟩:=hle1.put hp hv
   have hs1:∀t,s1.get t=if o.dst=some t then u else s.get t:=by
    intro t;cases hd:o.dst with
    |none=>rw[hd]at hp1;simp only[Env.put,aab]at hp1;subst hp1;simp
    |some d=>
     rw[hd]at hp1;simp only[Env.put]at hp1;obtain⟨_,hp1⟩:=zF hp1;simp only[aab]at hp1;subst hp1;rw[Env.yI];by_cases e:t=d
     ·subst e;simp
     ·rw[aac e,aac (by simp only[aab];exact λh=>e h.symm)]
   have hs1s:s1.size=s.size:=(Fr.put hp1).size
   have F1:V5 P ops s0 h0 (A++[y]) (i+1) s1 h1:=by
    refine⟨?_,?_,hs1s.trans F.size,?_,N.ro.trans F.ro,N.next.trans F.next,N.wf,?_,?_,?_⟩
    ·rw[abp,F.js,List.range_succ];simp[N.hj]
    ·intro t;rw[hs1,ik,N.y8,N.za6,F.env]
    ·intro b;rw[N.heap,nS,F.heap]
    ·intro A1 r A2 e;rcases u7 e with⟨_,rfl,rfl⟩|⟨A3,_,e3⟩
     ·exact N.told
     ·exact F.told A1 r A3 e3
    ·intro A1 r A2 e ed hed hb;rcases u7 e with⟨_,rfl,rfl⟩|⟨A3,_,e3⟩
     ·rw[N.y8]at hed;simp only[aaF,abb,aaC,aa5]at hedge;rcases hedge ed (by simpa using hed) with h2|h2
      ·rw[hb]at h2;cases h2
      ·have:ed.on∈A1.map (·.j):=(by rw[F.js];exact abz.2 h2);obtain⟨x,hx,hxj⟩:=abm.1 this;exact⟨x,hx,hxj⟩
     ·exact F.JI A1 r A3 e3 ed hed hb
    ·intro A1 x A2 z A3 e;have e':A++[y]=(A1++x::A2)++z::A3:=by rw[e];simp
     rcases u7 e' with⟨_,e1,rfl⟩|⟨A4,_,e3⟩
     ·have hxm:x∈A:=(by rw[<- e1];simp);obtain⟨hpm,hkx,hrx⟩:=hrp x hxm;simp only[aaF,abb]at hpair hslots;rcases hslots (x.j,x.o) (abm.2 ⟨x,by simpa using hxm,rfl⟩) with h2|h2
      ·rw[N.hj];exact .inl (k8 hm ho h2)
      ·rcases hpair _ hpm with h3|h3
       ·rw[N.hj];exact .inl (k8 hm ho h3)
       ·by_cases hbit:(y9 ms o).testBit x.j=true
        ·rw[N.hj];exact .inl (k8 hm ho hbit)
        ·simp only[acF]at hbit;exact .inr (MU hxm hrx N hkx hkz (by rw[N.y8];exact h2) hbit h3)
     ·exact F.apart A1 x A2 z A4 (by rw[e3];simp)
   have hfl:∀e,e∈fl->e∈LO P r o i fl:=λe he=>by
    unfold LO;split <;> simp[he]
   have hrp1:∀x,x∈A++[y]->(x.j,kO q x.o)∈(ms.length,kO q o)::prev/\kO q x.o<=3/\RZ P q ops (LO P r o i fl) x:=by
    intro x hx;rcases aaQ.1 hx with hx|hx
    ·obtain⟨h1,h2,h3⟩:=hrp x hx;exact⟨acA _ h1,h2,h3.mono hfl⟩
    ·simp only[aaR]at hx;subst hx;exact⟨by rw[N.hj,N.y8,hml];simp,by rw[N.y8];exact hkz,N.rz⟩
   obtain⟨A',r',s',h',F',l',k',f',a'⟩:=Pz hro0 os (i+1) (ms++[y9 ms o]) (A++[y]) _ _ r1 s1 h1 hl' hlt (Ko hm hml ho) (by simp[hml]) F1 hrp1
    (by simpa [N.hj,N.y8] using hst) hkd hl1 hk
   exact⟨A',r',s',h',F',l',k',(Fr.put hp1).left.trans f'.right,N.af.trans a'⟩
  have slot:∀{v:aaa} {h1:za},(match r.put o.dst v with|some s1=>LM P ops os (i+1) (ms++[y9 ms o]) (LO P r o i fl) s1 h1 K|none=>False)->∀d,o.dst=some d->d<s.size:=by
   intro v h1 hk d hd;split at hk
   case h_2=>exact hk.elim
   rename_i r1 hp;rw[hd]at hp;simp only[Env.put]at hp;obtain⟨hb,_⟩:=zF hp;rw[<- hle1.size];simpa [aa5] using hb
  have hron:h.ro<=h.next:=by rw[F.ro,F.next];exact hro0
  have dstok:∀{K':aaa->za->Prop},Sd P r o (y9 ms o) fl h K'->(∀v h1,K' v h1->∀d,o.dst=some d->d<s.size)->∀d,o.dst=some d->d<s.size:=by
   intro K' hk hs;unfold Sd at hk;split at hk
   ·obtain⟨v,_,hK⟩:=qL (ie hk).1;exact hs _ _ hK
   ·obtain⟨v,_,hK⟩:=qL (ie hk).1;exact hs _ _ hK
   ·obtain⟨_,_,v,_,_,hK⟩:=hk;exact hs _ _ hK
   ·obtain⟨v,u,h',_,_,hK⟩:=ZR hle1 hk;exact hs v h' hK
  simp only[LM]at hk;split at hk
  ·rename_i hg;obtain⟨v,u,h1,y,hv,hK,N⟩:=EF (q:=q) F hron ho (dstok hk (λv h1 hK=>slot hK)) (by simp only[yN,hg]) hkz hle1 hk;exact go v u h1 y hv N hK
  ·rename_i j want hg;split at hk
   ·exact hk.elim
   ·rename_i d hdst;unfold GD at hk;split at hk
    ·rename_i b hb
     have hs:s.get d=.bool b:=by
      rcases hle1.get d with e|e
      ·rw[hb]at e;cases e
      ·rw[<- e,hb]
     have haw:yN ops s o=(b == want):=(by simp only[yN,hg,hdst,hs]);by_cases hbw:b=want
     ·have hk:=hk.1 hbw;obtain⟨v,u,h1,y,hv,hK,N⟩:=EF (q:=q) F hron ho (dstok hk (λv h1 hK=>slot hK)) (by rw[haw,hbw];simp) hkz hle1 hk;exact go v u h1 y hv N hK
     ·have hk:=hk.2 hbw;obtain⟨y,N⟩:=lY (q:=q) (m:=y9 ms o) (fl:=fl) (fl1:=LO P r o i fl) F ho (slot hk) (u:=undef) (.inl ⟨by rw[haw];simpa using hbw,rfl,rfl⟩) (λ_ _ _=>by rw[haw];simpa using hbw);exact go undef undef h y (.inr rfl) N hk
    ·exact hk.elim
    ·rename_i n1 n2
     have hs:s.get d=r.get d:=by
      rcases hle1.get d with e|e
      ·obtain⟨k,p,q,e2⟩:=VY e;exact absurd e2 (n2 k p q)
      ·exact e.symm
     have haw:yN ops s o=false:=by
      simp only[yN,hg,hdst,hs]
     obtain⟨y,N⟩:=lY (q:=q) (m:=y9 ms o) (fl:=fl) (fl1:=LO P r o i fl) F ho (slot hk) (u:=undef) (.inl ⟨haw,rfl,rfl⟩) (λ_ _ _=>haw);exact go undef undef h y (.inr rfl) N hk
theorem zaF{q:FuncId->Nat}(hmix:P.follows .mixedOrders=true):Kv P (OT P q):=by
 intro ops r s h K rd id hle wf hk;unfold OT at hk;cases hc:zaq q ops with
 |false=>rw[hc]at hk;exact hk.elim
 |true=>
  rw[hc]at hk;have hk:LM P ops ops.toList 0 [] [] r h K:=hk;simp only[zaq,aaj]at hc
  have F0:V5 P ops s h ([]:List yT) 0 s h:=⟨rfl,λt=>rfl,rfl,λb=>rfl,rfl,rfl,wf.1,
   λA1 r A2 e=>by simp at e,λA1 r A2 e=>by simp at e,λA1 x A2 y A3 e=>by simp at e⟩
  obtain⟨A,r',s',h',F,hl',hK,hf,af⟩:=Pz (q:=q) wf.2 ops.toList 0 [] [] [] [] r s h rfl (aa8 _) (λk q hq=>by simp at hq) rfl F0 (λx e=>by simp at e) hc.1 hc.2 hle hk
  have V:Wd (RY P ops) P ops s h A:=⟨by rw[F.js];exact List.nodup_range,λi hi=>by
    have:i∈A.map (·.j):=(by rw[F.js];exact abz.2 hi);obtain⟨r,hr,hj⟩:=abm.1 this;exact⟨r,hr,hj⟩,F.told,F.JI,F.apart⟩
  exact⟨r',s',h',hl',hK,hf,af,CM hmix V F.env F.size F.heap F.ro (by rw[F.next];exact aam _) (λx hx=>Ph F x hx) F.next (Q:=λe s1 h1=>e=.normal/\s1=s'/\h1=h') ⟨rfl,rfl,rfl⟩⟩
def zaD(P:Program)(q:FuncId->Nat)(ops:Array Oper)(s:Env)(h:za)(K:Env->za->Prop):Prop:=sel (calm q ops) (wpD P q ops ops.toList 0 [] [] s h K) (sel (Eh q ops) (Ek P q ops s h K) (OT P q ops s h K))
theorem zaE{q:FuncId->Nat}(hmix:P.follows .mixedOrders=true):Kv P (zaD P q):=by
 intro ops r s h K rd id hle wf hk;unfold zaD at hk;cases hc:calm q ops with
 |true=>
  rw[hc]at hk;exact fu hmix ops r s h K rd id hle wf (by unfold nE;rw[hc];exact hk)
 |false=>
  rw[hc]at hk;have hk:sel (Eh q ops) (Ek P q ops r h K) (OT P q ops r h K):=hk;cases hv:Eh q ops with
  |true=>rw[hv]at hk;exact By hmix ops r s h K rd id hle wf hk
  |false=>rw[hv]at hk;exact zaF hmix ops r s h K rd id hle wf hk
theorem C8{q:FuncId->Nat}(hmix:P.follows .mixedOrders=true){n:Nat}{f:FuncId}{args:List aaa}{h:za}{R:aaa->za->Prop}(hk:wpF P (zaD P q) n f args h R):DC P f args h R:=fY (zaE hmix) hk
end
noncomputable section
abbrev Part:=Nat->Option wm
structure yP where
 get:Nat->Option (Option wm)
 ro:Nat
def yP.un(lo:yP)(a:Part):yP:=⟨λx=>match a x with
 |some o=>some (some o)
 |none=>lo.get x,lo.ro⟩
def yP.of(h:za):yP:=⟨λb=>if b<h.next then some (h.get b) else none,h.ro⟩
def yP.dj(lo:yP)(a:Part):Prop := ∀x o,a x=some o->lo.get x=none
structure yP.Le (lo lo':yP):Prop where
 ro:lo'.ro=lo.ro
 get:∀b x,lo.get b=some x->lo'.get b=some x
structure sJ (lo:yP) (h:za):Prop where
 ro:h.ro=lo.ro
 ER:h.ro<=h.next
 get:∀b x,lo.get b=some x->h.get b=x/\b<h.next
abbrev HP:=Part->Prop
def Sat(lo:yP)(h:za):List HP->Prop
 |[]=>sJ lo h
 |A::L=>∃a,A a/\lo.dj a/\(∀b o,a b=some o->lo.ro<=b)/\Sat (lo.un a) h L
theorem yP.Le.refl(lo:yP):lo.Le lo:=⟨rfl,λ_ _ h=>h⟩
theorem yP.Le.trans{a b c:yP}(x:a.Le b)(y:b.Le c):a.Le c:=⟨y.ro.trans x.ro,λi o h=>y.get i o (x.get i o h)⟩
theorem yP.fF{lo:yP}{a:Part}(d:lo.dj a):lo.Le (lo.un a):=⟨rfl,λb x h=>by
 unfold yP.un;cases e:a b with
 |none=>simp only[e];exact h
 |some o=>rw[d b o e]at h;cases h⟩
theorem yP.vL{lo:yP}{a:Part}{b:Nat}{o:wm}(e:a b=some o):(lo.un a).get b=some (some o):=by simp only[yP.un,e]
theorem yP.uE{lo:yP}{a:Part}{b:Nat}(e:a b=none):(lo.un a).get b=lo.get b:=by simp only[yP.un,e]
theorem yP.zda{lo:yP}{a c:Part}(d:(lo.un a).dj c):(lo.un a).un c=(lo.un c).un a:=by
 unfold yP.un
 congr 1
 funext x
 cases e:c x with
 |none=>simp only[e]
 |some o=>
  have:=d x o e;simp only[yP.un]at this;cases e2:a x with
  |none=>simp only[e]
  |some p=>rw[e2]at this;cases this
theorem yP.zaz{lo:yP}{a c:Part}(d:lo.dj a)(k:(lo.un a).dj c):lo.dj c:=λx o e=>by
 cases e2:lo.get x with
 |none=>rfl
 |some p=>rw[<- k x o e,(yP.fF d).get x p e2]
theorem yP.zcy{lo:yP}{a c:Part}(d:lo.dj a)(k:(lo.un a).dj c):(lo.un c).dj a:=λx o e=>by
 cases e2:c x with
 |none=>rw[yP.uE e2];exact d x o e
 |some p=>have:=k x p e2;rw[yP.vL e]at this;cases this
theorem yP.Le.dj{lo lo':yP}(l:lo.Le lo'){a:Part}(d:lo'.dj a):lo.dj a:=λx o e=>by
 cases e2:lo.get x with
 |none=>rfl
 |some p=>rw[<- d x o e,l.get x p e2]
theorem yP.Le.un{lo lo':yP}(l:lo.Le lo')(a:Part):(lo.un a).Le (lo'.un a):=⟨l.ro,λb x h=>by
 cases e:a b with
 |none=>rw[yP.uE e]at h ⊢;exact l.get b x h
 |some o=>rw[yP.vL e]at h ⊢;exact h⟩
theorem sJ.mono{lo lo':yP}{h:za}(l:lo.Le lo')(x:sJ lo' h):sJ lo h:=⟨x.ro.trans l.ro,x.ER,λb y e=>x.get b y (l.get b y e)⟩
theorem Sat.mono{h:za}:∀{L:List HP} {lo lo':yP},lo.Le lo'->Sat lo' h L->Sat lo h L
 |[],lo,lo',l,x=>sJ.mono l x
 |A::L,lo,lo',l,⟨a,ha,d,w,x⟩=>⟨a,ha,l.dj d,λb o e=>by rw[<- l.ro];exact w b o e,Sat.mono (l.un a) x⟩
theorem Sat.base{h:za}:∀{L:List HP} {lo:yP},Sat lo h L->sJ lo h
 |[],_,x=>x
 |A::L,_,⟨_,_,d,_,x⟩=>(Sat.base x).mono (yP.fF d)
theorem Sat.part{h:za}{A:HP}:∀{L:List HP} {lo:yP},Sat lo h L->A∈L->∃a,A a/\lo.dj a /\ ∀b o,a b=some o->h.get b=some o/\h.ro<=b/\b<h.next
 |B::L,lo,⟨a,ha,d,w,x⟩,hm=>by
  rcases abt.1 hm with rfl|hm
  ·refine⟨a,ha,d,λb o e=>?_⟩;have bs:=Sat.base x;obtain⟨g1,g2⟩:=bs.get b _ (yP.vL e);exact⟨g1,by rw[bs.ro];exact w b o e,g2⟩
  ·obtain⟨c,hc,dc,g⟩:=Sat.part x hm;exact⟨c,hc,yP.zaz d dc,g⟩
theorem Sat.swap{h:za}{A B:HP}{L:List HP}{lo:yP}(x:Sat lo h (A::B::L)):Sat lo h (B::A::L):=by
 obtain⟨a,ha,d,w,c,hc,dc,wc,x⟩:=x;exact⟨c,hc,yP.zaz d dc,wc,a,ha,yP.zcy d dc,w,by rw[<- yP.zda dc];exact x⟩
theorem Sat.cons{h:za}{A:HP}{L L':List HP}(f:∀lo,Sat lo h L->Sat lo h L'){lo:yP}(x:Sat lo h (A::L)):Sat lo h (A::L'):=by
 obtain⟨a,ha,d,w,x⟩:=x;exact⟨a,ha,d,w,f _ x⟩
theorem Sat.perm{h:za}{L L':List HP}(p:L.Perm L'):∀{lo:yP},Sat lo h L->Sat lo h L':=by
 induction p with
 |nil=>exact λx=>x
 |cons A p ih=>exact λx=>x.cons λlo=>ih
 |swap A B L=>exact λx=>x.swap
 |trans p q ih1 ih2=>exact λx=>ih2 (ih1 x)
theorem Sat.drop{h:za}{A:HP}{L:List HP}{lo:yP}(x:Sat lo h (A::L)):Sat lo h L:=by
 obtain⟨a,ha,d,w,x⟩:=x;exact x.mono (yP.fF d)
theorem Sat.zdH{h:za}{L':List HP}{lo:yP}:∀{L:List HP},Sat lo h (L++L')->Sat lo h L'
 |[],x=>x
 |A::L,x=>Sat.zdH (L:=L) x.drop
def re:Nat->List HP->List HP
 |0,L=>L
 |_+1,[]=>[]
 |i+1,A::L=>match re i L with
  |[]=>[A]
  |B::L'=>B::A::L'
theorem p9:∀(i:Nat) (L:List HP),L.Perm (re i L)
 |0,L=>acT _
 |_+1,[]=>acT _
 |i+1,A::L=>by
  have ih:=p9 i L;unfold re;split
  ·rename_i e;rw[e]at ih;exact ih.cons A
  ·rename_i B L' e;rw[e]at ih;exact(ih.cons A).trans (List.Perm.swap _ _ _)
theorem Sat.p{h:za}{L:List HP}{lo:yP}(x:Sat lo h L)(i:Nat):Sat lo h (re i L):=x.perm (p9 i L)
def zdR:List Nat->List HP->List HP
 |[],L=>L
 |i::is,L=>zdR is (re i L)
theorem Sat.ps{h:za}{lo:yP}:∀(is:List Nat) {L:List HP},Sat lo h L->Sat lo h (zdR is L)
 |[],_,x=>x
 |i::is,_,x=>Sat.ps is (x.p i)
def tu:List Nat->List Nat->List HP->List HP
 |[],_,L=>L
 |i::is,prev,L=>match re (i-(prev.filter λj=>Nat.blt j i).length) L with
  |[]=>[]
  |A::L'=>A::tu is (i::prev) L'
def front(is:List Nat)(L:List HP):List HP:=tu is [] L
theorem oh:∀(is prev:List Nat) (L:List HP),L.Perm (tu is prev L)
 |[],_,L=>acT _
 |i::is,prev,L=>by
  have p:=p9 (i-(prev.filter λj=>Nat.blt j i).length) L;unfold tu;split
  ·rename_i e;rw[e]at p;exact p
  ·rename_i A L' e;rw[e]at p;exact p.trans ((oh _ _ L').cons A)
theorem Nq(is:List Nat)(L:List HP):L.Perm (front is L):=oh _ _ _
theorem Sat.f{h:za}{L:List HP}{lo:yP}(x:Sat lo h L)(is:List Nat):Sat lo h (front is L):=x.perm (Nq is L)
theorem Sat.zO{h:za}{L:List HP}{lo:yP}(x:Sat lo h L)(n:Nat):Sat lo h (L.take n):=by
 have q:(L.take n++L.drop n).Perm (L.drop n++L.take n):=abB;rw[List.take_append_drop]at q;exact(x.perm q).zdH
theorem Sat.k{h:za}{L:List HP}{lo:yP}(x:Sat lo h L)(is:List Nat):Sat lo h ((front is L).take is.length):=(x.f is).zO _
theorem Sat.to{h h':za}:∀{L:List HP} {lo lo':yP},Sat lo h L->(∀b,b<h.next->lo.get b=none->lo'.get b=none)->sJ lo' h'->lo'.ro=lo.ro->h.next<=h'.next->(∀b,b<h.next->lo.get b=none->h'.get b=h.get b)->Sat lo' h' L
 |[],_,_,_,_,b,_,_,_=>b
 |A::L,lo,lo',⟨a,ha,d,w,x⟩,k,b,r,n,g=>by
  have bs:=Sat.base x;have lt:∀y o,a y=some o->y<h.next:=λy o e=>(bs.get y _ (yP.vL e)).2
  have dn:∀y,(lo.un a).get y=none->a y=none/\lo.get y=none:=λy e=>by
   cases e2:a y with
   |none=>rw[yP.uE e2]at e;exact⟨rfl,e⟩
   |some o=>rw[yP.vL e2]at e;cases e
  refine⟨a,ha,λy o e=>k y (lt y o e) (d y o e),λy o e=>by rw[r];exact w y o e,Sat.to x (λy hy e=>?_) ?_ r n λy hy e=>?_⟩
  ·rw[yP.uE (dn y e).1];exact k y hy (dn y e).2
  ·refine⟨b.ro,b.ER,λy z e=>?_⟩;cases e2:a y with
   |none=>rw[yP.uE e2]at e;exact b.get y z e
   |some o=>
    rw[yP.vL e2]at e;cases e;exact⟨(g y (lt y o e2) (d y o e2)).trans (bs.get y _ (yP.vL e2)).1,aao (lt y o e2) n⟩
  ·exact g y hy (dn y e).2
theorem Sat.zfS{h:za}{L2:List HP}:∀{L1:List HP} {lo:yP},Sat lo h (L1++L2)->∃lo1,lo.Le lo1/\Sat lo1 h L2 /\ ∀h' L',Sat lo1 h' L'->Sat lo h' (L1++L')
 |[],lo,x=>⟨lo,.refl lo,x,λ_ _ y=>y⟩
 |A::L1,lo,⟨a,ha,d,w,x⟩=>by
  obtain⟨lo1,l,s,f⟩:=Sat.zfS (L1:=L1) x;exact⟨lo1,(yP.fF d).trans l,s,λh' L' y=>⟨a,ha,d,w,f h' L' y⟩⟩
theorem Sat.call{h:za}{L1 L2:List HP}{lo:yP}(x:Sat lo h (L2++L1)):∃lo1,lo.Le lo1/\Sat lo1 h L2 /\ ∀h' L',Sat lo1 h' L'->Sat lo h' (L'++L1):=by
 obtain⟨lo1,l,s,f⟩:=Sat.zfS (x.perm abB);exact⟨lo1,l,s,λh' L' y=>(f h' L' y).perm abB⟩
def pt(b:Nat)(o:wm):HP:=λm=>∀x,m x=if x=b then some o else none
theorem Sat.zeu{h:za}{L:List HP}{lo:yP}(x:Sat lo h L){b:Nat}{o:wm}(hm:pt b o∈L):h.get b=some o/\h.ro<=b/\b<h.next:=by
 obtain⟨a,ha,_,g⟩:=x.part hm;exact g b o (by rw[ha b,aai rfl])
theorem Sat.get{h:za}{L:List HP}{lo:yP}{b:Nat}{o:wm}(x:Sat lo h (pt b o::L)):h.get b=some o:=(x.zeu (acx ..)).1
theorem Sat.wr{h:za}{L:List HP}{lo:yP}{b:Nat}{o:wm}(x:Sat lo h (pt b o::L)):h.ro<=b:=(x.zeu (acx ..)).2.1
theorem Sat.lt{h:za}{L:List HP}{lo:yP}{b:Nat}{o:wm}(x:Sat lo h (pt b o::L)):b<h.next:=(x.zeu (acx ..)).2.2
theorem Sat.ne{h:za}{L:List HP}{lo:yP}{b c:Nat}{o o':wm}(x:Sat lo h (pt b o::pt c o'::L)):¬b=c:=by
 rintro rfl;obtain⟨a,ha,d,w,e,he,de,we,x⟩:=x;have:=de b o' (by rw[he,aai rfl]);rw[yP.vL (o:=o) (by rw[ha,aai rfl])]at this;cases this
theorem Sat.push{h:za}{L:List HP}{lo:yP}(x:Sat lo h L)(o:wm):Sat lo (h.push o) (pt h.next o::L):=by
 have bs:=x.base
 have hn:lo.get h.next=none:=by
  cases e:lo.get h.next with
  |none=>rfl
  |some y=>exact absurd (bs.get _ _ e).2 (Nat.lt_irrefl _)
 refine⟨λy=>if y=h.next then some o else none,λ_=>rfl,λy p e=>?_,λy p e=>?_,x.to (λy hy e=>?_) ⟨bs.ro,aby bs.ER,λy z e=>?_⟩ rfl (abr _) λy hy _=>zt hy⟩
 ·dsimp only at e;split at e
  ·rename_i q;rw[q];exact hn
  ·cases e
 ·dsimp only at e;split at e
  ·rename_i q;rw[q,<- bs.ro];exact bs.ER
  ·cases e
 ·rw[yP.uE (by rw[aac (by omega)])];exact e
 ·by_cases q:y=h.next
  ·subst q;rw[yP.vL (o:=o) (by rw[aai rfl])]at e;cases e;exact⟨zk,aaH _⟩
  ·rw[yP.uE (by rw[aac q])]at e;obtain⟨g1,g2⟩:=bs.get y z e;exact⟨(zt g2).trans g1,acB g2⟩
theorem Sat.set{h:za}{L:List HP}{lo:yP}{b:Nat}{o:wm}(x:Sat lo h (pt b o::L))(o':wm):Sat lo (h.set b (some o')) (pt b o'::L):=by
 obtain⟨a,ha,d,w,x⟩:=x;have hb:lo.get b=none:=d b o (by rw[ha b,aai rfl]);have bs:=x.base;refine⟨λy=>if y=b then some o' else none,λ_=>rfl,λy p e=>?_,λy p e=>?_,x.to (λy hy e=>?_) ⟨bs.ro,bs.ER,λy z e=>?_⟩ rfl (aam _) λy hy e=>?_⟩
 ·dsimp only at e;split at e
  ·rename_i q;rw[q];exact hb
  ·cases e
 ·dsimp only at e;split at e
  ·rename_i q;rw[q];exact w b o (by rw[ha b,aai rfl])
  ·cases e
 ·have q:y≠b:=by rintro rfl;rw[yP.vL (o:=o) (by rw[ha,aai rfl])]at e;cases e
  rw[yP.uE (by rw[ha,aac q])]at e;rw[yP.uE (by rw[aac q])];exact e
 ·by_cases q:y=b
  ·subst q;rw[yP.vL (o:=o') (by rw[aai rfl])]at e;cases e;exact⟨zW,(bs.get y _ (yP.vL (o:=o) (by rw[ha,aai rfl]))).2⟩
  ·rw[yP.uE (by rw[aac q])]at e;obtain⟨g1,g2⟩:=bs.get y z (by rw[yP.uE (by rw[ha,aac q])];exact e);exact⟨(zJ q).trans g1,g2⟩
 ·have q:y≠b:=by rintro rfl;rw[yP.vL (o:=o) (by rw[ha,aai rfl])]at e;cases e
  exact zJ q
theorem Sat.forget{h:za}{L:List HP}{lo:yP}{b:Nat}{o:wm}(x:Sat lo h (pt b o::L))(z:Option wm):Sat lo (h.set b z) L:=by
 obtain⟨a,ha,d,w,x⟩:=x;have hb:lo.get b=none:=d b o (by rw[ha b,aai rfl]);have bs:=x.base;refine x.to (λy hy e=>?_) ⟨bs.ro,bs.ER,λy z e=>?_⟩ rfl (aam _) λy hy e=>?_
 ·cases q:lo.get y with
  |none=>rfl
  |some v=>rw[(yP.fF d).get y v q]at e;cases e
 ·have q:y≠b:=by rintro rfl;rw[hb]at e;cases e
  obtain⟨g1,g2⟩:=bs.get y z ((yP.fF d).get y z e);exact⟨(zJ q).trans g1,g2⟩
 ·have q:y≠b:=by rintro rfl;rw[yP.vL (o:=o) (by rw[ha,aai rfl])]at e;cases e
  exact zJ q
theorem uL{h:za}{L:List HP}{lo:yP}{c:List aaa}{t:TypeId}{K:aaa->za->Prop}(s:Sat lo h L)(k:∀b h',Sat lo h' (pt b (.cells c t)::L)->K (.pointer (some ⟨b,0,none⟩)) h'):nw h c t K:=k _ _ (s.push _)
theorem yw{h:za}{L:List HP}{lo:yP}{b off:Nat}{cs vs:List aaa}{t:TypeId}{K:za->Prop}(s:Sat lo h (pt b (.cells cs t)::L))(hl:off+vs.length<=cs.length)(hc:vs.all cellOk=true)(k:∀h',Sat lo h' (pt b (.cells (zb cs off vs) t)::L)->K h'):opt (yM h b off vs) K:=by
 rw[rC s.get,aai ⟨hl,s.wr,hc⟩];exact k _ (s.set _)
theorem Gj{h:za}{R:aaa->za->Prop}:rv [] h R=R (Zx []) h:=by
 unfold rv;simp only[yD,abP]
theorem Sat.zcQ{h h':za}{L:List HP}{lo:yP}(x:Sat lo h L)(hn:h.next<=h'.next)(hr:h'.ro=h.ro)(hg:∀b,b<h.next->h'.get b=h.get b):Sat lo h' L:=by
 have bs:=x.base;exact x.to (λ_ _ e=>e) ⟨hr.trans bs.ro,by rw[hr];exact aaS bs.ER hn,λb y e=>⟨(hg b (bs.get b y e).2).trans (bs.get b y e).1,aao (bs.get b y e).2 hn⟩⟩ rfl hn λb hb _=>hg b hb
def ex{α:Type}(f:α->HP):HP:=λm=>∃x,f x m
theorem Sat.zaK{h:za}{α:Type}{f:α->HP}{L:List HP}{lo:yP}:Sat lo h (ex f::L) ↔ ∃x,Sat lo h (f x::L) :=
 ⟨λ⟨a,⟨x,hx⟩,d,w,s⟩=>⟨x,a,hx,d,w,s⟩,λ⟨x,a,hx,d,w,s⟩=>⟨a,⟨x,hx⟩,d,w,s⟩⟩
theorem Sat.NF{h:za}{α:Type}{f:α->HP}{L:List HP}{lo:yP}(s:Sat lo h (ex f::L)):∃x,Sat lo h (f x::L):=Sat.zaK.1 s
theorem Sat.Nf{h:za}{α:Type}{f:α->HP}{L:List HP}{lo:yP}(x:α)(s:Sat lo h (f x::L)):Sat lo h (ex f::L):=Sat.zaK.2 ⟨x,s⟩
def fact(p:Prop):HP:=λm=>p /\ ∀x,m x=none
theorem yP.rF{lo:yP}{a:Part}(e:∀x,a x=none):lo.un a=lo:=by
 unfold yP.un;cases lo
 congr 1
 funext x
 simp only[e x]
theorem Sat.nM{h:za}{p:Prop}{L:List HP}{lo:yP}:Sat lo h (fact p::L) ↔ p/\Sat lo h L :=
 ⟨λ⟨a,⟨hp,ha⟩,d,w,s⟩=>⟨hp,by rw[yP.rF ha]at s;exact s⟩,λ⟨hp,s⟩=>⟨λ_=>none,⟨hp,λ_=>rfl⟩,λ_ _ e=>(by cases e),λ_ _ e=>(by cases e),by rw[yP.rF λ_=>rfl];exact s⟩⟩
def jU:List HP->HP
 |[]=>λm=>∀x,m x=none
 |A::L=>λm=>∃a b,A a/\jU L b/\(∀x o,b x=some o->a x=none) /\ ∀x,m x=match b x with
  |some o=>some o
  |none=>a x
theorem yP.zdW{lo:yP}{a b m:Part}(hm:∀x,m x=match b x with
  |some o=>some o
  |none=>a x):lo.un m=(lo.un a).un b:=by
 unfold yP.un
 congr 1
 funext x
 rw[hm x];cases b x <;> rfl
theorem Sat.iE{h:za}{L:List HP}:∀{M:List HP} {lo:yP},Sat lo h (jU M::L) ↔ Sat lo h (M++L)
 |[],lo=>⟨λ⟨a,ha,d,w,s⟩=>by rw[yP.rF ha]at s;exact s,λs=>⟨λ_=>none,λ_=>rfl,λ_ _ e=>(by cases e),λ_ _ e=>(by cases e),by rw[yP.rF λ_=>rfl];exact s⟩⟩
 |A::M,lo=>by
  constructor
  ·rintro⟨m,⟨a,b,ha,hb,dab,hm⟩,d,w,s⟩
   have da:lo.dj a:=λx o e=>by
    cases q:b x with
    |none=>exact d x o (by rw[hm x,q];exact e)
    |some p=>rw[dab x p q]at e;cases e
   refine⟨a,ha,da,λx o e=>?_,Sat.iE.1 ⟨b,hb,λx o e=>?_,λx o e=>?_,?_⟩⟩
   ·cases q:b x with
    |none=>exact w x o (by rw[hm x,q];exact e)
    |some p=>rw[dab x p q]at e;cases e
   ·rw[yP.uE (dab x o e)];exact d x o (by rw[hm x,e])
   ·exact w x o (by rw[hm x,e])
   ·rw[<- yP.zdW hm];exact s
  ·rintro⟨a,ha,d,w,s⟩;obtain⟨b,hb,db,wb,s⟩:=Sat.iE.2 s
   refine⟨λx=>match b x with
    |some o=>some o
    |none=>a x,⟨a,b,ha,hb,λx o e=>?_,λ_=>rfl⟩,λx o e=>?_,λx o e=>?_,?_⟩
   ·cases q:a x with
    |none=>rfl
    |some p=>have:=db x o e;rw[yP.vL q]at this;cases this
   ·dsimp only at e;split at e
    ·rename_i p q;exact yP.zaz d db x p q
    ·exact d x o e
   ·dsimp only at e;split at e
    ·rename_i p q;exact wb x p q
    ·exact w x o e
   ·rw[yP.zdW (a:=a) (b:=b) λ_=>rfl];exact s
theorem Sat.open{h:za}{M L:List HP}{lo:yP}(s:Sat lo h (jU M::L)):Sat lo h (M++L):=Sat.iE.1 s
theorem Sat.close{h:za}{M L:List HP}{lo:yP}(s:Sat lo h (M++L)):Sat lo h (jU M::L):=Sat.iE.2 s
theorem Sat.self{h:za}(hr:h.ro<=h.next):Sat (.of h) h []:=⟨rfl,hr,λb x e=>by
 unfold yP.of at e;dsimp only at e;split at e
 ·cases e;exact⟨rfl,by assumption⟩
 ·cases e⟩
theorem Sat.join{h h':za}{L L':List HP}{lo:yP}(x:Sat lo h L)(y:Sat (.of h) h' L'):Sat lo h' (L'++L):=by
 have bx:=x.base;have by':=y.base;have get:∀b,b<h.next->h'.get b=h.get b/\b<h'.next:=λb hb=>by'.get b _ (by unfold yP.of;dsimp only;rw[aai hb])
 have hn:h.next<=h'.next:=by
  rcases ab7 h.next with e|e
  ·omega
  ·have:=(get (h.next-1) (by omega)).2;omega
 have key:∀(L':List HP) (lo lo2:yP),Sat lo2 h' L'->lo2.ro=lo.ro->(∀b,b<h.next->lo2.get b≠none)->(∀b,h.next<=b->lo.get b=lo2.get b)->sJ lo h' ->
   (∀lo3,yP.Le lo lo3->(∀b,b<h.next->lo3.get b=lo.get b)->sJ lo3 h'->Sat lo3 h' L)->Sat lo h' (L'++L):=by
  intro L'
  induction L' with
  |nil=>intro lo lo2 _ _ _ _ b k;exact k lo (.refl lo) (λ_ _=>rfl) b
  |cons A L' ih=>
   rintro lo lo2 ⟨a,ha,d,w,s⟩ r f e b k
   have up:∀y o,a y=some o->h.next<=y:=λy o q=>by
    rcases aas y h.next with z|z
    ·exact absurd (d y o q) (f y z)
    ·exact z
   have bs:=s.base;have dl:lo.dj a:=λy o q=>by rw[e y (up y o q)];exact d y o q
   refine⟨a,ha,dl,λy o q=>by rw[<- r];exact w y o q,ih (lo.un a) (lo2.un a) s r (λy hy=>?_) (λy hy=>?_) ⟨b.ro,b.ER,λy z q=>?_⟩ λlo3 l3 q3 b3=>k lo3 ((yP.fF dl).trans l3) (λy hy=>?_) b3⟩
   ·cases q:a y with
    |none=>rw[yP.uE q];exact f y hy
    |some o=>rw[yP.vL q];simp
   ·cases q:a y with
    |none=>rw[yP.uE q,yP.uE q];exact e y hy
    |some o=>rw[yP.vL q,yP.vL q]
   ·cases q2:a y with
    |none=>rw[yP.uE q2]at q;exact b.get y z q
    |some o=>rw[yP.vL q2]at q;cases q;exact bs.get y _ (yP.vL q2)
   ·rw[q3 y hy];cases q:a y with
    |none=>rw[yP.uE q]
    |some o=>have:=up y o q;omega
 have rr:(yP.of h).ro=lo.ro:=bx.ro;refine key L' lo (.of h) y rr (λb hb=>by unfold yP.of;dsimp only;rw[aai hb];simp) (λb hb=>?_) ⟨by rw[by'.ro];exact rr,by'.ER,λb z e=>?_⟩ λlo3 l3 q3 b3=>?_
 ·unfold yP.of;dsimp only;rw[aac (by omega)];cases e:lo.get b with
  |none=>rfl
  |some z=>have:=(bx.get b z e).2;omega
 ·obtain⟨g1,g2⟩:=bx.get b z e;exact⟨(get b g2).1.trans g1,(get b g2).2⟩
 ·exact x.to (λb hb e=>by rw[q3 b hb];exact e) b3 l3.ro hn λb hb _=>(get b hb).1
theorem Sat.zdT{h h':za}:∀{L:List HP} {lo lo':yP},Sat lo h L->lo'.get=lo.get->lo'.ro<=lo.ro->h'.ro=lo'.ro->h'.ro<=h'.next->h.next<=h'.next->(∀b,b<h.next->h'.get b=h.get b)->Sat lo' h' L
 |[],lo,lo',x,g,r,e,k,n,he=>⟨e,k,λb z hz=>by
  rw[g]at hz;obtain⟨h1,h2⟩:=sJ.get x b z hz;exact⟨(he b h2).trans h1,aao h2 n⟩⟩
 |A::L,lo,lo',⟨a,ha,d,w,x⟩,g,r,e,k,n,he=>
  ⟨a,ha,λy o q=>by rw[g];exact d y o q,λb o q=>aaS r (w b o q),Sat.zdT x (by unfold yP.un;rw[g]) r e k n he⟩
theorem Sat.v5{h h2:za}{L L':List HP}{lo:yP}(s:Sat lo h L)(s2:Sat (.of h.lock) h2 L'):Sat lo (Go.Ai.v5 h h2) (L'++L):=by
 have b1:=s.base;have b2:=s2.base;have old:∀b,b<h.next->h2.get b=h.get b/\b<h2.next:=λb hb=>b2.get b _ (by unfold yP.of;dsimp only;rw[aai (by exact hb)];rfl)
 have hn:h.next<=h2.next:=by
  rcases ab7 h.next with e|e
  ·omega
  ·have:=(old (h.next-1) (by omega)).2;omega
 have gr:(Go.Ai.v5 h h2).ro=h.ro:=rfl;have gn:(Go.Ai.v5 h h2).next=h2.next:=rfl;refine s.join (s2.zdT (lo' := .of h) rfl b1.ER gr (by rw[gr,gn];exact aaS b1.ER hn) (by rw[gn];exact aam _) λb hb=>?_);rw[uJ];by_cases q:h.next<=b
 ·rw[aai ⟨q,hb⟩]
 ·rw[aac (by omega),(old b (by omega)).1]
theorem Pm{h:za}{L:List HP}{lo:yP}{c:List aaa}{t:TypeId}{K:aaa->za->Prop}(s:Sat lo h L)(wf:KN h)(k:∀b h',KN h'->Sat lo h' (pt b (.cells c t)::L)->K (.pointer (some ⟨b,0,none⟩)) h'):nw h c t K:=k _ _ (LH wf _) (s.push _)
theorem FE{P:Program}{g:FuncId}{args:List aaa}{h:za}{L:List HP}{lo:yP}{K R:aaa->za->Prop}(hc:xM P g=true)(hn:yD args=true)(wf:KN h)(s:Sat lo h L)(d:DC P g args h.lock R)(hk:∀v h2,R v h2->(∀L',Sat (.of h.lock) h2 L'->Sat lo (v5 h h2) (L'++L))->KN (v5 h h2)->K v (v5 h h2)):sq P g args h K:=by
 have wl:KN h.lock:=⟨wf.1,aam _⟩;obtain⟨v,h1,r,af,t⟩:=d wl;refine⟨hc,hn,v,h1,t,af,hk v h1 r (λL' s2=>s.v5 s2) ?_⟩;have w1:=wl.af af;have hn:h.next<=h1.next:=af.next;refine⟨λb o hb=>?_,?_⟩
 ·rw[uJ]at hb;show b<h1.next;split at hb
  ·omega
  ·exact aao (wf.1 b o hb) hn
 ·show h.ro<=h1.next;exact aaS wf.2 hn
theorem DC.zga{P:Program}{f:FuncId}{args:List aaa}{h:za}{R R':aaa->za->Prop}(d:DC P f args h R)(m:∀v h1,R v h1->KN h1->R' v h1):DC P f args h R':=λwf=>by
 obtain⟨v,h1,r,af,t⟩:=d wf;exact⟨v,h1,m v h1 r (wf.af af),af,t⟩
def own(X:za->(Nat->Prop)->Prop):HP:=λm=>∃g,X g (λb=>m b≠none) /\ ∀b o,m b=some o->g.get b=some o
def Mv(X:za->(Nat->Prop)->Prop):Prop := ∀g h F G,X g F->(∀b o,F b->g.get b=some o->h.get b=some o/\G b)->(∀b,G b->h.ro<=b/\b<h.next)->X h G
theorem Sat.fN{h:za}{L:List HP}{lo:yP}{X:za->(Nat->Prop)->Prop}(hX:Mv X)(s:Sat lo h (own X::L)):∃F:Nat->Prop,X h F/\(∀b,F b->lo.get b=none/\h.ro<=b/\b<h.next) /\ ∀h1 F' X',Mv X'->h.next<=h1.next->h1.ro=h.ro->(∀b,¬F b->b<h.next->h1.get b=h.get b)->X' h1 F'->(∀b,F' b->F b\/h.next<=b)->(∀b,F' b->h1.ro<=b/\b<h1.next)->Sat lo h1 (own X'::L):=by
 obtain⟨a,⟨g,hx,hg⟩,d,w,s⟩:=s;have bs:=s.base;have bl:=bs.mono (yP.fF d)
 have hF:∀b,a b≠none->lo.get b=none/\h.ro<=b/\b<h.next /\ ∃o,a b=some o/\h.get b=some o:=λb hb=>by
  cases e:a b with
  |none=>exact absurd e hb
  |some o=>
   obtain⟨g1,g2⟩:=bs.get b _ (yP.vL e);exact⟨d b o e,by rw[bs.ro];exact w b o e,g2,o,rfl,g1⟩
 refine⟨λb=>a b≠none,hX g h _ _ hx (λb o hb hgb=>?_) (λb hb=>⟨(hF b hb).2.1,(hF b hb).2.2.1⟩),λb hb=>⟨(hF b hb).1,(hF b hb).2.1,(hF b hb).2.2.1⟩,λh1 F' X' hX' hn hr hget hx' hsub hok=>?_⟩
 ·obtain⟨_,_,_,o',e,g1⟩:=hF b hb;rw[hg b o' e]at hgb;cases hgb;exact⟨g1,hb⟩
 ·classical
  let a':Part:=λb=>if F' b then h1.get b else none
  have ha':∀b o,a' b=some o->F' b/\h1.get b=some o:=λb o e=>by
   have e:(if F' b then h1.get b else none)=some o:=e;split at e
   ·rename_i q;exact⟨q,e⟩
   ·cases e
  have out:∀b o,a' b=some o->lo.get b=none:=λb o e=>by
   rcases hsub b (ha' b o e).1 with q|q
   ·exact(hF b q).1
   ·cases e2:lo.get b with
    |none=>rfl
    |some z=>have:=(bl.get b z e2).2;omega
  refine⟨a',⟨h1,hX' h1 h1 F' _ hx' (λb o hb e=>⟨e,by show(if F' b then h1.get b else none)≠none;rw[aai hb,e];simp⟩) (λb hb=>?_),λb o e=>(ha' b o e).2⟩,out,λb o e=>?_,s.to (λb hb e=>?_) ⟨by rw[hr];exact bs.ro,?_,λb z e=>?_⟩ rfl hn λb hb e=>?_⟩
  ·cases e:a' b with
   |none=>exact absurd e hb
   |some o=>exact hok b (ha' b o e).1
  ·have:=(hok b (ha' b o e).1).1;rw[hr,bl.ro]at this;exact this
  ·cases e2:a b with
   |some o=>rw[yP.vL e2]at e;cases e
   |none=>
    rw[yP.uE e2]at e;cases e3:a' b with
    |none=>rw[yP.uE e3];exact e
    |some o=>
     rcases hsub b (ha' b o e3).1 with q|q
     ·exact absurd e2 q
     ·omega
  ·rw[hr];exact aaS bs.ER hn
  ·cases e3:a' b with
   |some o=>
    rw[yP.vL e3]at e;cases e;exact⟨(ha' b o e3).2,(hok b (ha' b o e3).1).2⟩
   |none=>
    rw[yP.uE e3]at e;obtain⟨g1,g2⟩:=bl.get b z e;refine⟨(hget b (λq=>?_) g2).trans g1,aao g2 hn⟩;rw[(hF b q).1]at e;cases e
  ·cases e2:a b with
   |some o=>rw[yP.vL e2]at e;cases e
   |none=>exact hget b (λq=>q e2) hb
theorem Sat.zcZ{h h1:za}{L:List HP}{lo:yP}{X:za->(Nat->Prop)->Prop}{F:Nat->Prop}(hX:Mv X)(s:Sat lo h L)(hn:h.next<=h1.next)(hr:h1.ro=h.ro)(hget:∀b,b<h.next->h1.get b=h.get b)(hx:X h1 F)(hF:∀b,F b->h.next<=b/\b<h1.next):Sat lo h1 (own X::L):=by
 classical
 have bl:=s.base
 let a:Part:=λb=>if F b then h1.get b else none
 have ha:∀b o,a b=some o->F b/\h1.get b=some o:=λb o e=>by
  have e:(if F b then h1.get b else none)=some o:=e;split at e
  ·rename_i q;exact⟨q,e⟩
  ·cases e
 have out:∀b o,a b=some o->lo.get b=none:=λb o e=>by
  have:=(hF b (ha b o e).1).1;cases e2:lo.get b with
  |none=>rfl
  |some z=>have:=(bl.get b z e2).2;omega
 have ER:h1.ro<=h.next:=by rw[hr];exact bl.ER
 refine⟨a,⟨h1,hX h1 h1 F _ hx (λb o hb e=>⟨e,by show(if F b then h1.get b else none)≠none;rw[aai hb,e];simp⟩) (λb hb=>?_),λb o e=>(ha b o e).2⟩,out,λb o e=>?_,s.to (λb hb e=>?_) ⟨by rw[hr];exact bl.ro,aaS ER hn,λb z e=>?_⟩ rfl hn λb hb e=>hget b hb⟩
 ·cases e:a b with
  |none=>exact absurd e hb
  |some o=>have:=hF b (ha b o e).1;omega
 ·have:=hF b (ha b o e).1;have:=bl.ro;omega
 ·cases e3:a b with
  |none=>rw[yP.uE e3];exact e
  |some o=>have:=hF b (ha b o e3).1;omega
 ·cases e3:a b with
  |some o=>
   rw[yP.vL e3]at e;cases e;exact⟨(ha b o e3).2,(hF b (ha b o e3).1).2⟩
  |none=>
   rw[yP.uE e3]at e;obtain⟨g1,g2⟩:=bl.get b z e;exact⟨(hget b g2).trans g1,aao g2 hn⟩
structure yP.Has (lo:yP) (h0:za):Prop where
 ro:lo.ro=h0.ro
 get:∀b,b<h0.next->lo.get b=some (h0.get b)
theorem yP.Has.mono{lo lo':yP}{h0:za}(x:lo.Has h0)(l:lo.Le lo'):lo'.Has h0:=⟨l.ro.trans x.ro,λb hb=>l.get b _ (x.get b hb)⟩
theorem yP.jS(h:za):(yP.of h).Has h:=⟨rfl,λb hb=>by unfold yP.of;dsimp only;rw[aai hb]⟩
theorem yP.Has.old{lo:yP}{h0 h:za}(x:lo.Has h0)(b:sJ lo h):h0.next<=h.next/\h.ro=h0.ro /\ ∀c,c<h0.next->h.get c=h0.get c:=by
 refine⟨?_,b.ro.trans x.ro,λc hc=>(b.get c _ (x.get c hc)).1⟩;rcases ab7 h0.next with e|e
 ·omega
 ·have:=(b.get (h0.next-1) _ (x.get _ (by omega))).2;omega
end
end Go.Ai
