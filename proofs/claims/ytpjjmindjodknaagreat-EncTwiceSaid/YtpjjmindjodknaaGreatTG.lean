import Derived.Test.YtpjjmindjodknaaGreatTF
set_option linter.unusedVariables false
set_option linter.unusedSimpArgs false
set_option maxRecDepth 100000
namespace Go.Ai
noncomputable section
variable {P:Program}
def O8(P:Program)(l:List TypeId):Bool:=match l with
 |[t]=>(match yd P (underlying t) with
  |some (.slice _)=>true
  |_=>false)
 |_=>false
def qM(P:Program)(q:FuncId->Nat)(o:Oper):Nat:=match o.op with
 | .load _ _=>1
 | .store _ _ _=>2
 | .call {callee := .builtin .len,argTypes,.. }=>cond (O8 P argTypes.toList) 0 3
 |_=>(match wj q o with
  |0=>0
  |1=>3
  |_=>4)
def PI(x y:Nat):Bool:=Nat.beq x 0||Nat.beq y 0||((Nat.beq x 1||Nat.beq x 3)&&(Nat.beq y 1||Nat.beq y 3))||(Nat.beq x 1&&Nat.beq y 2)||(Nat.beq x 2&&Nat.beq y 1)
def mw(P:Program)(q:FuncId->Nat):List Oper->List Nat->List (Nat×Nat)->Bool
 |[],_,_=>true
 |o::os,ms,prev=>Nat.ble (qM P q o) 3&&(prev.all λx=>(yC ms o).testBit x.1||PI x.2 (qM P q o))&&mw P q os (ms++[yC ms o]) ((ms.length,qM P q o)::prev)
def oX(P:Program)(q:FuncId->Nat)(ops:Array Oper):Bool:=ZQ ops ops.toList 0 [] []&&mw P q ops.toList [] []
def Ry(P:Program)(t:TypeId):Nat:=match yd P (isAgg t) with
 |some true=>(match yd P (sizeOf t) with
  |some n=>n
  |none=>0)
 |_=>1
def szS(P:Program)(t:TypeId):Nat:=match yd P (sizeOf t) with
 |some n=>n
 |none=>0
def LV(n:Nat)(a:aaa)(m:Nat)(c:aaa):Prop:=match a,c with
 | .pointer (some ⟨b,o,none⟩),.pointer (some ⟨c,p,none⟩)=>b≠c\/o+n<=p\/p+m<=o
 |_,_=>False
theorem Aj{n m b o c p:Nat}:LV n (.pointer (some ⟨b,o,none⟩)) m (.pointer (some ⟨c,p,none⟩))=(b≠c\/o+n<=p\/p+m<=o):=rfl
def eO(m:Nat)(st:Bool)(n:Nat)(a:aaa):List (Nat×Bool×Nat×aaa)->Prop->Prop
 |[],Q=>Q
 |x::l,Q=>Nh (m.testBit x.1||(st == x.2.1)) (eO m st n a l Q) (LV n a x.2.2.1 x.2.2.2/\eO m st n a l Q)
def MK(P:Program)(s:Env)(o:Oper)(m:Nat)(fl:List (Nat×Bool×Nat×aaa))(h:za)(K:aaa->za->Prop):Prop:=match o.op with
 | .load t a=>eO m false (Ry P t) (ev s a) fl (opt (zd P t (ev s a) h) λv=>K v h)
 | .store t a x=>eO m true (szS P t) (ev s a) fl (opt (nb [ev s x] (vH P t (ev s a) (ev s x) h)) λh'=>K undef h')
 | .call {callee := .value (.func g),args,argTypes}=>U8 P g (dm s args.toList) h λv=>K v h
 |_=>MH P s o h K
def EG(P:Program)(s:Env)(o:Oper)(i:Nat)(fl:List (Nat×Bool×Nat×aaa)):List (Nat×Bool×Nat×aaa):=match o.op with
 | .load t a=>fl++[(i,false,Ry P t,ev s a)]
 | .store t a _=>fl++[(i,true,szS P t,ev s a)]
 |_=>fl
def FU(P:Program)(ops:Array Oper):List Oper->Nat->List Nat->List (Nat×Bool×Nat×aaa)->Env->za->(Env->za->Prop)->Prop
 |[],_,_,_,s,h,K=>K s h
 |o::os,i,ms,fl,s,h,K=>(match o.guard with
  |none=>MK P s o (yC ms o) fl h λv h1=>(match s.put o.dst v with
   |some s1=>FU P ops os (i+1) (ms++[yC ms o]) (EG P s o i fl) s1 h1 K
   |none=>False)
  |some (j,want)=>(match (ops[j]?).bind (·.dst) with
   |none=>False
   |some d=>GD (s.get d) want (MK P s o (yC ms o) fl h) (λv h1=>(match s.put o.dst v with
    |some s1=>FU P ops os (i+1) (ms++[yC ms o]) (EG P s o i fl) s1 h1 K
    |none=>False)) h))
def ED(P:Program)(q:FuncId->Nat)(ops:Array Oper)(s:Env)(h:za)(K:Env->za->Prop):Prop:=Nh (oX P q ops) (FU P ops ops.toList 0 [] [] s h K) False
theorem ai{m:Nat}{st:Bool}{n:Nat}{a:aaa}:∀{l:List (Nat×Bool×Nat×aaa)} {Q:Prop},eO m st n a l Q->Q /\ ∀x,x∈l->m.testBit x.1=false->x.2.1≠st->LV n a x.2.2.1 x.2.2.2
 |[],Q,h=>⟨h,λx hx=>(by cases hx)⟩
 |y::l,Q,h=>by
  unfold eO at h;cases hb:(m.testBit y.1||(st == y.2.1)) with
  |true=>
   rw[hb]at h;obtain⟨h1,h2⟩:=ai (l:=l) h;refine⟨h1,λx hx hm hs=>?_⟩;rcases aaz.1 hx with rfl|hx
   ·rw[hm,acA,beq_iff_eq]at hb;exact absurd hb.symm hs
   ·exact h2 x hx hm hs
  |false=>
   rw[hb]at h;obtain⟨h0,h⟩:=h;obtain⟨h1,h2⟩:=ai (l:=l) h;refine⟨h1,λx hx hm hs=>?_⟩;rcases aaz.1 hx with rfl|hx
   ·exact h0
   ·exact h2 x hx hm hs
theorem lM(vs:List aaa):∀(c:List aaa) (o k:Nat),k<o\/o+vs.length<=k->(zt c o vs)[k]? = c[k]?:=by
 induction vs with
 |nil=>intro c o k _;rfl
 |cons v vs ih=>
  intro c o k hk;simp only[zt];simp only[abc]at hk;rw[ih _ _ _ (by omega),List.getElem?_set_ne (by omega)]
theorem lE{c vs:List aaa}{t:TypeId}{o off n:Nat}(h:off+n<=o\/o+vs.length<=off):fX (some (.cells (zt c o vs) t)) off n=fX (some (.cells c t)) off n:=by
 simp only[fX,x6];by_cases hl:off+n<=c.length
 ·rw[aah hl,aah hl]
  congr 1
  apply abz;intro k;by_cases hk:k<n
  ·rw[aaW hk,aaW hk,aaQ,aaQ,lM _ _ _ _ (by omega)]
  ·rw[aas (by simp;omega),aas (by simp;omega)]
 ·rw[aae hl,aae hl]
theorem LR{t:TypeId}{b off:Nat}{g g2:za}{v:aaa}(h:zd P t (.pointer (some ⟨b,off,none⟩)) g=some v)(e:fX (g2.get b) off (Ry P t)=fX (g.get b) off (Ry P t)):zd P t (.pointer (some ⟨b,off,none⟩)) g2=some v:=by
 unfold zd Ry at *
 simp only at *
 cases hg:g.get b with
 |none=>rw[hg]at h;cases h
 |some ob=>
  rw[hg]at h e;cases ob with
  |cells c t1=>
   simp only at h;cases ha:yd P (isAgg t) with
   |none=>rw[ha]at h;cases h
   |some ag=>
    rw[ha]at h e;cases ag with
    |true=>
     simp only at h e;cases hs:yd P (sizeOf t) with
     |none=>rw[hs]at h;cases h
     |some n=>
      rw[hs]at h e;simp only at h e;obtain⟨hle,h⟩:=zq h;rw[abS]at hle;simp only[fX,aah hle]at e;cases hg2:g2.get b with
      |none=>rw[hg2]at e;cases e
      |some ob2=>
       rw[hg2]at e;cases ob2 with
       |cells c2 t2=>
        simp only at e;split at e
        ·rename_i hle2;simp only[aab]at e;simp only[show Nat.ble (off+n) c2.length=true by rw[abS];exact hle2,aaw,e];exact h
        ·cases e
       |_=>simp at e
    |false=>
     simp only at h e
     have hlt:off<c.length:=by
      rcases aaI off c.length with q|q
      ·exact q
      ·rw[aas q]at h;cases h
     simp only[fX,aah (show off+1<=c.length from hlt)]at e;cases hg2:g2.get b with
     |none=>rw[hg2]at e;cases e
     |some ob2=>
      rw[hg2]at e;cases ob2 with
      |cells c2 t2=>
       simp only at e;split at e
       ·simp only[aab]at e;have:=congrArg (λl=>l[0]?) e;simp only[aaW (Nat.zero_lt_one),aaQ,Nat.add_zero]at this;exact this.trans h
       ·cases e
      |_=>simp at e
  |_=>simp at h
def Mz(P:Program)(ops:Array Oper)(x:yz):Option (Nat×Nat×Nat):=match x.o.op with
 | .load t a=>(match kT x.s a with
   |some (.pointer (some ⟨b,off,none⟩))=>cond (yw ops x.s x.o) (some (b,off,Ry P t)) none
   |_=>none)
 |_=>none
structure RZ (P:Program) (q:FuncId->Nat) (ops:Array Oper) (fl:List (Nat×Bool×Nat×aaa)) (x:yz):Prop where
 k0:qM P q x.o=0->(∀b,x.rd b=false) /\ ∀b,x.tc b=false
 k13:qM P q x.o=1\/qM P q x.o=3->∀b,x.tc b=false
 k1:qM P q x.o=1->(∀b,x.rd b=false) \/ ∃b off sp n,(∀c,x.rd c=true->c=b)/\(sp=none->Mz P ops x=some (b,off,n))/\(x.j,false,n,Value.pointer (some ⟨b,off,sp⟩))∈fl
 k2:qM P q x.o=2->((∀b,x.rd b=false) /\ ∀b,x.tc b=false) \/ ∃b off n c vs t,(∀d,x.rd d=true ↔ d=b)/\(∀d,x.tc d=true ↔ d=b)/\x.g.get b=some (.cells c t)/\x.g'.get b=some (.cells (zt c off vs) t)/\vs.length=n/\(x.j,true,n,Value.pointer (some ⟨b,off,none⟩))∈fl
theorem RZ.mono{q:FuncId->Nat}{ops:Array Oper}{fl fl':List (Nat×Bool×Nat×aaa)}{x:yz}(r:RZ P q ops fl x)(h:∀e,e∈fl->e∈fl'):RZ P q ops fl' x :=
 ⟨r.k0,r.k13,λe=>by
  rcases r.k1 e with h1|⟨b,off,sp,n,h1,h2,h3⟩
  ·exact .inl h1
  ·exact .inr ⟨b,off,sp,n,h1,h2,h _ h3⟩,λe=>by
  rcases r.k2 e with h1|⟨b,off,n,c,vs,t,h1,h2,h3,h4,h5,h6⟩
  ·exact .inl h1
  ·exact .inr ⟨b,off,n,c,vs,t,h1,h2,h3,h4,h5,h _ h6⟩⟩
structure Ws (P:Program) (ops:Array Oper) (s0:Env) (h0:za) (A:List yz) (i:Nat) (s:Env) (h:za):Prop where
 js:A.map (·.j)=List.range i
 env:∀t,s.get t=UD A s0 t
 size:s.size=s0.size
 heap:∀b,h.get b=YV A h0 b
 ro:h.ro=h0.ro
 next:h.next=h0.next
 wf:WF h
 told:∀A1 r A2,A=A1++r::A2->Ns (Mz P ops) P ops s0 h0 A1 r
 Vr:∀A1 r A2,A=A1++r::A2->∀e,e∈r.o.after->Region.binds .any e=true->∃x,x∈A1/\x.j=e.on
 apart:∀A1 x A2 y A3,A=A1++x::(A2++y::A3)->Prec ops x.j y.j\/Va (Mz P ops) ops x y
structure mF (P:Program) (q:FuncId->Nat) (ops:Array Oper) (s0:Env) (h0:za) (A:List yz) (i:Nat) (o:Oper) (s:Env) (h:za) (u:aaa) (h1:za) (m:Nat) (fl fl1:List (Nat×Bool×Nat×aaa)) (y:yz):Prop where
 hj:y.j=i
 yj:y.o=o
 sK:y.v=u
 told:Ns (Mz P ops) P ops s0 h0 A y
 rz:RZ P q ops fl1 y
 heap:∀b,h1.get b=if y.tc b=true then y.g'.get b else h.get b
 ro:h1.ro=h.ro
 next:h1.next=h.next
 wf:WF h1
 af:AF h h1
 eO:∀e,e∈fl->m.testBit e.1=false->(qM P q o=1/\e.2.1=true->((∀b,y.rd b=false) \/ ∃b off sp n,(∀c,y.rd c=true->c=b)/\(sp=none->Mz P ops y=some (b,off,n))/\LV n (.pointer (some ⟨b,off,sp⟩)) e.2.2.1 e.2.2.2)) /\
  (qM P q o=2/\e.2.1=false->((∀b,y.tc b=false) \/ ∃b off n c vs t,(∀d,y.rd d=true ↔ d=b)/\(∀d,y.tc d=true ↔ d=b)/\y.g.get b=some (.cells c t)/\y.g'.get b=some (.cells (zt c off vs) t)/\vs.length=n/\LV n (.pointer (some ⟨b,off,none⟩)) e.2.2.1 e.2.2.2))
section
variable {q:FuncId->Nat}{ops:Array Oper}{s0:Env}{h0:za}{A:List yz}{i:Nat}{o:Oper}{s:Env}{h:za}{m:Nat}{fl fl1:List (Nat×Bool×Nat×aaa)}
theorem Kb(F:Ws P ops s0 h0 A i s h)(ho:ops[i]? = some o)(hput:∀d,o.dst=some d->d<s.size){u:aaa}(hs:ja P ops s o (h.pick []) u (h.pick []))(hlk:∀t a,o.op=.load t a->yw ops s o=false):∃y,mF P q ops s0 h0 A i o s h u h m fl fl1 y:=by
 refine⟨⟨i,o,u,s,h.pick [],h.pick [],λ_=>false,λ_=>false⟩,rfl,rfl,rfl,
  ⟨⟨ho,F.env,F.size,λb=>by rw[ux];simp,F.ro,by show h0.next<=h.next;rw[F.next];exact aaj _,λx hx=>?_,aaj _,hs,λd hd=>by rw[<- F.size];exact hput d hd,λb hb=>(by cases hb),λb _=>rfl,λb o' hb=>(by cases hb)⟩,⟨F.next,F.next⟩,λb0 off n e=>?_⟩,
  ⟨λ_=>⟨λ_=>rfl,λ_=>rfl⟩,λ_ _=>rfl,λ_ => .inl λ_=>rfl,λ_ => .inl ⟨λ_=>rfl,λ_=>rfl⟩⟩,λb=>by simp,rfl,rfl,F.wf,.refl _,λe he hm=>⟨λ_ => .inl λ_=>rfl,λ_ => .inl λ_=>rfl⟩⟩
 ·obtain⟨A1,A2,rfl⟩:=aaP hx;have:=(F.told A1 x A2 rfl).still.2;show x.g'.next<=h.next;rw[this,F.next];exact aaj _
 ·exfalso;unfold Mz at e;simp only at e;split at e
  ·rename_i t a yj;split at e
   ·rw[hlk t a yj]at e;cases e
   ·cases e
  ·cases e
theorem IQ(F:Ws P ops s0 h0 A i s h):∀x,x∈A->x.g'.next<=h.next:=λx hx=>by
 obtain⟨A1,A2,rfl⟩:=aaP hx;have:=(F.told A1 x A2 rfl).still.2;rw[this,F.next];exact aaj _
theorem Pr(F:Ws P ops s0 h0 A i s h):h0.next<=h.next:=by rw[F.next];exact aaj _
theorem zbG{h:za}(w:WF h){b:Nat}(hb:¬b<h.next):h.get b=none:=by
 cases hh:h.get b with|none=>rfl|some o'=>exact absurd (w b o' hh) hb
theorem re(F:Ws P ops s0 h0 A i s h)(ho:ops[i]? = some o)(hput:∀d,o.dst=some d->d<s.size){u:aaa}(hs:ja P ops s o h u h)(hk:qM P q o=3):∃y,mF P q ops s0 h0 A i o s h u h m fl fl1 y:=by
 have hrd:∀b,(Nat.blt b h.next=true) ↔ b<h.next:=λb=>by rw[aaN]
 have nl:∀t a,o.op=.load t a->False:=λt a e=>by unfold qM at hk;rw[e]at hk;cases hk
 refine⟨⟨i,o,u,s,h,h,λb=>Nat.blt b h.next,λ_=>false⟩,rfl,rfl,rfl,
  ⟨⟨ho,F.env,F.size,λb=>?_,F.ro,Pr F,IQ F,aaj _,hs,λd hd=>by rw[<- F.size];exact hput d hd,λb hb=>(by cases hb),λb _=>rfl,λb o' hb=>(by cases hb)⟩,⟨F.next,F.next⟩,λb0 off n e=>?_⟩,
  ⟨λe=>by simp only at e;omega,λ_ _=>rfl,λe=>by simp only at e;omega,λe=>by simp only at e;omega⟩,λb=>by simp,rfl,rfl,F.wf,.refl _,λe he hm=>⟨λ⟨e,_⟩=>by omega,λ⟨e,_⟩=>by omega⟩⟩
 ·show h.get b=if Nat.blt b h.next=true then YV A h0 b else none;by_cases hb:b<h.next
  ·rw[aah ((hrd b).2 hb),F.heap]
  ·rw[aae (λe=>hb ((hrd b).1 e)),zbG F.wf hb]
 ·exfalso;unfold Mz at e;cases yj:o.op <;> simp only[yj]at e <;> first|(cases e;done)|exact nl _ _ yj
theorem G2(F:Ws P ops s0 h0 A i s h)(ho:ops[i]? = some o)(hput:∀d,o.dst=some d->d<s.size)(hw:yw ops s o=true){t:TypeId}{a:Operand}(yj:o.op=.load t a){av u:aaa}(hav:kT s a=some av)(hl:zd P t av h=some u)
  (hcl:∀e,e∈fl->m.testBit e.1=false->e.2.1≠false->LV (Ry P t) av e.2.2.1 e.2.2.2):∃y,mF P q ops s0 h0 A i o s h u h m fl (fl++[(i,false,Ry P t,av)]) y:=by
 have hk1:qM P q o=1:=by unfold qM;rw[yj]
 obtain⟨b,off,sp,rfl,hsp⟩:∃b off sp,av=.pointer (some ⟨b,off,sp⟩) /\ ∀g:za,g.get b=h.get b->zd P t av g=some u:=by
  unfold zd at hl;split at hl
  ·rename_i b off;exact⟨b,off,none,rfl,λg hg=>by unfold zd;simp only;rw[hg];exact hl⟩
  ·rename_i b off;exact⟨b,off,some 0,rfl,λg hg=>by unfold zd;simp only;rw[hg];exact hl⟩
  ·cases hl
 have sem:∀g:za,zd P t (.pointer (some ⟨b,off,sp⟩)) g=some u->ja P ops s o g u g:=λg hg => .inr ⟨hw,.inl (by unfold UM;simp only[yj,hav,hg,one])⟩
 refine⟨⟨i,o,u,s,h.pick [b],h.pick [b],λc=>decide (c=b),λ_=>false⟩,rfl,rfl,rfl,
  ⟨⟨ho,F.env,F.size,λc=>?_,F.ro,(Pr F:h0.next<=h.next),λx hx=>IQ F x hx,aaj _,sem _ (hsp _ (by rw[ux,aah (by simp)])),λd hd=>by rw[<- F.size];exact hput d hd,λb hb=>(by cases hb),λb _=>rfl,λb o' hb=>(by cases hb)⟩,⟨F.next,F.next⟩,λb0 off0 n e=>?_⟩,
  ⟨λe=>by simp only at e;omega,λ_ _=>rfl,λ_ => .inr ⟨b,off,sp,Ry P t,λc hc=>by simpa using hc,λhsp0=>?_,by simp⟩,λe=>by simp only at e;omega⟩,λb=>by simp,rfl,rfl,F.wf,.refl _,λe he hm=>⟨λ⟨_,h1⟩ => .inr ⟨b,off,sp,Ry P t,λc hc=>by simpa using hc,λhsp0=>?_,hcl e he hm (by rw[h1];simp)⟩,λ⟨e,_⟩=>by omega⟩⟩
 ·show(h.pick [b]).get c=if decide (c=b)=true then YV A h0 c else none;rw[ux];by_cases e:c=b
  ·subst e;simp[F.heap]
  ·simp[e]
 ·unfold Mz at e;simp only[yj,hav]at e;cases sp with
  |some k=>simp at e
  |none=>
   simp only[hw,aaw,aab,aaf]at e;obtain⟨rfl,rfl,rfl⟩:=e;exact⟨by simp,λc hc=>by simpa using hc,λ_=>rfl,λg hg=>sem g (LR (hsp _ (by rw[ux,aah (by simp)])) hg)⟩
 ·subst hsp0;unfold Mz;simp only[yj,hav,hw,aaw]
 ·subst hsp0;unfold Mz;simp only[yj,hav,hw,aaw]
theorem E9(F:Ws P ops s0 h0 A i s h)(ho:ops[i]? = some o)(hput:∀d,o.dst=some d->d<s.size)(hw:yw ops s o=true){t:TypeId}{a x:Operand}(yj:o.op=.store t a x){av xv:aaa}(hav:kT s a=some av)(hxv:kT s x=some xv){h1:za}(hl:vH P t av xv h=some h1)
  (hcl:∀e,e∈fl->m.testBit e.1=false->e.2.1≠true->LV (szS P t) av e.2.2.1 e.2.2.2):∃y,mF P q ops s0 h0 A i o s h undef h1 m fl (fl++[(i,true,szS P t,av)]) y:=by
 have hk2:qM P q o=2:=by unfold qM;rw[yj]
 have af:=Ak hl
 obtain⟨b,off,c,t',rfl,hg,hn,hh1,hst⟩:∃b off c t',av=.pointer (some ⟨b,off,none⟩)/\h.get b=some (.cells c t')/\xv.cells.size=szS P t/\h1=h.set b (some (.cells (zt c off xv.cells.toList) t')) /\
   ∀g:za,g.get b=h.get b->g.ro=h.ro->vH P t av xv g=some (g.set b (some (.cells (zt c off xv.cells.toList) t'))):=by
  unfold vH at hl;split at hl
  ·rename_i b off;split at hl
   ·cases hl
   ·rename_i c t' hg;split at hl
    ·cases hl
    ·rename_i n hs;obtain⟨hc,hl⟩:=zq hl;simp only[aab]at hl;have hc':=hc;simp only[aac,acs]at hc';refine⟨b,off,c,t',rfl,hg,?_,hl.symm,λg hgg hro=>?_⟩
     ·unfold szS;rw[hs];exact hc'.1.1.1
     ·unfold vH;simp only;rw[hgg,hg];simp only[hs,hro,hc,aaw]
   ·cases hl
  ·cases hl
 subst hh1;have eq1:∀d,(decide (d=b)=true) ↔ d=b:=λd=>by simp
 have g2:((h.pick [b]).set b (some (.cells (zt c off xv.cells.toList) t'))).get b=some (.cells (zt c off xv.cells.toList) t'):=by rw[za.yq,aah rfl]
 have g1:(h.pick [b]).get b=some (.cells c t'):=by rw[ux,aah (by simp)];exact hg
 refine⟨⟨i,o,undef,s,h.pick [b],(h.pick [b]).set b (some (.cells (zt c off xv.cells.toList) t')),λd=>decide (d=b),λd=>decide (d=b)⟩,rfl,rfl,rfl,
  ⟨⟨ho,F.env,F.size,λd=>?_,F.ro,(Pr F:h0.next<=h.next),λx hx=>IQ F x hx,aaj _,.inr ⟨hw,.inl ?_⟩,λd hd=>by rw[<- F.size];exact hput d hd,λd hd => .inl hd,λd hd=>?_,λd o' hd _ _=>?_⟩,⟨F.next,F.next⟩,λb0 off0 n e=>?_⟩,
  ⟨λe=>by simp only at e;omega,λe=>by simp only at e;omega,λe=>by simp only at e;omega,λ_ => .inr ⟨b,off,szS P t,c,xv.cells.toList,t',eq1,eq1,g1,g2,by simpa using hn,by simp⟩⟩,λd=>?_,rfl,rfl,λd o' hd=>?_,af,λe he hm=>⟨λ⟨e,_⟩=>by omega,λ⟨_,h1⟩ => .inr ⟨b,off,szS P t,c,xv.cells.toList,t',eq1,eq1,g1,g2,by simpa using hn,hcl e he hm (by rw[h1];simp)⟩⟩⟩
 ·show(h.pick [b]).get d=if decide (d=b)=true then YV A h0 d else none;rw[ux];by_cases e:d=b
  ·subst e;simp[F.heap]
  ·simp[e]
 ·unfold UM;simp only[yj,hav,hxv,hst (h.pick [b]) (by rw[ux,aah (by simp)]) rfl]
 ·have hd:decide (d=b)=false:=hd;have:d≠b:=λe=>by rw[(eq1 d).2 e]at hd;cases hd
  rw[za.yq,aae this]
 ·have:=(eq1 d).1 hd;subst this;rw[g1];simp
 ·exfalso;unfold Mz at e;simp only[yj]at e;cases e
 ·show(h.set b _).get d=if decide (d=b)=true then _ else _;by_cases e:d=b
  ·subst e;rw[aah (by simp),za.yq,aah rfl,za.yq,aah rfl]
  ·rw[aae (by simp[e]),za.yq,aae e]
 ·rw[za.yq]at hd;show d<h.next;split at hd
  ·rename_i e;subst e;exact F.wf _ _ hg
  ·exact F.wf _ _ hd
theorem Sz{l:List TypeId}(hl:O8 P l=true){r:TypeId}{vs:List aaa}{u:aaa}{h h':za}(he:zF P .len l r vs h=some (u,h')):h'=h /\ ∀g,zF P .len l r vs g=some (u,g):=by
 unfold O8 at hl;split at hl
 ·rename_i t;split at hl
  ·rename_i e hu
   match vs with
   |[x]=>
    have key:∀g,zF P .len [t] r [x] g=(i0 P t x g).map λv=>(v,g):=λg=>rfl
    have ind:∀g,i0 P t x g=lK P t x:=λg=>by
     unfold i0;cases lK P t x with
     |some v=>rfl
     |none=>simp only[hu]
    rw[key,ind]at he;cases ha:lK P t x with
    |none=>rw[ha]at he;cases he
    |some v=>
     rw[ha]at he;simp only[abn,aab,aaf]at he;obtain⟨rfl,rfl⟩:=he;exact⟨rfl,λg=>by rw[key,ind,ha];rfl⟩
   |[]=>cases he
   |_::_::_=>cases he
  ·cases hl
 ·cases hl
theorem E0{u:aaa}{h':za}(n1:∀(t:TypeId) (a:Operand),o.op=Op.load t a->False)(n2:∀(t:TypeId) (a x:Operand),o.op=Op.store t a x->False)(he:UM P s o h=some (u,h'))(hkz:qM P q o<=3):wj q o=0\/(wj q o=1/\(qM P q o=3\/(h'=h /\ ∀g,UM P s o g=some (u,g)))):=by
 unfold qM at hkz ⊢;split at hkz
 ·rename_i t a yj;exact absurd yj (n1 t a)
 ·rename_i t a x yj;exact absurd yj (n2 t a x)
 ·rename_i args ts yj;refine .inr ⟨by unfold wj;simp only[yj];rfl,?_⟩;cases hl:O8 P ts.toList with
  |false=>left;simp only[yj,hl,aaH]
  |true=>
   right
   unfold UM at he ⊢;simp only[yj]at he ⊢;cases ha:VO s args.toList with
   |none=>rw[ha]at he;cases he
   |some vs=>
    rw[ha]at he;exact Sz hl he
 ·rename_i m1 m2 m3
  have e:(match o.op with
   | .load _ _=>1
   | .store _ _ _=>2
   | .call {callee := .builtin .len,argTypes,.. }=>cond (O8 P argTypes.toList) 0 3
   |_=>(match wj q o with
    |0=>0
    |1=>3
    |_=>4))=(match wj q o with
    |0=>0
    |1=>3
    |_=>4):=by
   split
   ·rename_i t a yj;exact absurd yj (n1 t a)
   ·rename_i t a x yj;exact absurd yj (n2 t a x)
   ·rename_i args ts yj;exact absurd yj (m3 args ts)
   ·rfl
  split at hkz
  ·left;assumption
  ·rename_i h1;right;exact⟨h1,.inl (by first|rfl|(rw[h1]at e;exact e))⟩
  ·omega
theorem AW(F:Ws P ops s0 h0 A i s h)(hron:h.ro<=h.next)(ho:ops[i]? = some o)(hput:∀d,o.dst=some d->d<s.size)(hw:yw ops s o=true)(hkz:qM P q o<=3){r:Env}(hl:Le r s)
  {K:aaa->za->Prop} (hk:MK P r o m fl h K):∃v u h1 y,(zR v=true\/v=u)/\K v h1/\mF P q ops s0 h0 A i o s h u h1 m fl (EG P r o i fl) y:=by
 unfold MK at hk;split at hk
 ·rename_i t a yj;obtain⟨hk,hc⟩:=ai hk;obtain⟨v,he,hK⟩:=u2 hk
  have hnb:zR (ev r a)=false:=by
   cases hb:zR (ev r a) with
   |false=>rfl
   |true=>obtain⟨k,p,z,e2⟩:=Xf hb;rw[e2]at he;cases he
  have hav:=Yg hl hnb;obtain⟨y,hy⟩:=G2 (q:=q) (m:=m) (fl:=fl) F ho hput hw yj hav he hc;exact⟨v,v,h,y,.inr rfl,hK,by unfold EG;simp only[yj];exact hy⟩
 ·rename_i t a x yj;obtain⟨hk,hc⟩:=ai hk;obtain⟨h1,he,hK⟩:=u2 hk;obtain⟨hn,he⟩:=u9 he
  have hnx:zR (ev r x)=false:=by
   cases hb:zR (ev r x) with
   |false=>rfl
   |true=>simp only[yk,hb,aaw]at hn;cases hn
  have hnb:zR (ev r a)=false:=by
   cases hb:zR (ev r a) with
   |false=>rfl
   |true=>obtain⟨k,p,z,e2⟩:=Xf hb;rw[e2]at he;cases he
  obtain⟨y,hy⟩:=E9 (q:=q) (m:=m) (fl:=fl) F ho hput hw yj (Yg hl hnb) (Yg hl hnx) he hc;exact⟨undef,undef,h1,y,.inr rfl,hK,by unfold EG;simp only[yj];exact hy⟩
 ·rename_i g args ts yj;obtain⟨hc,hn,v,hsc,hT,hK⟩:=hk;have ef:kT s (.func g)=some (.func (.func g) #[] #[]):=rfl
  have hT2:TC P g (dm r args.toList) h (λv1 h1=>v1=v/\h1=h) :=
   (hT.quiet (λv1 _ e=>by rw[e];exact hsc)).mono (by rintro v1 h1 ⟨⟨_,e1⟩,e2⟩;exact⟨e1,e2⟩)
  have hk3:qM P q o=3:=by
   unfold qM at hkz ⊢;simp only[yj]at hkz ⊢;have:wj q o=ft (q g):=by unfold wj;simp only[yj]
   rw[this]at hkz ⊢;have kc:ft (q g)=1\/ft (q g)=2\/ft (q g)=3:=by unfold ft;split <;> simp
   rcases kc with e|e|e <;> rw[e]at hkz ⊢ <;> simp at hkz ⊢
  obtain⟨y,hy⟩:=re (q:=q) (m:=m) (fl:=fl) (fl1:=EG P r o i fl) F ho hput (u:=v) (.inr ⟨hw,.inr (.inl ⟨.func g,args,ts,g,#[],#[],_,yj,ef,Q9 hl hn,hc,by simpa using hT2⟩)⟩) hk3;exact⟨v,v,h,y,.inr rfl,hK,hy⟩
 ·rename_i n1 n2 n3;obtain⟨v,u,h',he,hv,hK⟩:=qX hl hk;have hnc:=XB he;rcases E0 n1 n2 he hkz with h0'|⟨h1',hz⟩
  ·obtain⟨rfl,hany⟩:=fI h0' hnc he;obtain⟨y,hy⟩:=Kb (q:=q) (m:=m) (fl:=fl) (fl1:=EG P r o i fl) F ho hput (u:=u) (.inr ⟨hw,.inl (hany _)⟩) (λt a e=>absurd e (n1 t a));exact⟨v,u,h',y,hv,hK,hy⟩
  ·rcases hz with hz|⟨e1,hany⟩
   ·obtain rfl:=JC h1' hnc he;obtain⟨y,hy⟩:=re (q:=q) (m:=m) (fl:=fl) (fl1:=EG P r o i fl) F ho hput (u:=u) (.inr ⟨hw,.inl he⟩) hz;exact⟨v,u,h',y,hv,hK,hy⟩
   ·subst e1;obtain⟨y,hy⟩:=Kb (q:=q) (m:=m) (fl:=fl) (fl1:=EG P r o i fl) F ho hput (u:=u) (.inr ⟨hw,.inl (hany _)⟩) (λt a e=>absurd e (n1 t a));exact⟨v,u,h',y,hv,hK,hy⟩
theorem RN{n m b o c p k:Nat}{l vs:List aaa}{t:TypeId}(h:LV n (.pointer (some ⟨b,o,none⟩)) m (.pointer (some ⟨c,p,none⟩)))(e:b=c)(hv:vs.length=m):fX (some (.cells (zt l p vs) t)) o n=fX (some (.cells l t)) o n:=by
 rw[Aj]at h;exact lE (by omega)
theorem Oe{n m b o c p:Nat}{l vs:List aaa}{t:TypeId}(h:LV m (.pointer (some ⟨c,p,none⟩)) n (.pointer (some ⟨b,o,none⟩)))(e:b=c)(hv:vs.length=m):fX (some (.cells (zt l p vs) t)) o n=fX (some (.cells l t)) o n:=by
 rw[Aj]at h;exact lE (by omega)
theorem GM{u:aaa}{h1:za}{x y:yz}(hxA:x∈A)(hx:RZ P q ops fl x)(N:mF P q ops s0 h0 A i o s h u h1 m fl fl1 y)(hkx:qM P q x.o<=3)(hky:qM P q o<=3)
  (hs:ji ops x.o y.o=true) (hbit:m.testBit x.j=false) (hp:PI (qM P q x.o) (qM P q o)=true):Va (Mz P ops) ops x y:=by
 have ff:∀{b:Bool},b≠true->b=false:=λh=>by simpa using h
 simp only[ji,aac]at hs;obtain⟨a1,a2⟩:=hs
 have d1:∀d,x.o.dst=some d->d∉y.o.looksAt ops/\y.o.dst≠some d:=by
  intro d hd;rw[hd]at a1;simp only[aac,aao,aam,aaE]at a1;exact⟨a1.1,a1.2⟩
 have d2:∀d,y.o.dst=some d->d∉x.o.looksAt ops:=by
  intro d hd;rw[hd]at a2;simp only[aao,aam,aaE]at a2;exact a2
 have hyo:=N.yj;have hy:=N.rz;unfold PI at hp;simp only[aaV,aac,acs]at hp;rcases hp with(((hp|hp)|⟨hp,hq⟩)|⟨hp,hq⟩)|⟨hp,hq⟩
 ·obtain⟨r,t⟩:=hx.k0 hp;exact⟨d1,d2,λb hb=>(by rw[t b]at hb;cases hb),λb _ => .inl (r b)⟩
 ·obtain⟨r,t⟩:=hy.k0 (by rw[hyo];exact hp);exact⟨d1,d2,λb _=>⟨t b,.inl (r b)⟩,λb hb=>(by rw[t b]at hb;cases hb)⟩
 ·have tx:=hx.k13 hp;have ty:=hy.k13 (by rw[hyo];exact hq);exact⟨d1,d2,λb hb=>(by rw[tx b]at hb;cases hb),λb hb=>(by rw[ty b]at hb;cases hb)⟩
 ·
  have tx:=hx.k13 (.inl hp);refine⟨d1,d2,λb hb=>(by rw[tx b]at hb;cases hb),λb hb=>?_⟩;rcases hx.k1 hp with hn|⟨bx,ox,sp,nx,c1,c2,c3⟩
  ·exact .inl (hn b)
  ·rcases (N.eO _ c3 hbit).2 ⟨hq,rfl⟩ with hn|⟨by',oy,ny,c,vs,t,e1,e2,e3,e4,e5,e6⟩
   ·rw[hn b]at hb;cases hb
   ·have hb':=(e2 b).1 hb;subst hb';cases hr:x.rd b with
    |false=>exact .inl rfl
    |true=>
     have hbx:=c1 b hr;cases sp with
     |some k=>exact e6.elim
     |none=>
      refine .inr ⟨ox,nx,by rw[c2 rfl,hbx],(e1 b).2 rfl,?_⟩;rw[e3,e4];exact Oe e6 hbx.symm e5
 ·
  have ty:=hy.k13 (.inl (by rw[hyo];exact hq));refine⟨d1,d2,λb hb=>⟨ty b,?_⟩,λb hb=>(by rw[ty b]at hb;cases hb)⟩;rcases hx.k2 hp with⟨_,hn⟩|⟨bx,ox,nx,c,vs,t,e1,e2,e3,e4,e5,e6⟩
  ·rw[hn b]at hb;cases hb
  ·have hb':=(e2 b).1 hb;subst hb';rcases (N.eO _ e6 hbit).1 ⟨hq,rfl⟩ with hn|⟨by',oy,sp,ny,c1,c2,c3⟩
   ·exact .inl (hn b)
   ·cases hr:y.rd b with
    |false=>exact .inl rfl
    |true=>
     have hby:=c1 b hr;cases sp with
     |some k=>exact c3.elim
     |none=>
      refine .inr ⟨oy,ny,by rw[c2 rfl,hby],(e1 b).2 rfl,?_⟩;rw[e3,e4];exact RN (k:=0) c3 hby.symm e5
end
theorem Lu{q:FuncId->Nat}{ops:Array Oper}{s0:Env}{h0:za}(hro0:h0.ro<=h0.next):∀(l:List Oper) (i:Nat) (ms:List Nat) (A:List yz) (prev:List (Nat×Nat)) (fl:List (Nat×Bool×Nat×aaa)) (r s:Env) (h:za) {K:Env->za->Prop},
  ops.toList.drop i=l->i<=ops.size->KL ops ms->ms.length=i->Ws P ops s0 h0 A i s h->(∀x,x∈A->(x.j,qM P q x.o)∈prev/\qM P q x.o<=3/\RZ P q ops fl x)->ZQ ops l i ms (A.reverse.map λx=>(x.j,x.o))=true->mw P q l ms prev=true ->
  Le r s->FU P ops l i ms fl r h K->∃A' r' s' h',Ws P ops s0 h0 A' ops.size s' h'/\Le r' s'/\K r' h'/\Fr (Vy l) s s'/\AF h h'
 |[],i,ms,A,prev,fl,r,s,h,K,hl,hle,hm,hml,F,hrp,hst,hkd,hle1,hk=>by
  have:i=ops.size:=by
   have:=congrArg List.length hl;simp at this;omega
  subst this;exact⟨A,r,s,h,F,hle1,hk,.refl _ _,.refl _⟩
 |o::os,i,ms,A,prev,fl,r,s,h,K,hl,hle,hm,hml,F,hrp,hst,hkd,hle1,hk=>by
  have ho:ops[i]? = some o:=by
   have:=congrArg (λl=>l[0]?) hl;simp only[aaQ,aaC]at this;simpa using this
  have hlt:i<ops.size:=by
   rcases aaI i ops.size with h|h
   ·exact h
   ·rw[aaJ h]at ho;cases ho
  have hl':ops.toList.drop (i+1)=os:=by rw[<- acm,hl];rfl
  simp only[ZQ,aac]at hst;obtain⟨⟨hedge,hslots⟩,hst⟩:=hst;simp only[mw,aac,abS]at hkd;obtain⟨⟨hkz,hpair⟩,hkd⟩:=hkd
  have go:∀(v u:aaa) (h1:za) (y:yz),(zR v=true\/v=u)->mF P q ops s0 h0 A i o s h u h1 (yC ms o) fl (EG P r o i fl) y ->
    (match r.put o.dst v with|some s1=>FU P ops os (i+1) (ms++[yC ms o]) (EG P r o i fl) s1 h1 K|none=>False) ->
    ∃A' r' s' h',Ws P ops s0 h0 A' ops.size s' h'/\Le r' s'/\K r' h'/\Fr (Vy (o::os)) s s'/\AF h h':=by
   intro v u h1 y hv N hk;split at hk
   case h_2=>exact hk.elim
   rename_i r1 hp;obtain⟨s1,hp1,hl1⟩:=hle1.put hp hv
   have hs1:∀t,s1.get t=if o.dst=some t then u else s.get t:=by
    intro t;cases hd:o.dst with
    |none=>rw[hd]at hp1;simp only[Env.put,aab]at hp1;subst hp1;simp
    |some d=>
     rw[hd]at hp1;simp only[Env.put]at hp1;obtain⟨_,hp1⟩:=zq hp1;simp only[aab]at hp1;subst hp1;rw[Env.yq];by_cases e:t=d
     ·subst e;simp
     ·rw[aae e,aae (by simp only[aab];exact λh=>e h.symm)]
   have hs1s:s1.size=s.size:=(Fr.put hp1).size
   have F1:Ws P ops s0 h0 (A++[y]) (i+1) s1 h1:=by
    refine⟨?_,?_,hs1s.trans F.size,?_,N.ro.trans F.ro,N.next.trans F.next,N.wf,?_,?_,?_⟩
    ·rw[aaY,F.js,aca];simp[N.hj]
    ·intro t;rw[hs1,Qd,N.yj,N.sK,F.env]
    ·intro b;rw[N.heap,Ju,F.heap]
    ·intro A1 r A2 e;rcases vN e with⟨_,rfl,rfl⟩|⟨A3,_,e3⟩
     ·exact N.told
     ·exact F.told A1 r A3 e3
    ·intro A1 r A2 e ed hed hb;rcases vN e with⟨_,rfl,rfl⟩|⟨A3,_,e3⟩
     ·rw[N.yj]at hed;simp only[aav,aaV,aao,aaN]at hedge;rcases hedge ed (by simpa using hed) with h2|h2
      ·rw[hb]at h2;cases h2
      ·have:ed.on∈A1.map (·.j):=(by rw[F.js];exact abj.2 h2);obtain⟨x,hx,hxj⟩:=aa0.1 this;exact⟨x,hx,hxj⟩
     ·exact F.Vr A1 r A3 e3 ed hed hb
    ·intro A1 x A2 z A3 e;have e':A++[y]=(A1++x::A2)++z::A3:=by rw[e];simp
     rcases vN e' with⟨_,e1,rfl⟩|⟨A4,_,e3⟩
     ·have hxm:x∈A:=(by rw[<- e1];simp);obtain⟨hpm,hkx,hrx⟩:=hrp x hxm;simp only[aav,aaV]at hpair hslots;rcases hslots (x.j,x.o) (aa0.2 ⟨x,by simpa using hxm,rfl⟩) with h2|h2
      ·rw[N.hj];exact .inl (u0 hm ho h2)
      ·rcases hpair _ hpm with h3|h3
       ·rw[N.hj];exact .inl (u0 hm ho h3)
       ·by_cases hbit:(yC ms o).testBit x.j=true
        ·rw[N.hj];exact .inl (u0 hm ho hbit)
        ·simp only[ab4]at hbit;exact .inr (GM hxm hrx N hkx hkz (by rw[N.yj];exact h2) hbit h3)
     ·exact F.apart A1 x A2 z A4 (by rw[e3];simp)
   have hfl:∀e,e∈fl->e∈EG P r o i fl:=λe he=>by
    unfold EG;split <;> simp[he]
   have hrp1:∀x,x∈A++[y]->(x.j,qM P q x.o)∈(ms.length,qM P q o)::prev/\qM P q x.o<=3/\RZ P q ops (EG P r o i fl) x:=by
    intro x hx;rcases aaD.1 hx with hx|hx
    ·obtain⟨h1,h2,h3⟩:=hrp x hx;exact⟨aar _ h1,h2,h3.mono hfl⟩
    ·simp only[aat]at hx;subst hx;exact⟨by rw[N.hj,N.yj,hml];simp,by rw[N.yj];exact hkz,N.rz⟩
   obtain⟨A',r',s',h',F',l',k',f',a'⟩:=Lu hro0 os (i+1) (ms++[yC ms o]) (A++[y]) _ _ r1 s1 h1 hl' hlt (Wm hm hml ho) (by simp[hml]) F1 hrp1
    (by simpa [N.hj,N.yj] using hst) hkd hl1 hk
   exact⟨A',r',s',h',F',l',k',(Fr.put hp1).left.trans f'.right,N.af.trans a'⟩
  have slot:∀{v:aaa} {h1:za},(match r.put o.dst v with|some s1=>FU P ops os (i+1) (ms++[yC ms o]) (EG P r o i fl) s1 h1 K|none=>False)->∀d,o.dst=some d->d<s.size:=by
   intro v h1 hk d hd;split at hk
   case h_2=>exact hk.elim
   rename_i r1 hp;rw[hd]at hp;simp only[Env.put]at hp;obtain⟨hb,_⟩:=zq hp;rw[<- hle1.size];simpa [aaN] using hb
  have hron:h.ro<=h.next:=by rw[F.ro,F.next];exact hro0
  have dstok:∀{K':aaa->za->Prop},MK P r o (yC ms o) fl h K'->(∀v h1,K' v h1->∀d,o.dst=some d->d<s.size)->∀d,o.dst=some d->d<s.size:=by
   intro K' hk hs;unfold MK at hk;split at hk
   ·obtain⟨v,_,hK⟩:=u2 (ai hk).1;exact hs _ _ hK
   ·obtain⟨v,_,hK⟩:=u2 (ai hk).1;exact hs _ _ hK
   ·obtain⟨_,_,v,_,_,hK⟩:=hk;exact hs _ _ hK
   ·obtain⟨v,u,h',_,_,hK⟩:=qX hle1 hk;exact hs v h' hK
  simp only[FU]at hk;split at hk
  ·rename_i hg;obtain⟨v,u,h1,y,hv,hK,N⟩:=AW (q:=q) F hron ho (dstok hk (λv h1 hK=>slot hK)) (by simp only[yw,hg]) hkz hle1 hk;exact go v u h1 y hv N hK
  ·rename_i j want hg;split at hk
   ·exact hk.elim
   ·rename_i d hdst;unfold GD at hk;split at hk
    ·rename_i b hb
     have hs:s.get d=.bool b:=by
      rcases hle1.get d with e|e
      ·rw[hb]at e;cases e
      ·rw[<- e,hb]
     have haw:yw ops s o=(b == want):=(by simp only[yw,hg,hdst,hs]);by_cases hbw:b=want
     ·have hk:=hk.1 hbw;obtain⟨v,u,h1,y,hv,hK,N⟩:=AW (q:=q) F hron ho (dstok hk (λv h1 hK=>slot hK)) (by rw[haw,hbw];simp) hkz hle1 hk;exact go v u h1 y hv N hK
     ·have hk:=hk.2 hbw;obtain⟨y,N⟩:=Kb (q:=q) (m:=yC ms o) (fl:=fl) (fl1:=EG P r o i fl) F ho (slot hk) (u:=undef) (.inl ⟨by rw[haw];simpa using hbw,rfl,rfl⟩) (λ_ _ _=>by rw[haw];simpa using hbw);exact go undef undef h y (.inr rfl) N hk
    ·exact hk.elim
    ·rename_i n1 n2
     have hs:s.get d=r.get d:=by
      rcases hle1.get d with e|e
      ·obtain⟨k,p,q,e2⟩:=Xf e;exact absurd e2 (n2 k p q)
      ·exact e.symm
     have haw:yw ops s o=false:=by
      simp only[yw,hg,hdst,hs]
     obtain⟨y,N⟩:=Kb (q:=q) (m:=yC ms o) (fl:=fl) (fl1:=EG P r o i fl) F ho (slot hk) (u:=undef) (.inl ⟨haw,rfl,rfl⟩) (λ_ _ _=>haw);exact go undef undef h y (.inr rfl) N hk
theorem OH{q:FuncId->Nat}(hmix:P.follows .mixedOrders=true):Uv P (ED P q):=by
 intro ops r s h K rd id hle wf hk;unfold ED at hk;cases hc:oX P q ops with
 |false=>rw[hc]at hk;exact hk.elim
 |true=>
  rw[hc]at hk;have hk:FU P ops ops.toList 0 [] [] r h K:=hk;simp only[oX,aac]at hc
  have F0:Ws P ops s h ([]:List yz) 0 s h:=⟨rfl,λt=>rfl,rfl,λb=>rfl,rfl,rfl,wf.1,
   λA1 r A2 e=>by simp at e,λA1 r A2 e=>by simp at e,λA1 x A2 y A3 e=>by simp at e⟩
  obtain⟨A,r',s',h',F,hl',hK,hf,af⟩:=Lu (q:=q) wf.2 ops.toList 0 [] [] [] [] r s h rfl (aaS _) (λk q hq=>by simp at hq) rfl F0 (λx e=>by simp at e) hc.1 hc.2 hle hk
  have V:Y5 (Mz P ops) P ops s h A:=⟨by rw[F.js];exact acv,λi hi=>by
    have:i∈A.map (·.j):=(by rw[F.js];exact abj.2 hi);obtain⟨r,hr,hj⟩:=aa0.1 this;exact⟨r,hr,hj⟩,F.told,F.Vr,F.apart⟩
  exact⟨r',s',h',hl',hK,hf,af,r9 hmix V F.env F.size F.heap F.ro (by rw[F.next];exact aaj _) (λx hx=>IQ F x hx) F.next (Q:=λe s1 h1=>e=.normal/\s1=s'/\h1=h') ⟨rfl,rfl,rfl⟩⟩
def EB(P:Program)(q:FuncId->Nat)(ops:Array Oper)(s:Env)(h:za)(K:Env->za->Prop):Prop:=Nh (calm q ops) (Tp P q ops ops.toList 0 [] [] s h K) (Nh (Aq P q ops) (Iz P q ops s h K) (Nh (oX P q ops) (ED P q ops s h K) (Ez P q ops s h K)))
theorem EC{q:FuncId->Nat}(hmix:P.follows .mixedOrders=true):Uv P (EB P q):=by
 intro ops r s h K rd id hle wf hk;unfold EB at hk;cases hc:calm q ops with
 |true=>
  rw[hc]at hk;exact EA hmix ops r s h K rd id hle wf (by unfold bC;rw[hc];exact hk)
 |false=>
  rw[hc]at hk;have hk:Nh (Aq P q ops) (Iz P q ops r h K) (Nh (oX P q ops) (ED P q ops r h K) (Ez P q ops r h K)):=hk;cases hv:Aq P q ops with
  |true=>rw[hv]at hk;exact OG hmix ops r s h K rd id hle wf hk
  |false=>
   rw[hv]at hk;have hk:Nh (oX P q ops) (ED P q ops r h K) (Ez P q ops r h K):=hk;cases hz:oX P q ops with
   |true=>rw[hz]at hk;exact OH hmix ops r s h K rd id hle wf hk
   |false=>rw[hz]at hk;exact OF hmix ops r s h K rd id hle wf hk
theorem j9{q:FuncId->Nat}(hmix:P.follows .mixedOrders=true){n:Nat}{f:FuncId}{args:List aaa}{h:za}{R:aaa->za->Prop}(hk:Rz P (EB P q) n f args h R):DC P f args h R:=sV (EC hmix) hk
end
noncomputable section
abbrev Part:=Nat->Option wS
structure yH where
 get:Nat->Option (Option wS)
 ro:Nat
def yH.un(lo:yH)(a:Part):yH:=⟨λx=>match a x with
 |some o=>some (some o)
 |none=>lo.get x,lo.ro⟩
def yH.of(h:za):yH:=⟨λb=>if b<h.next then some (h.get b) else none,h.ro⟩
def yH.dj(lo:yH)(a:Part):Prop := ∀x o,a x=some o->lo.get x=none
structure yH.Le (lo lo':yH):Prop where
 ro:lo'.ro=lo.ro
 get:∀b x,lo.get b=some x->lo'.get b=some x
structure lG (lo:yH) (h:za):Prop where
 ro:h.ro=lo.ro
 Fw:h.ro<=h.next
 get:∀b x,lo.get b=some x->h.get b=x/\b<h.next
abbrev HP:=Part->Prop
def Sat(lo:yH)(h:za):List HP->Prop
 |[]=>lG lo h
 |A::L=>∃a,A a/\lo.dj a/\(∀b o,a b=some o->lo.ro<=b)/\Sat (lo.un a) h L
theorem yH.Le.refl(lo:yH):lo.Le lo:=⟨rfl,λ_ _ h=>h⟩
theorem yH.Le.trans{a b c:yH}(x:a.Le b)(y:b.Le c):a.Le c:=⟨y.ro.trans x.ro,λi o h=>y.get i o (x.get i o h)⟩
theorem yH.lz{lo:yH}{a:Part}(d:lo.dj a):lo.Le (lo.un a):=⟨rfl,λb x h=>by
 unfold yH.un;cases e:a b with
 |none=>simp only[e];exact h
 |some o=>rw[d b o e]at h;cases h⟩
theorem yH.uB{lo:yH}{a:Part}{b:Nat}{o:wS}(e:a b=some o):(lo.un a).get b=some (some o):=by simp only[yH.un,e]
theorem yH.qA{lo:yH}{a:Part}{b:Nat}(e:a b=none):(lo.un a).get b=lo.get b:=by simp only[yH.un,e]
theorem yH.Tm{lo:yH}{a c:Part}(d:(lo.un a).dj c):(lo.un a).un c=(lo.un c).un a:=by
 unfold yH.un
 congr 1
 funext x
 cases e:c x with
 |none=>simp only[e]
 |some o=>
  have:=d x o e;simp only[yH.un]at this;cases e2:a x with
  |none=>simp only[e]
  |some p=>rw[e2]at this;cases this
theorem yH.OE{lo:yH}{a c:Part}(d:lo.dj a)(k:(lo.un a).dj c):lo.dj c:=λx o e=>by
 cases e2:lo.get x with
 |none=>rfl
 |some p=>rw[<- k x o e,(yH.lz d).get x p e2]
theorem yH.R4{lo:yH}{a c:Part}(d:lo.dj a)(k:(lo.un a).dj c):(lo.un c).dj a:=λx o e=>by
 cases e2:c x with
 |none=>rw[yH.qA e2];exact d x o e
 |some p=>have:=k x p e2;rw[yH.uB e]at this;cases this
theorem yH.Le.dj{lo lo':yH}(l:lo.Le lo'){a:Part}(d:lo'.dj a):lo.dj a:=λx o e=>by
 cases e2:lo.get x with
 |none=>rfl
 |some p=>rw[<- d x o e,l.get x p e2]
theorem yH.Le.un{lo lo':yH}(l:lo.Le lo')(a:Part):(lo.un a).Le (lo'.un a):=⟨l.ro,λb x h=>by
 cases e:a b with
 |none=>rw[yH.qA e]at h ⊢;exact l.get b x h
 |some o=>rw[yH.uB e]at h ⊢;exact h⟩
theorem lG.mono{lo lo':yH}{h:za}(l:lo.Le lo')(x:lG lo' h):lG lo h:=⟨x.ro.trans l.ro,x.Fw,λb y e=>x.get b y (l.get b y e)⟩
theorem Sat.mono{h:za}:∀{L:List HP} {lo lo':yH},lo.Le lo'->Sat lo' h L->Sat lo h L
 |[],lo,lo',l,x=>lG.mono l x
 |A::L,lo,lo',l,⟨a,ha,d,w,x⟩=>⟨a,ha,l.dj d,λb o e=>by rw[<- l.ro];exact w b o e,Sat.mono (l.un a) x⟩
theorem Sat.base{h:za}:∀{L:List HP} {lo:yH},Sat lo h L->lG lo h
 |[],_,x=>x
 |A::L,_,⟨_,_,d,_,x⟩=>(Sat.base x).mono (yH.lz d)
theorem Sat.part{h:za}{A:HP}:∀{L:List HP} {lo:yH},Sat lo h L->A∈L->∃a,A a/\lo.dj a /\ ∀b o,a b=some o->h.get b=some o/\h.ro<=b/\b<h.next
 |B::L,lo,⟨a,ha,d,w,x⟩,hm=>by
  rcases aaz.1 hm with rfl|hm
  ·refine⟨a,ha,d,λb o e=>?_⟩;have bs:=Sat.base x;obtain⟨g1,g2⟩:=bs.get b _ (yH.uB e);exact⟨g1,by rw[bs.ro];exact w b o e,g2⟩
  ·obtain⟨c,hc,dc,g⟩:=Sat.part x hm;exact⟨c,hc,yH.OE d dc,g⟩
theorem Sat.swap{h:za}{A B:HP}{L:List HP}{lo:yH}(x:Sat lo h (A::B::L)):Sat lo h (B::A::L):=by
 obtain⟨a,ha,d,w,c,hc,dc,wc,x⟩:=x;exact⟨c,hc,yH.OE d dc,wc,a,ha,yH.R4 d dc,w,by rw[<- yH.Tm dc];exact x⟩
theorem Sat.cons{h:za}{A:HP}{L L':List HP}(f:∀lo,Sat lo h L->Sat lo h L'){lo:yH}(x:Sat lo h (A::L)):Sat lo h (A::L'):=by
 obtain⟨a,ha,d,w,x⟩:=x;exact⟨a,ha,d,w,f _ x⟩
theorem Sat.perm{h:za}{L L':List HP}(p:L.Perm L'):∀{lo:yH},Sat lo h L->Sat lo h L':=by
 induction p with
 |nil=>exact λx=>x
 |cons A p ih=>exact λx=>x.cons λlo=>ih
 |swap A B L=>exact λx=>x.swap
 |trans p q ih1 ih2=>exact λx=>ih2 (ih1 x)
theorem Sat.drop{h:za}{A:HP}{L:List HP}{lo:yH}(x:Sat lo h (A::L)):Sat lo h L:=by
 obtain⟨a,ha,d,w,x⟩:=x;exact x.mono (yH.lz d)
theorem Sat.zaa{h:za}{L':List HP}{lo:yH}:∀{L:List HP},Sat lo h (L++L')->Sat lo h L'
 |[],x=>x
 |A::L,x=>Sat.zaa (L:=L) x.drop
def rE:Nat->List HP->List HP
 |0,L=>L
 |_+1,[]=>[]
 |i+1,A::L=>match rE i L with
  |[]=>[A]
  |B::L'=>B::A::L'
theorem ir:∀(i:Nat) (L:List HP),L.Perm (rE i L)
 |0,L=>List.Perm.refl _
 |_+1,[]=>List.Perm.refl _
 |i+1,A::L=>by
  have ih:=ir i L;unfold rE;split
  ·rename_i e;rw[e]at ih;exact ih.cons A
  ·rename_i B L' e;rw[e]at ih;exact(ih.cons A).trans (List.Perm.swap _ _ _)
theorem Sat.p{h:za}{L:List HP}{lo:yH}(x:Sat lo h L)(i:Nat):Sat lo h (rE i L):=x.perm (ir i L)
def mh:List Nat->List Nat->List HP->List HP
 |[],_,L=>L
 |i::is,prev,L=>match rE (i-(prev.filter λj=>Nat.blt j i).length) L with
  |[]=>[]
  |A::L'=>A::mh is (i::prev) L'
def front(is:List Nat)(L:List HP):List HP:=mh is [] L
theorem fE:∀(is prev:List Nat) (L:List HP),L.Perm (mh is prev L)
 |[],_,L=>List.Perm.refl _
 |i::is,prev,L=>by
  have p:=ir (i-(prev.filter λj=>Nat.blt j i).length) L;unfold mh;split
  ·rename_i e;rw[e]at p;exact p
  ·rename_i A L' e;rw[e]at p;exact p.trans ((fE _ _ L').cons A)
theorem Hb(is:List Nat)(L:List HP):L.Perm (front is L):=fE _ _ _
theorem Sat.f{h:za}{L:List HP}{lo:yH}(x:Sat lo h L)(is:List Nat):Sat lo h (front is L):=x.perm (Hb is L)
theorem Sat.yN{h:za}{L:List HP}{lo:yH}(x:Sat lo h L)(n:Nat):Sat lo h (L.take n):=by
 have q:(L.take n++L.drop n).Perm (L.drop n++L.take n):=List.perm_append_comm;rw[abl]at q;exact(x.perm q).zaa
theorem Sat.k{h:za}{L:List HP}{lo:yH}(x:Sat lo h L)(is:List Nat):Sat lo h ((front is L).take is.length):=(x.f is).yN _
theorem Sat.to{h h':za}:∀{L:List HP} {lo lo':yH},Sat lo h L->(∀b,b<h.next->lo.get b=none->lo'.get b=none)->lG lo' h'->lo'.ro=lo.ro->h.next<=h'.next->(∀b,b<h.next->lo.get b=none->h'.get b=h.get b)->Sat lo' h' L
 |[],_,_,_,_,b,_,_,_=>b
 |A::L,lo,lo',⟨a,ha,d,w,x⟩,k,b,r,n,g=>by
  have bs:=Sat.base x;have lt:∀y o,a y=some o->y<h.next:=λy o e=>(bs.get y _ (yH.uB e)).2
  have dn:∀y,(lo.un a).get y=none->a y=none/\lo.get y=none:=λy e=>by
   cases e2:a y with
   |none=>rw[yH.qA e2]at e;exact⟨rfl,e⟩
   |some o=>rw[yH.uB e2]at e;cases e
  refine⟨a,ha,λy o e=>k y (lt y o e) (d y o e),λy o e=>by rw[r];exact w y o e,Sat.to x (λy hy e=>?_) ?_ r n λy hy e=>?_⟩
  ·rw[yH.qA (dn y e).1];exact k y hy (dn y e).2
  ·refine⟨b.ro,b.Fw,λy z e=>?_⟩;cases e2:a y with
   |none=>rw[yH.qA e2]at e;exact b.get y z e
   |some o=>
    rw[yH.uB e2]at e;cases e;exact⟨(g y (lt y o e2) (d y o e2)).trans (bs.get y _ (yH.uB e2)).1,aap (lt y o e2) n⟩
  ·exact g y hy (dn y e).2
def pt(b:Nat)(o:wS):HP:=λm=>∀x,m x=if x=b then some o else none
theorem Sat.zaM{h:za}{L:List HP}{lo:yH}(x:Sat lo h L){b:Nat}{o:wS}(hm:pt b o∈L):h.get b=some o/\h.ro<=b/\b<h.next:=by
 obtain⟨a,ha,_,g⟩:=x.part hm;exact g b o (by rw[ha b,aah rfl])
theorem Sat.get{h:za}{L:List HP}{lo:yH}{b:Nat}{o:wS}(x:Sat lo h (pt b o::L)):h.get b=some o:=(x.zaM (aak ..)).1
theorem Sat.wr{h:za}{L:List HP}{lo:yH}{b:Nat}{o:wS}(x:Sat lo h (pt b o::L)):h.ro<=b:=(x.zaM (aak ..)).2.1
theorem Sat.lt{h:za}{L:List HP}{lo:yH}{b:Nat}{o:wS}(x:Sat lo h (pt b o::L)):b<h.next:=(x.zaM (aak ..)).2.2
theorem Sat.ne{h:za}{L:List HP}{lo:yH}{b c:Nat}{o o':wS}(x:Sat lo h (pt b o::pt c o'::L)):¬b=c:=by
 rintro rfl;obtain⟨a,ha,d,w,e,he,de,we,x⟩:=x;have:=de b o' (by rw[he,aah rfl]);rw[yH.uB (o:=o) (by rw[ha,aah rfl])]at this;cases this
theorem Sat.push{h:za}{L:List HP}{lo:yH}(x:Sat lo h L)(o:wS):Sat lo (h.push o) (pt h.next o::L):=by
 have bs:=x.base
 have hn:lo.get h.next=none:=by
  cases e:lo.get h.next with
  |none=>rfl
  |some y=>exact absurd (bs.get _ _ e).2 (Nat.lt_irrefl _)
 refine⟨λy=>if y=h.next then some o else none,λ_=>rfl,λy p e=>?_,λy p e=>?_,x.to (λy hy e=>?_) ⟨bs.ro,abN bs.Fw,λy z e=>?_⟩ rfl (abx _) λy hy _=>yR hy⟩
 ·dsimp only at e;split at e
  ·rename_i q;rw[q];exact hn
  ·cases e
 ·dsimp only at e;split at e
  ·rename_i q;rw[q,<- bs.ro];exact bs.Fw
  ·cases e
 ·rw[yH.qA (by rw[aae (by omega)])];exact e
 ·by_cases q:y=h.next
  ·subst q;rw[yH.uB (o:=o) (by rw[aah rfl])]at e;cases e;exact⟨wQ,aa6 _⟩
  ·rw[yH.qA (by rw[aae q])]at e;obtain⟨g1,g2⟩:=bs.get y z e;exact⟨(yR g2).trans g1,abF g2⟩
theorem Sat.set{h:za}{L:List HP}{lo:yH}{b:Nat}{o:wS}(x:Sat lo h (pt b o::L))(o':wS):Sat lo (h.set b (some o')) (pt b o'::L):=by
 obtain⟨a,ha,d,w,x⟩:=x;have hb:lo.get b=none:=d b o (by rw[ha b,aah rfl]);have bs:=x.base;refine⟨λy=>if y=b then some o' else none,λ_=>rfl,λy p e=>?_,λy p e=>?_,x.to (λy hy e=>?_) ⟨bs.ro,bs.Fw,λy z e=>?_⟩ rfl (aaj _) λy hy e=>?_⟩
 ·dsimp only at e;split at e
  ·rename_i q;rw[q];exact hb
  ·cases e
 ·dsimp only at e;split at e
  ·rename_i q;rw[q];exact w b o (by rw[ha b,aah rfl])
  ·cases e
 ·have q:y≠b:=by rintro rfl;rw[yH.uB (o:=o) (by rw[ha,aah rfl])]at e;cases e
  rw[yH.qA (by rw[ha,aae q])]at e;rw[yH.qA (by rw[aae q])];exact e
 ·by_cases q:y=b
  ·subst q;rw[yH.uB (o:=o') (by rw[aah rfl])]at e;cases e;exact⟨Z3,(bs.get y _ (yH.uB (o:=o) (by rw[ha,aah rfl]))).2⟩
  ·rw[yH.qA (by rw[aae q])]at e;obtain⟨g1,g2⟩:=bs.get y z (by rw[yH.qA (by rw[ha,aae q])];exact e);exact⟨(qL q).trans g1,g2⟩
 ·have q:y≠b:=by rintro rfl;rw[yH.uB (o:=o) (by rw[ha,aah rfl])]at e;cases e
  exact qL q
theorem Sat.forget{h:za}{L:List HP}{lo:yH}{b:Nat}{o:wS}(x:Sat lo h (pt b o::L))(z:Option wS):Sat lo (h.set b z) L:=by
 obtain⟨a,ha,d,w,x⟩:=x;have hb:lo.get b=none:=d b o (by rw[ha b,aah rfl]);have bs:=x.base;refine x.to (λy hy e=>?_) ⟨bs.ro,bs.Fw,λy z e=>?_⟩ rfl (aaj _) λy hy e=>?_
 ·cases q:lo.get y with
  |none=>rfl
  |some v=>rw[(yH.lz d).get y v q]at e;cases e
 ·have q:y≠b:=by rintro rfl;rw[hb]at e;cases e
  obtain⟨g1,g2⟩:=bs.get y z ((yH.lz d).get y z e);exact⟨(qL q).trans g1,g2⟩
 ·have q:y≠b:=by rintro rfl;rw[yH.uB (o:=o) (by rw[ha,aah rfl])]at e;cases e
  exact qL q
theorem vR{h:za}{L:List HP}{lo:yH}{c:List aaa}{t:TypeId}{K:aaa->za->Prop}(s:Sat lo h L)(k:∀b h',Sat lo h' (pt b (.cells c t)::L)->K (.pointer (some ⟨b,0,none⟩)) h'):nw h c t K:=k _ _ (s.push _)
theorem zY{h:za}{L:List HP}{lo:yH}{b off:Nat}{cs vs:List aaa}{t:TypeId}{K:za->Prop}(s:Sat lo h (pt b (.cells cs t)::L))(hl:off+vs.length<=cs.length)(hc:vs.all xX=true)(k:∀h',Sat lo h' (pt b (.cells (zt cs off vs) t)::L)->K h'):opt (sU h b off vs) K:=by
 rw[Rl s.get,aah ⟨hl,s.wr,hc⟩];exact k _ (s.set _)
theorem k9{h:za}{R:aaa->za->Prop}:rv [] h R=R (xV []) h:=by
 unfold rv;simp only[yk,true_and]
theorem Sat.Pd{h h':za}{L:List HP}{lo:yH}(x:Sat lo h L)(hn:h.next<=h'.next)(hr:h'.ro=h.ro)(hg:∀b,b<h.next->h'.get b=h.get b):Sat lo h' L:=by
 have bs:=x.base;exact x.to (λ_ _ e=>e) ⟨hr.trans bs.ro,by rw[hr];exact aaU bs.Fw hn,λb y e=>⟨(hg b (bs.get b y e).2).trans (bs.get b y e).1,aap (bs.get b y e).2 hn⟩⟩ rfl hn λb hb _=>hg b hb
def ex{α:Type}(f:α->HP):HP:=λm=>∃x,f x m
theorem Sat.OJ{h:za}{α:Type}{f:α->HP}{L:List HP}{lo:yH}:Sat lo h (ex f::L) ↔ ∃x,Sat lo h (f x::L) :=
 ⟨λ⟨a,⟨x,hx⟩,d,w,s⟩=>⟨x,a,hx,d,w,s⟩,λ⟨x,a,hx,d,w,s⟩=>⟨a,⟨x,hx⟩,d,w,s⟩⟩
theorem Sat.Tn{h:za}{α:Type}{f:α->HP}{L:List HP}{lo:yH}(s:Sat lo h (ex f::L)):∃x,Sat lo h (f x::L):=Sat.OJ.1 s
theorem Sat.SD{h:za}{α:Type}{f:α->HP}{L:List HP}{lo:yH}(x:α)(s:Sat lo h (f x::L)):Sat lo h (ex f::L):=Sat.OJ.2 ⟨x,s⟩
theorem yH.CB{lo:yH}{a:Part}(e:∀x,a x=none):lo.un a=lo:=by
 unfold yH.un;cases lo
 congr 1
 funext x
 simp only[e x]
def Qt:List HP->HP
 |[]=>λm=>∀x,m x=none
 |A::L=>λm=>∃a b,A a/\Qt L b/\(∀x o,b x=some o->a x=none) /\ ∀x,m x=match b x with
  |some o=>some o
  |none=>a x
theorem yH.zak{lo:yH}{a b m:Part}(hm:∀x,m x=match b x with
  |some o=>some o
  |none=>a x):lo.un m=(lo.un a).un b:=by
 unfold yH.un
 congr 1
 funext x
 rw[hm x];cases b x <;> rfl
theorem Sat.aJ{h:za}{L:List HP}:∀{M:List HP} {lo:yH},Sat lo h (Qt M::L) ↔ Sat lo h (M++L)
 |[],lo=>⟨λ⟨a,ha,d,w,s⟩=>by rw[yH.CB ha]at s;exact s,λs=>⟨λ_=>none,λ_=>rfl,λ_ _ e=>(by cases e),λ_ _ e=>(by cases e),by rw[yH.CB λ_=>rfl];exact s⟩⟩
 |A::M,lo=>by
  constructor
  ·rintro⟨m,⟨a,b,ha,hb,dab,hm⟩,d,w,s⟩
   have da:lo.dj a:=λx o e=>by
    cases q:b x with
    |none=>exact d x o (by rw[hm x,q];exact e)
    |some p=>rw[dab x p q]at e;cases e
   refine⟨a,ha,da,λx o e=>?_,Sat.aJ.1 ⟨b,hb,λx o e=>?_,λx o e=>?_,?_⟩⟩
   ·cases q:b x with
    |none=>exact w x o (by rw[hm x,q];exact e)
    |some p=>rw[dab x p q]at e;cases e
   ·rw[yH.qA (dab x o e)];exact d x o (by rw[hm x,e])
   ·exact w x o (by rw[hm x,e])
   ·rw[<- yH.zak hm];exact s
  ·rintro⟨a,ha,d,w,s⟩;obtain⟨b,hb,db,wb,s⟩:=Sat.aJ.2 s
   refine⟨λx=>match b x with
    |some o=>some o
    |none=>a x,⟨a,b,ha,hb,λx o e=>?_,λ_=>rfl⟩,λx o e=>?_,λx o e=>?_,?_⟩
   ·cases q:a x with
    |none=>rfl
    |some p=>have:=db x o e;rw[yH.uB q]at this;cases this
   ·dsimp only at e;split at e
    ·rename_i p q;exact yH.OE d db x p q
    ·exact d x o e
   ·dsimp only at e;split at e
    ·rename_i p q;exact wb x p q
    ·exact w x o e
   ·rw[yH.zak (a:=a) (b:=b) λ_=>rfl];exact s
theorem Sat.open{h:za}{M L:List HP}{lo:yH}(s:Sat lo h (Qt M::L)):Sat lo h (M++L):=Sat.aJ.1 s
theorem Sat.close{h:za}{M L:List HP}{lo:yH}(s:Sat lo h (M++L)):Sat lo h (Qt M::L):=Sat.aJ.2 s
theorem Sat.self{h:za}(hr:h.ro<=h.next):Sat (.of h) h []:=⟨rfl,hr,λb x e=>by
 unfold yH.of at e;dsimp only at e;split at e
 ·cases e;exact⟨rfl,by assumption⟩
 ·cases e⟩
theorem Sat.join{h h':za}{L L':List HP}{lo:yH}(x:Sat lo h L)(y:Sat (.of h) h' L'):Sat lo h' (L'++L):=by
 have bx:=x.base;have by':=y.base;have get:∀b,b<h.next->h'.get b=h.get b/\b<h'.next:=λb hb=>by'.get b _ (by unfold yH.of;dsimp only;rw[aah hb])
 have hn:h.next<=h'.next:=by
  rcases acp h.next with e|e
  ·omega
  ·have:=(get (h.next-1) (by omega)).2;omega
 have key:∀(L':List HP) (lo lo2:yH),Sat lo2 h' L'->lo2.ro=lo.ro->(∀b,b<h.next->lo2.get b≠none)->(∀b,h.next<=b->lo.get b=lo2.get b)->lG lo h' ->
   (∀lo3,yH.Le lo lo3->(∀b,b<h.next->lo3.get b=lo.get b)->lG lo3 h'->Sat lo3 h' L)->Sat lo h' (L'++L):=by
  intro L'
  induction L' with
  |nil=>intro lo lo2 _ _ _ _ b k;exact k lo (.refl lo) (λ_ _=>rfl) b
  |cons A L' ih=>
   rintro lo lo2 ⟨a,ha,d,w,s⟩ r f e b k
   have up:∀y o,a y=some o->h.next<=y:=λy o q=>by
    rcases aaI y h.next with z|z
    ·exact absurd (d y o q) (f y z)
    ·exact z
   have bs:=s.base;have dl:lo.dj a:=λy o q=>by rw[e y (up y o q)];exact d y o q
   refine⟨a,ha,dl,λy o q=>by rw[<- r];exact w y o q,ih (lo.un a) (lo2.un a) s r (λy hy=>?_) (λy hy=>?_) ⟨b.ro,b.Fw,λy z q=>?_⟩ λlo3 l3 q3 b3=>k lo3 ((yH.lz dl).trans l3) (λy hy=>?_) b3⟩
   ·cases q:a y with
    |none=>rw[yH.qA q];exact f y hy
    |some o=>rw[yH.uB q];simp
   ·cases q:a y with
    |none=>rw[yH.qA q,yH.qA q];exact e y hy
    |some o=>rw[yH.uB q,yH.uB q]
   ·cases q2:a y with
    |none=>rw[yH.qA q2]at q;exact b.get y z q
    |some o=>rw[yH.uB q2]at q;cases q;exact bs.get y _ (yH.uB q2)
   ·rw[q3 y hy];cases q:a y with
    |none=>rw[yH.qA q]
    |some o=>have:=up y o q;omega
 have rr:(yH.of h).ro=lo.ro:=bx.ro;refine key L' lo (.of h) y rr (λb hb=>by unfold yH.of;dsimp only;rw[aah hb];simp) (λb hb=>?_) ⟨by rw[by'.ro];exact rr,by'.Fw,λb z e=>?_⟩ λlo3 l3 q3 b3=>?_
 ·unfold yH.of;dsimp only;rw[aae (by omega)];cases e:lo.get b with
  |none=>rfl
  |some z=>have:=(bx.get b z e).2;omega
 ·obtain⟨g1,g2⟩:=bx.get b z e;exact⟨(get b g2).1.trans g1,(get b g2).2⟩
 ·exact x.to (λb hb e=>by rw[q3 b hb];exact e) b3 l3.ro hn λb hb _=>(get b hb).1
theorem Sat.zag{h h':za}:∀{L:List HP} {lo lo':yH},Sat lo h L->lo'.get=lo.get->lo'.ro<=lo.ro->h'.ro=lo'.ro->h'.ro<=h'.next->h.next<=h'.next->(∀b,b<h.next->h'.get b=h.get b)->Sat lo' h' L
 |[],lo,lo',x,g,r,e,k,n,he=>⟨e,k,λb z hz=>by
  rw[g]at hz;obtain⟨h1,h2⟩:=lG.get x b z hz;exact⟨(he b h2).trans h1,aap h2 n⟩⟩
 |A::L,lo,lo',⟨a,ha,d,w,x⟩,g,r,e,k,n,he=>
  ⟨a,ha,λy o q=>by rw[g];exact d y o q,λb o q=>aaU r (w b o q),Sat.zag x (by unfold yH.un;rw[g]) r e k n he⟩
theorem Sat.vE{h h2:za}{L L':List HP}{lo:yH}(s:Sat lo h L)(s2:Sat (.of h.lock) h2 L'):Sat lo (Go.Ai.vE h h2) (L'++L):=by
 have b1:=s.base;have b2:=s2.base;have old:∀b,b<h.next->h2.get b=h.get b/\b<h2.next:=λb hb=>b2.get b _ (by unfold yH.of;dsimp only;rw[aah (by exact hb)];rfl)
 have hn:h.next<=h2.next:=by
  rcases acp h.next with e|e
  ·omega
  ·have:=(old (h.next-1) (by omega)).2;omega
 have gr:(Go.Ai.vE h h2).ro=h.ro:=rfl;have gn:(Go.Ai.vE h h2).next=h2.next:=rfl;refine s.join (s2.zag (lo' := .of h) rfl b1.Fw gr (by rw[gr,gn];exact aaU b1.Fw hn) (by rw[gn];exact aaj _) λb hb=>?_);rw[wU];by_cases q:h.next<=b
 ·rw[aah ⟨q,hb⟩]
 ·rw[aae (by omega),(old b (by omega)).1]
theorem I0{h:za}{L:List HP}{lo:yH}{c:List aaa}{t:TypeId}{K:aaa->za->Prop}(s:Sat lo h L)(wf:qC h)(k:∀b h',qC h'->Sat lo h' (pt b (.cells c t)::L)->K (.pointer (some ⟨b,0,none⟩)) h'):nw h c t K:=k _ _ (FO wf _) (s.push _)
theorem Ih{P:Program}{g:FuncId}{args:List aaa}{h:za}{L:List HP}{lo:yH}{K R:aaa->za->Prop}(hc:xW P g=true)(hn:yk args=true)(wf:qC h)(s:Sat lo h L)(d:DC P g args h.lock R)(hk:∀v h2,R v h2->(∀L',Sat (.of h.lock) h2 L'->Sat lo (vE h h2) (L'++L))->qC (vE h h2)->K v (vE h h2)):Ue P g args h K:=by
 have wl:qC h.lock:=⟨wf.1,aaj _⟩;obtain⟨v,h1,r,af,t⟩:=d wl;refine⟨hc,hn,v,h1,t,af,hk v h1 r (λL' s2=>s.vE s2) ?_⟩;have w1:=wl.af af;have hn:h.next<=h1.next:=af.next;refine⟨λb o hb=>?_,?_⟩
 ·rw[wU]at hb;show b<h1.next;split at hb
  ·omega
  ·exact aap (wf.1 b o hb) hn
 ·show h.ro<=h1.next;exact aaU wf.2 hn
theorem DC.zcQ{P:Program}{f:FuncId}{args:List aaa}{h:za}{R R':aaa->za->Prop}(d:DC P f args h R)(m:∀v h1,R v h1->qC h1->R' v h1):DC P f args h R':=λwf=>by
 obtain⟨v,h1,r,af,t⟩:=d wf;exact⟨v,h1,m v h1 r (wf.af af),af,t⟩
structure yH.Has (lo:yH) (h0:za):Prop where
 ro:lo.ro=h0.ro
 get:∀b,b<h0.next->lo.get b=some (h0.get b)
theorem yH.Wx(h:za):(yH.of h).Has h:=⟨rfl,λb hb=>by unfold yH.of;dsimp only;rw[aah hb]⟩
theorem yH.Has.old{lo:yH}{h0 h:za}(x:lo.Has h0)(b:lG lo h):h0.next<=h.next/\h.ro=h0.ro /\ ∀c,c<h0.next->h.get c=h0.get c:=by
 refine⟨?_,b.ro.trans x.ro,λc hc=>(b.get c _ (x.get c hc)).1⟩;rcases acp h0.next with e|e
 ·omega
 ·have:=(b.get (h0.next-1) _ (x.get _ (by omega))).2;omega
end
theorem zB(A:(List aaa->za->Prop)->Prop)(J:List aaa->za->Prop):BK A J=A J:=rfl
end Go.Ai
