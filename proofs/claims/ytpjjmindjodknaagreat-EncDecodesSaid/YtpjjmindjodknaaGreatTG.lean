import Derived.Test.YtpjjmindjodknaaGreatTF
set_option linter.unusedVariables false
set_option linter.unusedSimpArgs false
set_option maxRecDepth 100000
namespace Go.Ai
noncomputable section
variable {P:Program}
def Ok(P:Program)(l:List TypeId):Bool:=match l with
 |[t]=>(match yg P (underlying t) with
  |some (.slice _)=>true
  |_=>false)
 |_=>false
def qG(P:Program)(q:FuncId->Nat)(o:Oper):Nat:=match o.op with
 | .load _ _=>1
 | .store _ _ _=>2
 | .call {callee := .builtin .len,argTypes,.. }=>cond (Ok P argTypes.toList) 0 3
 |_=>(match x9 q o with
  |0=>0
  |1=>3
  |_=>4)
def OS(x y:Nat):Bool:=Nat.beq x 0||Nat.beq y 0||((Nat.beq x 1||Nat.beq x 3)&&(Nat.beq y 1||Nat.beq y 3))||(Nat.beq x 1&&Nat.beq y 2)||(Nat.beq x 2&&Nat.beq y 1)
def me(P:Program)(q:FuncId->Nat):List Oper->List Nat->List (Nat×Nat)->Bool
 |[],_,_=>true
 |o::os,ms,prev=>Nat.ble (qG P q o) 3&&(prev.all λx=>(yz ms o).testBit x.1||OS x.2 (qG P q o))&&me P q os (ms++[yz ms o]) ((ms.length,qG P q o)::prev)
def oO(P:Program)(q:FuncId->Nat)(ops:Array Oper):Bool:=Zn ops ops.toList 0 [] []&&me P q ops.toList [] []
def Pt(P:Program)(t:TypeId):Nat:=match yg P (isAgg t) with
 |some true=>(match yg P (sizeOf t) with
  |some n=>n
  |none=>0)
 |_=>1
def Tl(P:Program)(t:TypeId):Nat:=match yg P (sizeOf t) with
 |some n=>n
 |none=>0
def Hz(n:Nat)(a:aaa)(m:Nat)(c:aaa):Prop:=match a,c with
 | .pointer (some ⟨b,o,none⟩),.pointer (some ⟨c,p,none⟩)=>b≠c\/o+n<=p\/p+m<=o
 |_,_=>False
theorem oE{n m b o c p:Nat}:Hz n (.pointer (some ⟨b,o,none⟩)) m (.pointer (some ⟨c,p,none⟩))=(b≠c\/o+n<=p\/p+m<=o):=rfl
def eE(m:Nat)(st:Bool)(n:Nat)(a:aaa):List (Nat×Bool×Nat×aaa)->Prop->Prop
 |[],Q=>Q
 |x::l,Q=>Mx (m.testBit x.1||(st == x.2.1)) (eE m st n a l Q) (Hz n a x.2.2.1 x.2.2.2/\eE m st n a l Q)
def Mc(P:Program)(s:Env)(o:Oper)(m:Nat)(fl:List (Nat×Bool×Nat×aaa))(h:za)(K:aaa->za->Prop):Prop:=match o.op with
 | .load t a=>eE m false (Pt P t) (ev s a) fl (opt (zd P t (ev s a) h) λv=>K v h)
 | .store t a x=>eE m true (Tl P t) (ev s a) fl (opt (nb [ev s x] (ux P t (ev s a) (ev s x) h)) λh'=>K undef h')
 | .call {callee := .value (.func g),args,argTypes}=>qu P g (cX s args.toList) h λv=>K v h
 |_=>L9 P s o h K
def D9(P:Program)(s:Env)(o:Oper)(i:Nat)(fl:List (Nat×Bool×Nat×aaa)):List (Nat×Bool×Nat×aaa):=match o.op with
 | .load t a=>fl++[(i,false,Pt P t,ev s a)]
 | .store t a _=>fl++[(i,true,Tl P t,ev s a)]
 |_=>fl
def Fh(P:Program)(ops:Array Oper):List Oper->Nat->List Nat->List (Nat×Bool×Nat×aaa)->Env->za->(Env->za->Prop)->Prop
 |[],_,_,_,s,h,K=>K s h
 |o::os,i,ms,fl,s,h,K=>(match o.guard with
  |none=>Mc P s o (yz ms o) fl h λv h1=>(match s.put o.dst v with
   |some s1=>Fh P ops os (i+1) (ms++[yz ms o]) (D9 P s o i fl) s1 h1 K
   |none=>False)
  |some (j,want)=>(match (ops[j]?).bind (·.dst) with
   |none=>False
   |some d=>GD (s.get d) want (Mc P s o (yz ms o) fl h) (λv h1=>(match s.put o.dst v with
    |some s1=>Fh P ops os (i+1) (ms++[yz ms o]) (D9 P s o i fl) s1 h1 K
    |none=>False)) h))
def D7(P:Program)(q:FuncId->Nat)(ops:Array Oper)(s:Env)(h:za)(K:Env->za->Prop):Prop:=Mx (oO P q ops) (Fh P ops ops.toList 0 [] [] s h K) False
theorem J8{m:Nat}{st:Bool}{n:Nat}{a:aaa}:∀{l:List (Nat×Bool×Nat×aaa)} {Q:Prop},eE m st n a l Q->Q /\ ∀x,x∈l->m.testBit x.1=false->x.2.1≠st->Hz n a x.2.2.1 x.2.2.2
 |[],Q,h=>⟨h,λx hx=>(by cases hx)⟩
 |y::l,Q,h=>by
  unfold eE at h;cases hb:(m.testBit y.1||(st == y.2.1)) with
  |true=>
   rw[hb]at h;obtain⟨h1,h2⟩:=J8 (l:=l) h;refine⟨h1,λx hx hm hs=>?_⟩;rcases aaP.1 hx with rfl|hx
   ·rw[hm,acz,beq_iff_eq]at hb;exact absurd hb.symm hs
   ·exact h2 x hx hm hs
  |false=>
   rw[hb]at h;obtain⟨h0,h⟩:=h;obtain⟨h1,h2⟩:=J8 (l:=l) h;refine⟨h1,λx hx hm hs=>?_⟩;rcases aaP.1 hx with rfl|hx
   ·exact h0
   ·exact h2 x hx hm hs
theorem lI(vs:List aaa):∀(c:List aaa) (o k:Nat),k<o\/o+vs.length<=k->(zu c o vs)[k]? = c[k]?:=by
 induction vs with
 |nil=>intro c o k _;rfl
 |cons v vs ih=>
  intro c o k hk;simp only[zu];simp only[aa3]at hk;rw[ih _ _ _ (by omega),ab5 (by omega)]
theorem ly{c vs:List aaa}{t:TypeId}{o off n:Nat}(h:off+n<=o\/o+vs.length<=off):fE (some (.cells (zu c o vs) t)) off n=fE (some (.cells c t)) off n:=by
 simp only[fE,xK];by_cases hl:off+n<=c.length
 ·rw[aai hl,aai hl]
  congr 1
  apply abV;intro k;by_cases hk:k<n
  ·rw[aa0 hk,aa0 hk,aaS,aaS,lI _ _ _ _ (by omega)]
  ·rw[aat (by simp;omega),aat (by simp;omega)]
 ·rw[aag hl,aag hl]
theorem Li{t:TypeId}{b off:Nat}{g g2:za}{v:aaa}(h:zd P t (.pointer (some ⟨b,off,none⟩)) g=some v)(e:fE (g2.get b) off (Pt P t)=fE (g.get b) off (Pt P t)):zd P t (.pointer (some ⟨b,off,none⟩)) g2=some v:=by
 unfold zd Pt at *
 simp only at *
 cases hg:g.get b with
 |none=>rw[hg]at h;cases h
 |some ob=>
  rw[hg]at h e;cases ob with
  |cells c t1=>
   simp only at h;cases ha:yg P (isAgg t) with
   |none=>rw[ha]at h;cases h
   |some ag=>
    rw[ha]at h e;cases ag with
    |true=>
     simp only at h e;cases hs:yg P (sizeOf t) with
     |none=>rw[hs]at h;cases h
     |some n=>
      rw[hs]at h e;simp only at h e;obtain⟨hle,h⟩:=zo h;rw[abU]at hle;simp only[fE,aai hle]at e;cases hg2:g2.get b with
      |none=>rw[hg2]at e;cases e
      |some ob2=>
       rw[hg2]at e;cases ob2 with
       |cells c2 t2=>
        simp only at e;split at e
        ·rename_i hle2;simp only[aab]at e;simp only[show Nat.ble (off+n) c2.length=true by rw[abU];exact hle2,aav,e];exact h
        ·cases e
       |_=>simp at e
    |false=>
     simp only at h e
     have hlt:off<c.length:=by
      rcases aaL off c.length with q|q
      ·exact q
      ·rw[aat q]at h;cases h
     simp only[fE,aai (show off+1<=c.length from hlt)]at e;cases hg2:g2.get b with
     |none=>rw[hg2]at e;cases e
     |some ob2=>
      rw[hg2]at e;cases ob2 with
      |cells c2 t2=>
       simp only at e;split at e
       ·simp only[aab]at e;have:=congrArg (λl=>l[0]?) e;simp only[aa0 (Nat.zero_lt_one),aaS,Nat.add_zero]at this;exact this.trans h
       ·cases e
      |_=>simp at e
  |_=>simp at h
def L2(P:Program)(ops:Array Oper)(x:yr):Option (Nat×Nat×Nat):=match x.o.op with
 | .load t a=>(match kG x.s a with
   |some (.pointer (some ⟨b,off,none⟩))=>cond (yq ops x.s x.o) (some (b,off,Pt P t)) none
   |_=>none)
 |_=>none
structure RZ (P:Program) (q:FuncId->Nat) (ops:Array Oper) (fl:List (Nat×Bool×Nat×aaa)) (x:yr):Prop where
 k0:qG P q x.o=0->(∀b,x.rd b=false) /\ ∀b,x.tc b=false
 k13:qG P q x.o=1\/qG P q x.o=3->∀b,x.tc b=false
 k1:qG P q x.o=1->(∀b,x.rd b=false) \/ ∃b off sp n,(∀c,x.rd c=true->c=b)/\(sp=none->L2 P ops x=some (b,off,n))/\(x.j,false,n,Value.pointer (some ⟨b,off,sp⟩))∈fl
 k2:qG P q x.o=2->((∀b,x.rd b=false) /\ ∀b,x.tc b=false) \/ ∃b off n c vs t,(∀d,x.rd d=true ↔ d=b)/\(∀d,x.tc d=true ↔ d=b)/\x.g.get b=some (.cells c t)/\x.g'.get b=some (.cells (zu c off vs) t)/\vs.length=n/\(x.j,true,n,Value.pointer (some ⟨b,off,none⟩))∈fl
theorem RZ.mono{q:FuncId->Nat}{ops:Array Oper}{fl fl':List (Nat×Bool×Nat×aaa)}{x:yr}(r:RZ P q ops fl x)(h:∀e,e∈fl->e∈fl'):RZ P q ops fl' x :=
 ⟨r.k0,r.k13,λe=>by
  rcases r.k1 e with h1|⟨b,off,sp,n,h1,h2,h3⟩
  ·exact .inl h1
  ·exact .inr ⟨b,off,sp,n,h1,h2,h _ h3⟩,λe=>by
  rcases r.k2 e with h1|⟨b,off,n,c,vs,t,h1,h2,h3,h4,h5,h6⟩
  ·exact .inl h1
  ·exact .inr ⟨b,off,n,c,vs,t,h1,h2,h3,h4,h5,h _ h6⟩⟩
structure X5 (P:Program) (ops:Array Oper) (s0:Env) (h0:za) (A:List yr) (i:Nat) (s:Env) (h:za):Prop where
 js:A.map (·.j)=List.range i
 env:∀t,s.get t=Uf A s0 t
 size:s.size=s0.size
 heap:∀b,h.get b=Yh A h0 b
 ro:h.ro=h0.ro
 next:h.next=h0.next
 wf:WF h
 told:∀A1 r A2,A=A1++r::A2->MI (L2 P ops) P ops s0 h0 A1 r
 Vc:∀A1 r A2,A=A1++r::A2->∀e,e∈r.o.after->Region.binds .any e=true->∃x,x∈A1/\x.j=e.on
 apart:∀A1 x A2 y A3,A=A1++x::(A2++y::A3)->Prec ops x.j y.j\/WO (L2 P ops) ops x y
structure mr (P:Program) (q:FuncId->Nat) (ops:Array Oper) (s0:Env) (h0:za) (A:List yr) (i:Nat) (o:Oper) (s:Env) (h:za) (u:aaa) (h1:za) (m:Nat) (fl fl1:List (Nat×Bool×Nat×aaa)) (y:yr):Prop where
 hj:y.j=i
 yk:y.o=o
 r7:y.v=u
 told:MI (L2 P ops) P ops s0 h0 A y
 rz:RZ P q ops fl1 y
 heap:∀b,h1.get b=if y.tc b=true then y.g'.get b else h.get b
 ro:h1.ro=h.ro
 next:h1.next=h.next
 wf:WF h1
 af:AF h h1
 eE:∀e,e∈fl->m.testBit e.1=false->(qG P q o=1/\e.2.1=true->((∀b,y.rd b=false) \/ ∃b off sp n,(∀c,y.rd c=true->c=b)/\(sp=none->L2 P ops y=some (b,off,n))/\Hz n (.pointer (some ⟨b,off,sp⟩)) e.2.2.1 e.2.2.2)) /\
  (qG P q o=2/\e.2.1=false->((∀b,y.tc b=false) \/ ∃b off n c vs t,(∀d,y.rd d=true ↔ d=b)/\(∀d,y.tc d=true ↔ d=b)/\y.g.get b=some (.cells c t)/\y.g'.get b=some (.cells (zu c off vs) t)/\vs.length=n/\Hz n (.pointer (some ⟨b,off,none⟩)) e.2.2.1 e.2.2.2))
section
variable {q:FuncId->Nat}{ops:Array Oper}{s0:Env}{h0:za}{A:List yr}{i:Nat}{o:Oper}{s:Env}{h:za}{m:Nat}{fl fl1:List (Nat×Bool×Nat×aaa)}
theorem QT(F:X5 P ops s0 h0 A i s h)(ho:ops[i]? = some o)(hput:∀d,o.dst=some d->d<s.size){u:aaa}(hs:kO P ops s o (h.pick []) u (h.pick []))(hlk:∀t a,o.op=.load t a->yq ops s o=false):∃y,mr P q ops s0 h0 A i o s h u h m fl fl1 y:=by
 refine⟨⟨i,o,u,s,h.pick [],h.pick [],λ_=>false,λ_=>false⟩,rfl,rfl,rfl,
  ⟨⟨ho,F.env,F.size,λb=>by rw[uq];simp,F.ro,by show h0.next<=h.next;rw[F.next];exact aaj _,λx hx=>?_,aaj _,hs,λd hd=>by rw[<- F.size];exact hput d hd,λb hb=>(by cases hb),λb _=>rfl,λb o' hb=>(by cases hb)⟩,⟨F.next,F.next⟩,λb0 off n e=>?_⟩,
  ⟨λ_=>⟨λ_=>rfl,λ_=>rfl⟩,λ_ _=>rfl,λ_ => .inl λ_=>rfl,λ_ => .inl ⟨λ_=>rfl,λ_=>rfl⟩⟩,λb=>by simp,rfl,rfl,F.wf,.refl _,λe he hm=>⟨λ_ => .inl λ_=>rfl,λ_ => .inl λ_=>rfl⟩⟩
 ·obtain⟨A1,A2,rfl⟩:=aaR hx;have:=(F.told A1 x A2 rfl).still.2;show x.g'.next<=h.next;rw[this,F.next];exact aaj _
 ·exfalso;unfold L2 at e;simp only at e;split at e
  ·rename_i t a yk;split at e
   ·rw[hlk t a yk]at e;cases e
   ·cases e
  ·cases e
theorem Ik(F:X5 P ops s0 h0 A i s h):∀x,x∈A->x.g'.next<=h.next:=λx hx=>by
 obtain⟨A1,A2,rfl⟩:=aaR hx;have:=(F.told A1 x A2 rfl).still.2;rw[this,F.next];exact aaj _
theorem OB(F:X5 P ops s0 h0 A i s h):h0.next<=h.next:=by rw[F.next];exact aaj _
theorem zaQ{h:za}(w:WF h){b:Nat}(hb:¬b<h.next):h.get b=none:=by
 cases hh:h.get b with|none=>rfl|some o'=>exact absurd (w b o' hh) hb
theorem pR(F:X5 P ops s0 h0 A i s h)(ho:ops[i]? = some o)(hput:∀d,o.dst=some d->d<s.size){u:aaa}(hs:kO P ops s o h u h)(hk:qG P q o=3):∃y,mr P q ops s0 h0 A i o s h u h m fl fl1 y:=by
 have hrd:∀b,(Nat.blt b h.next=true) ↔ b<h.next:=λb=>by rw[aaM]
 have nl:∀t a,o.op=.load t a->False:=λt a e=>by unfold qG at hk;rw[e]at hk;cases hk
 refine⟨⟨i,o,u,s,h,h,λb=>Nat.blt b h.next,λ_=>false⟩,rfl,rfl,rfl,
  ⟨⟨ho,F.env,F.size,λb=>?_,F.ro,OB F,Ik F,aaj _,hs,λd hd=>by rw[<- F.size];exact hput d hd,λb hb=>(by cases hb),λb _=>rfl,λb o' hb=>(by cases hb)⟩,⟨F.next,F.next⟩,λb0 off n e=>?_⟩,
  ⟨λe=>by simp only at e;omega,λ_ _=>rfl,λe=>by simp only at e;omega,λe=>by simp only at e;omega⟩,λb=>by simp,rfl,rfl,F.wf,.refl _,λe he hm=>⟨λ⟨e,_⟩=>by omega,λ⟨e,_⟩=>by omega⟩⟩
 ·show h.get b=if Nat.blt b h.next=true then Yh A h0 b else none;by_cases hb:b<h.next
  ·rw[aai ((hrd b).2 hb),F.heap]
  ·rw[aag (λe=>hb ((hrd b).1 e)),zaQ F.wf hb]
 ·exfalso;unfold L2 at e;cases yk:o.op <;> simp only[yk]at e <;> first|(cases e;done)|exact nl _ _ yk
theorem Gw(F:X5 P ops s0 h0 A i s h)(ho:ops[i]? = some o)(hput:∀d,o.dst=some d->d<s.size)(hw:yq ops s o=true){t:TypeId}{a:Operand}(yk:o.op=.load t a){av u:aaa}(hav:kG s a=some av)(hl:zd P t av h=some u)
  (hcl:∀e,e∈fl->m.testBit e.1=false->e.2.1≠false->Hz (Pt P t) av e.2.2.1 e.2.2.2):∃y,mr P q ops s0 h0 A i o s h u h m fl (fl++[(i,false,Pt P t,av)]) y:=by
 have hk1:qG P q o=1:=by unfold qG;rw[yk]
 obtain⟨b,off,sp,rfl,hsp⟩:∃b off sp,av=.pointer (some ⟨b,off,sp⟩) /\ ∀g:za,g.get b=h.get b->zd P t av g=some u:=by
  unfold zd at hl;split at hl
  ·rename_i b off;exact⟨b,off,none,rfl,λg hg=>by unfold zd;simp only;rw[hg];exact hl⟩
  ·rename_i b off;exact⟨b,off,some 0,rfl,λg hg=>by unfold zd;simp only;rw[hg];exact hl⟩
  ·cases hl
 have sem:∀g:za,zd P t (.pointer (some ⟨b,off,sp⟩)) g=some u->kO P ops s o g u g:=λg hg => .inr ⟨hw,.inl (by unfold Um;simp only[yk,hav,hg,one])⟩
 refine⟨⟨i,o,u,s,h.pick [b],h.pick [b],λc=>decide (c=b),λ_=>false⟩,rfl,rfl,rfl,
  ⟨⟨ho,F.env,F.size,λc=>?_,F.ro,(OB F:h0.next<=h.next),λx hx=>Ik F x hx,aaj _,sem _ (hsp _ (by rw[uq,aai (by simp)])),λd hd=>by rw[<- F.size];exact hput d hd,λb hb=>(by cases hb),λb _=>rfl,λb o' hb=>(by cases hb)⟩,⟨F.next,F.next⟩,λb0 off0 n e=>?_⟩,
  ⟨λe=>by simp only at e;omega,λ_ _=>rfl,λ_ => .inr ⟨b,off,sp,Pt P t,λc hc=>by simpa using hc,λhsp0=>?_,by simp⟩,λe=>by simp only at e;omega⟩,λb=>by simp,rfl,rfl,F.wf,.refl _,λe he hm=>⟨λ⟨_,h1⟩ => .inr ⟨b,off,sp,Pt P t,λc hc=>by simpa using hc,λhsp0=>?_,hcl e he hm (by rw[h1];simp)⟩,λ⟨e,_⟩=>by omega⟩⟩
 ·show(h.pick [b]).get c=if decide (c=b)=true then Yh A h0 c else none;rw[uq];by_cases e:c=b
  ·subst e;simp[F.heap]
  ·simp[e]
 ·unfold L2 at e;simp only[yk,hav]at e;cases sp with
  |some k=>simp at e
  |none=>
   simp only[hw,aav,aab,aae]at e;obtain⟨rfl,rfl,rfl⟩:=e;exact⟨by simp,λc hc=>by simpa using hc,λ_=>rfl,λg hg=>sem g (Li (hsp _ (by rw[uq,aai (by simp)])) hg)⟩
 ·subst hsp0;unfold L2;simp only[yk,hav,hw,aav]
 ·subst hsp0;unfold L2;simp only[yk,hav,hw,aav]
theorem EG(F:X5 P ops s0 h0 A i s h)(ho:ops[i]? = some o)(hput:∀d,o.dst=some d->d<s.size)(hw:yq ops s o=true){t:TypeId}{a x:Operand}(yk:o.op=.store t a x){av xv:aaa}(hav:kG s a=some av)(hxv:kG s x=some xv){h1:za}(hl:ux P t av xv h=some h1)
  (hcl:∀e,e∈fl->m.testBit e.1=false->e.2.1≠true->Hz (Tl P t) av e.2.2.1 e.2.2.2):∃y,mr P q ops s0 h0 A i o s h undef h1 m fl (fl++[(i,true,Tl P t,av)]) y:=by
 have hk2:qG P q o=2:=by unfold qG;rw[yk]
 have af:=tR hl
 obtain⟨b,off,c,t',rfl,hg,hn,hh1,hst⟩:∃b off c t',av=.pointer (some ⟨b,off,none⟩)/\h.get b=some (.cells c t')/\xv.cells.size=Tl P t/\h1=h.set b (some (.cells (zu c off xv.cells.toList) t')) /\
   ∀g:za,g.get b=h.get b->g.ro=h.ro->ux P t av xv g=some (g.set b (some (.cells (zu c off xv.cells.toList) t'))):=by
  unfold ux at hl;split at hl
  ·rename_i b off;split at hl
   ·cases hl
   ·rename_i c t' hg;split at hl
    ·cases hl
    ·rename_i n hs;obtain⟨hc,hl⟩:=zo hl;simp only[aab]at hl;have hc':=hc;simp only[aad,acq]at hc';refine⟨b,off,c,t',rfl,hg,?_,hl.symm,λg hgg hro=>?_⟩
     ·unfold Tl;rw[hs];exact hc'.1.1.1
     ·unfold ux;simp only;rw[hgg,hg];simp only[hs,hro,hc,aav]
   ·cases hl
  ·cases hl
 subst hh1;have eq1:∀d,(decide (d=b)=true) ↔ d=b:=λd=>by simp
 have g2:((h.pick [b]).set b (some (.cells (zu c off xv.cells.toList) t'))).get b=some (.cells (zu c off xv.cells.toList) t'):=by rw[za.yy,aai rfl]
 have g1:(h.pick [b]).get b=some (.cells c t'):=by rw[uq,aai (by simp)];exact hg
 refine⟨⟨i,o,undef,s,h.pick [b],(h.pick [b]).set b (some (.cells (zu c off xv.cells.toList) t')),λd=>decide (d=b),λd=>decide (d=b)⟩,rfl,rfl,rfl,
  ⟨⟨ho,F.env,F.size,λd=>?_,F.ro,(OB F:h0.next<=h.next),λx hx=>Ik F x hx,aaj _,.inr ⟨hw,.inl ?_⟩,λd hd=>by rw[<- F.size];exact hput d hd,λd hd => .inl hd,λd hd=>?_,λd o' hd _ _=>?_⟩,⟨F.next,F.next⟩,λb0 off0 n e=>?_⟩,
  ⟨λe=>by simp only at e;omega,λe=>by simp only at e;omega,λe=>by simp only at e;omega,λ_ => .inr ⟨b,off,Tl P t,c,xv.cells.toList,t',eq1,eq1,g1,g2,by simpa using hn,by simp⟩⟩,λd=>?_,rfl,rfl,λd o' hd=>?_,af,λe he hm=>⟨λ⟨e,_⟩=>by omega,λ⟨_,h1⟩ => .inr ⟨b,off,Tl P t,c,xv.cells.toList,t',eq1,eq1,g1,g2,by simpa using hn,hcl e he hm (by rw[h1];simp)⟩⟩⟩
 ·show(h.pick [b]).get d=if decide (d=b)=true then Yh A h0 d else none;rw[uq];by_cases e:d=b
  ·subst e;simp[F.heap]
  ·simp[e]
 ·unfold Um;simp only[yk,hav,hxv,hst (h.pick [b]) (by rw[uq,aai (by simp)]) rfl]
 ·have hd:decide (d=b)=false:=hd;have:d≠b:=λe=>by rw[(eq1 d).2 e]at hd;cases hd
  rw[za.yy,aag this]
 ·have:=(eq1 d).1 hd;subst this;rw[g1];simp
 ·exfalso;unfold L2 at e;simp only[yk]at e;cases e
 ·show(h.set b _).get d=if decide (d=b)=true then _ else _;by_cases e:d=b
  ·subst e;rw[aai (by simp),za.yy,aai rfl,za.yy,aai rfl]
  ·rw[aag (by simp[e]),za.yy,aag e]
 ·rw[za.yy]at hd;show d<h.next;split at hd
  ·rename_i e;subst e;exact F.wf _ _ hg
  ·exact F.wf _ _ hd
theorem Rc{l:List TypeId}(hl:Ok P l=true){r:TypeId}{vs:List aaa}{u:aaa}{h h':za}(he:zG P .len l r vs h=some (u,h')):h'=h /\ ∀g,zG P .len l r vs g=some (u,g):=by
 unfold Ok at hl;split at hl
 ·rename_i t;split at hl
  ·rename_i e hu
   match vs with
   |[x]=>
    have key:∀g,zG P .len [t] r [x] g=(tN P t x g).map λv=>(v,g):=λg=>rfl
    have ind:∀g,tN P t x g=oB P t x:=λg=>by
     unfold tN;cases oB P t x with
     |some v=>rfl
     |none=>simp only[hu]
    rw[key,ind]at he;cases ha:oB P t x with
    |none=>rw[ha]at he;cases he
    |some v=>
     rw[ha]at he;simp only[abN,aab,aae]at he;obtain⟨rfl,rfl⟩:=he;exact⟨rfl,λg=>by rw[key,ind,ha];rfl⟩
   |[]=>cases he
   |_::_::_=>cases he
  ·cases hl
 ·cases hl
theorem Ev{u:aaa}{h':za}(n1:∀(t:TypeId) (a:Operand),o.op=Op.load t a->False)(n2:∀(t:TypeId) (a x:Operand),o.op=Op.store t a x->False)(he:Um P s o h=some (u,h'))(hkz:qG P q o<=3):x9 q o=0\/(x9 q o=1/\(qG P q o=3\/(h'=h /\ ∀g,Um P s o g=some (u,g)))):=by
 unfold qG at hkz ⊢;split at hkz
 ·rename_i t a yk;exact absurd yk (n1 t a)
 ·rename_i t a x yk;exact absurd yk (n2 t a x)
 ·rename_i args ts yk;refine .inr ⟨by unfold x9;simp only[yk];rfl,?_⟩;cases hl:Ok P ts.toList with
  |false=>left;simp only[yk,hl,aaB]
  |true=>
   right
   unfold Um at he ⊢;simp only[yk]at he ⊢;cases ha:Vq s args.toList with
   |none=>rw[ha]at he;cases he
   |some vs=>
    rw[ha]at he;exact Rc hl he
 ·rename_i m1 m2 m3
  have e:(match o.op with
   | .load _ _=>1
   | .store _ _ _=>2
   | .call {callee := .builtin .len,argTypes,.. }=>cond (Ok P argTypes.toList) 0 3
   |_=>(match x9 q o with
    |0=>0
    |1=>3
    |_=>4))=(match x9 q o with
    |0=>0
    |1=>3
    |_=>4):=by
   split
   ·rename_i t a yk;exact absurd yk (n1 t a)
   ·rename_i t a x yk;exact absurd yk (n2 t a x)
   ·rename_i args ts yk;exact absurd yk (m3 args ts)
   ·rfl
  split at hkz
  ·left;assumption
  ·rename_i h1;right;exact⟨h1,.inl (by first|rfl|(rw[h1]at e;exact e))⟩
  ·omega
theorem Az(F:X5 P ops s0 h0 A i s h)(hron:h.ro<=h.next)(ho:ops[i]? = some o)(hput:∀d,o.dst=some d->d<s.size)(hw:yq ops s o=true)(hkz:qG P q o<=3){r:Env}(hl:Le r s)
  {K:aaa->za->Prop} (hk:Mc P r o m fl h K):∃v u h1 y,(zQ v=true\/v=u)/\K v h1/\mr P q ops s0 h0 A i o s h u h1 m fl (D9 P r o i fl) y:=by
 unfold Mc at hk;split at hk
 ·rename_i t a yk;obtain⟨hk,hc⟩:=J8 hk;obtain⟨v,he,hK⟩:=uY hk
  have hnb:zQ (ev r a)=false:=by
   cases hb:zQ (ev r a) with
   |false=>rfl
   |true=>obtain⟨k,p,z,e2⟩:=YE hb;rw[e2]at he;cases he
  have hav:=ZI hl hnb;obtain⟨y,hy⟩:=Gw (q:=q) (m:=m) (fl:=fl) F ho hput hw yk hav he hc;exact⟨v,v,h,y,.inr rfl,hK,by unfold D9;simp only[yk];exact hy⟩
 ·rename_i t a x yk;obtain⟨hk,hc⟩:=J8 hk;obtain⟨h1,he,hK⟩:=uY hk;obtain⟨hn,he⟩:=qa he
  have hnx:zQ (ev r x)=false:=by
   cases hb:zQ (ev r x) with
   |false=>rfl
   |true=>simp only[yi,hb,aav]at hn;cases hn
  have hnb:zQ (ev r a)=false:=by
   cases hb:zQ (ev r a) with
   |false=>rfl
   |true=>obtain⟨k,p,z,e2⟩:=YE hb;rw[e2]at he;cases he
  obtain⟨y,hy⟩:=EG (q:=q) (m:=m) (fl:=fl) F ho hput hw yk (ZI hl hnb) (ZI hl hnx) he hc;exact⟨undef,undef,h1,y,.inr rfl,hK,by unfold D9;simp only[yk];exact hy⟩
 ·rename_i g args ts yk;obtain⟨hc,hn,v,hsc,hT,hK⟩:=hk;have ef:kG s (.func g)=some (.func (.func g) #[] #[]):=rfl
  have hT2:TC P g (cX r args.toList) h (λv1 h1=>v1=v/\h1=h) :=
   (hT.quiet (λv1 _ e=>by rw[e];exact hsc)).mono (by rintro v1 h1 ⟨⟨_,e1⟩,e2⟩;exact⟨e1,e2⟩)
  have hk3:qG P q o=3:=by
   unfold qG at hkz ⊢;simp only[yk]at hkz ⊢;have:x9 q o=eU (q g):=by unfold x9;simp only[yk]
   rw[this]at hkz ⊢;have kc:eU (q g)=1\/eU (q g)=2\/eU (q g)=3:=by unfold eU;split <;> simp
   rcases kc with e|e|e <;> rw[e]at hkz ⊢ <;> simp at hkz ⊢
  obtain⟨y,hy⟩:=pR (q:=q) (m:=m) (fl:=fl) (fl1:=D9 P r o i fl) F ho hput (u:=v) (.inr ⟨hw,.inr (.inl ⟨.func g,args,ts,g,#[],#[],_,yk,ef,QQ hl hn,hc,by simpa using hT2⟩)⟩) hk3;exact⟨v,v,h,y,.inr rfl,hK,hy⟩
 ·rename_i n1 n2 n3;obtain⟨v,u,h',he,hv,hK⟩:=qT hl hk;have hnc:=Xf he;rcases Ev n1 n2 he hkz with h0'|⟨h1',hz⟩
  ·obtain⟨rfl,hany⟩:=fo h0' hnc he;obtain⟨y,hy⟩:=QT (q:=q) (m:=m) (fl:=fl) (fl1:=D9 P r o i fl) F ho hput (u:=u) (.inr ⟨hw,.inl (hany _)⟩) (λt a e=>absurd e (n1 t a));exact⟨v,u,h',y,hv,hK,hy⟩
  ·rcases hz with hz|⟨e1,hany⟩
   ·obtain rfl:=Jp h1' hnc he;obtain⟨y,hy⟩:=pR (q:=q) (m:=m) (fl:=fl) (fl1:=D9 P r o i fl) F ho hput (u:=u) (.inr ⟨hw,.inl he⟩) hz;exact⟨v,u,h',y,hv,hK,hy⟩
   ·subst e1;obtain⟨y,hy⟩:=QT (q:=q) (m:=m) (fl:=fl) (fl1:=D9 P r o i fl) F ho hput (u:=u) (.inr ⟨hw,.inl (hany _)⟩) (λt a e=>absurd e (n1 t a));exact⟨v,u,h',y,hv,hK,hy⟩
theorem PA{n m b o c p k:Nat}{l vs:List aaa}{t:TypeId}(h:Hz n (.pointer (some ⟨b,o,none⟩)) m (.pointer (some ⟨c,p,none⟩)))(e:b=c)(hv:vs.length=m):fE (some (.cells (zu l p vs) t)) o n=fE (some (.cells l t)) o n:=by
 rw[oE]at h;exact ly (by omega)
theorem Nt{n m b o c p:Nat}{l vs:List aaa}{t:TypeId}(h:Hz m (.pointer (some ⟨c,p,none⟩)) n (.pointer (some ⟨b,o,none⟩)))(e:b=c)(hv:vs.length=m):fE (some (.cells (zu l p vs) t)) o n=fE (some (.cells l t)) o n:=by
 rw[oE]at h;exact ly (by omega)
theorem Gb{u:aaa}{h1:za}{x y:yr}(hxA:x∈A)(hx:RZ P q ops fl x)(N:mr P q ops s0 h0 A i o s h u h1 m fl fl1 y)(hkx:qG P q x.o<=3)(hky:qG P q o<=3)
  (hs:kU ops x.o y.o=true) (hbit:m.testBit x.j=false) (hp:OS (qG P q x.o) (qG P q o)=true):WO (L2 P ops) ops x y:=by
 have ff:∀{b:Bool},b≠true->b=false:=λh=>by simpa using h
 simp only[kU,aad]at hs;obtain⟨a1,a2⟩:=hs
 have d1:∀d,x.o.dst=some d->d∉y.o.looksAt ops/\y.o.dst≠some d:=by
  intro d hd;rw[hd]at a1;simp only[aad,aan,aam,aaC]at a1;exact⟨a1.1,a1.2⟩
 have d2:∀d,y.o.dst=some d->d∉x.o.looksAt ops:=by
  intro d hd;rw[hd]at a2;simp only[aan,aam,aaC]at a2;exact a2
 have hyo:=N.yk;have hy:=N.rz;unfold OS at hp;simp only[aaW,aad,acq]at hp;rcases hp with(((hp|hp)|⟨hp,hq⟩)|⟨hp,hq⟩)|⟨hp,hq⟩
 ·obtain⟨r,t⟩:=hx.k0 hp;exact⟨d1,d2,λb hb=>(by rw[t b]at hb;cases hb),λb _ => .inl (r b)⟩
 ·obtain⟨r,t⟩:=hy.k0 (by rw[hyo];exact hp);exact⟨d1,d2,λb _=>⟨t b,.inl (r b)⟩,λb hb=>(by rw[t b]at hb;cases hb)⟩
 ·have tx:=hx.k13 hp;have ty:=hy.k13 (by rw[hyo];exact hq);exact⟨d1,d2,λb hb=>(by rw[tx b]at hb;cases hb),λb hb=>(by rw[ty b]at hb;cases hb)⟩
 ·
  have tx:=hx.k13 (.inl hp);refine⟨d1,d2,λb hb=>(by rw[tx b]at hb;cases hb),λb hb=>?_⟩;rcases hx.k1 hp with hn|⟨bx,ox,sp,nx,c1,c2,c3⟩
  ·exact .inl (hn b)
  ·rcases (N.eE _ c3 hbit).2 ⟨hq,rfl⟩ with hn|⟨by',oy,ny,c,vs,t,e1,e2,e3,e4,e5,e6⟩
   ·rw[hn b]at hb;cases hb
   ·have hb':=(e2 b).1 hb;subst hb';cases hr:x.rd b with
    |false=>exact .inl rfl
    |true=>
     have hbx:=c1 b hr;cases sp with
     |some k=>exact e6.elim
     |none=>
      refine .inr ⟨ox,nx,by rw[c2 rfl,hbx],(e1 b).2 rfl,?_⟩;rw[e3,e4];exact Nt e6 hbx.symm e5
 ·
  have ty:=hy.k13 (.inl (by rw[hyo];exact hq));refine⟨d1,d2,λb hb=>⟨ty b,?_⟩,λb hb=>(by rw[ty b]at hb;cases hb)⟩;rcases hx.k2 hp with⟨_,hn⟩|⟨bx,ox,nx,c,vs,t,e1,e2,e3,e4,e5,e6⟩
  ·rw[hn b]at hb;cases hb
  ·have hb':=(e2 b).1 hb;subst hb';rcases (N.eE _ e6 hbit).1 ⟨hq,rfl⟩ with hn|⟨by',oy,sp,ny,c1,c2,c3⟩
   ·exact .inl (hn b)
   ·cases hr:y.rd b with
    |false=>exact .inl rfl
    |true=>
     have hby:=c1 b hr;cases sp with
     |some k=>exact c3.elim
     |none=>
      refine .inr ⟨oy,ny,by rw[c2 rfl,hby],(e1 b).2 rfl,?_⟩;rw[e3,e4];exact PA (k:=0) c3 hby.symm e5
end
theorem IU{q:FuncId->Nat}{ops:Array Oper}{s0:Env}{h0:za}(hro0:h0.ro<=h0.next):∀(l:List Oper) (i:Nat) (ms:List Nat) (A:List yr) (prev:List (Nat×Nat)) (fl:List (Nat×Bool×Nat×aaa)) (r s:Env) (h:za) {K:Env->za->Prop},
  ops.toList.drop i=l->i<=ops.size->Ku ops ms->ms.length=i->X5 P ops s0 h0 A i s h->(∀x,x∈A->(x.j,qG P q x.o)∈prev/\qG P q x.o<=3/\RZ P q ops fl x)->Zn ops l i ms (A.reverse.map λx=>(x.j,x.o))=true->me P q l ms prev=true ->
  Le r s->Fh P ops l i ms fl r h K->∃A' r' s' h',X5 P ops s0 h0 A' ops.size s' h'/\Le r' s'/\K r' h'/\Fr (Vi l) s s'/\AF h h'
 |[],i,ms,A,prev,fl,r,s,h,K,hl,hle,hm,hml,F,hrp,hst,hkd,hle1,hk=>by
  have:i=ops.size:=by
   have:=congrArg List.length hl;simp at this;omega
  subst this;exact⟨A,r,s,h,F,hle1,hk,.refl _ _,.refl _⟩
 |o::os,i,ms,A,prev,fl,r,s,h,K,hl,hle,hm,hml,F,hrp,hst,hkd,hle1,hk=>by
  have ho:ops[i]? = some o:=by
   have:=congrArg (λl=>l[0]?) hl;simp only[aaS,aay]at this;simpa using this
  have hlt:i<ops.size:=by
   rcases aaL i ops.size with h|h
   ·exact h
   ·rw[aaH h]at ho;cases ho
  have hl':ops.toList.drop (i+1)=os:=by rw[<- aci,hl];rfl
  simp only[Zn,aad]at hst;obtain⟨⟨hedge,hslots⟩,hst⟩:=hst;simp only[me,aad,abU]at hkd;obtain⟨⟨hkz,hpair⟩,hkd⟩:=hkd
  have go:∀(v u:aaa) (h1:za) (y:yr),(zQ v=true\/v=u)->mr P q ops s0 h0 A i o s h u h1 (yz ms o) fl (D9 P r o i fl) y ->
    (match r.put o.dst v with|some s1=>Fh P ops os (i+1) (ms++[yz ms o]) (D9 P r o i fl) s1 h1 K|none=>False) ->
    ∃A' r' s' h',X5 P ops s0 h0 A' ops.size s' h'/\Le r' s'/\K r' h'/\Fr (Vi (o::os)) s s'/\AF h h':=by
   intro v u h1 y hv N hk;split at hk
   case h_2=>exact hk.elim
   rename_i r1 hp;obtain⟨s1,hp1,hl1⟩:=hle1.put hp hv
   have hs1:∀t,s1.get t=if o.dst=some t then u else s.get t:=by
    intro t;cases hd:o.dst with
    |none=>rw[hd]at hp1;simp only[Env.put,aab]at hp1;subst hp1;simp
    |some d=>
     rw[hd]at hp1;simp only[Env.put]at hp1;obtain⟨_,hp1⟩:=zo hp1;simp only[aab]at hp1;subst hp1;rw[Env.yy];by_cases e:t=d
     ·subst e;simp
     ·rw[aag e,aag (by simp only[aab];exact λh=>e h.symm)]
   have hs1s:s1.size=s.size:=(Fr.put hp1).size
   have F1:X5 P ops s0 h0 (A++[y]) (i+1) s1 h1:=by
    refine⟨?_,?_,hs1s.trans F.size,?_,N.ro.trans F.ro,N.next.trans F.next,N.wf,?_,?_,?_⟩
    ·rw[abm,F.js,abE];simp[N.hj]
    ·intro t;rw[hs1,UL,N.yk,N.r7,F.env]
    ·intro b;rw[N.heap,Jj,F.heap]
    ·intro A1 r A2 e;rcases vI e with⟨_,rfl,rfl⟩|⟨A3,_,e3⟩
     ·exact N.told
     ·exact F.told A1 r A3 e3
    ·intro A1 r A2 e ed hed hb;rcases vI e with⟨_,rfl,rfl⟩|⟨A3,_,e3⟩
     ·rw[N.yk]at hed;simp only[aaD,aaW,aan,aaM]at hedge;rcases hedge ed (by simpa using hed) with h2|h2
      ·rw[hb]at h2;cases h2
      ·have:ed.on∈A1.map (·.j):=(by rw[F.js];exact abe.2 h2);obtain⟨x,hx,hxj⟩:=aa4.1 this;exact⟨x,hx,hxj⟩
     ·exact F.Vc A1 r A3 e3 ed hed hb
    ·intro A1 x A2 z A3 e;have e':A++[y]=(A1++x::A2)++z::A3:=by rw[e];simp
     rcases vI e' with⟨_,e1,rfl⟩|⟨A4,_,e3⟩
     ·have hxm:x∈A:=(by rw[<- e1];simp);obtain⟨hpm,hkx,hrx⟩:=hrp x hxm;simp only[aaD,aaW]at hpair hslots;rcases hslots (x.j,x.o) (aa4.2 ⟨x,by simpa using hxm,rfl⟩) with h2|h2
      ·rw[N.hj];exact .inl (uX hm ho h2)
      ·rcases hpair _ hpm with h3|h3
       ·rw[N.hj];exact .inl (uX hm ho h3)
       ·by_cases hbit:(yz ms o).testBit x.j=true
        ·rw[N.hj];exact .inl (uX hm ho hbit)
        ·simp only[abZ]at hbit;exact .inr (Gb hxm hrx N hkx hkz (by rw[N.yk];exact h2) hbit h3)
     ·exact F.apart A1 x A2 z A4 (by rw[e3];simp)
   have hfl:∀e,e∈fl->e∈D9 P r o i fl:=λe he=>by
    unfold D9;split <;> simp[he]
   have hrp1:∀x,x∈A++[y]->(x.j,qG P q x.o)∈(ms.length,qG P q o)::prev/\qG P q x.o<=3/\RZ P q ops (D9 P r o i fl) x:=by
    intro x hx;rcases aaG.1 hx with hx|hx
    ·obtain⟨h1,h2,h3⟩:=hrp x hx;exact⟨aaz _ h1,h2,h3.mono hfl⟩
    ·simp only[aaq]at hx;subst hx;exact⟨by rw[N.hj,N.yk,hml];simp,by rw[N.yk];exact hkz,N.rz⟩
   obtain⟨A',r',s',h',F',l',k',f',a'⟩:=IU hro0 os (i+1) (ms++[yz ms o]) (A++[y]) _ _ r1 s1 h1 hl' hlt (XX hm hml ho) (by simp[hml]) F1 hrp1
    (by simpa [N.hj,N.yk] using hst) hkd hl1 hk
   exact⟨A',r',s',h',F',l',k',(Fr.put hp1).left.trans f'.right,N.af.trans a'⟩
  have slot:∀{v:aaa} {h1:za},(match r.put o.dst v with|some s1=>Fh P ops os (i+1) (ms++[yz ms o]) (D9 P r o i fl) s1 h1 K|none=>False)->∀d,o.dst=some d->d<s.size:=by
   intro v h1 hk d hd;split at hk
   case h_2=>exact hk.elim
   rename_i r1 hp;rw[hd]at hp;simp only[Env.put]at hp;obtain⟨hb,_⟩:=zo hp;rw[<- hle1.size];simpa [aaM] using hb
  have hron:h.ro<=h.next:=by rw[F.ro,F.next];exact hro0
  have dstok:∀{K':aaa->za->Prop},Mc P r o (yz ms o) fl h K'->(∀v h1,K' v h1->∀d,o.dst=some d->d<s.size)->∀d,o.dst=some d->d<s.size:=by
   intro K' hk hs;unfold Mc at hk;split at hk
   ·obtain⟨v,_,hK⟩:=uY (J8 hk).1;exact hs _ _ hK
   ·obtain⟨v,_,hK⟩:=uY (J8 hk).1;exact hs _ _ hK
   ·obtain⟨_,_,v,_,_,hK⟩:=hk;exact hs _ _ hK
   ·obtain⟨v,u,h',_,_,hK⟩:=qT hle1 hk;exact hs v h' hK
  simp only[Fh]at hk;split at hk
  ·rename_i hg;obtain⟨v,u,h1,y,hv,hK,N⟩:=Az (q:=q) F hron ho (dstok hk (λv h1 hK=>slot hK)) (by simp only[yq,hg]) hkz hle1 hk;exact go v u h1 y hv N hK
  ·rename_i j want hg;split at hk
   ·exact hk.elim
   ·rename_i d hdst;unfold GD at hk;split at hk
    ·rename_i b hb
     have hs:s.get d=.bool b:=by
      rcases hle1.get d with e|e
      ·rw[hb]at e;cases e
      ·rw[<- e,hb]
     have haw:yq ops s o=(b == want):=(by simp only[yq,hg,hdst,hs]);by_cases hbw:b=want
     ·have hk:=hk.1 hbw;obtain⟨v,u,h1,y,hv,hK,N⟩:=Az (q:=q) F hron ho (dstok hk (λv h1 hK=>slot hK)) (by rw[haw,hbw];simp) hkz hle1 hk;exact go v u h1 y hv N hK
     ·have hk:=hk.2 hbw;obtain⟨y,N⟩:=QT (q:=q) (m:=yz ms o) (fl:=fl) (fl1:=D9 P r o i fl) F ho (slot hk) (u:=undef) (.inl ⟨by rw[haw];simpa using hbw,rfl,rfl⟩) (λ_ _ _=>by rw[haw];simpa using hbw);exact go undef undef h y (.inr rfl) N hk
    ·exact hk.elim
    ·rename_i n1 n2
     have hs:s.get d=r.get d:=by
      rcases hle1.get d with e|e
      ·obtain⟨k,p,q,e2⟩:=YE e;exact absurd e2 (n2 k p q)
      ·exact e.symm
     have haw:yq ops s o=false:=by
      simp only[yq,hg,hdst,hs]
     obtain⟨y,N⟩:=QT (q:=q) (m:=yz ms o) (fl:=fl) (fl1:=D9 P r o i fl) F ho (slot hk) (u:=undef) (.inl ⟨haw,rfl,rfl⟩) (λ_ _ _=>haw);exact go undef undef h y (.inr rfl) N hk
theorem NY{q:FuncId->Nat}(hmix:P.follows .mixedOrders=true):Kr P (D7 P q):=by
 intro ops r s h K rd id hle wf hk;unfold D7 at hk;cases hc:oO P q ops with
 |false=>rw[hc]at hk;exact hk.elim
 |true=>
  rw[hc]at hk;have hk:Fh P ops ops.toList 0 [] [] r h K:=hk;simp only[oO,aad]at hc
  have F0:X5 P ops s h ([]:List yr) 0 s h:=⟨rfl,λt=>rfl,rfl,λb=>rfl,rfl,rfl,wf.1,
   λA1 r A2 e=>by simp at e,λA1 r A2 e=>by simp at e,λA1 x A2 y A3 e=>by simp at e⟩
  obtain⟨A,r',s',h',F,hl',hK,hf,af⟩:=IU (q:=q) wf.2 ops.toList 0 [] [] [] [] r s h rfl (aaN _) (λk q hq=>by simp at hq) rfl F0 (λx e=>by simp at e) hc.1 hc.2 hle hk
  have V:Yp (L2 P ops) P ops s h A:=⟨by rw[F.js];exact acw,λi hi=>by
    have:i∈A.map (·.j):=(by rw[F.js];exact abe.2 hi);obtain⟨r,hr,hj⟩:=aa4.1 this;exact⟨r,hr,hj⟩,F.told,F.Vc,F.apart⟩
  exact⟨r',s',h',hl',hK,hf,af,rJ hmix V F.env F.size F.heap F.ro (by rw[F.next];exact aaj _) (λx hx=>Ik F x hx) F.next (Q:=λe s1 h1=>e=.normal/\s1=s'/\h1=h') ⟨rfl,rfl,rfl⟩⟩
def NW(P:Program)(q:FuncId->Nat)(ops:Array Oper)(s:Env)(h:za)(K:Env->za->Prop):Prop:=Mx (calm q ops) (Se P q ops ops.toList 0 [] [] s h K) (Mx (tX P q ops) (H4 P q ops s h K) (Mx (oO P q ops) (D7 P q ops s h K) (D5 P q ops s h K)))
theorem NX{q:FuncId->Nat}(hmix:P.follows .mixedOrders=true):Kr P (NW P q):=by
 intro ops r s h K rd id hle wf hk;unfold NW at hk;cases hc:calm q ops with
 |true=>
  rw[hc]at hk;exact D6 hmix ops r s h K rd id hle wf (by unfold ba;rw[hc];exact hk)
 |false=>
  rw[hc]at hk;have hk:Mx (tX P q ops) (H4 P q ops r h K) (Mx (oO P q ops) (D7 P q ops r h K) (D5 P q ops r h K)):=hk;cases hv:tX P q ops with
  |true=>rw[hv]at hk;exact NV hmix ops r s h K rd id hle wf hk
  |false=>
   rw[hv]at hk;have hk:Mx (oO P q ops) (D7 P q ops r h K) (D5 P q ops r h K):=hk;cases hz:oO P q ops with
   |true=>rw[hz]at hk;exact NY hmix ops r s h K rd id hle wf hk
   |false=>rw[hz]at hk;exact NU hmix ops r s h K rd id hle wf hk
theorem kN{q:FuncId->Nat}(hmix:P.follows .mixedOrders=true){n:Nat}{f:FuncId}{args:List aaa}{h:za}{R:aaa->za->Prop}(hk:Pu P (NW P q) n f args h R):DC P f args h R:=so (NX hmix) hk
end
noncomputable section
abbrev Part:=Nat->Option vl
structure y4 where
 get:Nat->Option (Option vl)
 ro:Nat
def y4.un(lo:y4)(a:Part):y4:=⟨λx=>match a x with
 |some o=>some (some o)
 |none=>lo.get x,lo.ro⟩
def y4.of(h:za):y4:=⟨λb=>if b<h.next then some (h.get b) else none,h.ro⟩
def y4.dj(lo:y4)(a:Part):Prop := ∀x o,a x=some o->lo.get x=none
structure y4.Le (lo lo':y4):Prop where
 ro:lo'.ro=lo.ro
 get:∀b x,lo.get b=some x->lo'.get b=some x
structure fF (lo:y4) (h:za):Prop where
 ro:h.ro=lo.ro
 IG:h.ro<=h.next
 get:∀b x,lo.get b=some x->h.get b=x/\b<h.next
abbrev HP:=Part->Prop
def Sat(lo:y4)(h:za):List HP->Prop
 |[]=>fF lo h
 |A::L=>∃a,A a/\lo.dj a/\(∀b o,a b=some o->lo.ro<=b)/\Sat (lo.un a) h L
theorem y4.Le.refl(lo:y4):lo.Le lo:=⟨rfl,λ_ _ h=>h⟩
theorem y4.Le.trans{a b c:y4}(x:a.Le b)(y:b.Le c):a.Le c:=⟨y.ro.trans x.ro,λi o h=>y.get i o (x.get i o h)⟩
theorem y4.pK{lo:y4}{a:Part}(d:lo.dj a):lo.Le (lo.un a):=⟨rfl,λb x h=>by
 unfold y4.un;cases e:a b with
 |none=>simp only[e];exact h
 |some o=>rw[d b o e]at h;cases h⟩
theorem y4.uM{lo:y4}{a:Part}{b:Nat}{o:vl}(e:a b=some o):(lo.un a).get b=some (some o):=by simp only[y4.un,e]
theorem y4.kq{lo:y4}{a:Part}{b:Nat}(e:a b=none):(lo.un a).get b=lo.get b:=by simp only[y4.un,e]
theorem y4.Sd{lo:y4}{a c:Part}(d:(lo.un a).dj c):(lo.un a).un c=(lo.un c).un a:=by
 unfold y4.un
 congr 1
 funext x
 cases e:c x with
 |none=>simp only[e]
 |some o=>
  have:=d x o e;simp only[y4.un]at this;cases e2:a x with
  |none=>simp only[e]
  |some p=>rw[e2]at this;cases this
theorem y4.SZ{lo:y4}{a c:Part}(d:lo.dj a)(k:(lo.un a).dj c):lo.dj c:=λx o e=>by
 cases e2:lo.get x with
 |none=>rfl
 |some p=>rw[<- k x o e,(y4.pK d).get x p e2]
theorem y4.PN{lo:y4}{a c:Part}(d:lo.dj a)(k:(lo.un a).dj c):(lo.un c).dj a:=λx o e=>by
 cases e2:c x with
 |none=>rw[y4.kq e2];exact d x o e
 |some p=>have:=k x p e2;rw[y4.uM e]at this;cases this
theorem y4.Le.dj{lo lo':y4}(l:lo.Le lo'){a:Part}(d:lo'.dj a):lo.dj a:=λx o e=>by
 cases e2:lo.get x with
 |none=>rfl
 |some p=>rw[<- d x o e,l.get x p e2]
theorem y4.Le.un{lo lo':y4}(l:lo.Le lo')(a:Part):(lo.un a).Le (lo'.un a):=⟨l.ro,λb x h=>by
 cases e:a b with
 |none=>rw[y4.kq e]at h ⊢;exact l.get b x h
 |some o=>rw[y4.uM e]at h ⊢;exact h⟩
theorem fF.mono{lo lo':y4}{h:za}(l:lo.Le lo')(x:fF lo' h):fF lo h:=⟨x.ro.trans l.ro,x.IG,λb y e=>x.get b y (l.get b y e)⟩
theorem Sat.mono{h:za}:∀{L:List HP} {lo lo':y4},lo.Le lo'->Sat lo' h L->Sat lo h L
 |[],lo,lo',l,x=>fF.mono l x
 |A::L,lo,lo',l,⟨a,ha,d,w,x⟩=>⟨a,ha,l.dj d,λb o e=>by rw[<- l.ro];exact w b o e,Sat.mono (l.un a) x⟩
theorem Sat.base{h:za}:∀{L:List HP} {lo:y4},Sat lo h L->fF lo h
 |[],_,x=>x
 |A::L,_,⟨_,_,d,_,x⟩=>(Sat.base x).mono (y4.pK d)
theorem Sat.part{h:za}{A:HP}:∀{L:List HP} {lo:y4},Sat lo h L->A∈L->∃a,A a/\lo.dj a /\ ∀b o,a b=some o->h.get b=some o/\h.ro<=b/\b<h.next
 |B::L,lo,⟨a,ha,d,w,x⟩,hm=>by
  rcases aaP.1 hm with rfl|hm
  ·refine⟨a,ha,d,λb o e=>?_⟩;have bs:=Sat.base x;obtain⟨g1,g2⟩:=bs.get b _ (y4.uM e);exact⟨g1,by rw[bs.ro];exact w b o e,g2⟩
  ·obtain⟨c,hc,dc,g⟩:=Sat.part x hm;exact⟨c,hc,y4.SZ d dc,g⟩
theorem Sat.swap{h:za}{A B:HP}{L:List HP}{lo:y4}(x:Sat lo h (A::B::L)):Sat lo h (B::A::L):=by
 obtain⟨a,ha,d,w,c,hc,dc,wc,x⟩:=x;exact⟨c,hc,y4.SZ d dc,wc,a,ha,y4.PN d dc,w,by rw[<- y4.Sd dc];exact x⟩
theorem Sat.cons{h:za}{A:HP}{L L':List HP}(f:∀lo,Sat lo h L->Sat lo h L'){lo:y4}(x:Sat lo h (A::L)):Sat lo h (A::L'):=by
 obtain⟨a,ha,d,w,x⟩:=x;exact⟨a,ha,d,w,f _ x⟩
theorem Sat.perm{h:za}{L L':List HP}(p:L.Perm L'):∀{lo:y4},Sat lo h L->Sat lo h L':=by
 induction p with
 |nil=>exact λx=>x
 |cons A p ih=>exact λx=>x.cons λlo=>ih
 |swap A B L=>exact λx=>x.swap
 |trans p q ih1 ih2=>exact λx=>ih2 (ih1 x)
theorem Sat.drop{h:za}{A:HP}{L:List HP}{lo:y4}(x:Sat lo h (A::L)):Sat lo h L:=by
 obtain⟨a,ha,d,w,x⟩:=x;exact x.mono (y4.pK d)
theorem Sat.S5{h:za}{L':List HP}{lo:y4}:∀{L:List HP},Sat lo h (L++L')->Sat lo h L'
 |[],x=>x
 |A::L,x=>Sat.S5 (L:=L) x.drop
def p9:Nat->List HP->List HP
 |0,L=>L
 |_+1,[]=>[]
 |i+1,A::L=>match p9 i L with
  |[]=>[A]
  |B::L'=>B::A::L'
theorem hP:∀(i:Nat) (L:List HP),L.Perm (p9 i L)
 |0,L=>List.Perm.refl _
 |_+1,[]=>List.Perm.refl _
 |i+1,A::L=>by
  have ih:=hP i L;unfold p9;split
  ·rename_i e;rw[e]at ih;exact ih.cons A
  ·rename_i B L' e;rw[e]at ih;exact(ih.cons A).trans (List.Perm.swap _ _ _)
theorem Sat.p{h:za}{L:List HP}{lo:y4}(x:Sat lo h L)(i:Nat):Sat lo h (p9 i L):=x.perm (hP i L)
def l7:List Nat->List Nat->List HP->List HP
 |[],_,L=>L
 |i::is,prev,L=>match p9 (i-(prev.filter λj=>Nat.blt j i).length) L with
  |[]=>[]
  |A::L'=>A::l7 is (i::prev) L'
def front(is:List Nat)(L:List HP):List HP:=l7 is [] L
theorem fj:∀(is prev:List Nat) (L:List HP),L.Perm (l7 is prev L)
 |[],_,L=>List.Perm.refl _
 |i::is,prev,L=>by
  have p:=hP (i-(prev.filter λj=>Nat.blt j i).length) L;unfold l7;split
  ·rename_i e;rw[e]at p;exact p
  ·rename_i A L' e;rw[e]at p;exact p.trans ((fj _ _ L').cons A)
theorem GF(is:List Nat)(L:List HP):L.Perm (front is L):=fj _ _ _
theorem Sat.f{h:za}{L:List HP}{lo:y4}(x:Sat lo h L)(is:List Nat):Sat lo h (front is L):=x.perm (GF is L)
theorem Sat.yG{h:za}{L:List HP}{lo:y4}(x:Sat lo h L)(n:Nat):Sat lo h (L.take n):=by
 have q:(L.take n++L.drop n).Perm (L.drop n++L.take n):=List.perm_append_comm;rw[abA]at q;exact(x.perm q).S5
theorem Sat.k{h:za}{L:List HP}{lo:y4}(x:Sat lo h L)(is:List Nat):Sat lo h ((front is L).take is.length):=(x.f is).yG _
theorem Sat.to{h h':za}:∀{L:List HP} {lo lo':y4},Sat lo h L->(∀b,b<h.next->lo.get b=none->lo'.get b=none)->fF lo' h'->lo'.ro=lo.ro->h.next<=h'.next->(∀b,b<h.next->lo.get b=none->h'.get b=h.get b)->Sat lo' h' L
 |[],_,_,_,_,b,_,_,_=>b
 |A::L,lo,lo',⟨a,ha,d,w,x⟩,k,b,r,n,g=>by
  have bs:=Sat.base x;have lt:∀y o,a y=some o->y<h.next:=λy o e=>(bs.get y _ (y4.uM e)).2
  have dn:∀y,(lo.un a).get y=none->a y=none/\lo.get y=none:=λy e=>by
   cases e2:a y with
   |none=>rw[y4.kq e2]at e;exact⟨rfl,e⟩
   |some o=>rw[y4.uM e2]at e;cases e
  refine⟨a,ha,λy o e=>k y (lt y o e) (d y o e),λy o e=>by rw[r];exact w y o e,Sat.to x (λy hy e=>?_) ?_ r n λy hy e=>?_⟩
  ·rw[y4.kq (dn y e).1];exact k y hy (dn y e).2
  ·refine⟨b.ro,b.IG,λy z e=>?_⟩;cases e2:a y with
   |none=>rw[y4.kq e2]at e;exact b.get y z e
   |some o=>
    rw[y4.uM e2]at e;cases e;exact⟨(g y (lt y o e2) (d y o e2)).trans (bs.get y _ (y4.uM e2)).1,aap (lt y o e2) n⟩
  ·exact g y hy (dn y e).2
def pt(b:Nat)(o:vl):HP:=λm=>∀x,m x=if x=b then some o else none
theorem Sat.T6{h:za}{L:List HP}{lo:y4}(x:Sat lo h L){b:Nat}{o:vl}(hm:pt b o∈L):h.get b=some o/\h.ro<=b/\b<h.next:=by
 obtain⟨a,ha,_,g⟩:=x.part hm;exact g b o (by rw[ha b,aai rfl])
theorem Sat.get{h:za}{L:List HP}{lo:y4}{b:Nat}{o:vl}(x:Sat lo h (pt b o::L)):h.get b=some o:=(x.T6 (aao ..)).1
theorem Sat.wr{h:za}{L:List HP}{lo:y4}{b:Nat}{o:vl}(x:Sat lo h (pt b o::L)):h.ro<=b:=(x.T6 (aao ..)).2.1
theorem Sat.lt{h:za}{L:List HP}{lo:y4}{b:Nat}{o:vl}(x:Sat lo h (pt b o::L)):b<h.next:=(x.T6 (aao ..)).2.2
theorem Sat.ne{h:za}{L:List HP}{lo:y4}{b c:Nat}{o o':vl}(x:Sat lo h (pt b o::pt c o'::L)):¬b=c:=by
 rintro rfl;obtain⟨a,ha,d,w,e,he,de,we,x⟩:=x;have:=de b o' (by rw[he,aai rfl]);rw[y4.uM (o:=o) (by rw[ha,aai rfl])]at this;cases this
theorem Sat.push{h:za}{L:List HP}{lo:y4}(x:Sat lo h L)(o:vl):Sat lo (h.push o) (pt h.next o::L):=by
 have bs:=x.base
 have hn:lo.get h.next=none:=by
  cases e:lo.get h.next with
  |none=>rfl
  |some y=>exact absurd (bs.get _ _ e).2 (Nat.lt_irrefl _)
 refine⟨λy=>if y=h.next then some o else none,λ_=>rfl,λy p e=>?_,λy p e=>?_,x.to (λy hy e=>?_) ⟨bs.ro,Nat.le_succ_of_le bs.IG,λy z e=>?_⟩ rfl (abI _) λy hy _=>x6 hy⟩
 ·dsimp only at e;split at e
  ·rename_i q;rw[q];exact hn
  ·cases e
 ·dsimp only at e;split at e
  ·rename_i q;rw[q,<- bs.ro];exact bs.IG
  ·cases e
 ·rw[y4.kq (by rw[aag (by omega)])];exact e
 ·by_cases q:y=h.next
  ·subst q;rw[y4.uM (o:=o) (by rw[aai rfl])]at e;cases e;exact⟨uz,aaZ _⟩
  ·rw[y4.kq (by rw[aag q])]at e;obtain⟨g1,g2⟩:=bs.get y z e;exact⟨(x6 g2).trans g1,acr g2⟩
theorem Sat.set{h:za}{L:List HP}{lo:y4}{b:Nat}{o:vl}(x:Sat lo h (pt b o::L))(o':vl):Sat lo (h.set b (some o')) (pt b o'::L):=by
 obtain⟨a,ha,d,w,x⟩:=x;have hb:lo.get b=none:=d b o (by rw[ha b,aai rfl]);have bs:=x.base;refine⟨λy=>if y=b then some o' else none,λ_=>rfl,λy p e=>?_,λy p e=>?_,x.to (λy hy e=>?_) ⟨bs.ro,bs.IG,λy z e=>?_⟩ rfl (aaj _) λy hy e=>?_⟩
 ·dsimp only at e;split at e
  ·rename_i q;rw[q];exact hb
  ·cases e
 ·dsimp only at e;split at e
  ·rename_i q;rw[q];exact w b o (by rw[ha b,aai rfl])
  ·cases e
 ·have q:y≠b:=by rintro rfl;rw[y4.uM (o:=o) (by rw[ha,aai rfl])]at e;cases e
  rw[y4.kq (by rw[ha,aag q])]at e;rw[y4.kq (by rw[aag q])];exact e
 ·by_cases q:y=b
  ·subst q;rw[y4.uM (o:=o') (by rw[aai rfl])]at e;cases e;exact⟨YB,(bs.get y _ (y4.uM (o:=o) (by rw[ha,aai rfl]))).2⟩
  ·rw[y4.kq (by rw[aag q])]at e;obtain⟨g1,g2⟩:=bs.get y z (by rw[y4.kq (by rw[ha,aag q])];exact e);exact⟨(Zi q).trans g1,g2⟩
 ·have q:y≠b:=by rintro rfl;rw[y4.uM (o:=o) (by rw[ha,aai rfl])]at e;cases e
  exact Zi q
theorem Sat.forget{h:za}{L:List HP}{lo:y4}{b:Nat}{o:vl}(x:Sat lo h (pt b o::L))(z:Option vl):Sat lo (h.set b z) L:=by
 obtain⟨a,ha,d,w,x⟩:=x;have hb:lo.get b=none:=d b o (by rw[ha b,aai rfl]);have bs:=x.base;refine x.to (λy hy e=>?_) ⟨bs.ro,bs.IG,λy z e=>?_⟩ rfl (aaj _) λy hy e=>?_
 ·cases q:lo.get y with
  |none=>rfl
  |some v=>rw[(y4.pK d).get y v q]at e;cases e
 ·have q:y≠b:=by rintro rfl;rw[hb]at e;cases e
  obtain⟨g1,g2⟩:=bs.get y z ((y4.pK d).get y z e);exact⟨(Zi q).trans g1,g2⟩
 ·have q:y≠b:=by rintro rfl;rw[y4.uM (o:=o) (by rw[ha,aai rfl])]at e;cases e
  exact Zi q
theorem qt{h:za}{L:List HP}{lo:y4}{c:List aaa}{t:TypeId}{K:aaa->za->Prop}(s:Sat lo h L)(k:∀b h',Sat lo h' (pt b (.cells c t)::L)->K (.pointer (some ⟨b,0,none⟩)) h'):nw h c t K:=k _ _ (s.push _)
theorem yj{h:za}{L:List HP}{lo:y4}{b off:Nat}{cs vs:List aaa}{t:TypeId}{K:za->Prop}(s:Sat lo h (pt b (.cells cs t)::L))(hl:off+vs.length<=cs.length)(hc:vs.all xj=true)(k:∀h',Sat lo h' (pt b (.cells (zu cs off vs) t)::L)->K h'):opt (AK h b off vs) K:=by
 rw[GQ s.get,aai ⟨hl,s.wr,hc⟩];exact k _ (s.set _)
theorem Sat.Re{h h':za}{L:List HP}{lo:y4}(x:Sat lo h L)(hn:h.next<=h'.next)(hr:h'.ro=h.ro)(hg:∀b,b<h.next->h'.get b=h.get b):Sat lo h' L:=by
 have bs:=x.base;exact x.to (λ_ _ e=>e) ⟨hr.trans bs.ro,by rw[hr];exact aaV bs.IG hn,λb y e=>⟨(hg b (bs.get b y e).2).trans (bs.get b y e).1,aap (bs.get b y e).2 hn⟩⟩ rfl hn λb hb _=>hg b hb
def ex{α:Type}(f:α->HP):HP:=λm=>∃x,f x m
theorem y4.Pk{lo:y4}{a:Part}(e:∀x,a x=none):lo.un a=lo:=by
 unfold y4.un;cases lo
 congr 1
 funext x
 simp only[e x]
theorem Sat.self{h:za}(hr:h.ro<=h.next):Sat (.of h) h []:=⟨rfl,hr,λb x e=>by
 unfold y4.of at e;dsimp only at e;split at e
 ·cases e;exact⟨rfl,by assumption⟩
 ·cases e⟩
theorem Sat.join{h h':za}{L L':List HP}{lo:y4}(x:Sat lo h L)(y:Sat (.of h) h' L'):Sat lo h' (L'++L):=by
 have bx:=x.base;have by':=y.base;have get:∀b,b<h.next->h'.get b=h.get b/\b<h'.next:=λb hb=>by'.get b _ (by unfold y4.of;dsimp only;rw[aai hb])
 have hn:h.next<=h'.next:=by
  rcases ab3 h.next with e|e
  ·omega
  ·have:=(get (h.next-1) (by omega)).2;omega
 have key:∀(L':List HP) (lo lo2:y4),Sat lo2 h' L'->lo2.ro=lo.ro->(∀b,b<h.next->lo2.get b≠none)->(∀b,h.next<=b->lo.get b=lo2.get b)->fF lo h' ->
   (∀lo3,y4.Le lo lo3->(∀b,b<h.next->lo3.get b=lo.get b)->fF lo3 h'->Sat lo3 h' L)->Sat lo h' (L'++L):=by
  intro L'
  induction L' with
  |nil=>intro lo lo2 _ _ _ _ b k;exact k lo (.refl lo) (λ_ _=>rfl) b
  |cons A L' ih=>
   rintro lo lo2 ⟨a,ha,d,w,s⟩ r f e b k
   have up:∀y o,a y=some o->h.next<=y:=λy o q=>by
    rcases aaL y h.next with z|z
    ·exact absurd (d y o q) (f y z)
    ·exact z
   have bs:=s.base;have dl:lo.dj a:=λy o q=>by rw[e y (up y o q)];exact d y o q
   refine⟨a,ha,dl,λy o q=>by rw[<- r];exact w y o q,ih (lo.un a) (lo2.un a) s r (λy hy=>?_) (λy hy=>?_) ⟨b.ro,b.IG,λy z q=>?_⟩ λlo3 l3 q3 b3=>k lo3 ((y4.pK dl).trans l3) (λy hy=>?_) b3⟩
   ·cases q:a y with
    |none=>rw[y4.kq q];exact f y hy
    |some o=>rw[y4.uM q];simp
   ·cases q:a y with
    |none=>rw[y4.kq q,y4.kq q];exact e y hy
    |some o=>rw[y4.uM q,y4.uM q]
   ·cases q2:a y with
    |none=>rw[y4.kq q2]at q;exact b.get y z q
    |some o=>rw[y4.uM q2]at q;cases q;exact bs.get y _ (y4.uM q2)
   ·rw[q3 y hy];cases q:a y with
    |none=>rw[y4.kq q]
    |some o=>have:=up y o q;omega
 have rr:(y4.of h).ro=lo.ro:=bx.ro;refine key L' lo (.of h) y rr (λb hb=>by unfold y4.of;dsimp only;rw[aai hb];simp) (λb hb=>?_) ⟨by rw[by'.ro];exact rr,by'.IG,λb z e=>?_⟩ λlo3 l3 q3 b3=>?_
 ·unfold y4.of;dsimp only;rw[aag (by omega)];cases e:lo.get b with
  |none=>rfl
  |some z=>have:=(bx.get b z e).2;omega
 ·obtain⟨g1,g2⟩:=bx.get b z e;exact⟨(get b g2).1.trans g1,(get b g2).2⟩
 ·exact x.to (λb hb e=>by rw[q3 b hb];exact e) b3 l3.ro hn λb hb _=>(get b hb).1
theorem Sat.Tj{h h':za}:∀{L:List HP} {lo lo':y4},Sat lo h L->lo'.get=lo.get->lo'.ro<=lo.ro->h'.ro=lo'.ro->h'.ro<=h'.next->h.next<=h'.next->(∀b,b<h.next->h'.get b=h.get b)->Sat lo' h' L
 |[],lo,lo',x,g,r,e,k,n,he=>⟨e,k,λb z hz=>by
  rw[g]at hz;obtain⟨h1,h2⟩:=fF.get x b z hz;exact⟨(he b h2).trans h1,aap h2 n⟩⟩
 |A::L,lo,lo',⟨a,ha,d,w,x⟩,g,r,e,k,n,he=>
  ⟨a,ha,λy o q=>by rw[g];exact d y o q,λb o q=>aaV r (w b o q),Sat.Tj x (by unfold y4.un;rw[g]) r e k n he⟩
theorem Sat.wS{h h2:za}{L L':List HP}{lo:y4}(s:Sat lo h L)(s2:Sat (.of h.lock) h2 L'):Sat lo (Go.Ai.wS h h2) (L'++L):=by
 have b1:=s.base;have b2:=s2.base;have old:∀b,b<h.next->h2.get b=h.get b/\b<h2.next:=λb hb=>b2.get b _ (by unfold y4.of;dsimp only;rw[aai (by exact hb)];rfl)
 have hn:h.next<=h2.next:=by
  rcases ab3 h.next with e|e
  ·omega
  ·have:=(old (h.next-1) (by omega)).2;omega
 have gr:(Go.Ai.wS h h2).ro=h.ro:=rfl;have gn:(Go.Ai.wS h h2).next=h2.next:=rfl;refine s.join (s2.Tj (lo' := .of h) rfl b1.IG gr (by rw[gr,gn];exact aaV b1.IG hn) (by rw[gn];exact aaj _) λb hb=>?_);rw[wO];by_cases q:h.next<=b
 ·rw[aai ⟨q,hb⟩]
 ·rw[aag (by omega),(old b (by omega)).1]
theorem EM{h:za}{L:List HP}{lo:y4}{c:List aaa}{t:TypeId}{K:aaa->za->Prop}(s:Sat lo h L)(wf:qJ h)(k:∀b h',qJ h'->Sat lo h' (pt b (.cells c t)::L)->K (.pointer (some ⟨b,0,none⟩)) h'):nw h c t K:=k _ _ (Fc wf _) (s.push _)
theorem PI{P:Program}{g:FuncId}{args:List aaa}{h:za}{L:List HP}{lo:y4}{K R:aaa->za->Prop}(hc:xS P g=true)(hn:yi args=true)(wf:qJ h)(s:Sat lo h L)(d:DC P g args h.lock R)(hk:∀v h2,R v h2->(∀L',Sat (.of h.lock) h2 L'->Sat lo (wS h h2) (L'++L))->qJ (wS h h2)->K v (wS h h2)):DX P g args h K:=by
 have wl:qJ h.lock:=⟨wf.1,aaj _⟩;obtain⟨v,h1,r,af,t⟩:=d wl;refine⟨hc,hn,v,h1,t,af,hk v h1 r (λL' s2=>s.wS s2) ?_⟩;have w1:=wl.af af;have hn:h.next<=h1.next:=af.next;refine⟨λb o hb=>?_,?_⟩
 ·rw[wO]at hb;show b<h1.next;split at hb
  ·omega
  ·exact aap (wf.1 b o hb) hn
 ·show h.ro<=h1.next;exact aaV wf.2 hn
theorem DC.zb3{P:Program}{f:FuncId}{args:List aaa}{h:za}{R R':aaa->za->Prop}(d:DC P f args h R)(m:∀v h1,R v h1->qJ h1->R' v h1):DC P f args h R':=λwf=>by
 obtain⟨v,h1,r,af,t⟩:=d wf;exact⟨v,h1,m v h1 r (wf.af af),af,t⟩
structure y4.Has (lo:y4) (h0:za):Prop where
 ro:lo.ro=h0.ro
 get:∀b,b<h0.next->lo.get b=some (h0.get b)
theorem y4.jP(h:za):(y4.of h).Has h:=⟨rfl,λb hb=>by unfold y4.of;dsimp only;rw[aai hb]⟩
theorem y4.Has.old{lo:y4}{h0 h:za}(x:lo.Has h0)(b:fF lo h):h0.next<=h.next/\h.ro=h0.ro /\ ∀c,c<h0.next->h.get c=h0.get c:=by
 refine⟨?_,b.ro.trans x.ro,λc hc=>(b.get c _ (x.get c hc)).1⟩;rcases ab3 h0.next with e|e
 ·omega
 ·have:=(b.get (h0.next-1) _ (x.get _ (by omega))).2;omega
end
theorem zt(A:(List aaa->za->Prop)->Prop)(J:List aaa->za->Prop):BK A J=A J:=rfl
end Go.Ai
