import Derived.Test.YtpjjmindjodknaaGreatTD
set_option linter.unusedVariables false
set_option linter.unusedSimpArgs false
set_option maxRecDepth 100000
namespace Go.Ai
noncomputable section
variable {P:Program}
@[congr] theorem zdI {f:aaa} {f':Unit->aaa} {l l':List aaa} {h h':za} {K:aaa->za->Prop} (e1:∀u:Unit,(f,u).1=f' u) (e2:l=l') (e3:h=h'):zF P f l h K=zF P (f' ()) l' h' K:=by rw[<- e1,e2,e3]
@[congr] theorem zdH {g:FuncId} {l l':List aaa} {h:za} {h':Unit->za} {K:aaa->Prop} (e2:l=l') (e3:∀u:Unit,(h,u).1=h' u):qt P g l h K=qt P g l' (h' ()) K:=by rw[e2,<- e3]
@[congr] theorem zdJ {g:FuncId} {l l':List aaa} {h:za} {h':Unit->za} {K:aaa->za->Prop} (e2:l=l') (e3:∀u:Unit,(h,u).1=h' u):QG P g l h K=QG P g l' (h' ()) K:=by rw[e2,<- e3]
@[congr] theorem zdG {g:FuncId} {l l':List aaa} {h:za} {h':Unit->za} {K:aaa->za->Prop} (e2:l=l') (e3:∀u:Unit,(h,u).1=h' u):oZ P g l h K=oZ P g l' (h' ()) K:=by rw[e2,<- e3]
@[congr] theorem zgf {step:List aaa->za->(List aaa->za->Prop)->Prop} {vs vs':List aaa} {h:za} {h':Unit->za} (e1:vs=vs') (e2:∀u:Unit,(h,u).1=h' u):LP step vs h=LP step vs' (h' ()):=by rw[e1,<- e2]
@[congr] theorem zf0 {α:Type} {x:Option α} {y:Unit->Option α} {K:α->Prop} (h:∀u:Unit,(x,u).1=y u):opt x K=opt (y ()) K:=by rw[<- h]
@[congr] theorem zeS {x:Option (aaa×za)} {y:Unit->Option (aaa×za)} {K:aaa->za->Prop} (h:∀u:Unit,(x,u).1=y u):zt x K=zt (y ()) K:=by rw[<- h]
@[congr] theorem zge {g:aaa} {g':Unit->aaa} {want:Bool} {A:(aaa->za->Prop)->Prop} {K:aaa->za->Prop} {h:za} (e:∀u:Unit,(g,u).1=g' u):GD g want A K h=GD (g' ()) want A K h:=by rw[<- e]
@[congr] theorem zgd {g:aaa} {g':Unit->aaa} {A B:(List aaa->za->Prop)->Prop} {J:List aaa->za->Prop} (e:∀u:Unit,(g,u).1=g' u):CD g A B J=CD (g' ()) A B J:=by rw[<- e]
end
noncomputable section
variable {P:Program}
def Fin(L:Nat)(K:aaa->za->Prop)(e:Ex)(h2:za):Prop := ∃A2,h2.get L=some (.loop A2)/\h2.ro<=L/\K (.bool (WT e).isNone) (h2.set L (some (.loop (A2.left e))))
def RA(L:Nat)(h1:za)(K:za->Prop):Prop := ∃A1,h1.get L=some (.loop A1)/\A1.state=.ready/\h1.ro<=L/\K (h1.set L (some (.loop {A1 with state := .busy})))
end
noncomputable section
variable {P:Program}
def lI(o:Option vr)(off n:Nat):Option (List aaa):=match o with
 |some (.cells c _)=>if off+n<=c.length then some ((c.drop off).take n) else none
 |_=>none
abbrev Lk:=yF->Option (Nat×Nat×Nat)
structure Ur (lk:Lk) (ops:Array Oper) (x y:yF):Prop where
 d1:∀d,x.o.dst=some d->d∉y.o.looksAt ops/\y.o.dst≠some d
 d2:∀d,y.o.dst=some d->d∉x.o.looksAt ops
 b1:∀b,x.tc b=true->y.tc b=false/\(y.rd b=false \/ ∃off n,lk y=some (b,off,n)/\x.rd b=true/\lI (x.g'.get b) off n=lI (x.g.get b) off n)
 b2:∀b,y.tc b=true->x.rd b=false \/ ∃off n,lk x=some (b,off,n)/\y.rd b=true/\lI (y.g'.get b) off n=lI (y.g.get b) off n
structure R3 (lk:Lk) (P:Program) (ops:Array Oper) (s0:Env) (h0:za) (A:List yF) (r:yF):Prop extends Told P ops s0 h0 A r where
 still:r.g.next=h0.next/\r.g'.next=h0.next
 look:∀b0 off n,lk r=some (b0,off,n)->r.rd b0=true/\(∀b,r.rd b=true->b=b0)/\(∀b,r.tc b=false) /\ ∀g:za,lI (g.get b0) off n=lI (r.g.get b0) off n->jL P ops r.s r.o g r.v g
structure X5 (lk:Lk) (P:Program) (ops:Array Oper) (s0:Env) (h0:za) (tr:List yF):Prop where
 nodup:(tr.map (·.j)).Nodup
 all:∀i,i<ops.size->∃r,r∈tr/\r.j=i
 told:∀A r B,tr=A++r::B->R3 lk P ops s0 h0 A r
 UP:∀A r B,tr=A++r::B->∀e,e∈r.o.after->Region.binds .any e=true->∃x,x∈A/\x.j=e.on
 apart:∀A x B y C,tr=A++x::(B++y::C)->Prec ops x.j y.j\/Ur lk ops x y
section
variable {lk:Lk}
theorem NF{ops:Array Oper}{s0:Env}{h0:za}{tr:List yF}(V:X5 lk P ops s0 h0 tr){S:Nat->Bool}(hdown:∀i j,Prec ops i j->S j=true->S i=true){A B:List yF}{r:yF}(e:tr=A++r::B)
  (hready:∀i,Prec ops i r.j->S i=true) (hnot:S r.j=false) {p:yF->Bool} (hp:∀x,(x∈A->p x=true->Prec ops x.j r.j)/\(x∈B->p x=true->Prec ops r.j x.j)) :
  (A.filter (λx=>S x.j)).filter p=A.filter p/\(B.filter (λx=>S x.j)).filter p=[]:=by
 constructor
 ·rw[abX];apply abD;intro x hx;cases hpx:p x with
  |false=>simp
  |true=>rw[hready _ ((hp x).1 hx hpx)];rfl
 ·rw[abX,aci];intro x hx hc;simp only[aad]at hc;have:=hdown _ _ ((hp x).2 hx hc.1) hc.2;rw[hnot]at this;cases this
theorem X5.order{ops:Array Oper}{s0:Env}{h0:za}{tr A B:List yF}{r:yF}(V:X5 lk P ops s0 h0 tr)(e:tr=A++r::B){p:yF->Bool}(hA:∀x,Ur lk ops x r->p x=false)(hB:∀x,Ur lk ops r x->p x=false) :
  ∀x,(x∈A->p x=true->Prec ops x.j r.j)/\(x∈B->p x=true->Prec ops r.j x.j):=by
 intro x
 constructor
 ·intro hx hpx;obtain⟨A1,A2,rfl⟩:=aaT hx;rcases V.apart A1 x A2 r B (by simp[e]) with h|h
  ·exact h
  ·rw[hA x h]at hpx;cases hpx
 ·intro hx hpx;obtain⟨B1,B2,rfl⟩:=aaT hx;rcases V.apart A r B1 x B2 e with h|h
  ·exact h
  ·rw[hB x h]at hpx;cases hpx
section
variable {ops:Array Oper}{s0:Env}{h0:za}{tr A B:List yF}{r:yF}{S:Nat->Bool}
theorem Q6(e:tr=A++r::B)(hnot:S r.j=false):tr.filter (λx=>S x.j)=A.filter (λx=>S x.j)++B.filter (λx=>S x.j):=by
 subst e;simp[hnot]
theorem pc(V:X5 lk P ops s0 h0 tr)(e:tr=A++r::B):tr.filter (λx=>kM S r.j x.j)=A.filter (λx=>S x.j)++r::B.filter (λx=>S x.j):=by
 have hA:A.filter (λx=>kM S r.j x.j)=A.filter (λx=>S x.j):=abD λx hx=>by simp[kM,Uj V.nodup e (.inl hx)]
 have hB:B.filter (λx=>kM S r.j x.j)=B.filter (λx=>S x.j):=abD λx hx=>by simp[kM,Uj V.nodup e (.inr hx)]
 rw[e,aaQ,abP,hA,hB,aai (by simp[kM])]
theorem JL(V:X5 lk P ops s0 h0 tr)(hdown:∀i j,Prec ops i j->S j=true->S i=true)(e:tr=A++r::B)(hready:∀i,Prec ops i r.j->S i=true)(hnot:S r.j=false){p:yF->Bool}
  (hA:∀x,Ur lk ops x r->p x=false) (hB:∀x,Ur lk ops r x->p x=false):vP (tr.filter λx=>S x.j) p=vP A p:=by
 obtain⟨h1,h2⟩:=NF V hdown e hready hnot (V.order e hA hB);rw[vP,Q6 e hnot,aaQ,h1,h2,aa7];rfl
theorem QS(V:X5 lk P ops s0 h0 tr)(hdown:∀i j,Prec ops i j->S j=true->S i=true)(e:tr=A++r::B)(hready:∀i,Prec ops i r.j->S i=true)(hnot:S r.j=false){p:yF->Bool}(hr:p r=true)
  (hA:∀x,Ur lk ops x r->p x=false) (hB:∀x,Ur lk ops r x->p x=false):vP (tr.filter λx=>kM S r.j x.j) p=some r:=by
 obtain⟨h1,h2⟩:=NF V hdown e hready hnot (V.order e hA hB);rw[vP,pc V e,aaQ,abP,aai hr,h1,h2];simp
theorem XX(V:X5 lk P ops s0 h0 tr)(e:tr=A++r::B)(hnot:S r.j=false){p:yF->Bool}(hr:p r=false):vP (tr.filter λx=>kM S r.j x.j) p=vP (tr.filter λx=>S x.j) p:=by
 rw[vP,vP,pc V e,Q6 e hnot,aaQ,abP,hr,aaf (by simp),aaQ]
theorem zdK(V:X5 lk P ops s0 h0 tr)(hdown:∀i j,Prec ops i j->S j=true->S i=true)(e:tr=A++r::B)(hready:∀i,Prec ops i r.j->S i=true)(hnot:S r.j=false){b0 off n:Nat}(hlk:lk r=some (b0,off,n))(hrd:r.rd b0=true)(htc:r.tc b0=false) :
  lI (XW (tr.filter λx=>S x.j) h0 b0) off n=lI (XW A h0 b0) off n:=by
 have val:∀(l:List yF),XW l h0 b0=match (l.filter λx=>x.tc b0).getLast? with|some r=>r.g'.get b0|none=>h0.get b0:=λl=>rfl
 have one:∀A1 x A2,tr=A1++x::A2->x.tc b0=true->(Ur lk ops x r\/Ur lk ops r x)->lI (x.g'.get b0) off n=lI (XW A1 h0 b0) off n:=by
  intro A1 x A2 e1 hx hf;have D:=V.told A1 x A2 e1
  have key:x.rd b0=true/\lI (x.g'.get b0) off n=lI (x.g.get b0) off n:=by
   rcases hf with hf|hf
   ·rcases (hf.b1 b0 hx).2 with h1|⟨o1,n1,h1,h2,h3⟩
    ·rw[hrd]at h1;cases h1
    ·rw[hlk]at h1;cases h1;exact⟨h2,h3⟩
   ·rcases hf.b2 b0 hx with h1|⟨o1,n1,h1,h2,h3⟩
    ·rw[hrd]at h1;cases h1
    ·rw[hlk]at h1;cases h1;exact⟨h2,h3⟩
  rw[key.2,D.heap,aai key.1]
 let p:yF->Bool:=λx=>x.tc b0
 have ord:∀A1 x A2,tr=A1++x::A2->p x=true->∀A3 y A4,A1=A3++y::A4->p y=true->Prec ops y.j x.j:=by
  intro A1 x A2 e1 hx A3 y A4 e2 hy;subst e2;rcases V.apart A3 y A4 x A2 (by simpa using e1) with h|h
  ·exact h
  ·have:=(h.b1 b0 hy).1;rw[show x.tc b0=true from hx]at this;cases this
 have go:∀(C D:List yF),tr=C++D->(∀x,x∈C->p x=true->S x.j=false->Ur lk ops x r)->lI (XW (C.filter λx=>S x.j) h0 b0) off n=lI (XW C h0 b0) off n:=by
  intro C
  induction hC:C.length generalizing C with
  |zero=>intro D _ _;rw[abm.1 hC];rfl
  |succ m ih=>
   intro D e1 hfree;rcases List.eq_nil_or_concat C with rfl|⟨C',x,rfl⟩
   ·cases hC
   simp only[List.concat_eq_append]at *
   have e2:tr=C'++x::D:=by rw[e1];simp
   have ih':=ih C' (by simpa using hC) (x::D) e2 λy hy=>hfree y (by simp[hy]);cases hp:p x with
   |false=>
    have h1:(C'++[x]).filter p=C'.filter p:=by rw[aaQ];simp[hp]
    have h2:((C'++[x]).filter λy=>S y.j).filter p=(C'.filter λy=>S y.j).filter p:=by
     rw[aaQ,aaQ];cases hs:S x.j <;> simp[hs,hp]
    rw[val,val,show((C'++[x]).filter λx=>x.tc b0)=C'.filter p from h1,show(((C'++[x]).filter λy=>S y.j).filter λx=>x.tc b0)=(C'.filter λy=>S y.j).filter p from h2];rw[val,val]at ih';exact ih'
   |true=>
    have h1:(C'++[x]).filter p=C'.filter p++[x]:=(by rw[aaQ];simp[hp]);cases hs:S x.j with
    |true=>
     have h2:((C'++[x]).filter λy=>S y.j).filter p=(C'.filter λy=>S y.j).filter p++[x]:=by
      rw[aaQ,aaQ];simp[hs,hp]
     rw[val,val,show((C'++[x]).filter λx=>x.tc b0)=C'.filter p++[x] from h1,show(((C'++[x]).filter λy=>S y.j).filter λx=>x.tc b0)=(C'.filter λy=>S y.j).filter p++[x] from h2];simp
    |false=>
     have h2:((C'++[x]).filter λy=>S y.j).filter p=(C'.filter λy=>S y.j).filter p:=by
      rw[aaQ,aaQ];simp[hs]
     have hx:=one C' x D e2 hp (.inl (hfree x (by simp) hp hs));rw[val ((C'++[x]).filter _),val (C'++[x]),show((C'++[x]).filter λx=>x.tc b0)=C'.filter p++[x] from h1,show(((C'++[x]).filter λy=>S y.j).filter λx=>x.tc b0)=(C'.filter λy=>S y.j).filter p from h2];rw[val]at ih';simp only[List.getLast?_append,List.getLast?_singleton,Option.some_or];rw[hx];exact ih'
 have back:∀(C D:List yF),B=C++D->lI (XW (A.filter (λx=>S x.j)++C.filter (λx=>S x.j)) h0 b0) off n=lI (XW (A.filter λx=>S x.j) h0 b0) off n:=by
  intro C
  induction hC:C.length generalizing C with
  |zero=>intro D _;rw[abm.1 hC];simp
  |succ m ih=>
   intro D e1;rcases List.eq_nil_or_concat C with rfl|⟨C',x,rfl⟩
   ·cases hC
   simp only[List.concat_eq_append]at *
   have e2:B=C'++x::D:=by rw[e1];simp
   have ih':=ih C' (by simpa using hC) (x::D) e2;cases hs:S x.j with
   |false=>rw[aaQ];simpa [hs] using ih'
   |true=>
    cases hp:p x with
    |false=>
     have h2:((A.filter (λx=>S x.j)++(C'++[x]).filter λy=>S y.j).filter p)=(A.filter (λx=>S x.j)++C'.filter λy=>S y.j).filter p:=by
      rw[aaQ C' [x]];simp[hs,hp]
     rw[val,show((A.filter (λx=>S x.j)++(C'++[x]).filter λy=>S y.j).filter λx=>x.tc b0)=_ from h2];rw[val]at ih';exact ih'
    |true=>
     have e3:tr=(A++r::C')++x::D:=by rw[e,e2];simp
     have hfr:Ur lk ops r x:=by
      rcases V.apart A r C' x D (by rw[e,e2]) with h|h
      ·have:=hdown _ _ h hs;rw[hnot]at this;cases this
      ·exact h
     have hx:=one (A++r::C') x D e3 hp (.inr hfr)
     have h2:((A.filter (λx=>S x.j)++(C'++[x]).filter λy=>S y.j).filter p)=(A.filter (λx=>S x.j)++C'.filter λy=>S y.j).filter p++[x]:=by
      rw[aaQ C' [x]];simp[hs,hp,aaQ]
     rw[val,show((A.filter (λx=>S x.j)++(C'++[x]).filter λy=>S y.j).filter λx=>x.tc b0)=_ from h2];simp only[List.getLast?_append,List.getLast?_singleton,Option.some_or];rw[hx,<- ih']
     have h4:(A++r::C').filter p=(A.filter (λx=>S x.j)++C'.filter λy=>S y.j).filter p:=by
      have all:∀y,y∈A++r::C'->p y=true->S y.j=true:=by
       intro y hy hpy;obtain⟨Y1,Y2,hY⟩:=aaT hy;exact hdown _ _ (ord (A++r::C') x D e3 hp Y1 y Y2 hY hpy) hs
      rw[<- aaQ,abX,aaQ,aaQ,abP,show p r=false from htc];simp only[abb,abS]
      congr 1
      ·apply abD;intro y hy;cases hpy:p y with
       |false=>simp
       |true=>rw[all y (by simp[hy]) hpy];rfl
      ·apply abD;intro y hy;cases hpy:p y with
       |false=>simp
       |true=>rw[all y (by simp[hy]) hpy];rfl
     rw[val,val,show((A++r::C').filter λx=>x.tc b0)=_ from h4]
 have hA:=go A (r::B) e λx hx hpx hsx=>by
  obtain⟨A1,A2,rfl⟩:=aaT hx;rcases V.apart A1 x A2 r B (by simp[e]) with h|h
  ·have:=hready _ h;rw[hsx]at this;cases this
  ·exact h
 rw[Q6 e hnot,back B [] (by simp),hA]
theorem L2(hro0:h0.ro<=h0.next)(V:X5 lk P ops s0 h0 tr)(hdown:∀i j,Prec ops i j->S j=true->S i=true)(e:tr=A++r::B)(hready:∀i,Prec ops i r.j->S i=true)(hnot:S r.j=false)
  {N:Nat} (hN:∀x,x∈tr->x.g'.next<=N) (hlk:lk r=none) {ρ0 ρ:xL} {w0 w:World} {tm:Array aaa} (I:dK P tr s0 h0 N ρ0 w0 S ρ w tm) (ds:List Deferred) (rest:List Nat) (b:Frame) (k:List Item) (cs:List Frame) :
  ∃ρ' w' tm',dK P tr s0 h0 N ρ0 w0 (kM S r.j) ρ' w' tm'/\Steps P (lone (ub b tm ds (.inRegion ops (r.j::rest)::k)) cs w) (lone (ub b tm' ds (.inRegion ops rest::k)) cs w'):=by
 have D:=V.told A r B e;have hrm:r∈tr:=by rw[e];simp
 have rdA:∀x,Ur lk ops x r->∀bb,x.tc bb=true->r.rd bb=true->False:=λx hx bb hw hb=>by
  rcases (hx.b1 bb hw).2 with h|⟨_,_,h,_⟩
  ·rw[hb]at h;cases h
  ·rw[hlk]at h;cases h
 have rdB:∀x,Ur lk ops r x->∀bb,x.tc bb=true->r.rd bb=true->False:=λx hx bb hw hb=>by
  rcases hx.b2 bb hw with h|⟨_,_,h,_⟩
  ·rw[hb]at h;cases h
  ·rw[hlk]at h;cases h
 have lookEnv:∀t,t∈r.o.looksAt ops->vP (tr.filter λx=>S x.j) (Kf t)=vP A (Kf t):=λt ht=>
  JL V hdown e hready hnot (λx hx=>by
   cases hw:Kf t x with
   |false=>rfl
   |true=>exact absurd ht (hx.d1 t (aa9 hw)).1) (λx hx=>by
   cases hw:Kf t x with
   |false=>rfl
   |true=>exact absurd ht (hx.d2 t (aa9 hw)))
 have lookHeap:∀bb,r.rd bb=true->vP (tr.filter λx=>S x.j) (λx=>x.tc bb)=vP A (λx=>x.tc bb):=λbb hb=>
  JL V hdown e hready hnot (λx hx=>by
   cases hw:x.tc bb with
   |false=>rfl
   |true=>exact(rdA x hx bb hw hb).elim) (λx hx=>by
   cases hw:x.tc bb with
   |false=>rfl
   |true=>exact(rdB x hx bb hw hb).elim)
 have hpVeq:∀bb,r.rd bb=true->XW (tr.filter λx=>S x.j) h0 bb=r.g.get bb:=λbb hb=>by
  rw[D.heap,aai hb];simp only[XW,lookHeap bb hb]
 have hpNle:∀bb,r.rd bb=true->mS (tr.filter λx=>S x.j) h0.next bb<=r.g.next:=λbb hb=>by
  simp only[mS,lookHeap bb hb];split
  ·rename_i x hx;exact D.nA x (WU hx).1
  ·exact D.n0
 have galive:∀bb o,r.g.get bb=some o->r.rd bb=true/\XW (tr.filter λx=>S x.j) h0 bb=some o:=λbb o hg=>by
  rw[D.heap]at hg;cases hb:r.rd bb with
  |false=>rw[hb]at hg;simp at hg
  |true=>exact⟨rfl,by rw[hpVeq bb hb,D.heap];exact hg⟩
 let ρr:=ρ.cut r.g.next
 have hrel:Rel P ρr r.g w:=by
  refine⟨rfl,?_,?_,?_,?_,by rw[D.ro];exact I.pf,I.gl⟩
  ·have h1:=D.ro;have h2:=D.n0;show r.g.ro<=r.g.next;omega
  ·intro bb o hg;obtain⟨h1,h2⟩:=galive bb o hg;exact aap (I.heap bb o h2).1 (hpNle bb h1)
  ·intro bb o hg;obtain⟨h1,h2⟩:=galive bb _ hg;obtain⟨_,pl,hp,hc⟩:=I.heap bb o h2;refine⟨pl,hp,?_⟩;rw[D.ro];exact hc.bG (hpNle bb h1)
  ·intro b1 b2 o1 o2 p1 p2 g1 g2;exact I.inj b1 b2 o1 o2 p1 p2 (galive b1 o1 g1).2 (galive b2 o2 g2).2
 have hlook:∀t,t∈r.o.looksAt ops->zO ρr (r.s.get t) (tm.getD t undef):=by
  intro t ht;have h1:=I.env t;have e1:Q4 (tr.filter λx=>S x.j) s0 t=r.s.get t:=by rw[D.env t];simp only[Q4,lookEnv t ht]
  have e2:iP (tr.filter λx=>S x.j) h0.next t<=r.g.next:=by
   simp only[iP,lookEnv t ht];split
   ·rename_i x hx;exact D.nA x (WU hx).1
   ·exact D.n0
  rw[e1]at h1;exact h1.bG e2
 obtain⟨v',w',ρq,st,hv,sx⟩:=ca D.op D.sem hrel (D.size.trans I.size) hlook ds rest b k cs
 let ρ':xL:={next:=N,m:=λbb=>if r.g.next<=bb/\bb<r.g'.next then ρq.m bb else ρ.m bb}
 have qnext:ρq.next=r.g'.next:=st.rel.next;have qlow:∀bb,bb<r.g.next->ρq.m bb=ρ.m bb:=λbb hb=>st.le.2 bb hb
 have pq:∀bb,bb<r.g'.next->ρ'.m bb=ρq.m bb:=by
  intro bb hb;by_cases hl:r.g.next<=bb
  ·exact aai ⟨hl,hb⟩
  ·rw[show ρ'.m bb=ρ.m bb from aaf (by omega),qlow bb (by omega)]
 have rfresh:=I.fresh r hrm hnot
 have pext:∀bb pl,ρ.m bb=some pl->ρ'.m bb=some pl:=by
  intro bb pl hm
  rw[show ρ'.m bb=ρ.m bb from aaf (by
   rintro⟨h1,h2⟩;rw[rfresh bb h1 h2]at hm;cases hm)]
  exact hm
 have hn1N:r.g'.next<=N:=hN r hrm
 have notMine:∀bb o pl,XW (tr.filter λx=>S x.j) h0 bb=some o->ρ.m bb=some pl->r.rd bb=false->¬rj ρr r.g pl.c:=by
  rintro bb o pl hg hm hb ⟨b1,o1,p1,g1,_,m1,e1⟩;obtain⟨k1,k2⟩:=galive b1 o1 g1;have:=I.inj b1 bb o1 o p1 pl k2 hg m1 hm e1;subst this;rw[hb]at k1;cases k1
 have hpVnew:∀bb,XW (tr.filter λx=>kM S r.j x.j) h0 bb=if r.tc bb=true then r.g'.get bb else XW (tr.filter λx=>S x.j) h0 bb:=by
  intro bb;cases ht:r.tc bb with
  |true=>
   rw[aai rfl];simp only[XW]
   rw[QS V hdown e hready hnot ht (λx hx=>by
    cases hw:x.tc bb with
    |false=>rfl
    |true=>have:=(hx.b1 bb hw).1;rw[ht]at this;cases this) (λx hx=>by
    cases hw:x.tc bb with
    |false=>rfl
    |true=>have:=(hx.b1 bb ht).1;rw[hw]at this;cases this)]
  |false=>
   rw[aaf (by simp)];simp only[XW];rw[XX V e hnot (p:=λx=>x.tc bb) ht]
 have hpNnew:∀bb,mS (tr.filter λx=>kM S r.j x.j) h0.next bb=if r.tc bb=true then r.g'.next else mS (tr.filter λx=>S x.j) h0.next bb:=by
  intro bb;cases ht:r.tc bb with
  |true=>
   rw[aai rfl];simp only[mS]
   rw[QS V hdown e hready hnot ht (λx hx=>by
    cases hw:x.tc bb with
    |false=>rfl
    |true=>have:=(hx.b1 bb hw).1;rw[ht]at this;cases this) (λx hx=>by
    cases hw:x.tc bb with
    |false=>rfl
    |true=>have:=(hx.b1 bb ht).1;rw[hw]at this;cases this)]
  |false=>
   rw[aaf (by simp)];simp only[mS];rw[XX V e hnot (p:=λx=>x.tc bb) ht]
 have cases':∀bb o,XW (tr.filter λx=>kM S r.j x.j) h0 bb=some o->(r.tc bb=true/\r.g'.get bb=some o)\/(r.tc bb=false/\XW (tr.filter λx=>S x.j) h0 bb=some o):=by
  intro bb o h;rw[hpVnew]at h;cases ht:r.tc bb with
  |true=>rw[ht,aai rfl]at h;exact .inl ⟨rfl,h⟩
  |false=>rw[ht,aaf (by simp)]at h;exact .inr ⟨rfl,h⟩
 refine⟨ρ',w',qY tm r.o.dst v',⟨rfl,?_,?_,?_,?_,?_,?_,st.os.trans I.os,st.tape.trans I.tape,st.output.trans I.output,aaW I.eR st.size,?_,?_,I.pf,λb pl hb hm=>I.gl b pl hb (by
  rw[show ρ'.m b=ρ.m b from aaf (by have:=D.n0;have:=I.pf;omega)]at hm;exact hm)⟩,sx⟩
 ·intro bb hb;rw[show ρ'.m bb=ρ.m bb from aaf (by have:=D.n0;omega)];exact I.old bb hb
 ·cases r.o.dst with
  |none=>exact I.size
  |some d=>simp only[qY,Array.size_setIfInBounds];exact I.size
 ·
  intro t;by_cases ht:r.o.dst=some t
  ·have e1:vP (tr.filter λx=>kM S r.j x.j) (Kf t)=some r:=QS V hdown e hready hnot (p:=Kf t) (by simp[Kf,ht]) (λx hx=>by
    cases hw:Kf t x with
    |false=>rfl
    |true=>exact absurd ht (hx.d1 t (aa9 hw)).2) (λx hx=>by
    cases hw:Kf t x with
    |false=>rfl
    |true=>exact absurd (aa9 hw) (hx.d1 t ht).2)
   simp only[Q4,iP,e1]
   have e2:(qY tm r.o.dst v').getD t undef=v':=by
    have hlt:t<tm.size:=(by rw[<- I.size];exact D.put t ht);rw[ht];simp[qY,aax,hlt]
   rw[e2];refine hv.ext (by show ρq.next<=r.g'.next;rw[qnext];exact aaj _) (λbb pl hb hm=>?_);show ρ'.m bb=some pl;rw[pq bb (by rw[<- qnext];exact hb)];exact hm
  ·have e1:vP (tr.filter λx=>kM S r.j x.j) (Kf t)=vP (tr.filter λx=>S x.j) (Kf t):=XX V e hnot (p:=Kf t) (by simp[Kf,ht])
   have e2:(qY tm r.o.dst v').getD t undef=tm.getD t undef:=by
    cases hd:r.o.dst with
    |none=>rfl
    |some d=>
     have:d≠t:=λh=>ht (by rw[hd,h]);simp[qY,aax,this]
   have h1:=I.env t;simp only[Q4,iP]at h1 ⊢;rw[e1,e2];exact h1.AI (ρ':=ρ') pext
 ·
  intro bb o hg;rcases cases' bb _ hg with⟨ht,hg'⟩|⟨ht,hg'⟩
  ·rw[hpNnew,aai ht];obtain⟨pl,hp,hc⟩:=st.rel.ok bb o hg';have hlt:=st.rel.ar bb _ hg';refine⟨hlt,pl,by rw[pq bb hlt];exact hp,?_⟩;have hro:r.g'.ro=h0.ro:=st.ro.trans D.ro;rw[hro]at hc;exact hc.ext (by show ρq.next<=r.g'.next;rw[qnext];exact aaj _) (λb2 p2 hb hm=>by show ρ'.m b2=some p2;rw[pq b2 (by rw[<- qnext];exact hb)];exact hm)
  ·rw[hpNnew,ht,aaf (by simp)];obtain⟨hlt,pl,hp,hc⟩:=I.heap bb o hg';refine⟨hlt,pl,pext bb pl hp,?_⟩
   have hdone:uu P (ρ.cut (mS (tr.filter λx=>S x.j) h0.next bb)) (decide (h0.ro<=bb)) o pl w':=by
    cases hb:r.rd bb with
    |true=>
     have hgg:r.g'.get bb=some o:=(by rw[D.tc2 bb ht,<- hpVeq bb hb];exact hg');obtain⟨p2,hp2,hc2⟩:=st.rel.ok bb o hgg;have hbl:bb<r.g.next:=aap hlt (hpNle bb hb);rw[qlow bb hbl,hp]at hp2;cases hp2;have hro:r.g'.ro=h0.ro:=st.ro.trans D.ro;rw[hro]at hc2;exact uu.down (ρ:=ρ.cut (mS (tr.filter λx=>S x.j) h0.next bb)) (ρ2:=ρq) (λb2 hb2=>qlow b2 (aap hb2 (hpNle bb hb))) hc hc2
    |false=>exact hc.other (st.frame pl.c hc.lt (notMine bb _ pl hg' hp hb))
   exact hdone.AI (ρ':=ρ') pext
 ·
  have key:∀b1 b2 o1 o2 p1 p2,r.tc b1=true->r.g'.get b1=some o1->r.tc b2=false->XW (tr.filter λx=>S x.j) h0 b2=some o2->ρ'.m b1=some p1->ρ'.m b2=some p2->p1.c=p2.c->b1=b2:=by
   intro b1 b2 o1 o2 p1 p2 t1 g1 t2 g2 m1 m2 ec;obtain⟨hlt2,q2,hq2,hc2⟩:=I.heap b2 o2 g2;rw[pext b2 q2 hq2]at m2;cases m2;have hl1:=st.rel.ar b1 o1 g1;rw[pq b1 hl1]at m1;cases hb2:r.rd b2 with
   |true=>
    have hgg:r.g'.get b2=some o2:=(by rw[D.tc2 b2 t2,<- hpVeq b2 hb2];exact g2);have hbl:b2<r.g.next:=aap hlt2 (hpNle b2 hb2);exact st.rel.inj b1 b2 o1 _ p1 p2 g1 hgg m1 (by rw[qlow b2 hbl];exact hq2) ec
   |false=>
    by_cases hw:h0.ro<=b1
    ·have hM:rj ρq r.g' p1.c:=⟨b1,o1,p1,g1,by rw[st.ro,D.ro];exact hw,m1,rfl⟩;have hlt:p1.c<w.heap.size:=by rw[ec];exact hc2.lt
     have:=st.pX p1.c hlt hM;rw[ec]at this;exact absurd this (notMine b2 _ p2 g2 hq2 hb2)
    ·have hb1:b1<r.g.next:=(by have:=D.n0;omega);have hne:=D.tc3 b1 o1 t1 hb1 g1;obtain⟨o1',ho1'⟩:∃o,r.g.get b1=some o:=by cases hh:r.g.get b1 with|none=>exact absurd hh hne|some o=>exact⟨o,rfl⟩
     rw[qlow b1 hb1]at m1;exact I.inj b1 b2 o1' _ p1 p2 (galive b1 o1' ho1').2 g2 m1 hq2 ec
  intro b1 b2 o1 o2 p1 p2 g1 g2 m1 m2 ec;rcases cases' b1 o1 g1 with⟨t1,k1⟩|⟨t1,k1⟩ <;> rcases cases' b2 o2 g2 with⟨t2,k2⟩|⟨t2,k2⟩
  ·have l1:=st.rel.ar b1 o1 k1;have l2:=st.rel.ar b2 o2 k2;rw[pq b1 l1]at m1;rw[pq b2 l2]at m2;exact st.rel.inj b1 b2 o1 o2 p1 p2 k1 k2 m1 m2 ec
  ·exact key b1 b2 o1 o2 p1 p2 t1 k1 t2 k2 m1 m2 ec
  ·exact(key b2 b1 o2 o1 p2 p1 t2 k2 t1 k1 m2 m1 ec.symm).symm
  ·obtain⟨_,q1,hq1,_⟩:=I.heap b1 o1 k1;obtain⟨_,q2,hq2,_⟩:=I.heap b2 o2 k2;rw[pext b1 q1 hq1]at m1;rw[pext b2 q2 hq2]at m2;cases m1;cases m2;exact I.inj b1 b2 _ _ p1 p2 k1 k2 hq1 hq2 ec
 ·
  intro x hx hS bb h1 h2;simp only[kM,abc,aan]at hS;have h3:=I.fresh x hx hS.1 bb h1 h2;have hne:x≠r:=λh=>hS.2 (by rw[h])
  have hdis:¬(r.g.next<=bb/\bb<r.g'.next):=by
   rw[e]at hx;rcases aaG.1 hx with hxA|hxB
   ·have:=D.nA x hxA;omega
   ·rcases aaS.1 hxB with hxr|hxB
    ·exact absurd hxr hne
    ·obtain⟨B1,B2,rfl⟩:=aaT hxB;have:=(V.told (A++r::B1) x B2 (by simp[e])).nA r (by simp);omega
  rw[show ρ'.m bb=ρ.m bb from aaf hdis];exact h3
 ·intro c hc hn
  rw[st.frame c (aap hc I.eR) (by
   rintro⟨b1,o1,p1,g1,hro1,m1,rfl⟩;exact hn (I.pX b1 o1 p1 (galive b1 o1 g1).2 (by rw[<- D.ro];exact hro1) m1 hc))]
  exact I.frame c hc hn
 ·intro bb o pl hg hro hm hc;rcases cases' bb o hg with⟨ht,hg'⟩|⟨ht,hg'⟩
  ·rw[pq bb (st.rel.ar bb o hg')]at hm;obtain⟨b1,o1,p1,g1,hro1,m1,e1⟩:=st.pX pl.c (aap hc I.eR) ⟨bb,o,pl,hg',by rw[st.ro,D.ro];exact hro,hm,rfl⟩;rw[<- e1];exact I.pX b1 o1 p1 (galive b1 o1 g1).2 (by rw[<- D.ro];exact hro1) m1 (by rw[e1];exact hc)
  ·obtain⟨_,q,hq,_⟩:=I.heap bb o hg';rw[pext bb q hq]at hm;cases hm;exact I.pX bb _ pl hg' hro hq hc
theorem L1(hro0:h0.ro<=h0.next)(V:X5 lk P ops s0 h0 tr)(hdown:∀i j,Prec ops i j->S j=true->S i=true)(e:tr=A++r::B)(hready:∀i,Prec ops i r.j->S i=true)(hnot:S r.j=false)
  {N:Nat} (hN:∀x,x∈tr->x.g'.next<=N) (hNN:N=h0.next) {b0 off n:Nat} (hlk:lk r=some (b0,off,n)) {ρ0 ρ:xL} {w0 w:World} {tm:Array aaa} (I:dK P tr s0 h0 N ρ0 w0 S ρ w tm) (ds:List Deferred) (rest:List Nat) (b:Frame) (k:List Item) (cs:List Frame) :
  ∃ρ' w' tm',dK P tr s0 h0 N ρ0 w0 (kM S r.j) ρ' w' tm'/\Steps P (lone (ub b tm ds (.inRegion ops (r.j::rest)::k)) cs w) (lone (ub b tm' ds (.inRegion ops rest::k)) cs w'):=by
 have D:=V.told A r B e;have hrm:r∈tr:=by rw[e];simp
 obtain⟨l1,l2,l3,l4⟩:=D.look b0 off n hlk;have hNr:r.g.next=N:=by rw[D.still.1,hNN]
 have hNr':r.g'.next=N:=by rw[D.still.2,hNN]
 have hcut:ρ.cut N=ρ:=by have:=I.next;cases ρ;simp only at this;subst this;rfl
 have lookEnv:∀t,t∈r.o.looksAt ops->vP (tr.filter λx=>S x.j) (Kf t)=vP A (Kf t):=λt ht=>
  JL V hdown e hready hnot (λx hx=>by
   cases hw:Kf t x with
   |false=>rfl
   |true=>exact absurd ht (hx.d1 t (aa9 hw)).1) (λx hx=>by
   cases hw:Kf t x with
   |false=>rfl
   |true=>exact absurd ht (hx.d2 t (aa9 hw)))
 have lastn:∀(p:yF->Bool) x,vP (tr.filter λx=>S x.j) p=some x->x.g'.next<=N:=λp x hx=>hN x (abU.1 (WU hx).1).1
 have hpNle:∀bb,mS (tr.filter λx=>S x.j) h0.next bb<=N:=λbb=>by
  simp only[mS];split
  ·rename_i x hx;exact lastn _ x hx
  ·omega
 let g1:za:=r.g.set b0 (XW (tr.filter λx=>S x.j) h0 b0)
 have g1get:∀bb o,g1.get bb=some o->bb=b0/\XW (tr.filter λx=>S x.j) h0 b0=some o:=λbb o hg=>by
  show bb=b0/\_;have hg:(r.g.set b0 (XW (tr.filter λx=>S x.j) h0 b0)).get bb=some o:=hg;rw[za.yJ]at hg;split at hg
  ·rename_i q;exact⟨q,hg⟩
  ·rw[D.heap]at hg;cases hb:r.rd bb with
   |false=>rw[hb]at hg;simp at hg
   |true=>rename_i q;exact absurd (l2 bb hb) q
 have hrel:Rel P ρ g1 w:=by
  refine⟨by rw[I.next];exact hNr.symm,by have h1:=D.ro;have h2:=D.n0;show r.g.ro<=r.g.next;omega,λbb o hg=>?_,λbb o hg=>?_,λb1 b2 o1 o2 p1 p2 q1 q2 _ _ _=>?_,by show _<=r.g.ro;rw[D.ro];exact I.pf,I.gl⟩
  ·obtain⟨rfl,h2⟩:=g1get bb o hg;have:=(I.heap bb o h2).1;have:=hpNle bb;show bb<r.g.next;omega
  ·obtain⟨rfl,h2⟩:=g1get bb o hg;obtain⟨_,pl,hp,hc⟩:=I.heap bb o h2;refine⟨pl,hp,?_⟩;have hc:=hc.bG (hpNle bb);rw[hcut]at hc;show uu P ρ (decide (r.g.ro<=bb)) o pl w;rw[D.ro];exact hc
  ·rw[(g1get b1 o1 q1).1,(g1get b2 o2 q2).1]
 have hsem:jL P ops r.s r.o g1.lock r.v g1.lock:=l4 g1.lock (by
  show lI ((r.g.set b0 (XW (tr.filter λx=>S x.j) h0 b0)).get b0) off n=_;rw[za.yJ,aai rfl,zdK V hdown e hready hnot hlk l1 (l3 b0),D.heap,aai l1])
 have hlook:∀t,t∈r.o.looksAt ops->zO ρ (r.s.get t) (tm.getD t undef):=by
  intro t ht;have h1:=I.env t;have e1:Q4 (tr.filter λx=>S x.j) s0 t=r.s.get t:=by rw[D.env t];simp only[Q4,lookEnv t ht]
  rw[e1]at h1
  have h1:=h1.bG (m:=N) (by
   simp only[iP];split
   ·rename_i x hx;exact lastn _ x hx
   ·omega)
  rw[hcut]at h1;exact h1
 obtain⟨v',w',ρq,st,hv,sx⟩:=ca D.op hsem hrel.lock (D.size.trans I.size) hlook ds rest b k cs
 have hfr:∀c,c<w.heap.size->w'.heap[c]? = w.heap[c]?:=λc hc=>st.frame c hc (by
  rintro⟨bb,o,pl,hg,hro,_,_⟩;have h1:=hrel.lock.ar bb o hg;have h2:g1.next<=bb:=hro;have h3:bb<g1.next:=h1;omega)
 have qn:ρq.next=N:=by
  have:ρq.next=g1.next:=st.rel.next;rw[this];exact hNr
 have hv2:zO ρ v' v'\/True := .inr trivial
 have hvr:zO ρ r.v v':=hv.ext (by rw[qn,I.next];exact aaj _) λbb pl hb hm=>by
  rw[<- st.le.2 bb (by rw[I.next,<- qn];exact hb)];exact hm
 have hpVnew:∀bb,XW (tr.filter λx=>kM S r.j x.j) h0 bb=XW (tr.filter λx=>S x.j) h0 bb:=λbb=>by
  simp only[XW];rw[XX V e hnot (p:=λx=>x.tc bb) (l3 bb)]
 have hpNnew:∀bb,mS (tr.filter λx=>kM S r.j x.j) h0.next bb=mS (tr.filter λx=>S x.j) h0.next bb:=λbb=>by
  simp only[mS];rw[XX V e hnot (p:=λx=>x.tc bb) (l3 bb)]
 refine⟨ρ,w',qY tm r.o.dst v',⟨I.next,I.old,?_,?_,?_,?_,?_,st.os.trans I.os,st.tape.trans I.tape,st.output.trans I.output,aaW I.eR st.size,?_,?_,I.pf,I.gl⟩,sx⟩
 ·cases r.o.dst with
  |none=>exact I.size
  |some d=>simp only[qY,Array.size_setIfInBounds];exact I.size
 ·intro t;by_cases ht:r.o.dst=some t
  ·have e1:vP (tr.filter λx=>kM S r.j x.j) (Kf t)=some r:=QS V hdown e hready hnot (p:=Kf t) (by simp[Kf,ht]) (λx hx=>by
    cases hw:Kf t x with
    |false=>rfl
    |true=>exact absurd ht (hx.d1 t (aa9 hw)).2) (λx hx=>by
    cases hw:Kf t x with
    |false=>rfl
    |true=>exact absurd (aa9 hw) (hx.d1 t ht).2)
   simp only[Q4,iP,e1]
   have e2:(qY tm r.o.dst v').getD t undef=v':=by
    have hlt:t<tm.size:=(by rw[<- I.size];exact D.put t ht);rw[ht];simp[qY,aax,hlt]
   rw[e2,hNr',hcut];exact hvr
  ·have e1:vP (tr.filter λx=>kM S r.j x.j) (Kf t)=vP (tr.filter λx=>S x.j) (Kf t):=XX V e hnot (p:=Kf t) (by simp[Kf,ht])
   have e2:(qY tm r.o.dst v').getD t undef=tm.getD t undef:=by
    cases hd:r.o.dst with
    |none=>rfl
    |some d=>
     have:d≠t:=λh=>ht (by rw[hd,h]);simp[qY,aax,this]
   have h1:=I.env t;simp only[Q4,iP]at h1 ⊢;rw[e1,e2];exact h1
 ·intro bb o hg;rw[hpVnew]at hg;rw[hpNnew];obtain⟨h1,pl,hp,hc⟩:=I.heap bb o hg;exact⟨h1,pl,hp,hc.other (hfr pl.c hc.lt)⟩
 ·intro b1 b2 o1 o2 p1 p2 g1 g2;rw[hpVnew]at g1 g2;exact I.inj b1 b2 o1 o2 p1 p2 g1 g2
 ·intro x hx hS;simp only[kM,abc,aan]at hS;exact I.fresh x hx hS.1
 ·intro c hc hn;rw[hfr c (aap hc I.eR)];exact I.frame c hc hn
 ·intro bb o pl hg;rw[hpVnew]at hg;exact I.pX bb o pl hg
theorem L3(hro0:h0.ro<=h0.next)(V:X5 lk P ops s0 h0 tr)(hdown:∀i j,Prec ops i j->S j=true->S i=true)(e:tr=A++r::B)(hready:∀i,Prec ops i r.j->S i=true)(hnot:S r.j=false)
  {N:Nat} (hN:∀x,x∈tr->x.g'.next<=N) (hNN:N=h0.next) {ρ0 ρ:xL} {w0 w:World} {tm:Array aaa} (I:dK P tr s0 h0 N ρ0 w0 S ρ w tm) (ds:List Deferred) (rest:List Nat) (b:Frame) (k:List Item) (cs:List Frame) :
  ∃ρ' w' tm',dK P tr s0 h0 N ρ0 w0 (kM S r.j) ρ' w' tm'/\Steps P (lone (ub b tm ds (.inRegion ops (r.j::rest)::k)) cs w) (lone (ub b tm' ds (.inRegion ops rest::k)) cs w'):=by
 cases hlk:lk r with
 |none=>exact L2 hro0 V hdown e hready hnot hN hlk I ds rest b k cs
 |some x=>obtain⟨b0,off,n⟩:=x;exact L1 hro0 V hdown e hready hnot hN hNN hlk I ds rest b k cs
end
section
variable {ops:Array Oper}{s0:Env}{h0:za}{tr:List yF}
theorem Tk(hro0:h0.ro<=h0.next)(V:X5 lk P ops s0 h0 tr){N:Nat}(hN:∀x,x∈tr->x.g'.next<=N)(hNN:N=h0.next){ρ0:xL}{w0:World}(ds:List Deferred)(b:Frame)(k:List Item)(cs:List Frame) :
  ∀(fuel t:Nat) (listed:Array Bool) (ρ:xL) (w:World) (tm:Array aaa),listed.size=ops.size->((List.range ops.size).filter λi => !listed.getD i false).length<=fuel ->
   (∀i j,Prec ops i j->listed.getD j false=true->listed.getD i false=true)->dK P tr s0 h0 N ρ0 w0 (λj=>listed.getD j false) ρ w tm ->
   ∃S ρ' w' tm',(∀r,r∈tr->S r.j=true)/\dK P tr s0 h0 N ρ0 w0 S ρ' w' tm' /\
    Steps P (lone (ub b tm ds (.inRegion ops (Region.linearise.go .any ops fuel t listed [])::k)) cs w) (lone (ub b tm' ds (.inRegion ops []::k)) cs w'):=by
 intro fuel
 induction fuel with
 |zero=>
  intro t listed ρ w tm hsz hcount hdown I;refine⟨_,ρ,w,tm,?_,I,.refl P _⟩;intro r hr;have hnil:=aby (Nat.le_zero.1 hcount);obtain⟨A,B,e⟩:=aaT hr;have yy:=(V.told A r B e).op
  have hlt:r.j<ops.size:=by
   rcases aaN r.j ops.size with h|h
   ·exact h
   ·rw[aaI h]at yy;cases yy
  cases hl:listed.getD r.j false with
  |true=>rfl
  |false=>
   have:r.j∈(List.range ops.size).filter λi => !listed.getD i false:=abU.2 ⟨abf.2 hlt,by rw[hl];rfl⟩;rw[hnil]at this;cases this
 |succ fuel ih=>
  intro t listed ρ w tm hsz hcount hdown I;simp only[Region.linearise.go]
  change ∃S ρ' w' tm',(∀r,r∈tr->S r.j=true)/\dK P tr s0 h0 N ρ0 w0 S ρ' w' tm'/\Steps P (lone (ub b tm ds (.inRegion ops (match (Region.ready .any ops listed)[t%(Region.ready .any ops listed).length]? with
   |some i=>Region.linearise.go .any ops fuel (t/(Region.ready .any ops listed).length) (listed.setIfInBounds i true) [i]
   |none=>[].reverse)::k)) cs w) _
  have getTF:∀i,i<ops.size->listed.getD i true=listed.getD i false:=by
   intro i hi;simp[aax,aaL (hsz ▸ hi)]
  by_cases hall:∀r,r∈tr->listed.getD r.j false=true
  ·
   have hnone:Region.ready .any ops listed=[]:=by
    rw[List.eq_nil_iff_forall_not_mem];intro i hi;obtain⟨h1,h2,_⟩:=dG hi;obtain⟨r,hr,hrj⟩:=V.all i h1;have:=hall r hr;rw[hrj,<- getTF i h1,h2]at this;cases this
   rw[hnone];exact⟨_,ρ,w,tm,hall,I,.refl P _⟩
  ·
   have hex:∃i,i∈Region.ready .any ops listed:=by
    have:∃A r B,tr=A++r::B/\listed.getD r.j false=false /\ ∀x,x∈A->listed.getD x.j false=true:=by
     clear ih I hN V
     induction tr with
     |nil=>exact absurd (λr hr=>by cases hr) hall
     |cons x tr iht=>
      cases hx:listed.getD x.j false with
      |false=>exact⟨[],x,tr,rfl,hx,λy hy=>by cases hy⟩
      |true=>
       obtain⟨A,r,B,e,h1,h2⟩:=iht (λh=>hall (λr hr=>by rcases aaS.1 hr with rfl|hr;exact hx;exact h r hr));exact⟨x::A,r,B,by rw[e];rfl,h1,λy hy=>by rcases aaS.1 hy with rfl|hy;exact hx;exact h2 y hy⟩
    obtain⟨A,r,B,e,h1,h2⟩:=this;have yy:=(V.told A r B e).op
    have hlt:r.j<ops.size:=by
     rcases aaN r.j ops.size with h|h
     ·exact h
     ·rw[aaI h]at yy;cases yy
    refine⟨r.j,IM hlt (by rw[getTF _ hlt];exact h1) (λo ho ed hed hb=>?_)⟩;rw[yy]at ho;cases ho;obtain⟨x,hx,hxe⟩:=V.UP A r B e ed hed hb;rw[<- hxe];exact h2 x hx
   cases hi:(Region.ready .any ops listed)[t%(Region.ready .any ops listed).length]? with
   |none=>
    obtain⟨i,hmem⟩:=hex;have hpos:0<(Region.ready .any ops listed).length:=List.length_pos_of_mem hmem;rw[aag (Nat.mod_lt _ hpos)]at hi;cases hi
   |some i=>
    simp only[];rw[linearise_go_acc,List.reverse_singleton,List.singleton_append];obtain⟨hlt,hl,hed⟩:=dG (aaz hi);obtain⟨r,hr,hrj⟩:=V.all i hlt;obtain⟨A,B,e⟩:=aaT hr;subst hrj;have yy:=(V.told A r B e).op
    have hready:∀q,Prec ops q r.j->listed.getD q false=true:=by
     intro q hq;cases hq with
     |one ho he hb=>exact hed _ ho _ he hb
     |more ho he hb hp=>exact hdown _ _ hp (hed _ ho _ he hb)
    have hnot:listed.getD r.j false=false:=(by rw[<- getTF _ hlt];exact hl);obtain⟨ρ1,w1,tm1,I1,sx⟩:=L3 hro0 V hdown e hready hnot hN hNN I ds (Region.linearise.go .any ops fuel (t/(Region.ready .any ops listed).length) (listed.setIfInBounds r.j true) []) b k cs
    have hadd:(λj=>(listed.setIfInBounds r.j true).getD j false)=kM (λj=>listed.getD j false) r.j:=by
     funext j
     simp only[kM,aax,aa2];by_cases ej:r.j=j
     ·subst ej;rw[aai rfl,aai (by omega)];simp
     ·rw[aaf ej];have:decide (j=r.j)=false:=aaY (λh=>ej h.symm);rw[this,Bool.or_false]
    rw[<- hadd]at I1
    have hcnt:((List.range ops.size).filter λi => !(listed.setIfInBounds r.j true).getD i false).length<=fuel:=by
     have hmem:r.j∈(List.range ops.size).filter λi => !listed.getD i false:=abU.2 ⟨abf.2 hlt,by rw[hnot];rfl⟩
     have hsub:(List.range ops.size).filter (λi => !(listed.setIfInBounds r.j true).getD i false)=((List.range ops.size).filter λi => !listed.getD i false).filter (λi=>decide (i≠r.j)):=by
      rw[abX];apply abD;intro i _;have:=congrFun hadd i;simp only[kM]at this;rw[this];by_cases ei:i=r.j <;> simp[ei]
     rw[hsub]
     have hlen:∀(l:List Nat),r.j∈l->(l.filter λi=>decide (i≠r.j)).length<l.length:=by
      intro l hl;apply List.length_filter_lt_length_iff_exists.2;exact⟨r.j,hl,by simp⟩
     have:=hlen _ hmem;omega
    have hdn:∀q j,Prec ops q j->(listed.setIfInBounds r.j true).getD j false=true->(listed.setIfInBounds r.j true).getD q false=true:=by
     intro q j hq hj;have h1:=congrFun hadd j;have h2:=congrFun hadd q;rw[h1]at hj;rw[h2];simp only[kM,aaX,aaF]at hj ⊢;rcases hj with hj|rfl
     ·exact .inl (hdown q j hq hj)
     ·exact .inl (hready q hq)
    obtain⟨S,ρ2,w2,tm2,hS,I2,sx2⟩:=ih (t/(Region.ready .any ops listed).length) (listed.setIfInBounds r.j true) ρ1 w1 tm1 (by simpa using hsz) hcnt hdn I1;exact⟨S,ρ2,w2,tm2,hS,I2,sx.trans sx2⟩
theorem BY(hmix:P.follows .mixedOrders=true){id:Nat}{rd:Option Nat}{Q:Ex->Env->za->Prop}(V:X5 lk P ops s0 h0 tr){sf:Env}{hf:za}(hs:∀t,sf.get t=Q4 tr s0 t)(hsz:sf.size=s0.size)
  (hh:∀b,hf.get b=XW tr h0 b) (hro:hf.ro=h0.ro) (hn:h0.next<=hf.next) (hN:∀x,x∈tr->x.g'.next<=hf.next) (hNN:hf.next=h0.next) (hq:Q .normal sf hf):T P rd (.region id ops true) s0 h0 Q:=by
 intro ρ w tm ds hr hse b hb k cs
 let w1:World:={w with drawn:=w.drawn+1}
 let ρ1:xL:={next:=hf.next,m:=λbb=>if bb<h0.next then ρ.m bb else none}
 have hm1:∀bb pl,bb<ρ.next->ρ.m bb=some pl->ρ1.m bb=some pl:=λbb pl hb hm=>by
  rw[show ρ1.m bb=ρ.m bb from aai (by rw[<- hr.next];exact hb)];exact hm
 have hnil:tr.filter (λr=>(Array.replicate ops.size false).getD r.j false)=[]:=by
  rw[aci];intro r _ h;simp only[aax,abW]at h;split at h <;> simp at h
 have I:dK P tr s0 h0 hf.next ρ w (λj=>(Array.replicate ops.size false).getD j false) ρ1 w1 tm:=by
  refine⟨rfl,λbb hb=>aai hb,hse.size,?_,?_,?_,?_,rfl,rfl,rfl,aaj _,λ_ _ _=>rfl,?_,hr.pf,λbb pl hb hm=>hr.X3 bb pl hb (by
   rw[show ρ1.m bb=ρ.m bb from aai (aap hb (aaW hr.pf hr.ro))]at hm;exact hm)⟩
  ·intro t;rw[hnil];exact(hse.get t).ext (ρ':=ρ1.cut h0.next) (by rw[hr.next];exact aaj _) hm1
  ·intro bb o hg;rw[hnil]at hg ⊢;have hb:=hr.ar bb _ hg;obtain⟨pl,hp,hc⟩:=hr.ok bb o hg;refine⟨hb,pl,hm1 bb pl (by rw[hr.next];exact hb) hp,?_⟩;exact uu.other (uu.ext (ρ:=ρ) (ρ':=ρ1.cut h0.next) (by rw[hr.next];exact aaj _) hm1 hc) rfl
  ·intro b1 b2 o1 o2 p1 p2 g1 g2 m1 m2 e;rw[hnil]at g1 g2;have l1:=hr.ar b1 o1 g1;have l2:=hr.ar b2 o2 g2;rw[show ρ1.m b1=ρ.m b1 from aai l1]at m1;rw[show ρ1.m b2=ρ.m b2 from aai l2]at m2;exact hr.inj b1 b2 o1 o2 p1 p2 g1 g2 m1 m2 e
  ·intro x hx _ bb h1 h2;obtain⟨A,B,e⟩:=aaT hx;have:=(V.told A x B e).n0;exact aaf (by omega)
  ·intro bb o pl hg hro' hm hc;rw[hnil]at hg;have l:=hr.ar bb o hg;rw[show ρ1.m bb=ρ.m bb from aai l]at hm;exact⟨bb,o,pl,hg,hro',hm,rfl⟩
 have hcount:((List.range ops.size).filter λi => !(Array.replicate ops.size false).getD i false).length<=ops.size:=by
  have:=List.length_filter_le (λi => !(Array.replicate ops.size false).getD i false) (List.range ops.size);simpa using this
 obtain⟨S,ρ2,w2,tm2,hS,I2,sx⟩:=Tk hr.ro V hN hNN ds b k cs ops.size (w.tape w.drawn (.order b.fn id)) (Array.replicate ops.size false) ρ1 w1 tm (by simp) hcount (λi j _ hj=>by
  simp only[aax,abW]at hj;split at hj <;> simp at hj) I
 have hfull:tr.filter (λr=>S r.j)=tr:=List.filter_eq_self.2 hS;have lastn:∀(p:yF->Bool) x,vP tr p=some x->x.g'.next<=hf.next:=λp x hx=>hN x (WU hx).1;have hcut:ρ2=ρ2.cut hf.next:=by have:=I2.next;cases ρ2;simp only at this;subst this;rfl
 have hrel:Rel P ρ2 hf w2:=by
  refine⟨I2.next,by rw[hro];exact aaW hr.ro hn,?_,?_,?_,by rw[hro];exact hr.pf,I2.gl⟩
  ·intro bb o hg;rw[hh]at hg;have:=(I2.heap bb o (by rw[hfull];exact hg)).1;rw[hfull]at this;refine aap this ?_;simp only[mS];split
   ·rename_i x hx;exact lastn _ x hx
   ·exact hn
  ·intro bb o hg;rw[hh]at hg;obtain⟨_,pl,hp,hc⟩:=I2.heap bb o (by rw[hfull];exact hg);refine⟨pl,hp,?_⟩;rw[hro];rw[hfull]at hc;rw[hcut];refine uu.bG ?_ hc;simp only[mS];split
   ·rename_i x hx;exact lastn _ x hx
   ·exact hn
  ·intro b1 b2 o1 o2 p1 p2 g1 g2;rw[hh]at g1 g2;exact I2.inj b1 b2 o1 o2 p1 p2 (by rw[hfull];exact g1) (by rw[hfull];exact g2)
 refine⟨.normal,sf,hf,ρ2,w2,tm2,ds,hq,⟨⟨by rw[I2.next,hr.next];exact hn,λbb hb=>I2.old bb (by rw[<- hr.next];exact hb)⟩,hrel,hro,I2.os,I2.tape,I2.output,I2.eR,I2.frame,?_⟩,⟨hsz.trans I2.size,λt=>?_⟩,.refl _ _ _,?_⟩
 ·rintro c hc ⟨bb,o,pl,hg,hrb,hm,rfl⟩;rw[hh]at hg;exact I2.pX bb o pl (by rw[hfull];exact hg) (by rw[<- hro];exact hrb) hm hc
 ·have:=I2.env t;rw[hfull]at this;rw[hs t];rw[hcut];refine zO.bG ?_ this;simp only[iP];split
  ·rename_i x hx;exact lastn _ x hx
  ·exact hn
 ·refine .head QL ?_
  have:Region.schedule (P.follows .mixedOrders) ops (w.tape w.drawn (.order b.fn id))=Region.linearise .any ops (w.tape w.drawn (.order b.fn id)):=by
   simp only[Region.schedule,hmix,Bool.true_or,abM]
  rw[this];exact sx.trans (.one WS)
end
end
end
noncomputable section
variable {P:Program}
def Bg:Nat->Nat
 |2=>1
 |3=>6
 |4=>2
 |_=>3
def Fw(d:Nat):List Oper->Nat->Option Nat
 |[],_=>none
 |o::os,i=>(match o.op with
  | .buildSlice _ _ _=>(match o.dst with
    |some e=>cond (Nat.beq e d) (some i) (Fw d os (i+1))
    |none=>Fw d os (i+1))
  |_=>Fw d os (i+1))
def MT(ops:Array Oper)(o:Oper):Option Nat:=match o.op with
 | .call {callee := .builtin .append,args,.. }=>(match args.toList with
   | .tmp d::_=>Fw d ops.toList 0
   |_=>none)
 |_=>none
def OQ(o:Oper):Option Nat:=match o.op with
 | .call {callee := .builtin .append,args,.. }=>(match args.toList with
   | .tmp d::_=>some d
   |_=>none)
 |_=>none
def Ws(s:Env)(o:Oper):aaa:=match OQ o with
 |some d=>s.get d
 |none=>bot
def Ch(v:aaa):Nat:=match v with
 | .slice (some a) _ _=>a.block
 |_=>0
def Ci(v:aaa):Nat:=match v with
 | .slice (some a) _ _=>a.block+1
 |_=>0
theorem za7(v:aaa)(b:Nat):(Ch v<=b/\b<Ci v) ↔ ∃a n c,v=.slice (some a) n c/\b=a.block:=by
 unfold Ch Ci;split
 ·rename_i a n c
  constructor
  ·intro e;exact⟨a,n,c,rfl,by omega⟩
  ·rintro⟨a',n',c',e1,e2⟩;cases e1;omega
 ·rename_i hn
  constructor
  ·intro e;omega
  ·rintro⟨a',n',c',e1,e2⟩;exact absurd e1 (hn a' n' c')
def Cr(P:Program)(s d:TypeId):Bool:=(match z9 P (underlying s),z9 P (underlying d) with|some (.int _),some (.int _)=>true|_,_=>false)&&(match P.underlying s,P.underlying d with|some (.int _),some (.int _)=>true|_,_=>false)
def eP(P:Program)(d:TypeId):Bool:=(match z9 P (underlying d) with|some .string=>true|_=>false)&&(match P.underlying d with|some .string=>true|_=>false)
def yc(P:Program)(q:FuncId->Nat)(ops:Array Oper)(o:Oper):Nat:=match o.op with
 | .call {callee := .value (.func g),.. }=>Bg (q g)
 | .call {callee := .value _,.. }=>3
 | .call {callee := .builtin .append,.. }=>(match MT ops o with|some _=>4|none=>(match OQ o,o.guard with|some _,none=>7|_,_=>3))
 | .call {callee := .builtin b,.. }=>cond (WZ b) 1 3
 | .move _ | .assign _ | .pick _ _ _ | .build _ _ | .nilCheck _ | .binOp _ _ _ _ _ | .unOp _ _ _ | .makeInterface _ _ | .makeFunc _ _ _ | .fieldAddr _ _ _ | .field _ _ _ | .indexAddr _ _ _ | .index _ _ _ | .extract _ _=>0
 | .load _ _ | .lookup _ _ _ _ | .slice _ _ _ _ _ | .entry _=>1
 | .box _ _ | .alloc _ | .buildSlice _ _ _ | .makeSlice _ _ _ | .makeMap _ _=>5
 | .convert a b _=>cond (Cr P a b) 0 (cond (eP P b) 1 2)
 | .range _ _=>2
 |_=>3
def Fo(k:Nat):Bool:=Nat.beq k 1||Nat.beq k 4||Nat.beq k 6
def VX(k:Nat):Bool:=Nat.beq k 2||Nat.beq k 4||Nat.beq k 5||Nat.beq k 6||Nat.beq k 7
def Bi(k i n n':Nat)(v:aaa):List (Nat×Nat×Nat):=cond (VX k) (cond (Nat.beq k 7) [(i,n,n'),(i,Ch v,Ci v)] [(i,n,n')]) []
def zac(x:Nat×Nat×Option Nat×Nat)(ky:Nat)(zy:Option Nat)(my:Nat):Bool :=
 Nat.beq x.2.1 0||Nat.beq ky 0||(Nat.beq x.2.1 3&&Nat.beq ky 5)||(Nat.beq x.2.1 7&&(Nat.beq ky 1||Nat.beq ky 5)) ||
 (!(Nat.beq x.2.1 3) && !(Nat.beq ky 3) && !(Nat.beq x.2.1 7) && !(Nat.beq ky 7)&&(!(Nat.beq ky 2)||Nat.beq x.2.1 1) &&
  (!(Nat.beq x.2.1 4)||Nat.beq ky 5||(match x.2.2.1 with|some z => !(my.testBit z)&&(match zy with|some w => !(Nat.beq z w)|none=>true)|none=>false)) &&
  (!(Nat.beq ky 4)||Nat.beq x.2.1 5||(Fo x.2.1&&(match zy with|some w => !(x.2.2.2.testBit w)|none=>false))))
def p6(P:Program)(q:FuncId->Nat)(ops:Array Oper):List Oper->List Nat->List (Nat×Nat×Option Nat×Nat)->Bool
 |[],_,_=>true
 |o::os,ms,prev=>(prev.all λx=>(yK ms o).testBit x.1||zac x (yc P q ops o) (MT ops o) (yK ms o))&&(match MT ops o with|some z=>(yK ms o).testBit z|none=>true) &&
  p6 P q ops os (ms++[yK ms o]) ((ms.length,yc P q ops o,MT ops o,yK ms o)::prev)
def DD(P:Program)(q:FuncId->Nat)(ops:Array Oper):Bool:=Yv ops ops.toList 0 [] []&&p6 P q ops ops.toList [] []
def cut(h:za)(n m:Nat):za:=h.Wn (List.range' n (m-n))
@[simp] theorem zfV (h:za) (n m:Nat):(cut h n m).next=h.next:=rfl
@[simp] theorem zgP (h:za) (n m:Nat):(cut h n m).ro=h.ro:=rfl
theorem Fa(h:za)(n m b:Nat):(cut h n m).get b=if n<=b/\b<m then none else h.get b:=by
 unfold cut;rw[qu];simp only[ZV]
theorem Xu{h:za}{n m b:Nat}(hb:b<n):(cut h n m).get b=h.get b:=by rw[Fa,aaf (by omega)]
def kj(m:Nat):List (Nat×Nat×Nat)->za->za
 |[],h=>h
 |x::l,h=>cond (m.testBit x.1) (kj m l h) (kj m l (cut h x.2.1 x.2.2))
def Eh(m:Nat)(al:List (Nat×Nat×Nat))(b:Nat):Bool:=al.all λx=>m.testBit x.1 || !(Nat.ble x.2.1 b&&Nat.blt b x.2.2)
theorem Yw(m:Nat):∀(al:List (Nat×Nat×Nat)) (h:za),(kj m al h).next=h.next/\(kj m al h).ro=h.ro /\ ∀b,(kj m al h).get b=if Eh m al b=true then h.get b else none
 |[],h=>⟨rfl,rfl,λb=>rfl⟩
 |x::l,h=>by
  unfold kj;cases hb:m.testBit x.1 with
  |true=>
   obtain⟨a1,a2,a3⟩:=Yw m l h;refine⟨a1,a2,λb=>?_⟩;rw[aav,a3];unfold Eh;rw[acq,hb,Bool.true_or,abu]
  |false=>
   obtain⟨a1,a2,a3⟩:=Yw m l (cut h x.2.1 x.2.2);refine⟨a1,a2,λb=>?_⟩;rw[aaw,a3];unfold Eh;rw[acq,hb,acx,Fa];by_cases hc:x.2.1<=b/\b<x.2.2
   ·have e:(Nat.ble x.2.1 b&&Nat.blt b x.2.2)=true:=by
     rw[aad,abY,aaO];exact hc
    rw[e,Bool.not_true,Bool.false_and,aai hc];split <;> simp
   ·have e:(Nat.ble x.2.1 b&&Nat.blt b x.2.2)=false:=by
     cases he:(Nat.ble x.2.1 b&&Nat.blt b x.2.2) with
     |false=>rfl
     |true=>rw[aad,abY,aaO]at he;exact absurd he hc
    rw[e,ab7,abu,aaf hc]
def bH(z:Nat):List (Nat×Nat×Nat)->Option (Nat×Nat)
 |[]=>none
 |x::l=>cond (Nat.beq x.1 z) (some x.2) (bH z l)
def kC(P:Program)(g:FuncId)(args:List aaa)(hv h:za)(K:aaa->za->Prop):Prop :=
 wA P g=true/\yi args=true /\ ∃v h2,TC P g args hv.lock (λv1 h1=>v1=v/\h1=h2)/\AF hv.lock h2/\K v (vz h h2)
def zf1(s:aaa)(f t:Nat)(hv:za):Prop:=match s with
 | .slice (some a) _ _=>f<=a.block/\a.block<t/\hv.get a.block≠none
 |_=>True
def JZ(h:za)(s:aaa)(h':za):za:=match s with
 | .slice (some a) _ _=>h.set a.block (h'.get a.block)
 |_=>h
def JA(P:Program)(ts:List TypeId)(r:TypeId)(vs:List aaa)(zr:Option (Nat×Nat))(hv h:za)(K:aaa->za->Prop):Prop:=match zr,vs with
 |some x,s::_=>zf1 s x.1 x.2 hv/\zt (nb vs (zB P .append ts r vs hv)) λv h'=>K v (vz (JZ h s h') h')
 |_,_=>False
def Rc(P:Program)(q:FuncId->Nat)(ops:Array Oper)(s:Env)(o:Oper)(al:List (Nat×Nat×Nat))(hv h:za)(K:aaa->za->Prop):Prop:=match o.op with
 | .call {callee := .value (.func g),args,argTypes}=>(match q g with
   |2=>qt P g (gJ s args.toList) hv λv=>K v h
   |3=>kC P g (gJ s args.toList) hv h K
   |4=>zc1 P g (gJ s args.toList) h K
   |_=>oZ P g (gJ s args.toList) h K)
 | .call {callee := .value f,args,argTypes}=>mG P (ev s f) (gJ s args.toList) h K
 | .call {callee := .builtin .append,args,argTypes}=>(match MT ops o with
   |some z=>JA P argTypes.toList o.type (gJ s args.toList) (bH z al) hv h K
   |none=>Ra P s o h K)
 |_=>RI (Nat.beq (yc P q ops o) 1) (Ra P s o hv λv _=>K v h) (Ra P s o h K)
def Lc(P:Program)(q:FuncId->Nat)(ops:Array Oper):List Oper->Nat->List Nat->List (Nat×Nat×Nat)->Env->za->(Env->za->Prop)->Prop
 |[],_,_,_,s,h,K=>K s h
 |o::os,i,ms,al,s,h,K=>(match o.guard with
  |none=>Rc P q ops s o al (kj (yK ms o) al h) h λv h1=>(match s.put o.dst v with
   |some s1=>Lc P q ops os (i+1) (ms++[yK ms o]) (al++Bi (yc P q ops o) i h.next h1.next (Ws s o)) s1 h1 K
   |none=>False)
  |some (j,want)=>(match (ops[j]?).bind (·.dst) with
   |none=>False
   |some d=>GD (s.get d) want (Rc P q ops s o al (kj (yK ms o) al h) h) (λv h1=>(match s.put o.dst v with
    |some s1=>Lc P q ops os (i+1) (ms++[yK ms o]) (al++Bi (yc P q ops o) i h.next h1.next (Ws s o)) s1 h1 K
    |none=>False)) h))
def N6(P:Program)(q:FuncId->Nat)(ops:Array Oper)(s:Env)(h:za)(K:Env->za->Prop):Prop:=RI (DD P q ops) (Lc P q ops ops.toList 0 [] [] s h K) False
end
noncomputable section
variable {P:Program}
structure RV (P:Program) (q:FuncId->Nat) (ops:Array Oper) (A:List yF) (m:Nat) (x:yF):Prop where
 rd:∀b,x.rd b=true->b<x.g.next
 k0:yc P q ops x.o=0\/yc P q ops x.o=5->∀b,x.rd b=false
 k1:yc P q ops x.o<=1->∀b,x.tc b=false
 lk:Fo (yc P q ops x.o)=true->∀b,x.rd b=true->∀z,z∈A->VX (yc P q ops z.o)=true->m.testBit z.j=false->¬(z.g.next<=b/\b<z.g'.next)
 tc:yc P q ops x.o≠3->∀b,x.tc b=true->(x.g.next<=b/\b<x.g'.next)\/(yc P q ops x.o=4 /\ ∃z,z∈A/\VX (yc P q ops z.o)=true/\MT ops x.o=some z.j/\z.g.next<=b/\b<z.g'.next)\/(yc P q ops x.o=7/\b<x.g.next/\Ch (Ws x.s x.o)<=b/\b<Ci (Ws x.s x.o))
 lb:Fo (yc P q ops x.o)=true->∀b,x.rd b=true->∀z,z∈A->yc P q ops z.o=7->m.testBit z.j=false->¬(Ch (Ws z.s z.o)<=b/\b<Ci (Ws z.s z.o))
 t3:yc P q ops x.o=3->∀b,x.tc b=true->b<x.g'.next
structure aC (P:Program) (q:FuncId->Nat) (ops:Array Oper) (s0:Env) (h0:za) (A:List yF) (i:Nat) (o:Oper) (s:Env) (h:za) (u:aaa) (h1:za) (m:Nat) (y:yF):Prop where
 hj:y.j=i
 yy:y.o=o
 hsl:y.s=s
 Co:y.v=u
 gn:y.g.next=h.next
 told:Told P ops s0 h0 A y
 rv:RV P q ops A m y
 heap:∀b,h1.get b=if y.tc b=true then y.g'.get b else h.get b
 ro:h1.ro=h.ro
 next:h.next<=h1.next
 Ih:y.g'.next<=h1.next
 geq:VX (yc P q ops o)=true->y.g'.next=h1.next
 wf:WF h1
def WM(P:Program)(q:FuncId->Nat)(ops:Array Oper):List yF->List (Nat×Nat×Nat)
 |[]=>[]
 |x::l=>Bi (yc P q ops x.o) x.j x.g.next x.g'.next (Ws x.s x.o)++WM P q ops l
theorem SH(P:Program)(q:FuncId->Nat)(ops:Array Oper)(A:List yF)(y:yF):WM P q ops (A++[y])=WM P q ops A++Bi (yc P q ops y.o) y.j y.g.next y.g'.next (Ws y.s y.o):=by
 induction A with
 |nil=>simp only[abA,WM,aa7]
 |cons x A ih=>simp only[acu,WM,ih,aa1]
theorem Bj{k i n n':Nat}{v:aaa}:(VX k=false/\Bi k i n n' v=[])\/(VX k=true/\(Bi k i n n' v=[(i,n,n')]\/(k=7/\Bi k i n n' v=[(i,n,n'),(i,Ch v,Ci v)]))):=by
 unfold Bi;cases VX k with
 |false=>exact .inl ⟨rfl,rfl⟩
 |true=>
  refine .inr ⟨rfl,?_⟩;cases h7:Nat.beq k 7 with
  |false=>exact .inl rfl
  |true=>exact .inr ⟨aal h7,rfl⟩
theorem To{q:FuncId->Nat}{ops:Array Oper}{A:List yF}{z f t:Nat}(h:bH z (WM P q ops A)=some (f,t)):∃x,x∈A/\VX (yc P q ops x.o)=true/\(z,f,t)=(x.j,x.g.next,x.g'.next):=by
 induction A with
 |nil=>cases h
 |cons x A ih=>
  simp only[WM]at h
  have rest:bH z (WM P q ops A)=some (f,t)->∃y,y∈x::A/\VX (yc P q ops y.o)=true/\(z,f,t)=(y.j,y.g.next,y.g'.next):=λh=>by
   obtain⟨x',h1,h2⟩:=ih h;exact⟨x',by simp[h1],h2⟩
  rcases Bj (k:=yc P q ops x.o) (i:=x.j) (n:=x.g.next) (n':=x.g'.next) (v:=Ws x.s x.o) with⟨hl,e⟩|⟨hl,e|⟨_,e⟩⟩
  ·rw[e]at h;exact rest h
  ·rw[e]at h;cases hb:Nat.beq x.j z with
   |true=>
    simp only[List.singleton_append,bH,hb,aav,aab,aae]at h;exact⟨x,by simp,hl,by rw[<- aal hb,h.1,h.2]⟩
   |false=>simp only[List.singleton_append,bH,hb,aaw]at h;exact rest h
  ·rw[e]at h;cases hb:Nat.beq x.j z with
   |true=>
    simp only[acu,abA,bH,hb,aav,aab,aae]at h;exact⟨x,by simp,hl,by rw[<- aal hb,h.1,h.2]⟩
   |false=>simp only[acu,abA,bH,hb,aaw]at h;exact rest h
theorem zaZ{q:FuncId->Nat}{ops:Array Oper}{A:List yF}{x:yF}(h:x∈A)(hl:VX (yc P q ops x.o)=true):(x.j,x.g.next,x.g'.next)∈WM P q ops A:=by
 induction A with
 |nil=>cases h
 |cons z A ih=>
  simp only[WM];rcases aaS.1 h with rfl|h
  ·refine aaK _ ?_;rcases Bj (k:=yc P q ops x.o) (i:=x.j) (n:=x.g.next) (n':=x.g'.next) (v:=Ws x.s x.o) with⟨hl',e⟩|⟨_,e|⟨_,e⟩⟩
   ·rw[hl]at hl';cases hl'
   ·rw[e];simp
   ·rw[e];simp
  ·exact aa5 _ (ih h)
theorem SG{q:FuncId->Nat}{ops:Array Oper}{A:List yF}{x:yF}(h:x∈A)(h7:yc P q ops x.o=7):(x.j,Ch (Ws x.s x.o),Ci (Ws x.s x.o))∈WM P q ops A:=by
 induction A with
 |nil=>cases h
 |cons z A ih=>
  simp only[WM];rcases aaS.1 h with rfl|h
  ·refine aaK _ ?_;rw[h7];show _∈[_,_];simp
  ·exact aa5 _ (ih h)
section
variable {q:FuncId->Nat}{ops:Array Oper}{s0:Env}{h0:za}{A:List yF}{i:Nat}{o:Oper}{s:Env}{h:za}
theorem Kb{h:za}(w:WF h){b:Nat}(hb:¬b<h.next):h.get b=none:=by
 cases hh:h.get b with|none=>rfl|some o'=>exact absurd (w b o' hh) hb
def iQ(m:Nat)(al:List (Nat×Nat×Nat))(h:za)(b:Nat):Bool:=Nat.blt b h.next&&Eh m al b
theorem E4{m:Nat}{al:List (Nat×Nat×Nat)}{b:Nat}(hb:iQ m al h b=true):b<h.next:=by
 unfold iQ at hb;rw[aad,aaO]at hb;exact hb.1
theorem AN{m:Nat}{b:Nat}(hb:iQ m (WM P q ops A) h b=true){z:yF}(hz:z∈A)(hl:VX (yc P q ops z.o)=true)(hm:m.testBit z.j=false):¬(z.g.next<=b/\b<z.g'.next):=by
 unfold iQ Eh at hb;rw[aad,aaB]at hb;have:=hb.2 _ (zaZ hz hl);simp only[hm,acx,aaq]at this;intro e;have t:(Nat.ble z.g.next b&&Nat.blt b z.g'.next)=true:=by rw[aad,abY,aaO];exact e
 rw[t]at this;cases this
theorem mM{m:Nat}{b:Nat}(hb:iQ m (WM P q ops A) h b=true){z:yF}(hz:z∈A)(h7:yc P q ops z.o=7)(hm:m.testBit z.j=false):¬(Ch (Ws z.s z.o)<=b/\b<Ci (Ws z.s z.o)):=by
 unfold iQ Eh at hb;rw[aad,aaB]at hb;have:=hb.2 _ (SG hz h7);simp only[hm,acx,aaq]at this;intro e;have t:(Nat.ble (Ch (Ws z.s z.o)) b&&Nat.blt b (Ci (Ws z.s z.o)))=true:=by rw[aad,abY,aaO];exact e
 rw[t]at this;cases this
theorem ni{m:Nat}(F:v9 P ops s0 h0 A i s h)(b:Nat):(kj m (WM P q ops A) h).get b=if iQ m (WM P q ops A) h b=true then XW A h0 b else none:=by
 rw[(Yw m (WM P q ops A) h).2.2 b];unfold iQ;by_cases hb:b<h.next
 ·rw[show Nat.blt b h.next=true by rw[aaO];exact hb,abu,F.heap]
 ·have e:Nat.blt b h.next=false:=by
   cases e:Nat.blt b h.next with
   |false=>rfl
   |true=>rw[aaO]at e;exact absurd e hb
  rw[e,Bool.false_and,Kb F.wf hb];simp
theorem gu(F:v9 P ops s0 h0 A i s h)(ho:ops[i]? = some o)(hput:∀d,o.dst=some d->d<s.size){u:aaa}(hs:jL P ops s o (h.pick []) u (h.pick []))(m:Nat):∃y,aC P q ops s0 h0 A i o s h u h m y:=by
 refine⟨⟨i,o,u,s,h.pick [],h.pick [],λ_=>false,λ_=>false⟩,rfl,rfl,rfl,rfl,rfl,
  ⟨ho,F.env,F.size,λb=>by rw[uY];simp,F.ro,F.next,F.nA,aaj _,hs,λd hd=>by rw[<- F.size];exact hput d hd,λb hb=>(by cases hb),λb _=>rfl,λb o' hb=>(by cases hb)⟩,
  ⟨λb hb=>(by cases hb),λ_ _=>rfl,λ_ _=>rfl,λ_ b hb=>(by cases hb),λ_ b hb=>(by cases hb),λ_ b hb=>(by cases hb),λ_ b hb=>(by cases hb)⟩,λb=>by simp,rfl,aaj _,aaj _,λ_=>rfl,F.wf⟩
theorem P6(F:v9 P ops s0 h0 A i s h)(ho:ops[i]? = some o)(hput:∀d,o.dst=some d->d<s.size)(hk:yc P q ops o=5){u:aaa}{ob:vr}(hs:jL P ops s o (h.pick []) u ((h.pick []).push ob))(m:Nat):∃y,aC P q ops s0 h0 A i o s h u (h.push ob) m y:=by
 have hp:(h.pick []).next=h.next:=rfl;have htc:∀b,(decide (b=h.next)=true) ↔ b=h.next:=λb=>by simp
 refine⟨⟨i,o,u,s,h.pick [],(h.pick []).push ob,λ_=>false,λb=>decide (b=h.next)⟩,rfl,rfl,rfl,rfl,rfl,
  ⟨ho,F.env,F.size,λb=>by rw[uY];simp,F.ro,F.next,F.nA,abz _,hs,λd hd=>by rw[<- F.size];exact hput d hd,λb hb=>?_,λb hb=>?_,λb o' hb hlt=>?_⟩,
  ⟨λb hb=>(by cases hb),λ_ _=>rfl,λh=>?_,λ_ b hb=>(by cases hb),λ_ b hb=>?_,λ_ b hb=>(by cases hb),λe=>absurd (hk.symm.trans e) (by decide)⟩,λb=>?_,rfl,abz _,aaj _,λ_=>rfl,λb o' hb=>?_⟩
 ·refine .inr ?_;have:=(htc b).1 hb;show h.next<=b/\b<h.next+1;omega
 ·have hb:decide (b=h.next)=false:=hb;have hne:b≠h.next:=λe=>by rw[(htc b).2 e]at hb;cases hb
  rw[za.vY,aaf (by rw[hp];exact hne)]
 ·have e1:=(htc b).1 hb;have e2:b<h.next:=hlt;omega
 ·simp only at h;omega
 ·have:=(htc b).1 hb;refine .inl ?_;show h.next<=b/\b<h.next+1;omega
 ·show(h.push ob).get b=if decide (b=h.next)=true then ((h.pick []).push ob).get b else h.get b;rw[za.vY,za.vY,hp];by_cases e:b=h.next
  ·rw[aai e,aai ((htc b).2 e),aai e]
  ·rw[aaf e,aaf (λt=>e ((htc b).1 t))]
 ·rw[za.vY]at hb;rw[za.dC];split at hb
  ·rename_i e;omega
  ·exact abK (F.wf b o' hb)
theorem Bt(F:v9 P ops s0 h0 A i s h)(ho:ops[i]? = some o)(hput:∀d,o.dst=some d->d<s.size)(hk:yc P q ops o=1){m:Nat}{u:aaa}(hs:jL P ops s o (kj m (WM P q ops A) h) u (kj m (WM P q ops A) h)):∃y,aC P q ops s0 h0 A i o s h u h m y:=by
 obtain⟨v1,v2,v3⟩:=Yw m (WM P q ops A) h
 refine⟨⟨i,o,u,s,kj m (WM P q ops A) h,kj m (WM P q ops A) h,iQ m (WM P q ops A) h,λ_=>false⟩,rfl,rfl,rfl,rfl,v1,
  ⟨ho,F.env,F.size,ni F,v2.trans F.ro,by rw[v1];exact F.next,λx hx=>by rw[v1];exact F.nA x hx,aaj _,hs,λd hd=>by rw[<- F.size];exact hput d hd,λb hb=>(by cases hb),λb _=>rfl,λb o' hb=>(by cases hb)⟩,
  ⟨λb hb=>by show b<(kj m (WM P q ops A) h).next;rw[v1];exact E4 hb,λe=>by simp only at e;omega,λ_ _=>rfl,λ_ b hb z hz hl hm=>AN hb hz hl hm,λ_ b hb=>(by cases hb),λ_ b hb z hz hl hm=>mM hb hz hl hm,λ_ b hb=>(by cases hb)⟩,λb=>by simp,rfl,aaj _,by rw[v1];exact aaj _,λe=>(by rw[hk]at e;cases e),F.wf⟩
theorem Mu(F:v9 P ops s0 h0 A i s h)(ho:ops[i]? = some o)(hput:∀d,o.dst=some d->d<s.size)(hk:yc P q ops o=6){m:Nat}{h2:za}(hn:h.next<=h2.next){u:aaa}(hs:jL P ops s o (kj m (WM P q ops A) h) u (vz (kj m (WM P q ops A) h) h2)):∃y,aC P q ops s0 h0 A i o s h u (vz h h2) m y:=by
 obtain⟨v1,v2,v3⟩:=Yw m (WM P q ops A) h;have htc:∀b,(decide (h.next<=b/\b<h2.next)=true) ↔ (h.next<=b/\b<h2.next):=λb=>by simp
 refine⟨⟨i,o,u,s,kj m (WM P q ops A) h,vz (kj m (WM P q ops A) h) h2,iQ m (WM P q ops A) h,λb=>decide (h.next<=b/\b<h2.next)⟩,rfl,rfl,rfl,rfl,v1,
  ⟨ho,F.env,F.size,ni F,v2.trans F.ro,by rw[v1];exact F.next,λx hx=>by rw[v1];exact F.nA x hx,by show(kj m (WM P q ops A) h).next<=h2.next;rw[v1];exact hn,hs,λd hd=>by rw[<- F.size];exact hput d hd,λb hb=>?_,λb hb=>?_,λb o' hb hlt=>?_⟩,
  ⟨λb hb=>by show b<(kj m (WM P q ops A) h).next;rw[v1];exact E4 hb,λe=>by simp only at e;omega,λe=>by simp only at e;omega,λ_ b hb z hz hl hm=>AN hb hz hl hm,λ_ b hb=>?_,λ_ b hb z hz hl hm=>mM hb hz hl hm,λe=>absurd (hk.symm.trans e) (by decide)⟩,λb=>?_,rfl,hn,aaj _,λ_=>rfl,λb o' hb=>?_⟩
 ·refine .inr ?_;have:=(htc b).1 hb;show(kj m (WM P q ops A) h).next<=b/\b<h2.next;rw[v1];exact this
 ·have hb:decide (h.next<=b/\b<h2.next)=false:=hb;rw[vp,v1,aaf (λe=>by rw[(htc b).2 e]at hb;cases hb)]
 ·have:=(htc b).1 hb;have hlt:b<(kj m (WM P q ops A) h).next:=hlt;rw[v1]at hlt;omega
 ·refine .inl ?_;show(kj m (WM P q ops A) h).next<=b/\b<h2.next;rw[v1];exact(htc b).1 hb
 ·show(vz h h2).get b=if decide (h.next<=b/\b<h2.next)=true then (vz (kj m (WM P q ops A) h) h2).get b else h.get b;rw[vp,vp,v1];by_cases e:h.next<=b/\b<h2.next
  ·rw[aai e,aai ((htc b).2 e),aai e]
  ·rw[aaf e,aaf (λt=>e ((htc b).1 t))]
 ·show b<h2.next;rw[vp]at hb;split at hb
  ·rename_i e;exact e.2
  ·exact aap (F.wf b o' hb) hn
theorem px(F:v9 P ops s0 h0 A i s h)(ho:ops[i]? = some o)(hput:∀d,o.dst=some d->d<s.size)(hk:yc P q ops o=2){h1:za}(hn:h.next<=h1.next)(hro:h1.ro=h.ro)(hold:∀b,¬(h.next<=b/\b<h1.next)->h1.get b=h.get b)
  {u:aaa} (hs:jL P ops s o h u h1) (m:Nat):∃y,aC P q ops s0 h0 A i o s h u h1 m y:=by
 have hrd:∀b,(Nat.blt b h.next=true) ↔ b<h.next:=λb=>by rw[aaO]
 have htc:∀b,(decide (h.next<=b/\b<h1.next)=true) ↔ (h.next<=b/\b<h1.next):=λb=>by simp
 refine⟨⟨i,o,u,s,h,h1,λb=>Nat.blt b h.next,λb=>decide (h.next<=b/\b<h1.next)⟩,rfl,rfl,rfl,rfl,rfl,
  ⟨ho,F.env,F.size,λb=>?_,F.ro,F.next,F.nA,hn,hs,λd hd=>by rw[<- F.size];exact hput d hd,λb hb => .inr ((htc b).1 hb),λb hb=>?_,λb o' hb hlt=>?_⟩,
  ⟨λb hb=>(hrd b).1 hb,λh=>by simp only at h;omega,λh=>by simp only at h;omega,λh=>(by simp only[hk]at h;cases h),λ_ b hb => .inl ((htc b).1 hb),λh=>(by simp only[hk]at h;cases h),λe=>absurd (hk.symm.trans e) (by decide)⟩,λb=>?_,hro,hn,aaj _,λ_=>rfl,λb o' hb=>?_⟩
 ·show h.get b=if Nat.blt b h.next=true then XW A h0 b else none;by_cases hb:b<h.next
  ·rw[aai ((hrd b).2 hb),F.heap]
  ·rw[aaf (λe=>hb ((hrd b).1 e)),Kb F.wf hb]
 ·refine hold b (λe=>?_);have:=(htc b).2 e;rw[show decide (h.next<=b/\b<h1.next)=false from hb]at this;cases this
 ·have:=((htc b).1 hb).1;have hlt:b<h.next:=hlt;omega
 ·show h1.get b=if decide (h.next<=b/\b<h1.next)=true then h1.get b else h.get b;by_cases hb:h.next<=b/\b<h1.next
  ·rw[aai ((htc b).2 hb)]
  ·rw[aaf (λe=>hb ((htc b).1 e)),hold b hb]
 ·by_cases hc:h.next<=b/\b<h1.next
  ·exact hc.2
  ·rw[hold b hc]at hb;exact aap (F.wf b o' hb) hn
theorem QT(F:v9 P ops s0 h0 A i s h)(ho:ops[i]? = some o)(hput:∀d,o.dst=some d->d<s.size)(hk:yc P q ops o=3){h1:za}(af:AF h h1)
  {u:aaa} (hs:jL P ops s o h u h1) (m:Nat):∃y,aC P q ops s0 h0 A i o s h u h1 m y:=by
 have hrd:∀n b,(Nat.blt b n=true) ↔ b<n:=λn b=>by rw[aaO]
 have hn:h.next<=h1.next:=af.next;have hwf:WF h1:=F.wf.af af
 refine⟨⟨i,o,u,s,h,h1,λb=>Nat.blt b h.next,λb=>Nat.blt b h1.next⟩,rfl,rfl,rfl,rfl,rfl,
  ⟨ho,F.env,F.size,λb=>?_,F.ro,F.next,F.nA,hn,hs,λd hd=>by rw[<- F.size];exact hput d hd,λb hb=>?_,λb hb=>?_,λb o' hb hlt hg=>?_⟩,
  ⟨λb hb=>(hrd _ b).1 hb,λh=>by simp only at h;omega,λh=>by simp only at h;omega,λh=>(by simp only[hk]at h;cases h),λh=>by exact absurd hk h,λh=>(by simp only[hk]at h;cases h),λ_ b hb=>(hrd _ b).1 hb⟩,λb=>?_,af.ro,hn,aaj _,λ_=>rfl,hwf⟩
 ·show h.get b=if Nat.blt b h.next=true then XW A h0 b else none;by_cases hb:b<h.next
  ·rw[aai ((hrd _ b).2 hb),F.heap]
  ·rw[aaf (λe=>hb ((hrd _ b).1 e)),Kb F.wf hb]
 ·have hb:=(hrd _ b).1 hb;by_cases hlt:b<h.next
  ·exact .inl ((hrd _ b).2 hlt)
  ·exact .inr ⟨ab0 hlt,hb⟩
 ·have hb':¬b<h1.next:=λe=>by
   have:=(hrd h1.next b).2 e;rw[show Nat.blt b h1.next=false from hb]at this;cases this
  show h1.get b=h.get b;rw[Kb hwf hb',Kb F.wf (by omega)]
 ·rcases af.alive b o' hg with h2|⟨h2,_⟩
  ·exact h2
  ·have hlt:b<h.next:=hlt;omega
 ·show h1.get b=if Nat.blt b h1.next=true then h1.get b else h.get b;by_cases hb:b<h1.next
  ·rw[aai ((hrd _ b).2 hb)]
  ·rw[aaf (λe=>hb ((hrd _ b).1 e)),Kb hwf hb,Kb F.wf (by omega)]
structure FU (g:za) (v:aaa) (g':za):Prop where
 next:g.next<=g'.next
 ro:g'.ro=g.ro
 same:∀b,¬(g.next<=b/\b<g'.next)->(∀a n c,v=.slice (some a) n c->b≠a.block)->g'.get b=g.get b
 gone:∀b o,b<g.next->g'.get b=some o->g.get b≠none
 wf:WF g->WF g'
theorem Aj{g:za}{v:aaa}:FU g v g:=⟨aaj _,rfl,λ_ _ _=>rfl,λb o _ h=>by rw[h];simp,id⟩
theorem zdn{elem:TypeId}{ti:TypeInfo}{n:Nat}{new:List aaa}{s u:aaa}{g g':za}(he:Kr g elem ti n new s=some (u,g')):FU g s g':=by
 unfold Kr at he;split at he
 ·cases h0:Nat.beq n 0 with
  |true=>rw[h0]at he;simp only[aav,aab,aae]at he;obtain⟨_,rfl⟩:=he;exact Aj
  |false=>
   rw[h0]at he;obtain⟨_,he⟩:=zA he;simp only[aab,aae]at he;obtain⟨_,rfl⟩:=he;refine⟨abz _,rfl,λb hb _=>?_,λb o hb hg=>?_,λw b o hb=>?_⟩
   ·rw[za.vY,aaf (λe=>hb ⟨by omega,by rw[za.dC];omega⟩)]
   ·rw[za.vY,aaf (by omega)]at hg;rw[hg];simp
   ·rw[za.vY]at hb;rw[za.dC];split at hb
    ·omega
    ·exact abK (w b o hb)
 ·rename_i b0 off len c;cases h0:Nat.beq n 0 with
  |true=>rw[h0]at he;simp only[aav,aab,aae]at he;obtain⟨_,rfl⟩:=he;exact Aj
  |false=>
   rw[h0]at he;simp only[aaw]at he;split at he
   ·rename_i cs t hg0;obtain⟨_,he⟩:=zA he;simp only[aab,aae]at he;obtain⟨_,rfl⟩:=he
    have key:∀b o,((g.set b0 none).push o).get b=if b=g.next then some o else if b=b0 then none else g.get b:=λb o=>by
     rw[za.vY,za.yJ];rfl
    refine⟨abz _,rfl,λb hb hne=>?_,λb o hb hg=>?_,λw b o hb=>?_⟩
    ·rw[key,aaf (λe=>hb ⟨by omega,by show b<g.next+1;omega⟩),aaf (hne _ _ _ rfl)]
    ·rw[key,aaf (by omega)]at hg;split at hg
     ·cases hg
     ·rw[hg];simp
    ·rw[key]at hb;show b<g.next+1;split at hb
     ·omega
     ·split at hb
      ·cases hb
      ·exact abK (w b o hb)
   ·cases he
 ·cases he
theorem HO{ts:List TypeId}{r:TypeId}{s u:aaa}{vs':List aaa}{g g':za}(he:zB P .append ts r (s::vs') g=some (u,g')):FU g s g':=by
 match ts,vs',he with
 |[sT,xT],[x],he=>
  have he:Qw P sT xT s x g=some (u,g'):=he;unfold Qw at he;split at he
  ·split at he
   ·split at he
    ·obtain⟨_,he⟩:=zA he;exact zdn he
    ·cases he
   ·cases he
  ·cases he
 |[],_,he=>cases he
 |[_],_,he=>cases he
 |_::_::_::_,_,he=>cases he
 |[_,_],[],he=>cases he
 |[_,_],_::_::_,he=>cases he
end
end
noncomputable section
variable {P:Program}
section
variable {q:FuncId->Nat}{ops:Array Oper}{s0:Env}{h0:za}{A:List yF}{i:Nat}{o:Oper}{s:Env}{h:za}
theorem AX(h:za)(v:aaa)(h':za)(b:Nat):(JZ h v h').get b=h.get b\/((∃a n c,v=.slice (some a) n c/\b=a.block)/\(JZ h v h').get b=h'.get b):=by
 unfold JZ;split
 ·rename_i a n c;rw[za.yJ];by_cases e:b=a.block
  ·rw[aai e];exact .inr ⟨⟨a,n,c,rfl,e⟩,by rw[e]⟩
  ·rw[aaf e];exact .inl rfl
 ·exact .inl rfl
theorem KK(h:za)(v:aaa)(h':za):(JZ h v h').next=h.next:=by unfold JZ;split <;> rfl
theorem re(h:za)(v:aaa)(h':za):(JZ h v h').ro=h.ro:=by unfold JZ;split <;> rfl
def bB(v:aaa)(b:Nat):Bool:=match v with
 | .slice (some a) _ _=>Nat.beq a.block b
 |_=>false
theorem Dy{v:aaa}{b:Nat}:bB v b=true ↔ ∃a n c,v=.slice (some a) n c/\b=a.block:=by
 unfold bB;split
 ·rename_i a n c;rw[aco]
  constructor
  ·intro e;exact⟨a,n,c,rfl,e.symm⟩
  ·rintro⟨a',n',c',e1,e2⟩;cases e1;exact e2.symm
 ·rename_i hn
  constructor
  ·intro e;cases e
  ·rintro⟨a',n',c',e1,e2⟩;exact absurd e1 (hn a' n' c')
theorem P5(F:v9 P ops s0 h0 A i s h)(ho:ops[i]? = some o)(hput:∀d,o.dst=some d->d<s.size)(hk:yc P q ops o=4){m:Nat}{v u:aaa}{g':za}{z:yF}(hz:z∈A)(hzl:VX (yc P q ops z.o)=true)(hzo:MT ops o=some z.j)
  (hown:zf1 v z.g.next z.g'.next (kj m (WM P q ops A) h)) (fx:FU (kj m (WM P q ops A) h) v g') (hs:jL P ops s o (kj m (WM P q ops A) h) u g'):∃y,aC P q ops s0 h0 A i o s h u (vz (JZ h v g') g') m y:=by
 obtain⟨v1,v2,v3⟩:=Yw m (WM P q ops A) h;generalize hG:kj m (WM P q ops A) h=g at *
 have hn:h.next<=g'.next:=by rw[<- v1];exact fx.next
 have hzn:z.g'.next<=h.next:=F.nA z hz;have hsee:∀b,g.get b=if iQ m (WM P q ops A) h b=true then XW A h0 b else none:=λb=>by rw[<- hG];exact ni F b
 have htc:∀b,((decide (h.next<=b/\b<g'.next)||bB v b)=true) ↔ ((h.next<=b/\b<g'.next) \/ ∃a n c,v=.slice (some a) n c/\b=a.block):=λb=>by rw[aaX,aaF,Dy]
 have hblk:∀b,(∃a n c,v=.slice (some a) n c/\b=a.block)->z.g.next<=b/\b<z.g'.next/\g.get b≠none:=by
  rintro b ⟨a,n,c,rfl,rfl⟩;exact hown
 refine⟨⟨i,o,u,s,g,g',iQ m (WM P q ops A) h,λb=>decide (h.next<=b/\b<g'.next)||bB v b⟩,rfl,rfl,rfl,rfl,v1,
  ⟨ho,F.env,F.size,hsee,v2.trans F.ro,by rw[v1];exact F.next,λx hx=>by rw[v1];exact F.nA x hx,fx.next,hs,λd hd=>by rw[<- F.size];exact hput d hd,λb hb=>?_,λb hb=>?_,λb o' hb hlt hg=>fx.gone b o' hlt hg⟩,
  ⟨λb hb=>by show b<g.next;rw[v1];exact E4 hb,λe=>by simp only at e;omega,λe=>by simp only at e;omega,λ_ b hb z hz hl hm=>AN hb hz hl hm,λ_ b hb=>?_,λ_ b hb z hz hl hm=>mM hb hz hl hm,λe=>absurd (hk.symm.trans e) (by decide)⟩,λb=>?_,?_,hn,aaj _,λ_=>rfl,λb o' hb=>?_⟩
 ·rcases (htc b).1 hb with e|e
  ·exact .inr (by show g.next<=b/\b<g'.next;rw[v1];exact e)
  ·refine .inl ?_;show iQ m (WM P q ops A) h b=true;cases he:iQ m (WM P q ops A) h b with
   |true=>rfl
   |false=>exact absurd (by rw[hsee,he];rfl) (hblk b e).2.2
 ·have hb:(decide (h.next<=b/\b<g'.next)||bB v b)=false:=hb;refine fx.same b (λe=>?_) (λa n c e1 e2=>?_)
  ·rw[(htc b).2 (.inl (by rw[<- v1];exact e))]at hb;cases hb
  ·rw[(htc b).2 (.inr ⟨a,n,c,e1,e2⟩)]at hb;cases hb
 ·rcases (htc b).1 hb with e|e
  ·exact .inl (by show g.next<=b/\b<g'.next;rw[v1];exact e)
  ·exact .inr (.inl ⟨hk,z,hz,hzl,hzo,(hblk b e).1,(hblk b e).2.1⟩)
 ·show(vz (JZ h v g') g').get b=if (decide (h.next<=b/\b<g'.next)||bB v b)=true then g'.get b else h.get b;rw[vp,KK];by_cases e:h.next<=b/\b<g'.next
  ·rw[aai e,aai ((htc b).2 (.inl e))]
  ·rw[aaf e];by_cases e2:∃a n c,v=.slice (some a) n c/\b=a.block
   ·rw[aai ((htc b).2 (.inr e2))];obtain⟨a,n,c,rfl,rfl⟩:=e2;unfold JZ;rw[za.yJ,aai rfl]
   ·rw[aaf (λt=>by rcases (htc b).1 t with t|t;exact e t;exact e2 t)];rcases AX h v g' b with t|⟨t,_⟩
    ·exact t
    ·exact absurd t e2
 ·show(JZ h v g').ro=h.ro;exact re h v g'
 ·show b<g'.next;rw[vp,KK]at hb;split at hb
  ·rename_i e;exact e.2
  ·rcases AX h v g' b with t|⟨t,_⟩
   ·rw[t]at hb;exact aap (F.wf b o' hb) hn
   ·have:=hblk b t;omega
theorem Mt(F:v9 P ops s0 h0 A i s h)(ho:ops[i]? = some o)(hput:∀d,o.dst=some d->d<s.size)(hk:yc P q ops o=7)(m:Nat){v u:aaa}{h1:za}(hv:Ws s o=v)(fx:FU h v h1)(hs:jL P ops s o h u h1):∃y,aC P q ops s0 h0 A i o s h u h1 m y:=by
 have hn:=fx.next;have hwf:WF h1:=fx.wf F.wf;have htc:∀b,((decide (h.next<=b/\b<h1.next)||(bB v b&&Nat.blt b h.next))=true) ↔ ((h.next<=b/\b<h1.next)\/((∃a n c,v=.slice (some a) n c/\b=a.block)/\b<h.next)):=λb=>by rw[aaX,aaF,aad,Dy,aaO]
 have hsame:∀b,¬(decide (h.next<=b/\b<h1.next)||(bB v b&&Nat.blt b h.next))=true->h1.get b=h.get b:=λb hb=>by
  have hb1:¬(h.next<=b/\b<h1.next):=λe=>hb ((htc b).2 (.inl e));by_cases e2:∃a n c,v=.slice (some a) n c/\b=a.block
  ·have:¬b<h.next:=λe=>hb ((htc b).2 (.inr ⟨e2,e⟩));rw[Kb F.wf this,Kb hwf (by omega)]
  ·exact fx.same b hb1 (λa n c e1 e3=>e2 ⟨a,n,c,e1,e3⟩)
 refine⟨⟨i,o,u,s,h,h1,λb=>Nat.blt b h.next,λb=>decide (h.next<=b/\b<h1.next)||(bB v b&&Nat.blt b h.next)⟩,rfl,rfl,rfl,rfl,rfl,
  ⟨ho,F.env,F.size,λb=>?_,F.ro,F.next,F.nA,hn,hs,λd hd=>by rw[<- F.size];exact hput d hd,λb hb=>?_,λb hb=>hsame b (λe=>by
   have hb:(decide (h.next<=b/\b<h1.next)||(bB v b&&Nat.blt b h.next))=false:=hb;rw[hb]at e;cases e),λb o' hb hlt hg=>fx.gone b o' hlt hg⟩,
  ⟨λb hb=>by rwa [aaO]at hb,λe=>by simp only at e;omega,λe=>by simp only at e;omega,λe=>(by simp only[hk]at e;cases e),λ_ b hb=>?_,λe=>(by simp only[hk]at e;cases e),λe=>absurd (hk.symm.trans e) (by decide)⟩,λb=>?_,fx.ro,hn,aaj _,λ_=>rfl,hwf⟩
 ·show h.get b=if Nat.blt b h.next=true then XW A h0 b else none;by_cases hb:b<h.next
  ·rw[aai (by rw[aaO];exact hb),F.heap]
  ·rw[aaf (λe=>hb (by rwa [aaO]at e)),Kb F.wf hb]
 ·rcases (htc b).1 hb with e|⟨_,e⟩
  ·exact .inr e
  ·exact .inl (by show Nat.blt b h.next=true;rw[aaO];exact e)
 ·rcases (htc b).1 hb with e|⟨e,e2⟩
  ·exact .inl e
  ·refine .inr (.inr ⟨hk,e2,?_⟩);show Ch (Ws s o)<=b/\b<Ci (Ws s o);rw[hv];exact(za7 v b).2 e
 ·show h1.get b=if (decide (h.next<=b/\b<h1.next)||(bB v b&&Nat.blt b h.next))=true then h1.get b else h.get b;split
  ·rfl
  ·rename_i e;exact hsame b e
theorem zbF{u:aaa}{h':za}(hk:yc P q ops o=5)(he:Kc P s o h=some (u,h')):∃ob,h'=h.push ob/\Kc P s o (h.pick [])=some (u,(h.pick []).push ob):=by
 have hcv:∀a b x,o.op ≠ .convert a b x:=λa b x e=>by
  unfold yc at hk;simp only[e]at hk;cases hn:Cr P a b <;> cases ht:eP P b <;> (rw[hn,ht]at hk;exact absurd hk (by decide))
 unfold yc at hk;unfold Kc at he ⊢
 split at he <;> rename_i yy <;> simp only[yy]at hk ⊢ <;> first
  |(cases hk;done)
  |(exact absurd yy (hcv _ _ _))
  |(cases he;done)
  |skip
 ·split at he
  ·simp only[aab,Cp,aae]at he;obtain⟨rfl,rfl⟩:=he;exact⟨_,rfl,rfl⟩
  ·cases he
 ·split at he
  ·simp only[aab,Cp,aae]at he;obtain⟨rfl,rfl⟩:=he;exact⟨_,rfl,rfl⟩
  ·cases he
 ·split at he
  ·unfold zd at he ⊢;split at he
   ·split at he
    ·obtain⟨hc,he⟩:=zA he;rw[hc];simp only[aav];split at he
     ·obtain⟨hc2,he⟩:=zA he;rw[hc2];simp only[aav,aab,aae]at he ⊢;obtain⟨rfl,rfl⟩:=he;exact⟨_,rfl,rfl,rfl⟩
     ·cases he
    ·cases he
   ·cases he
  ·cases he
 ·split at he
  ·unfold Wh at he ⊢;split at he
   ·split at he
    ·cases he
    ·split at he
     ·cases he
     ·obtain⟨hc,he⟩:=zA he;rw[hc];simp only[aav,aab,aae]at he ⊢;obtain⟨rfl,rfl⟩:=he;exact⟨_,rfl,rfl,rfl⟩
   ·cases he
  ·cases he
 ·exfalso
  split at hk <;> rename_i heq <;> first
   |(cases heq;done)
   |skip
  ·(repeat' split at hk) <;> cases hk
  ·rename_i b _ _ _;cases hq:WZ b <;> rw[hq]at hk <;> cases hk
  all_goals (cases hk;done)
 all_goals (cases he;exact⟨_,rfl,rfl⟩)
end
end
noncomputable section
variable {P:Program}
section
variable {q:FuncId->Nat}{ops:Array Oper}{s0:Env}{h0:za}{A:List yF}{i:Nat}{o:Oper}{s:Env}{h:za}
theorem Ta{a b:TypeId}(hn:Cr P a b=true){x u:aaa}{g g':za}(he:yS P a b x g=some (u,g')):g'=g /\ ∀g2,yS P a b x g2=some (u,g2):=by
 unfold Cr at hn;rw[aad]at hn;obtain⟨n1,n2⟩:=hn;split at n1
 case h_2=>cases n1
 rename_i _ _ _ _ e1 e2;split at n2
 case h_2=>cases n2
 rename_i _ _ _ _ e3 e4;unfold yS Jw EM at he ⊢;simp only[e1,e2,e3,e4]at he ⊢;cases hf:cond (flat x) (fl (z9 P (convert a b x))) none with
 |none=>rw[hf]at he;cases he
 |some v=>
  rw[hf]at he;simp only[aab,aae]at he ⊢;obtain⟨rfl,rfl⟩:=he;exact⟨rfl,λ_=>⟨rfl,trivial⟩⟩
theorem PC{a b:TypeId}(hn:eP P b=true){x u:aaa}{g g':za}(he:yS P a b x g=some (u,g')):g'=g:=by
 unfold eP at hn;rw[aad]at hn;obtain⟨n1,n2⟩:=hn;split at n1
 case h_2=>cases n1
 rename_i e1;split at n2
 case h_2=>cases n2
 rename_i e2;unfold yS at he;cases h0:Jw P a b x g with
 |some r=>
  rw[h0]at he;simp only[aab]at he;subst he;unfold Jw at h0;split at h0
  ·simp only[aab,aae]at h0;exact h0.2.symm
  ·split at h0
   ·rename_i k2 _;rw[e1]at k2;cases k2
   ·split at h0
    ·simp only[aas,aae]at h0;obtain⟨_,_,_,q⟩:=h0;exact q.symm
    ·cases h0
   ·cases h0
 |none=>
  rw[h0]at he;simp only[aas,aae]at he;obtain⟨_,_,_,q⟩:=he;exact q.symm
theorem Ok{k:Nat}(hc:Wp o.op=false)(hk:yc P q ops o=k)(h1:1<=k)(h5:k<=2)(hv:k=1->¬ ∃a b x,o.op=.convert a b x):wH q o=k:=by
 unfold yc at hk;unfold wH;unfold Wp at hc
 split at hk <;> rename_i yy <;> simp only[yy]at hc ⊢ <;> first
  |(cases hc;done)
  |exact hk
  |(subst hk;omega)
  |(split at hk <;> (subst hk;omega))
  |((repeat' split at hk) <;> (subst hk;omega))
  |skip
 rename_i a b x;cases hn:Cr P a b with
 |true=>rw[hn]at hk;exact absurd (show(0:Nat)=k from hk) (by omega)
 |false=>
  rw[hn]at hk;cases ht:eP P b with
  |true=>rw[ht]at hk;exact absurd ⟨_,_,_,yy⟩ (hv (show 1=k from hk).symm)
  |false=>rw[ht]at hk;exact hk
theorem FC{u:aaa}{h':za}(hk:yc P q ops o=1)(hc:Wp o.op=false)(he:Kc P s o h=some (u,h')):h'=h:=by
 by_cases hv:∃a b x,o.op=.convert a b x
 ·obtain⟨a,b,x,yy⟩:=hv;unfold yc at hk;simp only[yy]at hk;cases hn:Cr P a b with
  |true=>rw[hn]at hk;cases hk
  |false=>
   cases ht:eP P b with
   |false=>rw[hn,ht]at hk;cases hk
   |true=>
    unfold Kc at he;simp only[yy]at he;split at he
    ·exact PC ht he
    ·cases he
 ·exact cj (Ok hc hk (by omega) (by omega) (λ_=>hv)) hc he
theorem Rh{u:aaa}{h':za}(hk:yc P q ops o=0)(hc:Wp o.op=false)(he:Kc P s o h=some (u,h')):h'=h /\ ∀g,Kc P s o g=some (u,g):=by
 by_cases hv:∃a b x,o.op=.convert a b x
 ·obtain⟨a,b,x,yy⟩:=hv;unfold yc at hk;simp only[yy]at hk;cases hn:Cr P a b with
  |false=>rw[hn]at hk;cases ht:eP P b <;> (rw[ht]at hk;cases hk)
  |true=>
   unfold Kc at he ⊢;simp only[yy]at he ⊢;split at he
   ·exact Ta hn he
   ·cases he
 ·refine lu (q:=q) ?_ hc he;unfold yc at hk;unfold wH;unfold Wp at hc
  split at hk <;> rename_i yy <;> simp only[yy]at hc ⊢ <;> first
   |(cases hc;done)
   |exact hk
   |(exact absurd hk (by decide))
   |(exact(hv ⟨_,_,_,yy⟩).elim)
   |(exfalso;split at hk <;> simp at hk)
   |(exfalso; (repeat' split at hk) <;> simp at hk)
   |(split at hk <;> exact absurd hk (by decide))
   |(cases hz:MT ops o <;> (rw[hz]at hk;simp at hk))
theorem SM(F:v9 P ops s0 h0 A i s h){v:aaa}{h1:za}{y:yF}{u:aaa}{m:Nat}(N:aC P q ops s0 h0 A i o s h u h1 m y):AF h h1 :=
 ⟨N.next,N.ro,λb o hb=>by
  rw[N.heap]at hb;by_cases ht:y.tc b=true
  ·rw[aai ht]at hb;by_cases hl:b<y.g.next
   ·have h2:=N.told.tc3 b o ht hl hb;have h3:=N.told.heap b;rw[h3]at h2;by_cases hr:y.rd b=true
    ·rw[aai hr,<- F.heap]at h2;exact .inl h2
    ·rw[aaf hr]at h2;exact absurd rfl h2
   ·have hb1:h1.get b=some o:=(by rw[N.heap,aai ht];exact hb);exact .inr ⟨by rw[<- N.gn];omega,N.wf b o hb1⟩
  ·rw[aaf ht]at hb;exact .inl (by rw[hb];simp)⟩
theorem D3(F:v9 P ops s0 h0 A i s h)(hron:h.ro<=h.next)(ho:ops[i]? = some o)(hput:∀d,o.dst=some d->d<s.size)(hw:yD ops s o=true){r:Env}(hl:Le r s){m:Nat}
  {K:aaa->za->Prop} (hk:Rc P q ops r o (WM P q ops A) (kj m (WM P q ops A) h) h K):∃v u h1 y,(zS v=true\/v=u)/\K v h1/\aC P q ops s0 h0 A i o s h u h1 m y/\(yc P q ops o=7->Ws s o=Ws r o):=by
 obtain⟨w1,w2,w3⟩:=Yw m (WM P q ops A) h;have no7:∀{X:Prop},yc P q ops o≠7->yc P q ops o=7->X:=λh1 h2=>absurd h2 h1;unfold Rc at hk;split at hk
 ·rename_i g args ts yy;have ef:jF s (.func g)=some (.func (.func g) #[] #[]):=rfl;have hkind:yc P q ops o=Bg (q g):=by unfold yc;simp only[yy]
  split at hk
  ·rename_i hq;obtain⟨hc,hn,v,hsc,hT,hK⟩:=hk
   have hT2:TC P g (gJ r args.toList) (kj m (WM P q ops A) h) (λv1 h1=>v1=v/\h1=kj m (WM P q ops A) h) :=
    (hT.quiet (λv1 _ e=>by rw[e];exact hsc)).mono (by rintro v1 h1 ⟨⟨_,e1⟩,e2⟩;exact⟨e1,e2⟩)
   obtain⟨y,hy⟩:=Bt (q:=q) F ho hput (by rw[hkind,hq];rfl) (u:=v) (.inr ⟨hw,.inr (.inl ⟨.func g,args,ts,g,#[],#[],_,yy,ef,JM hl hn,hc,by simpa using hT2⟩)⟩);exact⟨v,v,h,y,.inr rfl,hK,hy,no7 (by rw[hkind,hq];decide)⟩
  ·rename_i hq;obtain⟨hc,hn,v,h2,hT,af,hK⟩:=hk;have hnx:h.next<=h2.next:=by have:=af.next;rw[<- w1];exact this
   obtain⟨y,hy⟩:=Mu (q:=q) F ho hput (by rw[hkind,hq];rfl) (m:=m) hnx (u:=v)
    (.inr ⟨hw,.inr (.inl ⟨.func g,args,ts,g,#[],#[],_,yy,ef,JM hl hn,hc,by simpa using hT.fresh⟩)⟩)
   exact⟨v,v,_,y,.inr rfl,hK,hy,no7 (by rw[hkind,hq];decide)⟩
  ·rename_i hq;obtain⟨hn,hk⟩:=hk;obtain⟨v,h2,he,hK⟩:=ZX hk;obtain⟨f1,f2,f3⟩:=QV (WL he);obtain⟨y,hy⟩:=px (q:=q) F ho hput (by rw[hkind,hq];rfl) f1 f2 f3 (u:=v) (.inr ⟨hw,.inr (.inr ⟨.func g,args,ts,g,#[],#[],_,yy,ef,JM hl hn,by simpa using he⟩)⟩) m;exact⟨v,v,_,y,.inr rfl,hK,hy,no7 (by rw[hkind,hq];decide)⟩
  ·rename_i n2 n3 n4;obtain⟨hc,hn,hd⟩:=hk;obtain⟨v,h2,hK,af,hT⟩:=hd ⟨F.wf,hron⟩;have hk3:yc P q ops o=3:=by rw[hkind];unfold Bg;split <;> first|rfl|(exfalso;simp_all)
   obtain⟨y,hy⟩:=QT (q:=q) F ho hput hk3 af (u:=v)
    (.inr ⟨hw,.inr (.inl ⟨.func g,args,ts,g,#[],#[],_,yy,ef,JM hl hn,hc,by simpa using hT⟩)⟩) m
   exact⟨v,v,_,y,.inr rfl,hK,hy,no7 (by rw[hk3];decide)⟩
 ·rename_i f args ts hnf yy;unfold mG at hk;split at hk
  ·rename_i g a c hf;have ef:jF s f=some (.func (.func g) a c):=by rw[Y8 hl (x:=f) (by rw[hf];rfl),hf]
   obtain⟨hn0,hc,hn,hd⟩:=hk;obtain⟨v,h2,hK,af,hT⟩:=hd ⟨F.wf,hron⟩
   have hkind:yc P q ops o=3:=by
    unfold yc;simp only[yy]
   obtain⟨y,hy⟩:=QT (q:=q) F ho hput hkind af (u:=v) (.inr ⟨hw,.inr (.inl ⟨f,args,ts,g,a,c,_,yy,ef,JM hl hn0,hc,hT⟩)⟩) m;exact⟨v,v,_,y,.inr rfl,hK,hy,no7 (by rw[hkind];decide)⟩
  ·exact hk.elim
 ·rename_i args ts yy;split at hk
  ·rename_i z hz;have hkind:yc P q ops o=4:=by unfold yc;simp only[yy,hz]
   unfold JA at hk;split at hk
   case h_2=>exact hk.elim
   rename_i x sv vs' hx hvs;obtain⟨how,hk⟩:=hk;obtain⟨v,h2,he,hK⟩:=ZX hk;obtain⟨hn,he⟩:=qM he;obtain⟨f,t⟩:=x;obtain⟨zr,hzm,hzl,hze⟩:=To hx;simp only[aae]at hze;obtain⟨rfl,rfl,rfl⟩:=hze
   have hop2:Kc P s o (kj m (WM P q ops A) h)=some (v,h2):=by
    unfold Kc;simp only[yy];rw[JM hl hn];exact he
   rw[hvs]at he;obtain⟨y,hy⟩:=P5 (q:=q) F ho hput hkind (m:=m) hzm hzl hz how (HO he) (.inr ⟨hw,.inl hop2⟩);exact⟨v,v,_,y,.inr rfl,hK,hy,no7 (by rw[hkind];decide)⟩
  ·rename_i hz;obtain⟨v,u,h',he,hv,hK⟩:=kQ hl hk
   have hkk:yc P q ops o=7\/yc P q ops o=3:=by
    unfold yc;simp only[yy,hz];split
    ·exact .inl rfl
    ·exact .inr rfl
   rcases hkk with h7|h3
   ·have hs0:∃d xs,args.toList=.tmp d::xs/\OQ o=some d:=by
     unfold yc at h7;simp only[yy,hz]at h7;split at h7
     ·rename_i d hd _;have hd2:=hd;unfold OQ at hd;simp only[yy]at hd;split at hd
      ·rename_i d2 xs hx;obtain rfl:d2=d:=by simpa using hd
       exact⟨_,xs,hx,hd2⟩
      ·cases hd
     ·cases h7
    obtain⟨d,xs,hx,hsl⟩:=hs0;have he0:=he;unfold Kc at he;simp only[yy,hx]at he;simp only[U7,jF]at he;split at he
    ·rename_i vs hvs;split at hvs
     ·cases hvs
     ·cases hvs;have Co:Ws s o=s.get d:=by unfold Ws;rw[hsl]
      obtain⟨y,hy⟩:=Mt (q:=q) F ho hput h7 m Co (HO he) (.inr ⟨hw,.inl he0⟩);refine⟨v,u,h',y,hv,hK,hy,λ_=>?_⟩;rw[Co];unfold Ws;rw[hsl];unfold Ra at hk;simp only[yy,hx]at hk;obtain⟨v2,h2,he2,_⟩:=ZX hk;obtain⟨hnb,_⟩:=qM he2;simp only[gJ,ev,yi]at hnb
      have hd:zS (r.get d)=false:=by
       cases hb:zS (r.get d) with
       |false=>rfl
       |true=>rw[hb]at hnb;cases hnb
      rcases hl.get d with e|e
      ·rw[e]at hd;cases hd
      ·exact e.symm
    ·cases he
   ·obtain⟨y,hy⟩:=QT (q:=q) F ho hput h3 (YK he).1 (u:=u) (.inr ⟨hw,.inl he⟩) m;exact⟨v,u,h',y,hv,hK,hy,no7 (by rw[h3];decide)⟩
 ·rename_i hn1 hn2 hn3;cases h1:Nat.beq (yc P q ops o) 1 with
  |true=>
   rw[h1]at hk;have h1:=aal h1;obtain⟨v,u,h',he,hv,hK⟩:=kQ hl hk;have hnc:=WN he;obtain rfl:=FC h1 hnc he;obtain⟨y,hy⟩:=Bt (q:=q) F ho hput h1 (m:=m) (u:=u) (.inr ⟨hw,.inl he⟩);exact⟨v,u,h,y,hv,hK,hy,no7 (by rw[h1];decide)⟩
  |false=>
   rw[h1]at hk;obtain⟨v,u,h',he,hv,hK⟩:=kQ hl hk;have hnc:=WN he
   have hkle:yc P q ops o=0\/yc P q ops o=1\/yc P q ops o=2\/yc P q ops o=3\/yc P q ops o=5:=by
    unfold yc;split <;> (try simp)
    ·rename_i yy;rw[yy]at hnc;cases hnc
    ·rename_i yy;exact absurd yy (hn3 _ _)
    ·cases WZ _ <;> simp
    ·cases Cr P _ _ <;> cases eP P _ <;> simp
   rcases hkle with h0'|h1'|h2'|h3'|h5'
   ·obtain⟨rfl,hany⟩:=Rh h0' hnc he;obtain⟨y,hy⟩:=gu (q:=q) F ho hput (u:=u) (.inr ⟨hw,.inl (hany _)⟩) m;exact⟨v,u,h',y,hv,hK,hy,no7 (by rw[h0'];decide)⟩
   ·rw[h1']at h1;cases h1
   ·obtain⟨f1,f2,f3⟩:=QV (oT (Ok hnc h2' (by omega) (by omega) (λe=>absurd e (by decide))) hnc he);obtain⟨y,hy⟩:=px (q:=q) F ho hput h2' f1 f2 f3 (u:=u) (.inr ⟨hw,.inl he⟩) m;exact⟨v,u,h',y,hv,hK,hy,no7 (by rw[h2'];decide)⟩
   ·obtain⟨y,hy⟩:=QT (q:=q) F ho hput h3' (YK he).1 (u:=u) (.inr ⟨hw,.inl he⟩) m;exact⟨v,u,h',y,hv,hK,hy,no7 (by rw[h3'];decide)⟩
   ·obtain⟨ob,rfl,he2⟩:=zbF h5' he;obtain⟨y,hy⟩:=P6 (q:=q) F ho hput h5' (u:=u) (.inr ⟨hw,.inl he2⟩) m;exact⟨v,u,_,y,hv,hK,hy,no7 (by rw[h5'];decide)⟩
theorem BI{A1 A2:List yF}{x w:yF}(F:v9 P ops s0 h0 (A1++x::A2) i s h)(hw:w∈A1):w.g'.next<=x.g.next:=(F.told A1 x A2 rfl).nA w hw
theorem D7{A1 A2:List yF}{x w:yF}(F:v9 P ops s0 h0 (A1++x::A2) i s h)(hw:w∈A2):x.g'.next<=w.g.next:=by
 obtain⟨B1,B2,rfl⟩:=aaT hw;exact(F.told (A1++x::B1) w B2 (by simp)).nA x (by simp)
theorem zer{x:yF}(F:v9 P ops s0 h0 A i s h)(hx:x∈A):x.g.next<=x.g'.next:=by
 obtain⟨B1,B2,rfl⟩:=aaT hx;exact(F.told B1 x B2 rfl).n1
theorem D8{u w:yF}(F:v9 P ops s0 h0 A i s h)(hu:u∈A)(hw:w∈A)(hne:u.j≠w.j):u.g'.next<=w.g.next\/w.g'.next<=u.g.next:=by
 obtain⟨B1,B2,rfl⟩:=aaT hu;rcases aaG.1 hw with h1|h1
 ·exact .inr (BI F h1)
 ·rcases aaS.1 h1 with rfl|h1
  ·exact absurd rfl hne
  ·exact .inl (D7 F h1)
theorem Mb{A1 A2:List yF}{x y:yF}{mx my:Nat}(F:v9 P ops s0 h0 (A1++x::A2) i s h)(hx:RV P q ops A1 mx x)(hy:RV P q ops (A1++x::A2) my y)(hn:∀w,w∈A1++x::A2->w.g'.next<=y.g.next)
  (hs:jS ops x.o y.o=true) (hbit:my.testBit x.j=false) (hzy:∀z,MT ops y.o=some z->my.testBit z=true) (hp:zac (x.j,yc P q ops x.o,MT ops x.o,mx) (yc P q ops y.o) (MT ops y.o) my=true):pC ops x y:=by
 simp only[jS,aad]at hs;obtain⟨h1,h2⟩:=hs
 have d1:∀d,x.o.dst=some d->d∉y.o.looksAt ops/\y.o.dst≠some d:=by
  intro d hd;rw[hd]at h1;simp only[aad,aaq,aan,aaD]at h1;exact⟨h1.1,h1.2⟩
 have d2:∀d,y.o.dst=some d->d∉x.o.looksAt ops:=by
  intro d hd;rw[hd]at h2;simp only[aaq,aan,aaD]at h2;exact h2
 have ff:∀{b:Bool},b≠true->b=false:=λh=>by simpa using h
 have xm:x∈A1++x::A2:=by simp
 have xu:=zer F xm;have xy:=hn x xm;unfold zac at hp;simp only[aaX,aad,aaq]at hp;rcases hp with(((hp|hp)|hp)|hp)|⟨⟨⟨⟨⟨⟨p1,p2⟩,p7⟩,q7⟩,p3⟩,p4⟩,p5⟩
 ·have e:=aal hp;have t:=hx.k1 (by omega);have r:=hx.k0 (.inl e);exact⟨d1,d2,λb hb=>(by rw[t b]at hb;cases hb),λb _=>r b⟩
 ·have e:=aal hp;have t:=hy.k1 (by omega);have r:=hy.k0 (.inl e);exact⟨d1,d2,λb _=>⟨r b,t b⟩,λb hb=>by rw[t b]at hb;cases hb⟩
 ·have e3:=aal hp.1;have e5:=aal hp.2
  have own:∀b,y.tc b=true->y.g.next<=b:=λb hb=>by
   rcases hy.tc (by omega) b hb with q|⟨q,_⟩|⟨q,_⟩
   ·exact q.1
   ·omega
   ·omega
  exact⟨d1,d2,λb hb=>⟨hy.k0 (.inr e5) b,ff λht=>by have:=hx.t3 e3 b hb;have:=own b ht;omega⟩,λb hb=>ff λhr=>by have:=hx.rd b hr;have:=own b hb;omega⟩
 ·have e7:=aal hp.1;have k15:yc P q ops y.o=1\/yc P q ops y.o=5:=hp.2.imp aal aal
  have own:∀b,y.tc b=true->y.g.next<=b:=λb hb=>by
   rcases hy.tc (by omega) b hb with q|⟨q,_⟩|⟨q,_⟩
   ·exact q.1
   ·omega
   ·omega
  have xl:VX (yc P q ops x.o)=true:=by rw[e7];rfl
  refine⟨d1,d2,λb hb=>?_,λb hb=>ff λhr=>by have:=hx.rd b hr;have:=own b hb;omega⟩;rcases hx.tc (by omega) b hb with e|⟨q,_⟩|⟨_,q1,q2⟩
  ·refine⟨ff λhr=>?_,ff λht=>by have:=own b ht;omega⟩;rcases k15 with k|k
   ·exact hy.lk (by rw[k];rfl) b hr x xm xl hbit e
   ·rw[hy.k0 (.inr k) b]at hr;cases hr
  ·omega
  ·refine⟨ff λhr=>?_,ff λht=>by have:=own b ht;omega⟩;rcases k15 with k|k
   ·exact hy.lb (by rw[k];rfl) b hr x xm e7 hbit q2
   ·rw[hy.k0 (.inr k) b]at hr;cases hr
 have nb:∀{n m:Nat},Nat.beq n m=false->n≠m:=λh e=>by subst e;simp at h
 have x3:=nb p1;have y3:=nb p2;have x7:=nb p7;have y7:=nb q7;have xtc:=hx.tc x3;have ytc:=hy.tc y3
 have lay:∀{o:Oper},yc P q ops o≠3->¬yc P q ops o<=1->VX (yc P q ops o)=true:=λ{o} h3 h1=>by
  have:yc P q ops o=0\/yc P q ops o=1\/yc P q ops o=2\/yc P q ops o=3\/yc P q ops o=4\/yc P q ops o=5\/yc P q ops o=6\/yc P q ops o=7:=by
   unfold yc;split <;> (try simp)
   ·unfold Bg;split <;> simp
   ·split
    ·simp
    ·split <;> simp
   ·cases WZ _ <;> simp
   ·cases Cr P _ _ <;> cases eP P _ <;> simp
  rcases this with e|e|e|e|e|e|e|e
  ·omega
  ·omega
  ·rw[e];rfl
  ·exact absurd e h3
  ·rw[e];rfl
  ·rw[e];rfl
  ·rw[e];rfl
  ·rw[e];rfl
 have FT:∀b,y.rd b=true->yc P q ops x.o≠1->Fo (yc P q ops y.o)=true/\yc P q ops y.o≠5:=λb hr hk1=>by
  have k0:yc P q ops y.o≠0:=λe=>by rw[hy.k0 (.inl e) b]at hr;cases hr
  have k5:yc P q ops y.o≠5:=λe=>by rw[hy.k0 (.inr e) b]at hr;cases hr
  refine⟨?_,k5⟩;by_cases l1:yc P q ops y.o<=1
  ·have:yc P q ops y.o=1:=by omega
   rw[this];rfl
  ·have:=lay y3 l1
   have n2:yc P q ops y.o≠2:=by
    rcases p3 with p3|p3
    ·exact nb p3
    ·exact absurd (aal p3) hk1
   unfold VX at this;simp only[aaX,aco]at this;rcases this with(((e|e)|e)|e)|e
   ·exact absurd e n2
   ·rw[e];rfl
   ·exact absurd e k5
   ·rw[e];rfl
   ·exact absurd e y7
 have xn1:∀b,x.tc b=true->¬yc P q ops x.o<=1:=λb hb e=>by rw[hx.k1 e b]at hb;cases hb
 refine⟨d1,d2,λb hb=>?_,λb hb=>ff λhr=>?_⟩
 ·have x1:=xn1 b hb;have xne:yc P q ops x.o≠1:=by omega
  rcases xtc b hb with hown|⟨k4,z,hz,hzl,hzo,hzb⟩|⟨q,_⟩
  rotate_left 2
  ·exact absurd q x7
  ·refine⟨ff λhr=>?_,ff λht=>?_⟩
   ·exact hy.lk (FT b hr xne).1 b hr x xm (lay x3 x1) hbit hown
   ·rcases ytc b ht with e|⟨_,w,hw,hwl,hwo,hwb⟩|⟨q,_⟩
    rotate_left 2
    ·exact absurd q y7
    ·omega
    ·have hne:x.j≠w.j:=λe=>by
      have:=hzy _ hwo;rw[<- e,hbit]at this;cases this
     have:=D8 F xm hw hne;omega
  ·have zm:z∈A1++x::A2:=by simp[hz]
   have zx:=BI F hz;rcases p4 with(p4|p4)|p4
   ·exact absurd k4 (nb p4)
   ·have k5:=aal p4;refine⟨hy.k0 (.inr k5) b,ff λht=>?_⟩;rcases ytc b ht with e|⟨ky4,_⟩|⟨q,_⟩
    ·omega
    ·omega
    ·omega
   ·rw[hzo]at p4;simp only[aad,aaq]at p4;refine⟨ff λhr=>?_,ff λht=>?_⟩
    ·exact hy.lk (FT b hr xne).1 b hr z zm hzl p4.1 hzb
    ·rcases ytc b ht with e|⟨_,w,hw,hwl,hwo,hwb⟩|⟨q,_⟩
     rotate_left 2
     ·exact absurd q y7
     ·omega
     ·rw[hwo]at p4;simp only[aaq]at p4;have:=D8 F zm hw (nb p4.2);omega
 ·have hlt:=hx.rd b hr;rcases ytc b hb with e|⟨ky4,w,hw,hwl,hwo,hwb⟩|⟨q,_⟩
  rotate_left 2
  ·exact absurd q y7
  ·omega
  ·rcases p5 with(p5|p5)|p5
   ·exact absurd ky4 (nb p5)
   ·have k5:=aal p5;rw[hx.k0 (.inr k5) b]at hr;cases hr
   ·rw[hwo]at p5;simp only[aaq]at p5;rcases aaG.1 hw with h1|h1
    ·exact hx.lk p5.1 b hr w h1 hwl p5.2 hwb
    ·rcases aaS.1 h1 with rfl|h1
     ·omega
     ·have:=D7 F h1;omega
end
end
noncomputable section
variable {P:Program}
theorem ph{q:FuncId->Nat}{ops:Array Oper}{o:Oper}(h:yc P q ops o=7):o.guard=none:=by
 unfold yc at h;split at h
 ·unfold Bg at h;split at h <;> cases h
 ·cases h
 ·split at h
  ·cases h
  ·split at h
   ·assumption
   ·cases h
 ·rename_i b _ _ _ _;cases hq:WZ b <;> rw[hq]at h <;> cases h
 all_goals first
  |(cases h;done)
  |(rename_i a b _ _;cases hn:Cr P a b <;> cases ht:eP P b <;> (rw[hn]at h;try rw[ht]at h) <;> cases h)
theorem OY{q:FuncId->Nat}{ops:Array Oper}{s0:Env}{h0:za}(hro0:h0.ro<=h0.next):∀(l:List Oper) (i:Nat) (ms:List Nat) (A:List yF) (prev:List (Nat×Nat×Option Nat×Nat)) (r s:Env) (h:za) {K:Env->za->Prop},
  ops.toList.drop i=l->i<=ops.size->aB ops ms->ms.length=i->v9 P ops s0 h0 A i s h->(∀A1 x A2,A=A1++x::A2->∃m,(x.j,yc P q ops x.o,MT ops x.o,m)∈prev/\RV P q ops A1 m x)->Yv ops l i ms (A.reverse.map λx=>(x.j,x.o))=true->p6 P q ops l ms prev=true ->
  Le r s->Lc P q ops l i ms (WM P q ops A) r h K->∃A' r' s' h',v9 P ops s0 h0 A' ops.size s' h'/\Le r' s'/\K r' h'/\Fr (UZ l) s s'/\AF h h'
 |[],i,ms,A,prev,r,s,h,K,hl,hle,hm,hml,F,hrp,hst,hkd,hle1,hk=>by
  have:i=ops.size:=by
   have:=congrArg List.length hl;simp at this;omega
  subst this;exact⟨A,r,s,h,F,hle1,hk,.refl _ _,.refl _⟩
 |o::os,i,ms,A,prev,r,s,h,K,hl,hle,hm,hml,F,hrp,hst,hkd,hle1,hk=>by
  have ho:ops[i]? = some o:=by
   have:=congrArg (λl=>l[0]?) hl;simp only[aaR,aaA]at this;simpa using this
  have hlt:i<ops.size:=by
   rcases aaN i ops.size with h|h
   ·exact h
   ·rw[aaI h]at ho;cases ho
  have hl':ops.toList.drop (i+1)=os:=by rw[<- ach,hl];rfl
  simp only[Yv,aad]at hst;obtain⟨⟨hedge,hslots⟩,hst⟩:=hst;simp only[p6,aad]at hkd;obtain⟨⟨hpair,hzz⟩,hkd⟩:=hkd;have hzz2:∀z,MT ops o=some z->(yK ms o).testBit z=true:=λz hz=>by rw[hz]at hzz;exact hzz
  have go:∀(v u:aaa) (h1:za) (y:yF),(zS v=true\/v=u)->aC P q ops s0 h0 A i o s h u h1 (yK ms o) y->(yc P q ops o=7->Ws s o=Ws r o) ->
    (match r.put o.dst v with|some s1=>Lc P q ops os (i+1) (ms++[yK ms o]) (WM P q ops A++Bi (yc P q ops o) i h.next h1.next (Ws r o)) s1 h1 K|none=>False) ->
    ∃A' r' s' h',v9 P ops s0 h0 A' ops.size s' h'/\Le r' s'/\K r' h'/\Fr (UZ (o::os)) s s'/\AF h h':=by
   intro v u h1 y hv N h7 hk;split at hk
   case h_2=>exact hk.elim
   rename_i r1 hp;obtain⟨s1,hp1,hl1⟩:=hle1.put hp hv
   have hs1:∀t,s1.get t=if o.dst=some t then u else s.get t:=by
    intro t;cases hd:o.dst with
    |none=>rw[hd]at hp1;simp only[Env.put,aab]at hp1;subst hp1;simp
    |some d=>
     rw[hd]at hp1;simp only[Env.put]at hp1;obtain⟨_,hp1⟩:=zA hp1;simp only[aab]at hp1;subst hp1;rw[Env.yJ];by_cases e:t=d
     ·subst e;simp
     ·rw[aaf e,aaf (by simp only[aab];exact λh=>e h.symm)]
   have hs1s:s1.size=s.size:=(Fr.put hp1).size
   have hal2:(WM P q ops A++Bi (yc P q ops o) i h.next h1.next (Ws r o))=WM P q ops (A++[y]):=by
    rw[SH,N.yy,N.hj,N.gn,N.hsl];unfold Bi;cases hla:VX (yc P q ops o) with
    |true=>
     rw[N.geq hla];cases h7b:Nat.beq (yc P q ops o) 7 with
     |true=>rw[h7 (aal h7b)]
     |false=>rfl
    |false=>rfl
   rw[hal2]at hk;have hny:∀w,w∈A->w.g'.next<=y.g.next:=λw hw=>by rw[N.gn];exact F.nA w hw
   have F1:v9 P ops s0 h0 (A++[y]) (i+1) s1 h1:=by
    refine⟨?_,?_,hs1s.trans F.size,?_,N.ro.trans F.ro,aaW F.next N.next,?_,N.wf,?_,?_,?_⟩
    ·rw[abo,F.js,abG];simp[N.hj]
    ·intro t;rw[hs1,KB,N.yy,N.Co,F.env]
    ·intro b;rw[N.heap,bT,F.heap]
    ·intro x hx;rcases aaG.1 hx with hx|hx
     ·exact aaW (F.nA x hx) N.next
     ·simp only[aar]at hx;subst hx;exact N.Ih
    ·intro A1 r A2 e;rcases uh e with⟨_,rfl,rfl⟩|⟨A3,_,e3⟩
     ·exact N.told
     ·exact F.told A1 r A3 e3
    ·intro A1 r A2 e ed hed hb;rcases uh e with⟨_,rfl,rfl⟩|⟨A3,_,e3⟩
     ·rw[N.yy]at hed;simp only[aaB,aaX,aaq,aaO]at hedge;rcases hedge ed (by simpa using hed) with h2|h2
      ·rw[hb]at h2;cases h2
      ·have:ed.on∈A1.map (·.j):=(by rw[F.js];exact abf.2 h2);obtain⟨x,hx,hxj⟩:=aa4.1 this;exact⟨x,hx,hxj⟩
     ·exact F.UP A1 r A3 e3 ed hed hb
    ·intro A1 x A2 z A3 e;have e':A++[y]=(A1++x::A2)++z::A3:=by rw[e];simp
     rcases uh e' with⟨_,e1,rfl⟩|⟨A4,_,e3⟩
     ·have e1:A=A1++x::A2:=e1.symm;have hxm:x∈A:=by rw[e1];simp
      obtain⟨mx,hpm,hrx⟩:=hrp A1 x A2 e1;simp only[aaB,aaX]at hpair hslots;rcases hslots (x.j,x.o) (aa4.2 ⟨x,by simpa using hxm,rfl⟩) with h2|h2
      ·rw[N.hj];exact .inl (qE hm ho h2)
      ·rcases hpair _ hpm with h3|h3
       ·rw[N.hj];exact .inl (qE hm ho h3)
       ·by_cases hbit:(yK ms o).testBit x.j=true
        ·rw[N.hj];exact .inl (qE hm ho hbit)
        ·simp only[ab3]at hbit;have F':=F;have nr:=N.rv;rw[e1]at F' nr;rw[e1]at hny;exact .inr (Mb F' hrx nr hny (by rw[N.yy];exact h2) hbit (by rw[N.yy];exact hzz2) (by rw[N.yy];exact h3))
     ·exact F.apart A1 x A2 z A4 (by rw[e3];simp)
   have hrp1:∀A1 x A2,A++[y]=A1++x::A2->∃m,(x.j,yc P q ops x.o,MT ops x.o,m)∈(ms.length,yc P q ops o,MT ops o,yK ms o)::prev/\RV P q ops A1 m x:=by
    intro A1 x A2 e;rcases uh e with⟨_,e1,e2⟩|⟨A3,_,e3⟩
    ·subst e1 e2;exact⟨yK ms o,by rw[N.hj,N.yy,hml];simp,N.rv⟩
    ·obtain⟨m,h1,h2⟩:=hrp A1 x A3 e3;exact⟨m,aaC _ h1,h2⟩
   obtain⟨A',r',s',h',F',l',k',f',a'⟩:=OY hro0 os (i+1) (ms++[yK ms o]) (A++[y]) _ r1 s1 h1 hl' hlt (VB hm hml ho) (by simp[hml]) F1 hrp1
    (by simpa [N.hj,N.yy] using hst) hkd hl1 hk
   exact⟨A',r',s',h',F',l',k',(Fr.put hp1).left.trans f'.right,(SM F (v:=v) N).trans a'⟩
  have slot:∀{v:aaa} {h1:za} {al':List (Nat×Nat×Nat)},(match r.put o.dst v with|some s1=>Lc P q ops os (i+1) (ms++[yK ms o]) al' s1 h1 K|none=>False)->∀d,o.dst=some d->d<s.size:=by
   intro v h1 al' hk d hd;split at hk
   case h_2=>exact hk.elim
   rename_i r1 hp;rw[hd]at hp;simp only[Env.put]at hp;obtain⟨hb,_⟩:=zA hp;rw[<- hle1.size];simpa [aaO] using hb
  have hron:h.ro<=h.next:=by rw[F.ro];exact aaW hro0 F.next
  have dstok:∀{hv:za} {al:List (Nat×Nat×Nat)} {K':aaa->za->Prop},Rc P q ops r o al hv h K'->(∀v h1,K' v h1->∀d,o.dst=some d->d<s.size)->∀d,o.dst=some d->d<s.size:=by
   intro hv al K' hk hs
   have fromA:∀{g:za} {K2:aaa->za->Prop},Ra P r o g K2->(∀v h1,K2 v h1->∀d,o.dst=some d->d<s.size)->∀d,o.dst=some d->d<s.size:=λhk hs=>by
    obtain⟨v,u,h',_,_,hK⟩:=kQ hle1 hk;exact hs v h' hK
   unfold Rc at hk;split at hk
   ·split at hk
    ·obtain⟨_,_,v,_,_,hK⟩:=hk;exact hs _ _ hK
    ·obtain⟨_,_,v,h2,_,_,hK⟩:=hk;exact hs _ _ hK
    ·obtain⟨_,hk⟩:=hk;obtain⟨v,h2,_,hK⟩:=ZX hk;exact hs _ _ hK
    ·obtain⟨_,_,hd⟩:=hk;obtain⟨v,h2,hK,_⟩:=hd ⟨F.wf,hron⟩;exact hs _ _ hK
   ·unfold mG at hk;split at hk
    ·obtain⟨_,_,_,hd⟩:=hk;obtain⟨v,h2,hK,_⟩:=hd ⟨F.wf,hron⟩;exact hs _ _ hK
    ·exact hk.elim
   ·split at hk
    ·unfold JA at hk;split at hk
     ·obtain⟨_,hk⟩:=hk;obtain⟨v,h2,_,hK⟩:=ZX hk;exact hs _ _ hK
     ·exact hk.elim
    ·exact fromA hk hs
   ·cases h1:Nat.beq (yc P q ops o) 1 with
    |true=>rw[h1]at hk;exact fromA hk (λv _ q=>hs v _ q)
    |false=>rw[h1]at hk;exact fromA hk hs
  simp only[Lc]at hk;split at hk
  ·rename_i hg;obtain⟨v,u,h1,y,hv,hK,N,h7⟩:=D3 F hron ho (dstok hk (λv h1 hK=>slot hK)) (by simp only[yD,hg]) hle1 hk;exact go v u h1 y hv N h7 hK
  ·rename_i j want hg;split at hk
   ·exact hk.elim
   ·rename_i d hdst;unfold GD at hk;split at hk
    ·rename_i b hb
     have hs:s.get d=.bool b:=by
      rcases hle1.get d with e|e
      ·rw[hb]at e;cases e
      ·rw[<- e,hb]
     have haw:yD ops s o=(b == want):=(by simp only[yD,hg,hdst,hs]);by_cases hbw:b=want
     ·have hk:=hk.1 hbw;obtain⟨v,u,h1,y,hv,hK,N,h7⟩:=D3 F hron ho (dstok hk (λv h1 hK=>slot hK)) (by rw[haw,hbw];simp) hle1 hk;exact go v u h1 y hv N h7 hK
     ·have hk:=hk.2 hbw;obtain⟨y,N⟩:=gu (q:=q) F ho (slot hk) (u:=undef) (.inl ⟨by rw[haw];simpa using hbw,rfl,rfl⟩) (yK ms o);exact go undef undef h y (.inr rfl) N (λe=>by rw[ph e]at hg;cases hg) hk
    ·exact hk.elim
    ·rename_i n1 n2
     have hs:s.get d=r.get d:=by
      rcases hle1.get d with e|e
      ·obtain⟨k,p,q,e2⟩:=Wo e;exact absurd e2 (n2 k p q)
      ·exact e.symm
     have haw:yD ops s o=false:=by
      simp only[yD,hg,hdst,hs]
     obtain⟨y,N⟩:=gu (q:=q) F ho (slot hk) (u:=undef) (.inl ⟨haw,rfl,rfl⟩) (yK ms o);exact go undef undef h y (.inr rfl) N (λe=>by rw[ph e]at hg;cases hg) hk
theorem Tg{q:FuncId->Nat}(hmix:P.follows .mixedOrders=true):ay P (N6 P q):=by
 intro ops r s h K rd id hle wf hk;unfold N6 at hk;cases hc:DD P q ops with
 |false=>rw[hc]at hk;exact hk.elim
 |true=>
  rw[hc]at hk;have hk:Lc P q ops ops.toList 0 [] [] r h K:=hk;simp only[DD,aad]at hc
  have F0:v9 P ops s h ([]:List yF) 0 s h:=⟨rfl,λt=>rfl,rfl,λb=>rfl,rfl,aaj _,λx hx=>(by cases hx),wf.1,
   λA1 r A2 e=>by simp at e,λA1 r A2 e=>by simp at e,λA1 x A2 y A3 e=>by simp at e⟩
  obtain⟨A,r',s',h',F,hl',hK,hf,af⟩:=OY wf.2 ops.toList 0 [] [] [] r s h rfl (aaP _) (λk q hq=>by simp at hq) rfl F0 (λA1 x A2 e=>by simp at e) hc.1 hc.2 hle hk
  have V:Valid P ops s h A:=⟨by rw[F.js];exact acs,λi hi=>by
    have:i∈A.map (·.j):=(by rw[F.js];exact abf.2 hi);obtain⟨r,hr,hj⟩:=aa4.1 this;exact⟨r,hr,hj⟩,F.told,F.UP,F.apart⟩
  exact⟨r',s',h',hl',hK,hf,af,VY hmix V F.env F.size F.heap F.ro F.next F.nA (Q:=λe s1 h1=>e=.normal/\s1=s'/\h1=h') ⟨rfl,rfl,rfl⟩⟩
end
noncomputable section
variable {P:Program}
def ZU(q:FuncId->Nat)(o:Oper):Nat:=match o.op with
 | .load _ _=>1
 | .store _ _ _=>6
 | .call {callee := .value (.func g),.. }=>cond (Nat.ble (q g) 1) 5 9
 |_=>(match wH q o with
  |0=>0
  |_=>9)
def zab(x y:Nat):Bool:=Nat.beq x 0||Nat.beq y 0||(Nat.beq x 1&&(Nat.beq y 1||Nat.beq y 5))
def pZ(q:FuncId->Nat):List Oper->List Nat->List (Nat×Nat)->Bool
 |[],_,_=>true
 |o::os,ms,prev=>Nat.ble (ZU q o) 6&&(prev.all λx=>(yK ms o).testBit x.1||zab x.2 (ZU q o))&&pZ q os (ms++[yK ms o]) ((ms.length,ZU q o)::prev)
def S8(q:FuncId->Nat)(ops:Array Oper):Bool:=Yv ops ops.toList 0 [] []&&pZ q ops.toList [] []
def Fe(m:Nat):List (Nat×aaa)->Option (List Nat)
 |[]=>some []
 |x::l=>cond (m.testBit x.1) (Fe m l) (match x.2 with
  | .pointer (some a)=>(match Fe m l with
    |some r=>some (a.block::r)
    |none=>none)
  |_=>none)
def zdF(P:Program)(g:FuncId)(args:List aaa)(hid:List Nat)(h:za)(K:aaa->za->Prop):Prop :=
 wA P g=true/\yi args=true/\DC P g args (h.Wn hid) λv h2=>K v (h2.gG h hid)
def VM(P:Program)(g:FuncId)(args:List aaa)(m:Nat)(fl:List (Nat×aaa))(h:za)(K:aaa->za->Prop):Prop:=match Fe m fl with
 |some hid=>zdF P g args hid h K
 |none=>False
@[congr] theorem zc0 {g:FuncId} {l l':List aaa} {m:Nat} {fl fl':List (Nat×aaa)} {h:za} {h':Unit->za} {K:aaa->za->Prop} (e2:l=l') (e4:fl=fl') (e3:∀u:Unit,(h,u).1=h' u):VM P g l m fl h K=VM P g l' m fl' (h' ()) K:=by rw[e2,e4,<- e3]
theorem PA{g:FuncId}{args:List aaa}{m:Nat}{fl:List (Nat×aaa)}{hid:List Nat}{h:za}{K R:aaa->za->Prop}(hc:wA P g=true)(hn:yi args=true)(hh:Fe m fl=some hid)(d:DC P g args (h.Wn hid) R)(k:∀v h2,R v h2->K v (h2.gG h hid)):VM P g args m fl h K:=by
 unfold VM;rw[hh];exact⟨hc,hn,d.mono k⟩
def zbR(P:Program)(s:Env)(o:Oper)(m:Nat)(fl:List (Nat×aaa))(h:za)(K:aaa->za->Prop):Prop:=match o.op with
 | .load t a=>opt (zf P t (ev s a) h) λv=>K v h
 | .call {callee := .value (.func g),args,argTypes}=>VM P g (gJ s args.toList) m fl h K
 |_=>Ra P s o h K
def flL(s:Env)(o:Oper)(i:Nat)(fl:List (Nat×aaa)):List (Nat×aaa):=match o.op with
 | .load t a=>fl++[(i,ev s a)]
 |_=>fl
def RE(P:Program)(ops:Array Oper):List Oper->Nat->List Nat->List (Nat×aaa)->Env->za->(Env->za->Prop)->Prop
 |[],_,_,_,s,h,K=>K s h
 |o::os,i,ms,fl,s,h,K=>(match o.guard with
  |none=>zbR P s o (yK ms o) fl h λv h1=>(match s.put o.dst v with
   |some s1=>RE P ops os (i+1) (ms++[yK ms o]) (flL s o i fl) s1 h1 K
   |none=>False)
  |some _=>False)
def H5(P:Program)(q:FuncId->Nat)(ops:Array Oper)(s:Env)(h:za)(K:Env->za->Prop):Prop:=RI (S8 q ops) (RE P ops ops.toList 0 [] [] s h K) False
structure RL (q:FuncId->Nat) (fl:List (Nat×aaa)) (x:yF):Prop where
 k0:ZU q x.o=0->(∀b,x.rd b=false) /\ ∀b,x.tc b=false
 k1:ZU q x.o=1->(∀b,x.tc b=false) /\ ∃b off sp,(∀c,x.rd c=true->c=b)/\(x.j,Value.pointer (some ⟨b,off,sp⟩))∈fl
theorem RL.mono{q:FuncId->Nat}{fl fl':List (Nat×aaa)}{x:yF}(r:RL q fl x)(h:∀e,e∈fl->e∈fl'):RL q fl' x:=⟨r.k0,λe=>by
 obtain⟨h1,b,off,sp,h2,h3⟩:=r.k1 e;exact⟨h1,b,off,sp,h2,h _ h3⟩⟩
theorem A8{m:Nat}:∀{fl:List (Nat×aaa)} {hid:List Nat},Fe m fl=some hid->(∀j b off sp,(j,Value.pointer (some ⟨b,off,sp⟩))∈fl->m.testBit j=false->b∈hid)/\(∀b,b∈hid->∃j off sp,(j,Value.pointer (some ⟨b,off,sp⟩))∈fl)
 |[],hid,h=>by
  simp only[Fe,aab]at h;subst h;exact⟨λj b off sp h=>(by cases h),λb h=>(by cases h)⟩
 |x::l,hid,h=>by
  unfold Fe at h;cases hb:m.testBit x.1 with
  |true=>
   rw[hb]at h;obtain⟨h1,h2⟩:=A8 (fl:=l) (hid:=hid) h;refine⟨λj b off sp hm hj=>?_,λb hb2=>?_⟩
   ·rcases aaS.1 hm with e|hm
    ·rw[<- e]at hb;rw[hb]at hj;cases hj
    ·exact h1 j b off sp hm hj
   ·obtain⟨j,off,sp,hm⟩:=h2 b hb2;exact⟨j,off,sp,aaC _ hm⟩
  |false=>
   rw[hb]at h;simp only[aaw]at h;split at h
   ·rename_i a ha;split at h
    ·rename_i r hr;simp only[aab]at h;subst h;obtain⟨h1,h2⟩:=A8 hr;refine⟨λj b off sp hm hj=>?_,λb hb2=>?_⟩
     ·rcases aaS.1 hm with e|hm
      ·rw[<- e]at ha;simp only[Value.pointer.injEq,aab]at ha;rw[<- ha];exact aak
      ·exact aaC _ (h1 j b off sp hm hj)
     ·rcases aaS.1 hb2 with rfl|hb2
      ·obtain⟨k,v⟩:=x;simp only at ha;subst ha;obtain⟨ab,ao,asp⟩:=a;exact⟨k,ao,asp,aak⟩
      ·obtain⟨j,off,sp,hm⟩:=h2 b hb2;exact⟨j,off,sp,aaC _ hm⟩
    ·cases h
   ·cases h
structure FY (P:Program) (q:FuncId->Nat) (ops:Array Oper) (s0:Env) (h0:za) (A:List yF) (i:Nat) (o:Oper) (s:Env) (h:za) (u:aaa) (h1:za) (m:Nat) (fl fl1:List (Nat×aaa)) (y:yF):Prop where
 hj:y.j=i
 yy:y.o=o
 Co:y.v=u
 told:Told P ops s0 h0 A y
 rl:RL q fl1 y
 heap:∀b,h1.get b=if y.tc b=true then y.g'.get b else h.get b
 ro:h1.ro=h.ro
 next:h.next<=h1.next
 Ih:y.g'.next<=h1.next
 wf:WF h1
 af:AF h h1
 sep:ZU q o=5->∀j b off sp,(j,Value.pointer (some ⟨b,off,sp⟩))∈fl->m.testBit j=false->y.rd b=false/\y.tc b=false
 low:∀j b off sp,(j,Value.pointer (some ⟨b,off,sp⟩))∈fl1->(j,Value.pointer (some ⟨b,off,sp⟩))∈fl\/b<h1.next
section
variable {q:FuncId->Nat}{ops:Array Oper}{s0:Env}{h0:za}{A:List yF}{i:Nat}{o:Oper}{s:Env}{h:za}{m:Nat}{fl fl1:List (Nat×aaa)}
theorem Ms(F:v9 P ops s0 h0 A i s h)(ho:ops[i]? = some o)(hput:∀d,o.dst=some d->d<s.size){u:aaa}(hs:jL P ops s o (h.pick []) u (h.pick []))(hk:ZU q o=0):∃y,FY P q ops s0 h0 A i o s h u h m fl fl y:=by
 refine⟨⟨i,o,u,s,h.pick [],h.pick [],λ_=>false,λ_=>false⟩,rfl,rfl,rfl,
  ⟨ho,F.env,F.size,λb=>by rw[uY];simp,F.ro,F.next,F.nA,aaj _,hs,λd hd=>by rw[<- F.size];exact hput d hd,λb hb=>(by cases hb),λb _=>rfl,λb o' hb=>(by cases hb)⟩,
  ⟨λ_=>⟨λ_=>rfl,λ_=>rfl⟩,λe=>by simp only at e;omega⟩,λb=>by simp,rfl,aaj _,aaj _,F.wf,.refl _,λe=>by omega,λj b off sp hm => .inl hm⟩
theorem Mr(F:v9 P ops s0 h0 A i s h)(ho:ops[i]? = some o)(hput:∀d,o.dst=some d->d<s.size)(hw:yD ops s o=true){t:TypeId}{a:Operand}(yy:o.op=.load t a){av u:aaa}(hav:jF s a=some av)(hl:zf P t av h=some u):∃y,FY P q ops s0 h0 A i o s h u h m fl (fl++[(i,av)]) y:=by
 have hk1:ZU q o=1:=by unfold ZU;rw[yy]
 obtain⟨b,off,sp,rfl,hne,hsp⟩:∃b off sp,av=.pointer (some ⟨b,off,sp⟩)/\h.get b≠none /\ ∀g:za,g.get b=h.get b->zf P t av g=some u:=by
  unfold zf at hl;split at hl
  ·rename_i b off;exact⟨b,off,none,rfl,(λe=>by rw[e]at hl;cases hl),λg hg=>by unfold zf;simp only;rw[hg];exact hl⟩
  ·rename_i b off;exact⟨b,off,some 0,rfl,(λe=>by rw[e]at hl;cases hb:b.blt P.globals.size <;> rw[hb]at hl <;> cases hl),λg hg=>by unfold zf;simp only;rw[hg];exact hl⟩
  ·cases hl
 have hlt:b<h.next:=by
  cases hg:h.get b with
  |none=>exact absurd hg hne
  |some o'=>exact F.wf b o' hg
 refine⟨⟨i,o,u,s,h.pick [b],h.pick [b],λc=>decide (c=b),λ_=>false⟩,rfl,rfl,rfl,
  ⟨ho,F.env,F.size,λc=>?_,F.ro,F.next,F.nA,aaj _,.inr ⟨hw,.inl (by unfold Kc;simp only[yy,hav,hsp _ (show(h.pick [b]).get b=h.get b by rw[uY,aai (by simp)]),one])⟩,λd hd=>by rw[<- F.size];exact hput d hd,λb hb=>(by cases hb),λb _=>rfl,λb o' hb=>(by cases hb)⟩,
  ⟨λe=>by simp only at e;omega,λ_=>⟨λ_=>rfl,b,off,sp,λc hc=>by simpa using hc,by simp⟩⟩,λb=>by simp,rfl,aaj _,aaj _,F.wf,.refl _,λe=>by omega,λj c off' sp' hm=>?_⟩
 ·show(h.pick [b]).get c=if decide (c=b)=true then XW A h0 c else none;rw[uY];by_cases e:c=b
  ·subst e;simp[F.heap]
  ·simp[e]
 ·rcases aaG.1 hm with hm|hm
  ·exact .inl hm
  ·simp only[aar,aae,Value.pointer.injEq,aab,ace]at hm;obtain⟨_,rfl,_⟩:=hm;exact .inr hlt
theorem Mq(F:v9 P ops s0 h0 A i s h)(ho:ops[i]? = some o)(hput:∀d,o.dst=some d->d<s.size){hid:List Nat}(hh:Fe m fl=some hid)(hlo:∀j b off sp,(j,Value.pointer (some ⟨b,off,sp⟩))∈fl->b<h.next){v:aaa}{h':za}(af:AF (h.Wn hid) h')(hs:jL P ops s o (h.Wn hid) v h')(hk:ZU q o=5):∃y,FY P q ops s0 h0 A i o s h v (h'.gG h hid) m fl fl y:=by
 obtain⟨hm1,hm2⟩:=A8 hh
 have hlt:∀b,b∈hid->b<h.next:=λb hb=>by
  obtain⟨j,off,sp,hm⟩:=hm2 b hb;exact hlo j b off sp hm
 have hwfh:WF (h.Wn hid):=λb o' hb=>by
  rw[qu]at hb;split at hb
  ·cases hb
  ·exact F.wf b o' hb
 have hwf:=hwfh.af af;have hn:h.next<=h'.next:=af.next
 have hgone:∀b,b∈hid->h'.get b=none:=by
  intro b hb;cases hh:h'.get b with
  |none=>rfl
  |some o'=>
   rcases af.alive b o' hh with h2|⟨h2,_⟩
   ·rw[qu,aai hb]at h2;exact absurd rfl h2
   ·have:h.next<=b:=h2;have:=hlt b hb;omega
 have hbeyond:∀b,¬b<h'.next->h'.get b=none/\h.get b=none:=by
  intro b hb;refine⟨?_,?_⟩
  ·cases hh:h'.get b with|none=>rfl|some o'=>exact absurd (hwf b o' hh) hb
  ·cases hh:h.get b with|none=>rfl|some o'=>exact absurd (aap (F.wf b o' hh) hn) hb
 refine⟨⟨i,o,v,s,h.Wn hid,h',λb=>Nat.blt b h.next && !hid.contains b,λb=>Nat.blt b h'.next && !hid.contains b⟩,rfl,rfl,rfl,
  ⟨ho,F.env,F.size,λb=>?_,F.ro,F.next,F.nA,hn,hs,λd hd=>by rw[<- F.size];exact hput d hd,λb hb=>?_,λb hb=>?_,λb o' _ hlt2 hb=>?_⟩,
  ⟨λe=>by simp only at e;omega,λe=>by simp only at e;omega⟩,λb=>?_,af.ro,hn,aaj _,λb o' hb=>?_,⟨hn,af.ro,λb o' hb=>?_⟩,λ_ j b off sp hm hj=>?_,λj b off sp hm => .inl hm⟩
 ·rw[qu];simp only[aad,aaO,aaq,aaD,aan];by_cases hm:b∈hid
  ·rw[aai hm,aaf (λhc=>hc.2 hm)]
  ·rw[aaf hm];by_cases hb:b<h.next
   ·rw[aai ⟨hb,hm⟩];exact F.heap b
   ·rw[aaf (λhc=>hb hc.1)];cases hh:h.get b with
    |none=>rfl
    |some o'=>exact absurd (F.wf b o' hh) hb
 ·simp only[aad,aaO,aaq,aaD,aan]at hb ⊢;by_cases hb2:b<h.next
  ·exact .inl ⟨hb2,hb.2⟩
  ·exact .inr ⟨ab0 hb2,hb.1⟩
 ·show h'.get b=(h.Wn hid).get b;rw[qu];by_cases hm:b∈hid
  ·rw[aai hm,hgone b hm]
  ·rw[aaf hm]
   have hb':¬b<h'.next:=by
    intro hc;have h3:(Nat.blt b h'.next && !hid.contains b)=true:=by simpa [aaO] using⟨hc,hm⟩
    exact ab6 ((show(Nat.blt b h'.next && !hid.contains b)=false from hb).symm.trans h3)
   rw[(hbeyond b hb').1,(hbeyond b hb').2]
 ·rcases af.alive b o' hb with h2|⟨h2,_⟩
  ·exact h2
  ·exact absurd hlt2 (by show ¬b<(h.Wn hid).next;omega)
 ·rw[Ys];simp only[aad,aaO,aaq,aaD,aan];by_cases hm:b∈hid
  ·rw[aai hm,aaf (λhc=>hc.2 hm)]
  ·rw[aaf hm];by_cases hb:b<h'.next
   ·rw[aai ⟨hb,hm⟩]
   ·rw[aaf (λhc=>hb hc.1),(hbeyond b hb).1,(hbeyond b hb).2]
 ·rw[Ys]at hb;show b<h'.next;split at hb
  ·exact aap (F.wf b o' hb) hn
  ·exact hwf b o' hb
 ·rw[Ys]at hb;split at hb
  ·exact .inl (by rw[hb];simp)
  ·rcases af.alive b o' hb with h2|⟨h2,h3⟩
   ·rw[qu]at h2;split at h2
    ·exact absurd rfl h2
    ·exact .inl h2
   ·exact .inr ⟨h2,h3⟩
 ·have:=hm1 j b off sp hm hj;exact⟨by simp[this],by simp[this]⟩
theorem Iy(F:v9 P ops s0 h0 A i s h)(ho:ops[i]? = some o)(hput:∀d,o.dst=some d->d<s.size)(hk:ZU q o=6){h1:za}(af:AF h h1)
  {u:aaa} (hs:jL P ops s o h u h1):∃y,FY P q ops s0 h0 A i o s h u h1 m fl fl y:=by
 have hrd:∀n b,(Nat.blt b n=true) ↔ b<n:=λn b=>by rw[aaO]
 have hn:h.next<=h1.next:=af.next;have hwf:WF h1:=F.wf.af af
 refine⟨⟨i,o,u,s,h,h1,λb=>Nat.blt b h.next,λb=>Nat.blt b h1.next⟩,rfl,rfl,rfl,
  ⟨ho,F.env,F.size,λb=>?_,F.ro,F.next,F.nA,hn,hs,λd hd=>by rw[<- F.size];exact hput d hd,λb hb=>?_,λb hb=>?_,λb o' hb hlt hg=>?_⟩,
  ⟨λe=>by simp only at e;omega,λe=>by simp only at e;omega⟩,λb=>?_,af.ro,hn,aaj _,hwf,af,λe=>by omega,λj b off sp hm => .inl hm⟩
 ·show h.get b=if Nat.blt b h.next=true then XW A h0 b else none;by_cases hb:b<h.next
  ·rw[aai ((hrd _ b).2 hb),F.heap]
  ·rw[aaf (λe=>hb ((hrd _ b).1 e)),kr F.wf hb]
 ·have hb:=(hrd _ b).1 hb;by_cases hlt:b<h.next
  ·exact .inl ((hrd _ b).2 hlt)
  ·exact .inr ⟨ab0 hlt,hb⟩
 ·have hb':¬b<h1.next:=λe=>by
   have:=(hrd h1.next b).2 e;rw[show Nat.blt b h1.next=false from hb]at this;cases this
  show h1.get b=h.get b;rw[kr hwf hb',kr F.wf (by omega)]
 ·rcases af.alive b o' hg with h2|⟨h2,_⟩
  ·exact h2
  ·have hlt:b<h.next:=hlt;omega
 ·show h1.get b=if Nat.blt b h1.next=true then h1.get b else h.get b;by_cases hb:b<h1.next
  ·rw[aai ((hrd _ b).2 hb)]
  ·rw[aaf (λe=>hb ((hrd _ b).1 e)),kr hwf hb,kr F.wf (by omega)]
theorem Rb(F:v9 P ops s0 h0 A i s h)(hron:h.ro<=h.next)(ho:ops[i]? = some o)(hput:∀d,o.dst=some d->d<s.size)(hw:yD ops s o=true)(hkl:ZU q o<=6)(hlo:∀j b off sp,(j,Value.pointer (some ⟨b,off,sp⟩))∈fl->b<h.next){r:Env}(hl:Le r s)
  {K:aaa->za->Prop} (hk:zbR P r o m fl h K):∃v u h1 y,(zS v=true\/v=u)/\K v h1/\FY P q ops s0 h0 A i o s h u h1 m fl (flL r o i fl) y:=by
 unfold zbR at hk;split at hk
 ·rename_i t a yy;obtain⟨v,he,hK⟩:=qF hk
  have hnb:zS (ev r a)=false:=by
   cases hb:zS (ev r a) with
   |false=>rfl
   |true=>obtain⟨k,p,z,e2⟩:=Wo hb;rw[e2]at he;cases he
  obtain⟨y,hy⟩:=Mr (q:=q) (m:=m) (fl:=fl) F ho hput hw yy (Y8 hl hnb) he;exact⟨v,v,h,y,.inr rfl,hK,by unfold flL;simp only[yy];exact hy⟩
 ·rename_i g args ts yy;have ef:jF s (.func g)=some (.func (.func g) #[] #[]):=rfl
  have hk5:ZU q o=5:=by
   unfold ZU at hkl ⊢;simp only[yy]at hkl ⊢;cases hb:Nat.ble (q g) 1 with
   |true=>rfl
   |false=>rw[hb]at hkl;exact absurd hkl (by decide)
  unfold VM at hk;split at hk
  ·rename_i hid hh;obtain⟨hc,hn,hd⟩:=hk
   have wfh:vQ (h.Wn hid):=⟨λb o' hb=>by
    rw[qu]at hb;split at hb
    ·cases hb
    ·exact F.wf b o' hb,hron⟩
   obtain⟨v,h2,hK,af,hT⟩:=hd wfh;obtain⟨y,hy⟩:=Mq (q:=q) (m:=m) (fl:=fl) F ho hput hh hlo af (.inr ⟨hw,.inr (.inl ⟨.func g,args,ts,g,#[],#[],_,yy,ef,JM hl hn,hc,by simpa using hT⟩)⟩) hk5;exact⟨v,v,_,y,.inr rfl,hK,by unfold flL;simp only[yy];exact hy⟩
  ·exact hk.elim
 ·rename_i n1 n2;obtain⟨v,u,h',he,hv,hK⟩:=kQ hl hk;have hnc:=WN he;by_cases hst:∃t a x,o.op=.store t a x
  ·obtain⟨t,a,x,yy⟩:=hst;obtain⟨y,hy⟩:=Iy (q:=q) (m:=m) (fl:=fl) F ho hput (by unfold ZU;simp only[yy]) (YK he).1 (u:=u) (.inr ⟨hw,.inl he⟩);refine⟨v,u,h',y,hv,hK,?_⟩;unfold flL;split
   ·rename_i yy;exact absurd yy (n1 _ _)
   ·exact hy
  have hk0:ZU q o=0/\wH q o=0:=by
   unfold ZU at hkl ⊢;split at hkl
   ·rename_i yy;exact absurd yy (n1 _ _)
   ·rename_i yy;exact absurd ⟨_,_,_,yy⟩ hst
   ·rename_i yy;exact absurd yy (n2 _ _ _)
   ·cases hko:wH q o with
    |zero=>exact⟨rfl,rfl⟩
    |succ k=>rw[hko]at hkl;exact absurd hkl (by show ¬(9:Nat)<=6;decide)
  obtain⟨rfl,hany⟩:=lu hk0.2 hnc he;obtain⟨y,hy⟩:=Ms (q:=q) (m:=m) (fl:=fl) F ho hput (u:=u) (.inr ⟨hw,.inl (hany _)⟩) hk0.1;refine⟨v,u,h',y,hv,hK,?_⟩;unfold flL;split
  ·rename_i yy;exact absurd yy (n1 _ _)
  ·exact hy
theorem Ma{x y:yF}(hx:RL q fl x)(hy0:ZU q y.o=0->(∀b,y.rd b=false) /\ ∀b,y.tc b=false)(hy1:ZU q y.o=1->∀b,y.tc b=false)(hsep:ZU q y.o=5->∀j b off sp,(j,Value.pointer (some ⟨b,off,sp⟩))∈fl->m.testBit j=false->y.rd b=false/\y.tc b=false)(hs:jS ops x.o y.o=true)(hbit:m.testBit x.j=false)(hp:zab (ZU q x.o) (ZU q y.o)=true):pC ops x y:=by
 simp only[jS,aad]at hs;obtain⟨h1,h2⟩:=hs
 have d1:∀d,x.o.dst=some d->d∉y.o.looksAt ops/\y.o.dst≠some d:=by
  intro d hd;rw[hd]at h1;simp only[aad,aaq,aan,aaD]at h1;exact⟨h1.1,h1.2⟩
 have d2:∀d,y.o.dst=some d->d∉x.o.looksAt ops:=by
  intro d hd;rw[hd]at h2;simp only[aaq,aan,aaD]at h2;exact h2
 unfold zab at hp;simp only[aaX,aad]at hp;rcases hp with(h|h)|⟨h,h'⟩
 ·have h:=aal h;obtain⟨r,t⟩:=hx.k0 h;exact⟨d1,d2,λb hb=>(by rw[t b]at hb;cases hb),λb _=>r b⟩
 ·have h:=aal h;obtain⟨r,t⟩:=hy0 h;exact⟨d1,d2,λb _=>⟨r b,t b⟩,λb hb=>by rw[t b]at hb;cases hb⟩
 ·have h:=aal h;obtain⟨t,b0,off,sp,hrd,hm⟩:=hx.k1 h;refine⟨d1,d2,λb hb=>(by rw[t b]at hb;cases hb),λb hb=>?_⟩;rcases h' with h'|h'
  ·have h':=aal h';rw[hy1 h' b]at hb;cases hb
  ·have h':=aal h';cases hr:x.rd b with
   |false=>rfl
   |true=>
    have e:=hrd b hr;subst e;rw[(hsep h' _ _ _ _ hm hbit).2]at hb;cases hb
end
theorem OX{q:FuncId->Nat}{ops:Array Oper}{s0:Env}{h0:za}(hro0:h0.ro<=h0.next):∀(l:List Oper) (i:Nat) (ms:List Nat) (fl:List (Nat×aaa)) (A:List yF) (r s:Env) (h:za) {K:Env->za->Prop},
  ops.toList.drop i=l->i<=ops.size->aB ops ms->ms.length=i->v9 P ops s0 h0 A i s h->(∀x,x∈A->RL q fl x)->(∀j b off sp,(j,Value.pointer (some ⟨b,off,sp⟩))∈fl->b<h.next)->Yv ops l i ms (A.reverse.map λx=>(x.j,x.o))=true->pZ q l ms (A.reverse.map λx=>(x.j,ZU q x.o))=true ->
  Le r s->RE P ops l i ms fl r h K->∃A' r' s' h',v9 P ops s0 h0 A' ops.size s' h'/\Le r' s'/\K r' h'/\Fr (UZ l) s s'/\AF h h'
 |[],i,ms,fl,A,r,s,h,K,hl,hle,hm,hml,F,hrl,hlo,hst,hkd,hle1,hk=>by
  have:i=ops.size:=by
   have:=congrArg List.length hl;simp at this;omega
  subst this;exact⟨A,r,s,h,F,hle1,hk,.refl _ _,.refl _⟩
 |o::os,i,ms,fl,A,r,s,h,K,hl,hle,hm,hml,F,hrl,hlo,hst,hkd,hle1,hk=>by
  have ho:ops[i]? = some o:=by
   have:=congrArg (λl=>l[0]?) hl;simp only[aaR,aaA]at this;simpa using this
  have hlt:i<ops.size:=by
   rcases aaN i ops.size with h|h
   ·exact h
   ·rw[aaI h]at ho;cases ho
  have hl':ops.toList.drop (i+1)=os:=by rw[<- ach,hl];rfl
  simp only[Yv,aad]at hst;obtain⟨⟨hedge,hslots⟩,hst⟩:=hst;simp only[pZ,aad]at hkd;obtain⟨⟨hkl,hpair⟩,hkd⟩:=hkd;have hkl:=aaE hkl;have hron:h.ro<=h.next:=by rw[F.ro];exact aaW hro0 F.next
  simp only[RE]at hk;split at hk
  case h_2=>exact hk.elim
  rename_i hg
  have hput:∀d,o.dst=some d->d<s.size:=by
   have slot:∀{v:aaa} {h1:za},(match r.put o.dst v with|some s1=>RE P ops os (i+1) (ms++[yK ms o]) (flL r o i fl) s1 h1 K|none=>False)->∀d,o.dst=some d->d<s.size:=by
    intro v h1 hk d hd;split at hk
    case h_2=>exact hk.elim
    rename_i r1 hp;rw[hd]at hp;simp only[Env.put]at hp;obtain⟨hb,_⟩:=zA hp;rw[<- hle1.size];simpa [aaO] using hb
   unfold zbR at hk;split at hk
   ·obtain⟨v,_,hK⟩:=qF hk;exact slot hK
   ·unfold VM at hk;split at hk
    ·rename_i hid hh;obtain⟨_,_,hd⟩:=hk
     have wfh:vQ (h.Wn hid):=⟨λb o' hb=>by
      rw[qu]at hb;split at hb
      ·cases hb
      ·exact F.wf b o' hb,hron⟩
     obtain⟨v,h2,hK,_⟩:=hd wfh;exact slot hK
    ·exact hk.elim
   ·obtain⟨v,u,h',_,_,hK⟩:=kQ hle1 hk;exact slot hK
  obtain⟨v,u,h1,y,hv,hK,N⟩:=Rb (q:=q) (m:=yK ms o) F hron ho hput (by simp only[yD,hg]) hkl hlo hle1 hk;split at hK
  case h_2=>exact hK.elim
  rename_i r1 hp;obtain⟨s1,hp1,hl1⟩:=hle1.put hp hv
  have hs1:∀t,s1.get t=if o.dst=some t then u else s.get t:=by
   intro t;cases hd:o.dst with
   |none=>rw[hd]at hp1;simp only[Env.put,aab]at hp1;subst hp1;simp
   |some d=>
    rw[hd]at hp1;simp only[Env.put]at hp1;obtain⟨_,hp1⟩:=zA hp1;simp only[aab]at hp1;subst hp1;rw[Env.yJ];by_cases e:t=d
    ·subst e;simp
    ·rw[aaf e,aaf (by simp only[aab];exact λh=>e h.symm)]
  have hs1s:s1.size=s.size:=(Fr.put hp1).size
  have hfl:∀e,e∈fl->e∈flL r o i fl:=λe he=>by
   unfold flL;split
   ·exact aaK _ he
   ·exact he
  have F1:v9 P ops s0 h0 (A++[y]) (i+1) s1 h1:=by
   refine⟨?_,?_,hs1s.trans F.size,?_,N.ro.trans F.ro,aaW F.next N.next,?_,N.wf,?_,?_,?_⟩
   ·rw[abo,F.js,abG];simp[N.hj]
   ·intro t;rw[hs1,KB,N.yy,N.Co,F.env]
   ·intro b;rw[N.heap,bT,F.heap]
   ·intro x hx;rcases aaG.1 hx with hx|hx
    ·exact aaW (F.nA x hx) N.next
    ·simp only[aar]at hx;subst hx;exact N.Ih
   ·intro A1 r A2 e;rcases uh e with⟨_,rfl,rfl⟩|⟨A3,_,e3⟩
    ·exact N.told
    ·exact F.told A1 r A3 e3
   ·intro A1 r A2 e ed hed hb;rcases uh e with⟨_,rfl,rfl⟩|⟨A3,_,e3⟩
    ·rw[N.yy]at hed;simp only[aaB,aaX,aaq,aaO]at hedge;rcases hedge ed (by simpa using hed) with h2|h2
     ·rw[hb]at h2;cases h2
     ·have:ed.on∈A1.map (·.j):=(by rw[F.js];exact abf.2 h2);obtain⟨x,hx,hxj⟩:=aa4.1 this;exact⟨x,hx,hxj⟩
    ·exact F.UP A1 r A3 e3 ed hed hb
   ·intro A1 x A2 z A3 e;have e':A++[y]=(A1++x::A2)++z::A3:=by rw[e];simp
    rcases uh e' with⟨_,e1,rfl⟩|⟨A4,_,e3⟩
    ·have hxm:x∈A:=(by rw[<- e1];simp);simp only[aaB,aaX]at hpair hslots;rcases hslots (x.j,x.o) (aa4.2 ⟨x,by simpa using hxm,rfl⟩) with h2|h2
     ·rw[N.hj];exact .inl (qE hm ho h2)
     ·rcases hpair (x.j,ZU q x.o) (aa4.2 ⟨x,by simpa using hxm,rfl⟩) with h3|h3
      ·rw[N.hj];exact .inl (qE hm ho h3)
      ·by_cases hbit:(yK ms o).testBit x.j=true
       ·rw[N.hj];exact .inl (qE hm ho hbit)
       ·simp only[ab3]at hbit;exact .inr (Ma (fl:=fl) (m:=yK ms o) (hrl x hxm) N.rl.k0 (λe=>(N.rl.k1 e).1) (λe=>N.sep (by rw[<- N.yy];exact e)) (by rw[N.yy];exact h2) hbit (by rw[N.yy];exact h3))
    ·exact F.apart A1 x A2 z A4 (by rw[e3];simp)
  obtain⟨A',r',s',h',F',l',k',f',a'⟩:=OX hro0 os (i+1) (ms++[yK ms o]) (flL r o i fl) (A++[y]) r1 s1 h1 hl' hlt (VB hm hml ho) (by simp[hml]) F1
   (λx hx=>by rcases aaG.1 hx with hx|hx
              ·exact(hrl x hx).mono hfl
              ·simp only[aar]at hx;subst hx;exact N.rl)
   (λj b off sp hm2=>by
    rcases N.low j b off sp hm2 with q2|q2
    ·exact aap (hlo j b off sp q2) N.next
    ·exact q2)
   (by simpa [N.hj,N.yy] using hst) (by have:ms.length=y.j:=by rw[N.hj,hml]
                                        simpa [this,N.yy] using hkd) hl1 hK
  exact⟨A',r',s',h',F',l',k',(Fr.put hp1).left.trans f'.right,N.af.trans a'⟩
theorem Tf{q:FuncId->Nat}(hmix:P.follows .mixedOrders=true):ay P (H5 P q):=by
 intro ops r s h K rd id hle wf hk;unfold H5 at hk;cases hc:S8 q ops with
 |false=>rw[hc]at hk;exact hk.elim
 |true=>
  rw[hc]at hk;have hk:RE P ops ops.toList 0 [] [] r h K:=hk;simp only[S8,aad]at hc
  have F0:v9 P ops s h ([]:List yF) 0 s h:=⟨rfl,λt=>rfl,rfl,λb=>rfl,rfl,aaj _,λx hx=>(by cases hx),wf.1,
   λA1 r A2 e=>by simp at e,λA1 r A2 e=>by simp at e,λA1 x A2 y A3 e=>by simp at e⟩
  obtain⟨A,r',s',h',F,hl',hK,hf,af⟩:=OX (q:=q) wf.2 ops.toList 0 [] [] [] r s h rfl (aaP _) (λk q hq=>by simp at hq) rfl F0 (λx hx=>(by cases hx)) (λj b off sp hm=>(by cases hm)) hc.1 hc.2 hle hk
  have V:Valid P ops s h A:=⟨by rw[F.js];exact acs,λi hi=>by
    have:i∈A.map (·.j):=(by rw[F.js];exact abf.2 hi);obtain⟨r,hr,hj⟩:=aa4.1 this;exact⟨r,hr,hj⟩,F.told,F.UP,F.apart⟩
  exact⟨r',s',h',hl',hK,hf,af,VY hmix V F.env F.size F.heap F.ro F.next F.nA (Q:=λe s1 h1=>e=.normal/\s1=s'/\h1=h') ⟨rfl,rfl,rfl⟩⟩
end
end Go.Ai
