import Derived.Test.YtcecapkbglnejaaGreatDoorTD
set_option linter.unusedVariables false
set_option linter.unusedSimpArgs false
set_option maxRecDepth 100000
namespace Go.Ai
noncomputable section
variable {P:Program}
@[congr] theorem zed {f:aaa} {f':Unit->aaa} {l l':List aaa} {h h':za} {K:aaa->za->Prop} (e1:∀u:Unit,(f,u).1=f' u) (e2:l=l') (e3:h=h'):zq P f l h K=zq P (f' ()) l' h' K:=by rw[<- e1,e2,e3]
@[congr] theorem zec {g:FuncId} {l l':List aaa} {h:za} {h':Unit->za} {K:aaa->Prop} (e2:l=l') (e3:∀u:Unit,(h,u).1=h' u):vL P g l h K=vL P g l' (h' ()) K:=by rw[e2,<- e3]
@[congr] theorem zef {g:FuncId} {l l':List aaa} {h:za} {h':Unit->za} {K:aaa->za->Prop} (e2:l=l') (e3:∀u:Unit,(h,u).1=h' u):Al P g l h K=Al P g l' (h' ()) K:=by rw[e2,<- e3]
@[congr] theorem zeb {g:FuncId} {l l':List aaa} {h:za} {h':Unit->za} {K:aaa->za->Prop} (e2:l=l') (e3:∀u:Unit,(h,u).1=h' u):jN P g l h K=jN P g l' (h' ()) K:=by rw[e2,<- e3]
@[congr] theorem zhq {step:List aaa->za->(List aaa->za->Prop)->Prop} {vs vs':List aaa} {h:za} {h':Unit->za} (e1:vs=vs') (e2:∀u:Unit,(h,u).1=h' u):LP step vs h=LP step vs' (h' ()):=by rw[e1,<- e2]
@[congr] theorem zg2 {α:Type} {x:Option α} {y:Unit->Option α} {K:α->Prop} (h:∀u:Unit,(x,u).1=y u):opt x K=opt (y ()) K:=by rw[<- h]
@[congr] theorem zfI {x:Option (aaa×za)} {y:Unit->Option (aaa×za)} {K:aaa->za->Prop} (h:∀u:Unit,(x,u).1=y u):yp x K=yp (y ()) K:=by rw[<- h]
@[congr] theorem zhp {g:aaa} {g':Unit->aaa} {want:Bool} {A:(aaa->za->Prop)->Prop} {K:aaa->za->Prop} {h:za} (e:∀u:Unit,(g,u).1=g' u):GD g want A K h=GD (g' ()) want A K h:=by rw[<- e]
@[congr] theorem zho {g:aaa} {g':Unit->aaa} {A B:(List aaa->za->Prop)->Prop} {J:List aaa->za->Prop} (e:∀u:Unit,(g,u).1=g' u):CD g A B J=CD (g' ()) A B J:=by rw[<- e]
end
noncomputable section
variable {P:Program}
def Fin(L:Nat)(K:aaa->za->Prop)(e:Ex)(h2:za):Prop := ∃A2,h2.get L=some (.loop A2)/\h2.ro<=L/\K (.bool (VE e).isNone) (h2.set L (some (.loop (A2.left e))))
def RA(L:Nat)(h1:za)(K:za->Prop):Prop := ∃A1,h1.get L=some (.loop A1)/\A1.state=.ready/\h1.ro<=L/\K (h1.set L (some (.loop {A1 with state := .busy})))
end
noncomputable section
variable {P:Program}
def nt(o:Option wQ)(off n:Nat):Option (List aaa):=match o with
 |some (.cells c _)=>if off+n<=c.length then some ((c.drop off).take n) else none
 |_=>none
abbrev Lk:=yU->Option (Nat×Nat×Nat)
structure Qn (lk:Lk) (ops:Array Oper) (x y:yU):Prop where
 d1:∀d,x.o.dst=some d->d∉y.o.looksAt ops/\y.o.dst≠some d
 d2:∀d,y.o.dst=some d->d∉x.o.looksAt ops
 b1:∀b,x.tc b=true->y.tc b=false/\(y.rd b=false \/ ∃off n,lk y=some (b,off,n)/\x.rd b=true/\nt (x.g'.get b) off n=nt (x.g.get b) off n)
 b2:∀b,y.tc b=true->x.rd b=false \/ ∃off n,lk x=some (b,off,n)/\y.rd b=true/\nt (y.g'.get b) off n=nt (y.g.get b) off n
structure RX (lk:Lk) (P:Program) (ops:Array Oper) (s0:Env) (h0:za) (A:List yU) (r:yU):Prop extends Told P ops s0 h0 A r where
 still:r.g.next=h0.next/\r.g'.next=h0.next
 look:∀b0 off n,lk r=some (b0,off,n)->r.rd b0=true/\(∀b,r.rd b=true->b=b0)/\(∀b,r.tc b=false) /\ ∀g:za,nt (g.get b0) off n=nt (r.g.get b0) off n->YH P ops r.s r.o g r.v g
structure WD (lk:Lk) (P:Program) (ops:Array Oper) (s0:Env) (h0:za) (tr:List yU):Prop where
 nodup:(tr.map (·.j)).Nodup
 all:∀i,i<ops.size->∃r,r∈tr/\r.j=i
 told:∀A r B,tr=A++r::B->RX lk P ops s0 h0 A r
 Jq:∀A r B,tr=A++r::B->∀e,e∈r.o.after->Region.binds .any e=true->∃x,x∈A/\x.j=e.on
 apart:∀A x B y C,tr=A++x::(B++y::C)->Prec ops x.j y.j\/Qn lk ops x y
section
variable {lk:Lk}
theorem Ns{ops:Array Oper}{s0:Env}{h0:za}{tr:List yU}(V:WD lk P ops s0 h0 tr){S:Nat->Bool}(hdown:∀i j,Prec ops i j->S j=true->S i=true){A B:List yU}{r:yU}(e:tr=A++r::B)
  (hready:∀i,Prec ops i r.j->S i=true) (hnot:S r.j=false) {p:yU->Bool} (hp:∀x,(x∈A->p x=true->Prec ops x.j r.j)/\(x∈B->p x=true->Prec ops r.j x.j)) :
  (A.filter (λx=>S x.j)).filter p=A.filter p/\(B.filter (λx=>S x.j)).filter p=[]:=by
 constructor
 ·rw[aca];apply abT;intro x hx;cases hpx:p x with
  |false=>simp
  |true=>rw[hready _ ((hp x).1 hx hpx)];rfl
 ·rw[aca,acC];intro x hx hc;simp only[aah]at hc;have:=hdown _ _ ((hp x).2 hx hc.1) hc.2;rw[hnot]at this;cases this
theorem WD.order{ops:Array Oper}{s0:Env}{h0:za}{tr A B:List yU}{r:yU}(V:WD lk P ops s0 h0 tr)(e:tr=A++r::B){p:yU->Bool}(hA:∀x,Qn lk ops x r->p x=false)(hB:∀x,Qn lk ops r x->p x=false) :
  ∀x,(x∈A->p x=true->Prec ops x.j r.j)/\(x∈B->p x=true->Prec ops r.j x.j):=by
 intro x
 constructor
 ·intro hx hpx;obtain⟨A1,A2,rfl⟩:=aaV hx;rcases V.apart A1 x A2 r B (by simp[e]) with h|h
  ·exact h
  ·rw[hA x h]at hpx;cases hpx
 ·intro hx hpx;obtain⟨B1,B2,rfl⟩:=aaV hx;rcases V.apart A r B1 x B2 e with h|h
  ·exact h
  ·rw[hB x h]at hpx;cases hpx
section
variable {ops:Array Oper}{s0:Env}{h0:za}{tr A B:List yU}{r:yU}{S:Nat->Bool}
theorem KJ(e:tr=A++r::B)(hnot:S r.j=false):tr.filter (λx=>S x.j)=A.filter (λx=>S x.j)++B.filter (λx=>S x.j):=by
 subst e;simp[hnot]
theorem p7(V:WD lk P ops s0 h0 tr)(e:tr=A++r::B):tr.filter (λx=>jq S r.j x.j)=A.filter (λx=>S x.j)++r::B.filter (λx=>S x.j):=by
 have hA:A.filter (λx=>jq S r.j x.j)=A.filter (λx=>S x.j):=abT λx hx=>by simp[jq,U0 V.nodup e (.inl hx)]
 have hB:B.filter (λx=>jq S r.j x.j)=B.filter (λx=>S x.j):=abT λx hx=>by simp[jq,U0 V.nodup e (.inr hx)]
 rw[e,aaS,abO,hA,hB,aai (by simp[jq])]
theorem aL(V:WD lk P ops s0 h0 tr)(hdown:∀i j,Prec ops i j->S j=true->S i=true)(e:tr=A++r::B)(hready:∀i,Prec ops i r.j->S i=true)(hnot:S r.j=false){p:yU->Bool}
  (hA:∀x,Qn lk ops x r->p x=false) (hB:∀x,Qn lk ops r x->p x=false):vJ (tr.filter λx=>S x.j) p=vJ A p:=by
 obtain⟨h1,h2⟩:=Ns V hdown e hready hnot (V.order e hA hB);rw[vJ,KJ e hnot,aaS,h1,h2,List.append_nil];rfl
theorem Kw(V:WD lk P ops s0 h0 tr)(hdown:∀i j,Prec ops i j->S j=true->S i=true)(e:tr=A++r::B)(hready:∀i,Prec ops i r.j->S i=true)(hnot:S r.j=false){p:yU->Bool}(hr:p r=true)
  (hA:∀x,Qn lk ops x r->p x=false) (hB:∀x,Qn lk ops r x->p x=false):vJ (tr.filter λx=>jq S r.j x.j) p=some r:=by
 obtain⟨h1,h2⟩:=Ns V hdown e hready hnot (V.order e hA hB);rw[vJ,p7 V e,aaS,abO,aai hr,h1,h2];simp
theorem Wu(V:WD lk P ops s0 h0 tr)(e:tr=A++r::B)(hnot:S r.j=false){p:yU->Bool}(hr:p r=false):vJ (tr.filter λx=>jq S r.j x.j) p=vJ (tr.filter λx=>S x.j) p:=by
 rw[vJ,vJ,p7 V e,KJ e hnot,aaS,abO,hr,aae (by simp),aaS]
theorem zeg(V:WD lk P ops s0 h0 tr)(hdown:∀i j,Prec ops i j->S j=true->S i=true)(e:tr=A++r::B)(hready:∀i,Prec ops i r.j->S i=true)(hnot:S r.j=false){b0 off n:Nat}(hlk:lk r=some (b0,off,n))(hrd:r.rd b0=true)(htc:r.tc b0=false) :
  nt (WR (tr.filter λx=>S x.j) h0 b0) off n=nt (WR A h0 b0) off n:=by
 have val:∀(l:List yU),WR l h0 b0=match (l.filter λx=>x.tc b0).getLast? with|some r=>r.g'.get b0|none=>h0.get b0:=λl=>rfl
 have one:∀A1 x A2,tr=A1++x::A2->x.tc b0=true->(Qn lk ops x r\/Qn lk ops r x)->nt (x.g'.get b0) off n=nt (WR A1 h0 b0) off n:=by
  intro A1 x A2 e1 hx hf;have D:=V.told A1 x A2 e1
  have key:x.rd b0=true/\nt (x.g'.get b0) off n=nt (x.g.get b0) off n:=by
   rcases hf with hf|hf
   ·rcases (hf.b1 b0 hx).2 with h1|⟨o1,n1,h1,h2,h3⟩
    ·rw[hrd]at h1;cases h1
    ·rw[hlk]at h1;cases h1;exact⟨h2,h3⟩
   ·rcases hf.b2 b0 hx with h1|⟨o1,n1,h1,h2,h3⟩
    ·rw[hrd]at h1;cases h1
    ·rw[hlk]at h1;cases h1;exact⟨h2,h3⟩
  rw[key.2,D.heap,aai key.1]
 let p:yU->Bool:=λx=>x.tc b0
 have ord:∀A1 x A2,tr=A1++x::A2->p x=true->∀A3 y A4,A1=A3++y::A4->p y=true->Prec ops y.j x.j:=by
  intro A1 x A2 e1 hx A3 y A4 e2 hy;subst e2;rcases V.apart A3 y A4 x A2 (by simpa using e1) with h|h
  ·exact h
  ·have:=(h.b1 b0 hy).1;rw[show x.tc b0=true from hx]at this;cases this
 have go:∀(C D:List yU),tr=C++D->(∀x,x∈C->p x=true->S x.j=false->Qn lk ops x r)->nt (WR (C.filter λx=>S x.j) h0 b0) off n=nt (WR C h0 b0) off n:=by
  intro C
  induction hC:C.length generalizing C with
  |zero=>intro D _ _;rw[abF.1 hC];rfl
  |succ m ih=>
   intro D e1 hfree;rcases acq C with rfl|⟨C',x,rfl⟩
   ·cases hC
   simp only[acr]at *
   have e2:tr=C'++x::D:=by rw[e1];simp
   have ih':=ih C' (by simpa using hC) (x::D) e2 λy hy=>hfree y (by simp[hy]);cases hp:p x with
   |false=>
    have h1:(C'++[x]).filter p=C'.filter p:=by rw[aaS];simp[hp]
    have h2:((C'++[x]).filter λy=>S y.j).filter p=(C'.filter λy=>S y.j).filter p:=by
     rw[aaS,aaS];cases hs:S x.j <;> simp[hs,hp]
    rw[val,val,show((C'++[x]).filter λx=>x.tc b0)=C'.filter p from h1,show(((C'++[x]).filter λy=>S y.j).filter λx=>x.tc b0)=(C'.filter λy=>S y.j).filter p from h2];rw[val,val]at ih';exact ih'
   |true=>
    have h1:(C'++[x]).filter p=C'.filter p++[x]:=(by rw[aaS];simp[hp]);cases hs:S x.j with
    |true=>
     have h2:((C'++[x]).filter λy=>S y.j).filter p=(C'.filter λy=>S y.j).filter p++[x]:=by
      rw[aaS,aaS];simp[hs,hp]
     rw[val,val,show((C'++[x]).filter λx=>x.tc b0)=C'.filter p++[x] from h1,show(((C'++[x]).filter λy=>S y.j).filter λx=>x.tc b0)=(C'.filter λy=>S y.j).filter p++[x] from h2];simp
    |false=>
     have h2:((C'++[x]).filter λy=>S y.j).filter p=(C'.filter λy=>S y.j).filter p:=by
      rw[aaS,aaS];simp[hs]
     have hx:=one C' x D e2 hp (.inl (hfree x (by simp) hp hs));rw[val ((C'++[x]).filter _),val (C'++[x]),show((C'++[x]).filter λx=>x.tc b0)=C'.filter p++[x] from h1,show(((C'++[x]).filter λy=>S y.j).filter λx=>x.tc b0)=(C'.filter λy=>S y.j).filter p from h2];rw[val]at ih';simp only[List.getLast?_append,List.getLast?_singleton,Option.some_or];rw[hx];exact ih'
 have back:∀(C D:List yU),B=C++D->nt (WR (A.filter (λx=>S x.j)++C.filter (λx=>S x.j)) h0 b0) off n=nt (WR (A.filter λx=>S x.j) h0 b0) off n:=by
  intro C
  induction hC:C.length generalizing C with
  |zero=>intro D _;rw[abF.1 hC];simp
  |succ m ih=>
   intro D e1;rcases acq C with rfl|⟨C',x,rfl⟩
   ·cases hC
   simp only[acr]at *
   have e2:B=C'++x::D:=by rw[e1];simp
   have ih':=ih C' (by simpa using hC) (x::D) e2;cases hs:S x.j with
   |false=>rw[aaS];simpa [hs] using ih'
   |true=>
    cases hp:p x with
    |false=>
     have h2:((A.filter (λx=>S x.j)++(C'++[x]).filter λy=>S y.j).filter p)=(A.filter (λx=>S x.j)++C'.filter λy=>S y.j).filter p:=by
      rw[aaS C' [x]];simp[hs,hp]
     rw[val,show((A.filter (λx=>S x.j)++(C'++[x]).filter λy=>S y.j).filter λx=>x.tc b0)=_ from h2];rw[val]at ih';exact ih'
    |true=>
     have e3:tr=(A++r::C')++x::D:=by rw[e,e2];simp
     have hfr:Qn lk ops r x:=by
      rcases V.apart A r C' x D (by rw[e,e2]) with h|h
      ·have:=hdown _ _ h hs;rw[hnot]at this;cases this
      ·exact h
     have hx:=one (A++r::C') x D e3 hp (.inr hfr)
     have h2:((A.filter (λx=>S x.j)++(C'++[x]).filter λy=>S y.j).filter p)=(A.filter (λx=>S x.j)++C'.filter λy=>S y.j).filter p++[x]:=by
      rw[aaS C' [x]];simp[hs,hp,aaS]
     rw[val,show((A.filter (λx=>S x.j)++(C'++[x]).filter λy=>S y.j).filter λx=>x.tc b0)=_ from h2];simp only[List.getLast?_append,List.getLast?_singleton,Option.some_or];rw[hx,<- ih']
     have h4:(A++r::C').filter p=(A.filter (λx=>S x.j)++C'.filter λy=>S y.j).filter p:=by
      have all:∀y,y∈A++r::C'->p y=true->S y.j=true:=by
       intro y hy hpy;obtain⟨Y1,Y2,hY⟩:=aaV hy;exact hdown _ _ (ord (A++r::C') x D e3 hp Y1 y Y2 hY hpy) hs
      rw[<- aaS,aca,aaS,aaS,abO,show p r=false from htc];simp only[abh,aar]
      congr 1
      ·apply abT;intro y hy;cases hpy:p y with
       |false=>simp
       |true=>rw[all y (by simp[hy]) hpy];rfl
      ·apply abT;intro y hy;cases hpy:p y with
       |false=>simp
       |true=>rw[all y (by simp[hy]) hpy];rfl
     rw[val,val,show((A++r::C').filter λx=>x.tc b0)=_ from h4]
 have hA:=go A (r::B) e λx hx hpx hsx=>by
  obtain⟨A1,A2,rfl⟩:=aaV hx;rcases V.apart A1 x A2 r B (by simp[e]) with h|h
  ·have:=hready _ h;rw[hsx]at this;cases this
  ·exact h
 rw[KJ e hnot,back B [] (by simp),hA]
theorem Lw(hro0:h0.ro<=h0.next)(V:WD lk P ops s0 h0 tr)(hdown:∀i j,Prec ops i j->S j=true->S i=true)(e:tr=A++r::B)(hready:∀i,Prec ops i r.j->S i=true)(hnot:S r.j=false)
  {N:Nat} (hN:∀x,x∈tr->x.g'.next<=N) (hlk:lk r=none) {ρ0 ρ:xz} {w0 w:World} {tm:Array aaa} (I:fT P tr s0 h0 N ρ0 w0 S ρ w tm) (ds:List Deferred) (rest:List Nat) (b:Frame) (k:List Item) (cs:List Frame) :
  ∃ρ' w' tm',fT P tr s0 h0 N ρ0 w0 (jq S r.j) ρ' w' tm'/\Steps P (lone (vP b tm ds (.inRegion ops (r.j::rest)::k)) cs w) (lone (vP b tm' ds (.inRegion ops rest::k)) cs w'):=by
 have D:=V.told A r B e;have hrm:r∈tr:=by rw[e];simp
 have rdA:∀x,Qn lk ops x r->∀bb,x.tc bb=true->r.rd bb=true->False:=λx hx bb hw hb=>by
  rcases (hx.b1 bb hw).2 with h|⟨_,_,h,_⟩
  ·rw[hb]at h;cases h
  ·rw[hlk]at h;cases h
 have rdB:∀x,Qn lk ops r x->∀bb,x.tc bb=true->r.rd bb=true->False:=λx hx bb hw hb=>by
  rcases hx.b2 bb hw with h|⟨_,_,h,_⟩
  ·rw[hb]at h;cases h
  ·rw[hlk]at h;cases h
 have lookEnv:∀t,t∈r.o.looksAt ops->vJ (tr.filter λx=>S x.j) (KO t)=vJ A (KO t):=λt ht=>
  aL V hdown e hready hnot (λx hx=>by
   cases hw:KO t x with
   |false=>rfl
   |true=>exact absurd ht (hx.d1 t (abc hw)).1) (λx hx=>by
   cases hw:KO t x with
   |false=>rfl
   |true=>exact absurd ht (hx.d2 t (abc hw)))
 have lookHeap:∀bb,r.rd bb=true->vJ (tr.filter λx=>S x.j) (λx=>x.tc bb)=vJ A (λx=>x.tc bb):=λbb hb=>
  aL V hdown e hready hnot (λx hx=>by
   cases hw:x.tc bb with
   |false=>rfl
   |true=>exact(rdA x hx bb hw hb).elim) (λx hx=>by
   cases hw:x.tc bb with
   |false=>rfl
   |true=>exact(rdB x hx bb hw hb).elim)
 have hpVeq:∀bb,r.rd bb=true->WR (tr.filter λx=>S x.j) h0 bb=r.g.get bb:=λbb hb=>by
  rw[D.heap,aai hb];simp only[WR,lookHeap bb hb]
 have hpNle:∀bb,r.rd bb=true->oP (tr.filter λx=>S x.j) h0.next bb<=r.g.next:=λbb hb=>by
  simp only[oP,lookHeap bb hb];split
  ·rename_i x hx;exact D.nA x (VF hx).1
  ·exact D.n0
 have galive:∀bb o,r.g.get bb=some o->r.rd bb=true/\WR (tr.filter λx=>S x.j) h0 bb=some o:=λbb o hg=>by
  rw[D.heap]at hg;cases hb:r.rd bb with
  |false=>rw[hb]at hg;simp at hg
  |true=>exact⟨rfl,by rw[hpVeq bb hb,D.heap];exact hg⟩
 let ρr:=ρ.cut r.g.next
 have hrel:Rel P ρr r.g w:=by
  refine⟨rfl,?_,?_,?_,?_,by rw[D.ro];exact I.oO,I.gl⟩
  ·have h1:=D.ro;have h2:=D.n0;show r.g.ro<=r.g.next;omega
  ·intro bb o hg;obtain⟨h1,h2⟩:=galive bb o hg;exact aan (I.heap bb o h2).1 (hpNle bb h1)
  ·intro bb o hg;obtain⟨h1,h2⟩:=galive bb _ hg;obtain⟨_,pl,hp,hc⟩:=I.heap bb o h2;refine⟨pl,hp,?_⟩;rw[D.ro];exact hc.dL (hpNle bb h1)
  ·intro b1 b2 o1 o2 p1 p2 g1 g2;exact I.inj b1 b2 o1 o2 p1 p2 (galive b1 o1 g1).2 (galive b2 o2 g2).2
 have hlook:∀t,t∈r.o.looksAt ops->zK ρr (r.s.get t) (tm.getD t undef):=by
  intro t ht;have h1:=I.env t;have e1:KH (tr.filter λx=>S x.j) s0 t=r.s.get t:=by rw[D.env t];simp only[KH,lookEnv t ht]
  have e2:mA (tr.filter λx=>S x.j) h0.next t<=r.g.next:=by
   simp only[mA,lookEnv t ht];split
   ·rename_i x hx;exact D.nA x (VF hx).1
   ·exact D.n0
  rw[e1]at h1;exact h1.dL e2
 obtain⟨v',w',ρq,st,hv,sx⟩:=dX D.op D.sem hrel (D.size.trans I.size) hlook ds rest b k cs
 let ρ':xz:={next:=N,m:=λbb=>if r.g.next<=bb/\bb<r.g'.next then ρq.m bb else ρ.m bb}
 have qnext:ρq.next=r.g'.next:=st.rel.next;have qlow:∀bb,bb<r.g.next->ρq.m bb=ρ.m bb:=λbb hb=>st.le.2 bb hb
 have pq:∀bb,bb<r.g'.next->ρ'.m bb=ρq.m bb:=by
  intro bb hb;by_cases hl:r.g.next<=bb
  ·exact aai ⟨hl,hb⟩
  ·rw[show ρ'.m bb=ρ.m bb from aae (by omega),qlow bb (by omega)]
 have rfresh:=I.fresh r hrm hnot
 have pext:∀bb pl,ρ.m bb=some pl->ρ'.m bb=some pl:=by
  intro bb pl hm
  rw[show ρ'.m bb=ρ.m bb from aae (by
   rintro⟨h1,h2⟩;rw[rfresh bb h1 h2]at hm;cases hm)]
  exact hm
 have hn1N:r.g'.next<=N:=hN r hrm
 have notMine:∀bb o pl,WR (tr.filter λx=>S x.j) h0 bb=some o->ρ.m bb=some pl->r.rd bb=false->¬ly ρr r.g pl.c:=by
  rintro bb o pl hg hm hb ⟨b1,o1,p1,g1,_,m1,e1⟩;obtain⟨k1,k2⟩:=galive b1 o1 g1;have:=I.inj b1 bb o1 o p1 pl k2 hg m1 hm e1;subst this;rw[hb]at k1;cases k1
 have hpVnew:∀bb,WR (tr.filter λx=>jq S r.j x.j) h0 bb=if r.tc bb=true then r.g'.get bb else WR (tr.filter λx=>S x.j) h0 bb:=by
  intro bb;cases ht:r.tc bb with
  |true=>
   rw[aai rfl];simp only[WR]
   rw[Kw V hdown e hready hnot ht (λx hx=>by
    cases hw:x.tc bb with
    |false=>rfl
    |true=>have:=(hx.b1 bb hw).1;rw[ht]at this;cases this) (λx hx=>by
    cases hw:x.tc bb with
    |false=>rfl
    |true=>have:=(hx.b1 bb ht).1;rw[hw]at this;cases this)]
  |false=>
   rw[aae (by simp)];simp only[WR];rw[Wu V e hnot (p:=λx=>x.tc bb) ht]
 have hpNnew:∀bb,oP (tr.filter λx=>jq S r.j x.j) h0.next bb=if r.tc bb=true then r.g'.next else oP (tr.filter λx=>S x.j) h0.next bb:=by
  intro bb;cases ht:r.tc bb with
  |true=>
   rw[aai rfl];simp only[oP]
   rw[Kw V hdown e hready hnot ht (λx hx=>by
    cases hw:x.tc bb with
    |false=>rfl
    |true=>have:=(hx.b1 bb hw).1;rw[ht]at this;cases this) (λx hx=>by
    cases hw:x.tc bb with
    |false=>rfl
    |true=>have:=(hx.b1 bb ht).1;rw[hw]at this;cases this)]
  |false=>
   rw[aae (by simp)];simp only[oP];rw[Wu V e hnot (p:=λx=>x.tc bb) ht]
 have cases':∀bb o,WR (tr.filter λx=>jq S r.j x.j) h0 bb=some o->(r.tc bb=true/\r.g'.get bb=some o)\/(r.tc bb=false/\WR (tr.filter λx=>S x.j) h0 bb=some o):=by
  intro bb o h;rw[hpVnew]at h;cases ht:r.tc bb with
  |true=>rw[ht,aai rfl]at h;exact .inl ⟨rfl,h⟩
  |false=>rw[ht,aae (by simp)]at h;exact .inr ⟨rfl,h⟩
 refine⟨ρ',w',kC tm r.o.dst v',⟨rfl,?_,?_,?_,?_,?_,?_,st.os.trans I.os,st.tape.trans I.tape,st.output.trans I.output,aaZ I.gC st.size,?_,?_,I.oO,λb pl hb hm=>I.gl b pl hb (by
  rw[show ρ'.m b=ρ.m b from aae (by have:=D.n0;have:=I.oO;omega)]at hm;exact hm)⟩,sx⟩
 ·intro bb hb;rw[show ρ'.m bb=ρ.m bb from aae (by have:=D.n0;omega)];exact I.old bb hb
 ·cases r.o.dst with
  |none=>exact I.size
  |some d=>simp only[kC,Array.size_setIfInBounds];exact I.size
 ·
  intro t;by_cases ht:r.o.dst=some t
  ·have e1:vJ (tr.filter λx=>jq S r.j x.j) (KO t)=some r:=Kw V hdown e hready hnot (p:=KO t) (by simp[KO,ht]) (λx hx=>by
    cases hw:KO t x with
    |false=>rfl
    |true=>exact absurd ht (hx.d1 t (abc hw)).2) (λx hx=>by
    cases hw:KO t x with
    |false=>rfl
    |true=>exact absurd (abc hw) (hx.d1 t ht).2)
   simp only[KH,mA,e1]
   have e2:(kC tm r.o.dst v').getD t undef=v':=by
    have hlt:t<tm.size:=(by rw[<- I.size];exact D.put t ht);rw[ht];simp[kC,aaD,hlt]
   rw[e2];refine hv.ext (by show ρq.next<=r.g'.next;rw[qnext];exact aam _) (λbb pl hb hm=>?_);show ρ'.m bb=some pl;rw[pq bb (by rw[<- qnext];exact hb)];exact hm
  ·have e1:vJ (tr.filter λx=>jq S r.j x.j) (KO t)=vJ (tr.filter λx=>S x.j) (KO t):=Wu V e hnot (p:=KO t) (by simp[KO,ht])
   have e2:(kC tm r.o.dst v').getD t undef=tm.getD t undef:=by
    cases hd:r.o.dst with
    |none=>rfl
    |some d=>
     have:d≠t:=λh=>ht (by rw[hd,h]);simp[kC,aaD,this]
   have h1:=I.env t;simp only[KH,mA]at h1 ⊢;rw[e1,e2];exact h1.Av (ρ':=ρ') pext
 ·
  intro bb o hg;rcases cases' bb _ hg with⟨ht,hg'⟩|⟨ht,hg'⟩
  ·rw[hpNnew,aai ht];obtain⟨pl,hp,hc⟩:=st.rel.ok bb o hg';have hlt:=st.rel.bI bb _ hg';refine⟨hlt,pl,by rw[pq bb hlt];exact hp,?_⟩;have hro:r.g'.ro=h0.ro:=st.ro.trans D.ro;rw[hro]at hc;exact hc.ext (by show ρq.next<=r.g'.next;rw[qnext];exact aam _) (λb2 p2 hb hm=>by show ρ'.m b2=some p2;rw[pq b2 (by rw[<- qnext];exact hb)];exact hm)
  ·rw[hpNnew,ht,aae (by simp)];obtain⟨hlt,pl,hp,hc⟩:=I.heap bb o hg';refine⟨hlt,pl,pext bb pl hp,?_⟩
   have hdone:ux P (ρ.cut (oP (tr.filter λx=>S x.j) h0.next bb)) (decide (h0.ro<=bb)) o pl w':=by
    cases hb:r.rd bb with
    |true=>
     have hgg:r.g'.get bb=some o:=(by rw[D.tc2 bb ht,<- hpVeq bb hb];exact hg');obtain⟨p2,hp2,hc2⟩:=st.rel.ok bb o hgg;have hbl:bb<r.g.next:=aan hlt (hpNle bb hb);rw[qlow bb hbl,hp]at hp2;cases hp2;have hro:r.g'.ro=h0.ro:=st.ro.trans D.ro;rw[hro]at hc2;exact ux.down (ρ:=ρ.cut (oP (tr.filter λx=>S x.j) h0.next bb)) (ρ2:=ρq) (λb2 hb2=>qlow b2 (aan hb2 (hpNle bb hb))) hc hc2
    |false=>exact hc.other (st.frame pl.c hc.lt (notMine bb _ pl hg' hp hb))
   exact hdone.Av (ρ':=ρ') pext
 ·
  have key:∀b1 b2 o1 o2 p1 p2,r.tc b1=true->r.g'.get b1=some o1->r.tc b2=false->WR (tr.filter λx=>S x.j) h0 b2=some o2->ρ'.m b1=some p1->ρ'.m b2=some p2->p1.c=p2.c->b1=b2:=by
   intro b1 b2 o1 o2 p1 p2 t1 g1 t2 g2 m1 m2 ec;obtain⟨hlt2,q2,hq2,hc2⟩:=I.heap b2 o2 g2;rw[pext b2 q2 hq2]at m2;cases m2;have hl1:=st.rel.bI b1 o1 g1;rw[pq b1 hl1]at m1;cases hb2:r.rd b2 with
   |true=>
    have hgg:r.g'.get b2=some o2:=(by rw[D.tc2 b2 t2,<- hpVeq b2 hb2];exact g2);have hbl:b2<r.g.next:=aan hlt2 (hpNle b2 hb2);exact st.rel.inj b1 b2 o1 _ p1 p2 g1 hgg m1 (by rw[qlow b2 hbl];exact hq2) ec
   |false=>
    by_cases hw:h0.ro<=b1
    ·have hM:ly ρq r.g' p1.c:=⟨b1,o1,p1,g1,by rw[st.ro,D.ro];exact hw,m1,rfl⟩;have hlt:p1.c<w.heap.size:=by rw[ec];exact hc2.lt
     have:=st.rD p1.c hlt hM;rw[ec]at this;exact absurd this (notMine b2 _ p2 g2 hq2 hb2)
    ·have hb1:b1<r.g.next:=(by have:=D.n0;omega);have hne:=D.tc3 b1 o1 t1 hb1 g1;obtain⟨o1',ho1'⟩:∃o,r.g.get b1=some o:=by cases hh:r.g.get b1 with|none=>exact absurd hh hne|some o=>exact⟨o,rfl⟩
     rw[qlow b1 hb1]at m1;exact I.inj b1 b2 o1' _ p1 p2 (galive b1 o1' ho1').2 g2 m1 hq2 ec
  intro b1 b2 o1 o2 p1 p2 g1 g2 m1 m2 ec;rcases cases' b1 o1 g1 with⟨t1,k1⟩|⟨t1,k1⟩ <;> rcases cases' b2 o2 g2 with⟨t2,k2⟩|⟨t2,k2⟩
  ·have l1:=st.rel.bI b1 o1 k1;have l2:=st.rel.bI b2 o2 k2;rw[pq b1 l1]at m1;rw[pq b2 l2]at m2;exact st.rel.inj b1 b2 o1 o2 p1 p2 k1 k2 m1 m2 ec
  ·exact key b1 b2 o1 o2 p1 p2 t1 k1 t2 k2 m1 m2 ec
  ·exact(key b2 b1 o2 o1 p2 p1 t2 k2 t1 k1 m2 m1 ec.symm).symm
  ·obtain⟨_,q1,hq1,_⟩:=I.heap b1 o1 k1;obtain⟨_,q2,hq2,_⟩:=I.heap b2 o2 k2;rw[pext b1 q1 hq1]at m1;rw[pext b2 q2 hq2]at m2;cases m1;cases m2;exact I.inj b1 b2 _ _ p1 p2 k1 k2 hq1 hq2 ec
 ·
  intro x hx hS bb h1 h2;simp only[jq,acf,aaL]at hS;have h3:=I.fresh x hx hS.1 bb h1 h2;have hne:x≠r:=λh=>hS.2 (by rw[h])
  have hdis:¬(r.g.next<=bb/\bb<r.g'.next):=by
   rw[e]at hx;rcases aa2.1 hx with hxA|hxB
   ·have:=D.nA x hxA;omega
   ·rcases abm.1 hxB with hxr|hxB
    ·exact absurd hxr hne
    ·obtain⟨B1,B2,rfl⟩:=aaV hxB;have:=(V.told (A++r::B1) x B2 (by simp[e])).nA r (by simp);omega
  rw[show ρ'.m bb=ρ.m bb from aae hdis];exact h3
 ·intro c hc hn
  rw[st.frame c (aan hc I.gC) (by
   rintro⟨b1,o1,p1,g1,hro1,m1,rfl⟩;exact hn (I.rD b1 o1 p1 (galive b1 o1 g1).2 (by rw[<- D.ro];exact hro1) m1 hc))]
  exact I.frame c hc hn
 ·intro bb o pl hg hro hm hc;rcases cases' bb o hg with⟨ht,hg'⟩|⟨ht,hg'⟩
  ·rw[pq bb (st.rel.bI bb o hg')]at hm;obtain⟨b1,o1,p1,g1,hro1,m1,e1⟩:=st.rD pl.c (aan hc I.gC) ⟨bb,o,pl,hg',by rw[st.ro,D.ro];exact hro,hm,rfl⟩;rw[<- e1];exact I.rD b1 o1 p1 (galive b1 o1 g1).2 (by rw[<- D.ro];exact hro1) m1 (by rw[e1];exact hc)
  ·obtain⟨_,q,hq,_⟩:=I.heap bb o hg';rw[pext bb q hq]at hm;cases hm;exact I.rD bb _ pl hg' hro hq hc
theorem Lv(hro0:h0.ro<=h0.next)(V:WD lk P ops s0 h0 tr)(hdown:∀i j,Prec ops i j->S j=true->S i=true)(e:tr=A++r::B)(hready:∀i,Prec ops i r.j->S i=true)(hnot:S r.j=false)
  {N:Nat} (hN:∀x,x∈tr->x.g'.next<=N) (hNN:N=h0.next) {b0 off n:Nat} (hlk:lk r=some (b0,off,n)) {ρ0 ρ:xz} {w0 w:World} {tm:Array aaa} (I:fT P tr s0 h0 N ρ0 w0 S ρ w tm) (ds:List Deferred) (rest:List Nat) (b:Frame) (k:List Item) (cs:List Frame) :
  ∃ρ' w' tm',fT P tr s0 h0 N ρ0 w0 (jq S r.j) ρ' w' tm'/\Steps P (lone (vP b tm ds (.inRegion ops (r.j::rest)::k)) cs w) (lone (vP b tm' ds (.inRegion ops rest::k)) cs w'):=by
 have D:=V.told A r B e;have hrm:r∈tr:=by rw[e];simp
 obtain⟨l1,l2,l3,l4⟩:=D.look b0 off n hlk;have hNr:r.g.next=N:=by rw[D.still.1,hNN]
 have hNr':r.g'.next=N:=by rw[D.still.2,hNN]
 have hcut:ρ.cut N=ρ:=by have:=I.next;cases ρ;simp only at this;subst this;rfl
 have lookEnv:∀t,t∈r.o.looksAt ops->vJ (tr.filter λx=>S x.j) (KO t)=vJ A (KO t):=λt ht=>
  aL V hdown e hready hnot (λx hx=>by
   cases hw:KO t x with
   |false=>rfl
   |true=>exact absurd ht (hx.d1 t (abc hw)).1) (λx hx=>by
   cases hw:KO t x with
   |false=>rfl
   |true=>exact absurd ht (hx.d2 t (abc hw)))
 have lastn:∀(p:yU->Bool) x,vJ (tr.filter λx=>S x.j) p=some x->x.g'.next<=N:=λp x hx=>hN x (ab7.1 (VF hx).1).1
 have hpNle:∀bb,oP (tr.filter λx=>S x.j) h0.next bb<=N:=λbb=>by
  simp only[oP];split
  ·rename_i x hx;exact lastn _ x hx
  ·omega
 let g1:za:=r.g.set b0 (WR (tr.filter λx=>S x.j) h0 b0)
 have g1get:∀bb o,g1.get bb=some o->bb=b0/\WR (tr.filter λx=>S x.j) h0 b0=some o:=λbb o hg=>by
  show bb=b0/\_;have hg:(r.g.set b0 (WR (tr.filter λx=>S x.j) h0 b0)).get bb=some o:=hg;rw[za.yR]at hg;split at hg
  ·rename_i q;exact⟨q,hg⟩
  ·rw[D.heap]at hg;cases hb:r.rd bb with
   |false=>rw[hb]at hg;simp at hg
   |true=>rename_i q;exact absurd (l2 bb hb) q
 have hrel:Rel P ρ g1 w:=by
  refine⟨by rw[I.next];exact hNr.symm,by have h1:=D.ro;have h2:=D.n0;show r.g.ro<=r.g.next;omega,λbb o hg=>?_,λbb o hg=>?_,λb1 b2 o1 o2 p1 p2 q1 q2 _ _ _=>?_,by show _<=r.g.ro;rw[D.ro];exact I.oO,I.gl⟩
  ·obtain⟨rfl,h2⟩:=g1get bb o hg;have:=(I.heap bb o h2).1;have:=hpNle bb;show bb<r.g.next;omega
  ·obtain⟨rfl,h2⟩:=g1get bb o hg;obtain⟨_,pl,hp,hc⟩:=I.heap bb o h2;refine⟨pl,hp,?_⟩;have hc:=hc.dL (hpNle bb);rw[hcut]at hc;show ux P ρ (decide (r.g.ro<=bb)) o pl w;rw[D.ro];exact hc
  ·rw[(g1get b1 o1 q1).1,(g1get b2 o2 q2).1]
 have hsem:YH P ops r.s r.o g1.lock r.v g1.lock:=l4 g1.lock (by
  show nt ((r.g.set b0 (WR (tr.filter λx=>S x.j) h0 b0)).get b0) off n=_;rw[za.yR,aai rfl,zeg V hdown e hready hnot hlk l1 (l3 b0),D.heap,aai l1])
 have hlook:∀t,t∈r.o.looksAt ops->zK ρ (r.s.get t) (tm.getD t undef):=by
  intro t ht;have h1:=I.env t;have e1:KH (tr.filter λx=>S x.j) s0 t=r.s.get t:=by rw[D.env t];simp only[KH,lookEnv t ht]
  rw[e1]at h1
  have h1:=h1.dL (m:=N) (by
   simp only[mA];split
   ·rename_i x hx;exact lastn _ x hx
   ·omega)
  rw[hcut]at h1;exact h1
 obtain⟨v',w',ρq,st,hv,sx⟩:=dX D.op hsem hrel.lock (D.size.trans I.size) hlook ds rest b k cs
 have hfr:∀c,c<w.heap.size->w'.heap[c]? = w.heap[c]?:=λc hc=>st.frame c hc (by
  rintro⟨bb,o,pl,hg,hro,_,_⟩;have h1:=hrel.lock.bI bb o hg;have h2:g1.next<=bb:=hro;have h3:bb<g1.next:=h1;omega)
 have qn:ρq.next=N:=by
  have:ρq.next=g1.next:=st.rel.next;rw[this];exact hNr
 have hv2:zK ρ v' v'\/True := .inr trivial
 have hvr:zK ρ r.v v':=hv.ext (by rw[qn,I.next];exact aam _) λbb pl hb hm=>by
  rw[<- st.le.2 bb (by rw[I.next,<- qn];exact hb)];exact hm
 have hpVnew:∀bb,WR (tr.filter λx=>jq S r.j x.j) h0 bb=WR (tr.filter λx=>S x.j) h0 bb:=λbb=>by
  simp only[WR];rw[Wu V e hnot (p:=λx=>x.tc bb) (l3 bb)]
 have hpNnew:∀bb,oP (tr.filter λx=>jq S r.j x.j) h0.next bb=oP (tr.filter λx=>S x.j) h0.next bb:=λbb=>by
  simp only[oP];rw[Wu V e hnot (p:=λx=>x.tc bb) (l3 bb)]
 refine⟨ρ,w',kC tm r.o.dst v',⟨I.next,I.old,?_,?_,?_,?_,?_,st.os.trans I.os,st.tape.trans I.tape,st.output.trans I.output,aaZ I.gC st.size,?_,?_,I.oO,I.gl⟩,sx⟩
 ·cases r.o.dst with
  |none=>exact I.size
  |some d=>simp only[kC,Array.size_setIfInBounds];exact I.size
 ·intro t;by_cases ht:r.o.dst=some t
  ·have e1:vJ (tr.filter λx=>jq S r.j x.j) (KO t)=some r:=Kw V hdown e hready hnot (p:=KO t) (by simp[KO,ht]) (λx hx=>by
    cases hw:KO t x with
    |false=>rfl
    |true=>exact absurd ht (hx.d1 t (abc hw)).2) (λx hx=>by
    cases hw:KO t x with
    |false=>rfl
    |true=>exact absurd (abc hw) (hx.d1 t ht).2)
   simp only[KH,mA,e1]
   have e2:(kC tm r.o.dst v').getD t undef=v':=by
    have hlt:t<tm.size:=(by rw[<- I.size];exact D.put t ht);rw[ht];simp[kC,aaD,hlt]
   rw[e2,hNr',hcut];exact hvr
  ·have e1:vJ (tr.filter λx=>jq S r.j x.j) (KO t)=vJ (tr.filter λx=>S x.j) (KO t):=Wu V e hnot (p:=KO t) (by simp[KO,ht])
   have e2:(kC tm r.o.dst v').getD t undef=tm.getD t undef:=by
    cases hd:r.o.dst with
    |none=>rfl
    |some d=>
     have:d≠t:=λh=>ht (by rw[hd,h]);simp[kC,aaD,this]
   have h1:=I.env t;simp only[KH,mA]at h1 ⊢;rw[e1,e2];exact h1
 ·intro bb o hg;rw[hpVnew]at hg;rw[hpNnew];obtain⟨h1,pl,hp,hc⟩:=I.heap bb o hg;exact⟨h1,pl,hp,hc.other (hfr pl.c hc.lt)⟩
 ·intro b1 b2 o1 o2 p1 p2 g1 g2;rw[hpVnew]at g1 g2;exact I.inj b1 b2 o1 o2 p1 p2 g1 g2
 ·intro x hx hS;simp only[jq,acf,aaL]at hS;exact I.fresh x hx hS.1
 ·intro c hc hn;rw[hfr c (aan hc I.gC)];exact I.frame c hc hn
 ·intro bb o pl hg;rw[hpVnew]at hg;exact I.rD bb o pl hg
theorem Lx(hro0:h0.ro<=h0.next)(V:WD lk P ops s0 h0 tr)(hdown:∀i j,Prec ops i j->S j=true->S i=true)(e:tr=A++r::B)(hready:∀i,Prec ops i r.j->S i=true)(hnot:S r.j=false)
  {N:Nat} (hN:∀x,x∈tr->x.g'.next<=N) (hNN:N=h0.next) {ρ0 ρ:xz} {w0 w:World} {tm:Array aaa} (I:fT P tr s0 h0 N ρ0 w0 S ρ w tm) (ds:List Deferred) (rest:List Nat) (b:Frame) (k:List Item) (cs:List Frame) :
  ∃ρ' w' tm',fT P tr s0 h0 N ρ0 w0 (jq S r.j) ρ' w' tm'/\Steps P (lone (vP b tm ds (.inRegion ops (r.j::rest)::k)) cs w) (lone (vP b tm' ds (.inRegion ops rest::k)) cs w'):=by
 cases hlk:lk r with
 |none=>exact Lw hro0 V hdown e hready hnot hN hlk I ds rest b k cs
 |some x=>obtain⟨b0,off,n⟩:=x;exact Lv hro0 V hdown e hready hnot hN hNN hlk I ds rest b k cs
end
section
variable {ops:Array Oper}{s0:Env}{h0:za}{tr:List yU}
theorem TD(hro0:h0.ro<=h0.next)(V:WD lk P ops s0 h0 tr){N:Nat}(hN:∀x,x∈tr->x.g'.next<=N)(hNN:N=h0.next){ρ0:xz}{w0:World}(ds:List Deferred)(b:Frame)(k:List Item)(cs:List Frame) :
  ∀(fuel t:Nat) (listed:Array Bool) (ρ:xz) (w:World) (tm:Array aaa),listed.size=ops.size->((List.range ops.size).filter λi => !listed.getD i false).length<=fuel ->
   (∀i j,Prec ops i j->listed.getD j false=true->listed.getD i false=true)->fT P tr s0 h0 N ρ0 w0 (λj=>listed.getD j false) ρ w tm ->
   ∃S ρ' w' tm',(∀r,r∈tr->S r.j=true)/\fT P tr s0 h0 N ρ0 w0 S ρ' w' tm' /\
    Steps P (lone (vP b tm ds (.inRegion ops (Region.linearise.go .any ops fuel t listed [])::k)) cs w) (lone (vP b tm' ds (.inRegion ops []::k)) cs w'):=by
 intro fuel
 induction fuel with
 |zero=>
  intro t listed ρ w tm hsz hcount hdown I;refine⟨_,ρ,w,tm,?_,I,.refl P _⟩;intro r hr;have hnil:=abz (Nat.le_zero.1 hcount);obtain⟨A,B,e⟩:=aaV hr;have y7:=(V.told A r B e).op
  have hlt:r.j<ops.size:=by
   rcases aax r.j ops.size with h|h
   ·exact h
   ·rw[aaP h]at y7;cases y7
  cases hl:listed.getD r.j false with
  |true=>rfl
  |false=>
   have:r.j∈(List.range ops.size).filter λi => !listed.getD i false:=ab7.2 ⟨abK.2 hlt,by rw[hl];rfl⟩;rw[hnil]at this;cases this
 |succ fuel ih=>
  intro t listed ρ w tm hsz hcount hdown I;simp only[Region.linearise.go]
  change ∃S ρ' w' tm',(∀r,r∈tr->S r.j=true)/\fT P tr s0 h0 N ρ0 w0 S ρ' w' tm'/\Steps P (lone (vP b tm ds (.inRegion ops (match (Region.ready .any ops listed)[t%(Region.ready .any ops listed).length]? with
   |some i=>Region.linearise.go .any ops fuel (t/(Region.ready .any ops listed).length) (listed.setIfInBounds i true) [i]
   |none=>[].reverse)::k)) cs w) _
  have getTF:∀i,i<ops.size->listed.getD i true=listed.getD i false:=by
   intro i hi;simp[aaD,aaQ (hsz ▸ hi)]
  by_cases hall:∀r,r∈tr->listed.getD r.j false=true
  ·
   have hnone:Region.ready .any ops listed=[]:=by
    rw[List.eq_nil_iff_forall_not_mem];intro i hi;obtain⟨h1,h2,_⟩:=fO hi;obtain⟨r,hr,hrj⟩:=V.all i h1;have:=hall r hr;rw[hrj,<- getTF i h1,h2]at this;cases this
   rw[hnone];exact⟨_,ρ,w,tm,hall,I,.refl P _⟩
  ·
   have hex:∃i,i∈Region.ready .any ops listed:=by
    have:∃A r B,tr=A++r::B/\listed.getD r.j false=false /\ ∀x,x∈A->listed.getD x.j false=true:=by
     clear ih I hN V
     induction tr with
     |nil=>exact absurd (λr hr=>by cases hr) hall
     |cons x tr iht=>
      cases hx:listed.getD x.j false with
      |false=>exact⟨[],x,tr,rfl,hx,λy hy=>by cases hy⟩
      |true=>
       obtain⟨A,r,B,e,h1,h2⟩:=iht (λh=>hall (λr hr=>by rcases abm.1 hr with rfl|hr;exact hx;exact h r hr));exact⟨x::A,r,B,by rw[e];rfl,h1,λy hy=>by rcases abm.1 hy with rfl|hy;exact hx;exact h2 y hy⟩
    obtain⟨A,r,B,e,h1,h2⟩:=this;have y7:=(V.told A r B e).op
    have hlt:r.j<ops.size:=by
     rcases aax r.j ops.size with h|h
     ·exact h
     ·rw[aaP h]at y7;cases y7
    refine⟨r.j,H6 hlt (by rw[getTF _ hlt];exact h1) (λo ho ed hed hb=>?_)⟩;rw[y7]at ho;cases ho;obtain⟨x,hx,hxe⟩:=V.Jq A r B e ed hed hb;rw[<- hxe];exact h2 x hx
   cases hi:(Region.ready .any ops listed)[t%(Region.ready .any ops listed).length]? with
   |none=>
    obtain⟨i,hmem⟩:=hex;have hpos:0<(Region.ready .any ops listed).length:=List.length_pos_of_mem hmem;rw[aac (Nat.mod_lt _ hpos)]at hi;cases hi
   |some i=>
    simp only[];rw[linearise_go_acc,List.reverse_singleton,List.singleton_append];obtain⟨hlt,hl,hed⟩:=fO (aaA hi);obtain⟨r,hr,hrj⟩:=V.all i hlt;obtain⟨A,B,e⟩:=aaV hr;subst hrj;have y7:=(V.told A r B e).op
    have hready:∀q,Prec ops q r.j->listed.getD q false=true:=by
     intro q hq;cases hq with
     |one ho he hb=>exact hed _ ho _ he hb
     |more ho he hb hp=>exact hdown _ _ hp (hed _ ho _ he hb)
    have hnot:listed.getD r.j false=false:=(by rw[<- getTF _ hlt];exact hl);obtain⟨ρ1,w1,tm1,I1,sx⟩:=Lx hro0 V hdown e hready hnot hN hNN I ds (Region.linearise.go .any ops fuel (t/(Region.ready .any ops listed).length) (listed.setIfInBounds r.j true) []) b k cs
    have hadd:(λj=>(listed.setIfInBounds r.j true).getD j false)=jq (λj=>listed.getD j false) r.j:=by
     funext j
     simp only[jq,aaD,aa9];by_cases ej:r.j=j
     ·subst ej;rw[aai rfl,aai (by omega)];simp
     ·rw[aae ej];have:decide (j=r.j)=false:=abR (λh=>ej h.symm);rw[this,Bool.or_false]
    rw[<- hadd]at I1
    have hcnt:((List.range ops.size).filter λi => !(listed.setIfInBounds r.j true).getD i false).length<=fuel:=by
     have hmem:r.j∈(List.range ops.size).filter λi => !listed.getD i false:=ab7.2 ⟨abK.2 hlt,by rw[hnot];rfl⟩
     have hsub:(List.range ops.size).filter (λi => !(listed.setIfInBounds r.j true).getD i false)=((List.range ops.size).filter λi => !listed.getD i false).filter (λi=>decide (i≠r.j)):=by
      rw[aca];apply abT;intro i _;have:=congrFun hadd i;simp only[jq]at this;rw[this];by_cases ei:i=r.j <;> simp[ei]
     rw[hsub]
     have hlen:∀(l:List Nat),r.j∈l->(l.filter λi=>decide (i≠r.j)).length<l.length:=by
      intro l hl;apply List.length_filter_lt_length_iff_exists.2;exact⟨r.j,hl,by simp⟩
     have:=hlen _ hmem;omega
    have hdn:∀q j,Prec ops q j->(listed.setIfInBounds r.j true).getD j false=true->(listed.setIfInBounds r.j true).getD q false=true:=by
     intro q j hq hj;have h1:=congrFun hadd j;have h2:=congrFun hadd q;rw[h1]at hj;rw[h2];simp only[jq,aa8,aaR]at hj ⊢;rcases hj with hj|rfl
     ·exact .inl (hdown q j hq hj)
     ·exact .inl (hready q hq)
    obtain⟨S,ρ2,w2,tm2,hS,I2,sx2⟩:=ih (t/(Region.ready .any ops listed).length) (listed.setIfInBounds r.j true) ρ1 w1 tm1 (by simpa using hsz) hcnt hdn I1;exact⟨S,ρ2,w2,tm2,hS,I2,sx.trans sx2⟩
theorem BU(hmix:P.follows .mixedOrders=true){id:Nat}{rd:Option Nat}{Q:Ex->Env->za->Prop}(V:WD lk P ops s0 h0 tr){sf:Env}{hf:za}(hs:∀t,sf.get t=KH tr s0 t)(hsz:sf.size=s0.size)
  (hh:∀b,hf.get b=WR tr h0 b) (hro:hf.ro=h0.ro) (hn:h0.next<=hf.next) (hN:∀x,x∈tr->x.g'.next<=hf.next) (hNN:hf.next=h0.next) (hq:Q .normal sf hf):T P rd (.region id ops true) s0 h0 Q:=by
 intro ρ w tm ds hr hse b hb k cs
 let w1:World:={w with drawn:=w.drawn+1}
 let ρ1:xz:={next:=hf.next,m:=λbb=>if bb<h0.next then ρ.m bb else none}
 have hm1:∀bb pl,bb<ρ.next->ρ.m bb=some pl->ρ1.m bb=some pl:=λbb pl hb hm=>by
  rw[show ρ1.m bb=ρ.m bb from aai (by rw[<- hr.next];exact hb)];exact hm
 have hnil:tr.filter (λr=>(Array.replicate ops.size false).getD r.j false)=[]:=by
  rw[acC];intro r _ h;simp only[aaD,ab9]at h;split at h <;> simp at h
 have I:fT P tr s0 h0 hf.next ρ w (λj=>(Array.replicate ops.size false).getD j false) ρ1 w1 tm:=by
  refine⟨rfl,λbb hb=>aai hb,hse.size,?_,?_,?_,?_,rfl,rfl,rfl,aam _,λ_ _ _=>rfl,?_,hr.oO,λbb pl hb hm=>hr.XX bb pl hb (by
   rw[show ρ1.m bb=ρ.m bb from aai (aan hb (aaZ hr.oO hr.ro))]at hm;exact hm)⟩
  ·intro t;rw[hnil];exact(hse.get t).ext (ρ':=ρ1.cut h0.next) (by rw[hr.next];exact aam _) hm1
  ·intro bb o hg;rw[hnil]at hg ⊢;have hb:=hr.bI bb _ hg;obtain⟨pl,hp,hc⟩:=hr.ok bb o hg;refine⟨hb,pl,hm1 bb pl (by rw[hr.next];exact hb) hp,?_⟩;exact ux.other (ux.ext (ρ:=ρ) (ρ':=ρ1.cut h0.next) (by rw[hr.next];exact aam _) hm1 hc) rfl
  ·intro b1 b2 o1 o2 p1 p2 g1 g2 m1 m2 e;rw[hnil]at g1 g2;have l1:=hr.bI b1 o1 g1;have l2:=hr.bI b2 o2 g2;rw[show ρ1.m b1=ρ.m b1 from aai l1]at m1;rw[show ρ1.m b2=ρ.m b2 from aai l2]at m2;exact hr.inj b1 b2 o1 o2 p1 p2 g1 g2 m1 m2 e
  ·intro x hx _ bb h1 h2;obtain⟨A,B,e⟩:=aaV hx;have:=(V.told A x B e).n0;exact aae (by omega)
  ·intro bb o pl hg hro' hm hc;rw[hnil]at hg;have l:=hr.bI bb o hg;rw[show ρ1.m bb=ρ.m bb from aai l]at hm;exact⟨bb,o,pl,hg,hro',hm,rfl⟩
 have hcount:((List.range ops.size).filter λi => !(Array.replicate ops.size false).getD i false).length<=ops.size:=by
  have:=List.length_filter_le (λi => !(Array.replicate ops.size false).getD i false) (List.range ops.size);simpa using this
 obtain⟨S,ρ2,w2,tm2,hS,I2,sx⟩:=TD hr.ro V hN hNN ds b k cs ops.size (w.tape w.drawn (.order b.fn id)) (Array.replicate ops.size false) ρ1 w1 tm (by simp) hcount (λi j _ hj=>by
  simp only[aaD,ab9]at hj;split at hj <;> simp at hj) I
 have hfull:tr.filter (λr=>S r.j)=tr:=List.filter_eq_self.2 hS;have lastn:∀(p:yU->Bool) x,vJ tr p=some x->x.g'.next<=hf.next:=λp x hx=>hN x (VF hx).1;have hcut:ρ2=ρ2.cut hf.next:=by have:=I2.next;cases ρ2;simp only at this;subst this;rfl
 have hrel:Rel P ρ2 hf w2:=by
  refine⟨I2.next,by rw[hro];exact aaZ hr.ro hn,?_,?_,?_,by rw[hro];exact hr.oO,I2.gl⟩
  ·intro bb o hg;rw[hh]at hg;have:=(I2.heap bb o (by rw[hfull];exact hg)).1;rw[hfull]at this;refine aan this ?_;simp only[oP];split
   ·rename_i x hx;exact lastn _ x hx
   ·exact hn
  ·intro bb o hg;rw[hh]at hg;obtain⟨_,pl,hp,hc⟩:=I2.heap bb o (by rw[hfull];exact hg);refine⟨pl,hp,?_⟩;rw[hro];rw[hfull]at hc;rw[hcut];refine ux.dL ?_ hc;simp only[oP];split
   ·rename_i x hx;exact lastn _ x hx
   ·exact hn
  ·intro b1 b2 o1 o2 p1 p2 g1 g2;rw[hh]at g1 g2;exact I2.inj b1 b2 o1 o2 p1 p2 (by rw[hfull];exact g1) (by rw[hfull];exact g2)
 refine⟨.normal,sf,hf,ρ2,w2,tm2,ds,hq,⟨⟨by rw[I2.next,hr.next];exact hn,λbb hb=>I2.old bb (by rw[<- hr.next];exact hb)⟩,hrel,hro,I2.os,I2.tape,I2.output,I2.gC,I2.frame,?_⟩,⟨hsz.trans I2.size,λt=>?_⟩,.refl _ _ _,?_⟩
 ·rintro c hc ⟨bb,o,pl,hg,hrb,hm,rfl⟩;rw[hh]at hg;exact I2.rD bb o pl (by rw[hfull];exact hg) (by rw[<- hro];exact hrb) hm hc
 ·have:=I2.env t;rw[hfull]at this;rw[hs t];rw[hcut];refine zK.dL ?_ this;simp only[mA];split
  ·rename_i x hx;exact lastn _ x hx
  ·exact hn
 ·refine .head Kp ?_
  have:Region.schedule (P.follows .mixedOrders) ops (w.tape w.drawn (.order b.fn id))=Region.linearise .any ops (w.tape w.drawn (.order b.fn id)):=by
   simp only[Region.schedule,hmix,Bool.true_or,aas]
  rw[this];exact sx.trans (.one VC)
end
end
end
noncomputable section
variable {P:Program}
def ES:Nat->Nat
 |2=>1
 |3=>6
 |4=>2
 |_=>3
def E8(d:Nat):List Oper->Nat->Option Nat
 |[],_=>none
 |o::os,i=>(match o.op with
  | .buildSlice _ _ _=>(match o.dst with
    |some e=>cond (Nat.beq e d) (some i) (E8 d os (i+1))
    |none=>E8 d os (i+1))
  |_=>E8 d os (i+1))
def OM(ops:Array Oper)(o:Oper):Option Nat:=match o.op with
 | .call {callee := .builtin .append,args,.. }=>(match args.toList with
   | .tmp d::_=>E8 d ops.toList 0
   |_=>none)
 |_=>none
def yL(q:FuncId->Nat)(ops:Array Oper)(o:Oper):Nat:=match o.op with
 | .call {callee := .value (.func g),.. }=>ES (q g)
 | .call {callee := .value _,.. }=>3
 | .call {callee := .builtin .append,.. }=>(match OM ops o with|some _=>4|none=>3)
 | .call {callee := .builtin b,.. }=>cond (UH b) 1 3
 | .move _ | .assign _ | .pick _ _ _ | .build _ _ | .nilCheck _ | .binOp _ _ _ _ _ | .unOp _ _ _ | .makeInterface _ _ | .makeFunc _ _ _ | .fieldAddr _ _ _ | .field _ _ _ | .indexAddr _ _ _ | .index _ _ _ | .extract _ _=>0
 | .load _ _ | .lookup _ _ _ _ | .slice _ _ _ _ _ | .entry _=>1
 | .box _ _ | .alloc _ | .buildSlice _ _ _ | .makeSlice _ _ _ | .makeMap _ _=>5
 | .convert _ _ _ | .range _ _=>2
 |_=>3
def LW(k:Nat):Bool:=Nat.beq k 1||Nat.beq k 4||Nat.beq k 6
def Wv(k:Nat):Bool:=Nat.beq k 2||Nat.beq k 4||Nat.beq k 5||Nat.beq k 6
def zaK(x:Nat×Nat×Option Nat×Nat)(ky:Nat)(zy:Option Nat)(my:Nat):Bool :=
 Nat.beq x.2.1 0||Nat.beq ky 0 ||
 (!(Nat.beq x.2.1 3) && !(Nat.beq ky 3)&&(!(Nat.beq ky 2)||Nat.beq x.2.1 1) &&
  (!(Nat.beq x.2.1 4)||Nat.beq ky 5||(match x.2.2.1 with|some z => !(my.testBit z)&&(match zy with|some w => !(Nat.beq z w)|none=>true)|none=>false)) &&
  (!(Nat.beq ky 4)||Nat.beq x.2.1 5||(LW x.2.1&&(match zy with|some w => !(x.2.2.2.testBit w)|none=>false))))
def r9(q:FuncId->Nat)(ops:Array Oper):List Oper->List Nat->List (Nat×Nat×Option Nat×Nat)->Bool
 |[],_,_=>true
 |o::os,ms,prev=>(prev.all λx=>(xe ms o).testBit x.1||zaK x (yL q ops o) (OM ops o) (xe ms o))&&(match OM ops o with|some z=>(xe ms o).testBit z|none=>true) &&
  r9 q ops os (ms++[xe ms o]) ((ms.length,yL q ops o,OM ops o,xe ms o)::prev)
def Di(q:FuncId->Nat)(ops:Array Oper):Bool:=WW ops ops.toList 0 [] []&&r9 q ops ops.toList [] []
def cut(h:za)(n m:Nat):za:=h.bQ (List.range' n (m-n))
@[simp] theorem zgX (h:za) (n m:Nat):(cut h n m).next=h.next:=rfl
@[simp] theorem zhW (h:za) (n m:Nat):(cut h n m).ro=h.ro:=rfl
theorem NZ(h:za)(n m b:Nat):(cut h n m).get b=if n<=b/\b<m then none else h.get b:=by
 unfold cut;rw[WO];simp only[YA]
theorem QO{h:za}{n m b:Nat}(hb:b<n):(cut h n m).get b=h.get b:=by rw[NZ,aae (by omega)]
def kZ(m:Nat):List (Nat×Nat×Nat)->za->za
 |[],h=>h
 |x::l,h=>cond (m.testBit x.1) (kZ m l h) (kZ m l (cut h x.2.1 x.2.2))
def Ie(m:Nat)(al:List (Nat×Nat×Nat))(b:Nat):Bool:=al.all λx=>m.testBit x.1 || !(Nat.ble x.2.1 b&&Nat.blt b x.2.2)
theorem Xa(m:Nat):∀(al:List (Nat×Nat×Nat)) (h:za),(kZ m al h).next=h.next/\(kZ m al h).ro=h.ro /\ ∀b,(kZ m al h).get b=if Ie m al b=true then h.get b else none
 |[],h=>⟨rfl,rfl,λb=>rfl⟩
 |x::l,h=>by
  unfold kZ;cases hb:m.testBit x.1 with
  |true=>
   obtain⟨a1,a2,a3⟩:=Xa m l h;refine⟨a1,a2,λb=>?_⟩;rw[aaB,a3];unfold Ie;rw[abf,hb,Bool.true_or,abY]
  |false=>
   obtain⟨a1,a2,a3⟩:=Xa m l (cut h x.2.1 x.2.2);refine⟨a1,a2,λb=>?_⟩;rw[aaI,a3];unfold Ie;rw[abf,hb,Bool.false_or,NZ];by_cases hc:x.2.1<=b/\b<x.2.2
   ·have e:(Nat.ble x.2.1 b&&Nat.blt b x.2.2)=true:=by
     rw[aah,ach,aa3];exact hc
    rw[e,abv,Bool.false_and,aai hc];split <;> simp
   ·have e:(Nat.ble x.2.1 b&&Nat.blt b x.2.2)=false:=by
     cases he:(Nat.ble x.2.1 b&&Nat.blt b x.2.2) with
     |false=>rfl
     |true=>rw[aah,ach,aa3]at he;exact absurd he hc
    rw[e,aa5,abY,aae hc]
def EI(z:Nat):List (Nat×Nat×Nat)->Option (Nat×Nat)
 |[]=>none
 |x::l=>cond (Nat.beq x.1 z) (some x.2) (EI z l)
theorem Bf{z:Nat}:∀{al:List (Nat×Nat×Nat)} {f t:Nat},EI z al=some (f,t)->(z,f,t)∈al
 |[],_,_,h=>by cases h
 |x::l,f,t,h=>by
  unfold EI at h;cases hb:Nat.beq x.1 z with
  |true=>
   rw[hb]at h;have e:=aat hb;obtain⟨p,f',t'⟩:=x;cases h;simp only at e;subst e;simp
  |false=>
   rw[hb]at h;exact List.mem_cons_of_mem _ (Bf h)
def zee(P:Program)(g:FuncId)(args:List aaa)(hv h:za)(K:aaa->za->Prop):Prop :=
 wk P g=true/\yy args=true /\ ∃v h2,TC P g args hv.lock (λv1 h1=>v1=v/\h1=h2)/\AF hv.lock h2/\K v (qi h h2)
def zg3(s:aaa)(f t:Nat)(hv:za):Prop:=match s with
 | .slice (some a) _ _=>f<=a.block/\a.block<t/\hv.get a.block≠none
 |_=>True
def xt(h:za)(s:aaa)(h':za):za:=match s with
 | .slice (some a) _ _=>h.set a.block (h'.get a.block)
 |_=>h
def Lc(P:Program)(ts:List TypeId)(r:TypeId)(vs:List aaa)(zr:Option (Nat×Nat))(hv h:za)(K:aaa->za->Prop):Prop:=match zr,vs with
 |some x,s::_=>zg3 s x.1 x.2 hv/\yp (nb vs (zP P .append ts r vs hv)) λv h'=>K v (qi (xt h s h') h')
 |_,_=>False
def Rc(P:Program)(q:FuncId->Nat)(ops:Array Oper)(s:Env)(o:Oper)(al:List (Nat×Nat×Nat))(hv h:za)(K:aaa->za->Prop):Prop:=match o.op with
 | .call {callee := .value (.func g),args,argTypes}=>(match q g with
   |2=>vL P g (nq s args.toList) hv λv=>K v h
   |3=>zee P g (nq s args.toList) hv h K
   |4=>zc2 P g (nq s args.toList) h K
   |_=>jN P g (nq s args.toList) h K)
 | .call {callee := .value f,args,argTypes}=>oI P (ev s f) (nq s args.toList) h K
 | .call {callee := .builtin .append,args,argTypes}=>(match OM ops o with
   |some z=>Lc P argTypes.toList o.type (nq s args.toList) (EI z al) hv h K
   |none=>opA P s o h K)
 |_=>sel (Nat.beq (yL q ops o) 1) (opA P s o hv λv _=>K v h) (opA P s o h K)
def It(P:Program)(q:FuncId->Nat)(ops:Array Oper):List Oper->Nat->List Nat->List (Nat×Nat×Nat)->Env->za->(Env->za->Prop)->Prop
 |[],_,_,_,s,h,K=>K s h
 |o::os,i,ms,al,s,h,K=>(match o.guard with
  |none=>Rc P q ops s o al (kZ (xe ms o) al h) h λv h1=>(match s.put o.dst v with
   |some s1=>It P q ops os (i+1) (ms++[xe ms o]) (cond (Wv (yL q ops o)) (al++[(i,h.next,h1.next)]) al) s1 h1 K
   |none=>False)
  |some (j,want)=>(match (ops[j]?).bind (·.dst) with
   |none=>False
   |some d=>GD (s.get d) want (Rc P q ops s o al (kZ (xe ms o) al h) h) (λv h1=>(match s.put o.dst v with
    |some s1=>It P q ops os (i+1) (ms++[xe ms o]) (cond (Wv (yL q ops o)) (al++[(i,h.next,h1.next)]) al) s1 h1 K
    |none=>False)) h))
def Hn(P:Program)(q:FuncId->Nat)(ops:Array Oper)(s:Env)(h:za)(K:Env->za->Prop):Prop:=sel (Di q ops) (It P q ops ops.toList 0 [] [] s h K) False
end
noncomputable section
variable {P:Program}
structure RV (q:FuncId->Nat) (ops:Array Oper) (A:List yU) (m:Nat) (x:yU):Prop where
 rd:∀b,x.rd b=true->b<x.g.next
 k0:yL q ops x.o=0\/yL q ops x.o=5->∀b,x.rd b=false
 k1:yL q ops x.o<=1->∀b,x.tc b=false
 lk:LW (yL q ops x.o)=true->∀b,x.rd b=true->∀z,z∈A->Wv (yL q ops z.o)=true->m.testBit z.j=false->¬(z.g.next<=b/\b<z.g'.next)
 tc:yL q ops x.o≠3->∀b,x.tc b=true->(x.g.next<=b/\b<x.g'.next)\/(yL q ops x.o=4 /\ ∃z,z∈A/\Wv (yL q ops z.o)=true/\OM ops x.o=some z.j/\z.g.next<=b/\b<z.g'.next)
structure fY (P:Program) (q:FuncId->Nat) (ops:Array Oper) (s0:Env) (h0:za) (A:List yU) (i:Nat) (o:Oper) (s:Env) (h:za) (u:aaa) (h1:za) (m:Nat) (y:yU):Prop where
 hj:y.j=i
 y7:y.o=o
 hsl:y.s=s
 TZ:y.v=u
 gn:y.g.next=h.next
 told:Told P ops s0 h0 A y
 rv:RV q ops A m y
 heap:∀b,h1.get b=if y.tc b=true then y.g'.get b else h.get b
 ro:h1.ro=h.ro
 next:h.next<=h1.next
 TV:y.g'.next<=h1.next
 geq:Wv (yL q ops o)=true->y.g'.next=h1.next
 wf:WF h1
def Vw(q:FuncId->Nat)(ops:Array Oper):List yU->List (Nat×Nat×Nat)
 |[]=>[]
 |x::l=>cond (Wv (yL q ops x.o)) ((x.j,x.g.next,x.g'.next)::Vw q ops l) (Vw q ops l)
theorem SI(q:FuncId->Nat)(ops:Array Oper)(A:List yU)(y:yU):Vw q ops (A++[y])=cond (Wv (yL q ops y.o)) (Vw q ops A++[(y.j,y.g.next,y.g'.next)]) (Vw q ops A):=by
 induction A with
 |nil=>simp only[ack,Vw]
 |cons x A ih=>
  simp only[acL,Vw,ih];cases Wv (yL q ops x.o) <;> cases Wv (yL q ops y.o) <;> rfl
theorem zb7{q:FuncId->Nat}{ops:Array Oper}{A:List yU}{z:Nat×Nat×Nat}(h:z∈Vw q ops A):∃x,x∈A/\Wv (yL q ops x.o)=true/\z=(x.j,x.g.next,x.g'.next):=by
 induction A with
 |nil=>cases h
 |cons x A ih=>
  simp only[Vw]at h;cases hb:Wv (yL q ops x.o) with
  |true=>
   rw[hb]at h;rcases abm.1 h with e|h
   ·exact⟨x,by simp,hb,e⟩
   ·obtain⟨x',h1,h2⟩:=ih h;exact⟨x',by simp[h1],h2⟩
  |false=>rw[hb]at h;obtain⟨x',h1,h2⟩:=ih h;exact⟨x',by simp[h1],h2⟩
theorem zbr{q:FuncId->Nat}{ops:Array Oper}{A:List yU}{x:yU}(h:x∈A)(hl:Wv (yL q ops x.o)=true):(x.j,x.g.next,x.g'.next)∈Vw q ops A:=by
 induction A with
 |nil=>cases h
 |cons z A ih=>
  simp only[Vw];rcases abm.1 h with rfl|h
  ·rw[hl];simp
  ·cases Wv (yL q ops z.o) with
   |true=>simp[ih h]
   |false=>exact ih h
section
variable {q:FuncId->Nat}{ops:Array Oper}{s0:Env}{h0:za}{A:List yU}{i:Nat}{o:Oper}{s:Env}{h:za}
theorem lx{h:za}(w:WF h){b:Nat}(hb:¬b<h.next):h.get b=none:=by
 cases hh:h.get b with|none=>rfl|some o'=>exact absurd (w b o' hh) hb
def ry(m:Nat)(al:List (Nat×Nat×Nat))(h:za)(b:Nat):Bool:=Nat.blt b h.next&&Ie m al b
theorem EF{m:Nat}{al:List (Nat×Nat×Nat)}{b:Nat}(hb:ry m al h b=true):b<h.next:=by
 unfold ry at hb;rw[aah,aa3]at hb;exact hb.1
theorem AB{m:Nat}{b:Nat}(hb:ry m (Vw q ops A) h b=true){z:yU}(hz:z∈A)(hl:Wv (yL q ops z.o)=true)(hm:m.testBit z.j=false):¬(z.g.next<=b/\b<z.g'.next):=by
 unfold ry Ie at hb;rw[aah,aaM]at hb;have:=hb.2 _ (zbr hz hl);simp only[hm,Bool.false_or,aaz]at this;intro e;have t:(Nat.ble z.g.next b&&Nat.blt b z.g'.next)=true:=by rw[aah,ach,aa3];exact e
 rw[t]at this;cases this
theorem pA{m:Nat}(F:qR P ops s0 h0 A i s h)(b:Nat):(kZ m (Vw q ops A) h).get b=if ry m (Vw q ops A) h b=true then WR A h0 b else none:=by
 rw[(Xa m (Vw q ops A) h).2.2 b];unfold ry;by_cases hb:b<h.next
 ·rw[show Nat.blt b h.next=true by rw[aa3];exact hb,abY,F.heap]
 ·have e:Nat.blt b h.next=false:=by
   cases e:Nat.blt b h.next with
   |false=>rfl
   |true=>rw[aa3]at e;exact absurd e hb
  rw[e,Bool.false_and,lx F.wf hb];simp
theorem i9(F:qR P ops s0 h0 A i s h)(ho:ops[i]? = some o)(hput:∀d,o.dst=some d->d<s.size){u:aaa}(hs:YH P ops s o (h.pick []) u (h.pick []))(m:Nat):∃y,fY P q ops s0 h0 A i o s h u h m y:=by
 refine⟨⟨i,o,u,s,h.pick [],h.pick [],λ_=>false,λ_=>false⟩,rfl,rfl,rfl,rfl,rfl,
  ⟨ho,F.env,F.size,λb=>by rw[qY];simp,F.ro,F.next,F.nA,aam _,hs,λd hd=>by rw[<- F.size];exact hput d hd,λb hb=>(by cases hb),λb _=>rfl,λb o' hb=>(by cases hb)⟩,
  ⟨λb hb=>(by cases hb),λ_ _=>rfl,λ_ _=>rfl,λ_ b hb=>(by cases hb),λ_ b hb=>(by cases hb)⟩,λb=>by simp,rfl,aam _,aam _,λ_=>rfl,F.wf⟩
theorem P9(F:qR P ops s0 h0 A i s h)(ho:ops[i]? = some o)(hput:∀d,o.dst=some d->d<s.size)(hk:yL q ops o=5){u:aaa}{ob:wQ}(hs:YH P ops s o (h.pick []) u ((h.pick []).push ob))(m:Nat):∃y,fY P q ops s0 h0 A i o s h u (h.push ob) m y:=by
 have hp:(h.pick []).next=h.next:=rfl;have htc:∀b,(decide (b=h.next)=true) ↔ b=h.next:=λb=>by simp
 refine⟨⟨i,o,u,s,h.pick [],(h.pick []).push ob,λ_=>false,λb=>decide (b=h.next)⟩,rfl,rfl,rfl,rfl,rfl,
  ⟨ho,F.env,F.size,λb=>by rw[qY];simp,F.ro,F.next,F.nA,abC _,hs,λd hd=>by rw[<- F.size];exact hput d hd,λb hb=>?_,λb hb=>?_,λb o' hb hlt=>?_⟩,
  ⟨λb hb=>(by cases hb),λ_ _=>rfl,λh=>?_,λ_ b hb=>(by cases hb),λ_ b hb=>?_⟩,λb=>?_,rfl,abC _,aam _,λ_=>rfl,λb o' hb=>?_⟩
 ·refine .inr ?_;have:=(htc b).1 hb;show h.next<=b/\b<h.next+1;omega
 ·have hb:decide (b=h.next)=false:=hb;have hne:b≠h.next:=λe=>by rw[(htc b).2 e]at hb;cases hb
  rw[za.vO,aae (by rw[hp];exact hne)]
 ·have e1:=(htc b).1 hb;have e2:b<h.next:=hlt;omega
 ·simp only at h;omega
 ·have:=(htc b).1 hb;refine .inl ?_;show h.next<=b/\b<h.next+1;omega
 ·show(h.push ob).get b=if decide (b=h.next)=true then ((h.pick []).push ob).get b else h.get b;rw[za.vO,za.vO,hp];by_cases e:b=h.next
  ·rw[aai e,aai ((htc b).2 e),aai e]
  ·rw[aae e,aae (λt=>e ((htc b).1 t))]
 ·rw[za.vO]at hb;rw[za.fL];split at hb
  ·rename_i e;omega
  ·exact acH (F.wf b o' hb)
theorem Bi(F:qR P ops s0 h0 A i s h)(ho:ops[i]? = some o)(hput:∀d,o.dst=some d->d<s.size)(hk:yL q ops o=1){m:Nat}{u:aaa}(hs:YH P ops s o (kZ m (Vw q ops A) h) u (kZ m (Vw q ops A) h)):∃y,fY P q ops s0 h0 A i o s h u h m y:=by
 obtain⟨v1,v2,v3⟩:=Xa m (Vw q ops A) h
 refine⟨⟨i,o,u,s,kZ m (Vw q ops A) h,kZ m (Vw q ops A) h,ry m (Vw q ops A) h,λ_=>false⟩,rfl,rfl,rfl,rfl,v1,
  ⟨ho,F.env,F.size,pA F,v2.trans F.ro,by rw[v1];exact F.next,λx hx=>by rw[v1];exact F.nA x hx,aam _,hs,λd hd=>by rw[<- F.size];exact hput d hd,λb hb=>(by cases hb),λb _=>rfl,λb o' hb=>(by cases hb)⟩,
  ⟨λb hb=>by show b<(kZ m (Vw q ops A) h).next;rw[v1];exact EF hb,λe=>by simp only at e;omega,λ_ _=>rfl,λ_ b hb z hz hl hm=>AB hb hz hl hm,λ_ b hb=>(by cases hb)⟩,λb=>by simp,rfl,aam _,by rw[v1];exact aam _,λe=>(by rw[hk]at e;cases e),F.wf⟩
theorem L4(F:qR P ops s0 h0 A i s h)(ho:ops[i]? = some o)(hput:∀d,o.dst=some d->d<s.size)(hk:yL q ops o=6){m:Nat}{h2:za}(hn:h.next<=h2.next){u:aaa}(hs:YH P ops s o (kZ m (Vw q ops A) h) u (qi (kZ m (Vw q ops A) h) h2)):∃y,fY P q ops s0 h0 A i o s h u (qi h h2) m y:=by
 obtain⟨v1,v2,v3⟩:=Xa m (Vw q ops A) h;have htc:∀b,(decide (h.next<=b/\b<h2.next)=true) ↔ (h.next<=b/\b<h2.next):=λb=>by simp
 refine⟨⟨i,o,u,s,kZ m (Vw q ops A) h,qi (kZ m (Vw q ops A) h) h2,ry m (Vw q ops A) h,λb=>decide (h.next<=b/\b<h2.next)⟩,rfl,rfl,rfl,rfl,v1,
  ⟨ho,F.env,F.size,pA F,v2.trans F.ro,by rw[v1];exact F.next,λx hx=>by rw[v1];exact F.nA x hx,by show(kZ m (Vw q ops A) h).next<=h2.next;rw[v1];exact hn,hs,λd hd=>by rw[<- F.size];exact hput d hd,λb hb=>?_,λb hb=>?_,λb o' hb hlt=>?_⟩,
  ⟨λb hb=>by show b<(kZ m (Vw q ops A) h).next;rw[v1];exact EF hb,λe=>by simp only at e;omega,λe=>by simp only at e;omega,λ_ b hb z hz hl hm=>AB hb hz hl hm,λ_ b hb=>?_⟩,λb=>?_,rfl,hn,aam _,λ_=>rfl,λb o' hb=>?_⟩
 ·refine .inr ?_;have:=(htc b).1 hb;show(kZ m (Vw q ops A) h).next<=b/\b<h2.next;rw[v1];exact this
 ·have hb:decide (h.next<=b/\b<h2.next)=false:=hb;rw[qN,v1,aae (λe=>by rw[(htc b).2 e]at hb;cases hb)]
 ·have:=(htc b).1 hb;have hlt:b<(kZ m (Vw q ops A) h).next:=hlt;rw[v1]at hlt;omega
 ·refine .inl ?_;show(kZ m (Vw q ops A) h).next<=b/\b<h2.next;rw[v1];exact(htc b).1 hb
 ·show(qi h h2).get b=if decide (h.next<=b/\b<h2.next)=true then (qi (kZ m (Vw q ops A) h) h2).get b else h.get b;rw[qN,qN,v1];by_cases e:h.next<=b/\b<h2.next
  ·rw[aai e,aai ((htc b).2 e),aai e]
  ·rw[aae e,aae (λt=>e ((htc b).1 t))]
 ·show b<h2.next;rw[qN]at hb;split at hb
  ·rename_i e;exact e.2
  ·exact aan (F.wf b o' hb) hn
theorem rf(F:qR P ops s0 h0 A i s h)(ho:ops[i]? = some o)(hput:∀d,o.dst=some d->d<s.size)(hk:yL q ops o=2){h1:za}(hn:h.next<=h1.next)(hro:h1.ro=h.ro)(hold:∀b,¬(h.next<=b/\b<h1.next)->h1.get b=h.get b)
  {u:aaa} (hs:YH P ops s o h u h1) (m:Nat):∃y,fY P q ops s0 h0 A i o s h u h1 m y:=by
 have hrd:∀b,(Nat.blt b h.next=true) ↔ b<h.next:=λb=>by rw[aa3]
 have htc:∀b,(decide (h.next<=b/\b<h1.next)=true) ↔ (h.next<=b/\b<h1.next):=λb=>by simp
 refine⟨⟨i,o,u,s,h,h1,λb=>Nat.blt b h.next,λb=>decide (h.next<=b/\b<h1.next)⟩,rfl,rfl,rfl,rfl,rfl,
  ⟨ho,F.env,F.size,λb=>?_,F.ro,F.next,F.nA,hn,hs,λd hd=>by rw[<- F.size];exact hput d hd,λb hb => .inr ((htc b).1 hb),λb hb=>?_,λb o' hb hlt=>?_⟩,
  ⟨λb hb=>(hrd b).1 hb,λh=>by simp only at h;omega,λh=>by simp only at h;omega,λh=>(by simp only[hk]at h;cases h),λ_ b hb => .inl ((htc b).1 hb)⟩,λb=>?_,hro,hn,aam _,λ_=>rfl,λb o' hb=>?_⟩
 ·show h.get b=if Nat.blt b h.next=true then WR A h0 b else none;by_cases hb:b<h.next
  ·rw[aai ((hrd b).2 hb),F.heap]
  ·rw[aae (λe=>hb ((hrd b).1 e)),lx F.wf hb]
 ·refine hold b (λe=>?_);have:=(htc b).2 e;rw[show decide (h.next<=b/\b<h1.next)=false from hb]at this;cases this
 ·have:=((htc b).1 hb).1;have hlt:b<h.next:=hlt;omega
 ·show h1.get b=if decide (h.next<=b/\b<h1.next)=true then h1.get b else h.get b;by_cases hb:h.next<=b/\b<h1.next
  ·rw[aai ((htc b).2 hb)]
  ·rw[aae (λe=>hb ((htc b).1 e)),hold b hb]
 ·by_cases hc:h.next<=b/\b<h1.next
  ·exact hc.2
  ·rw[hold b hc]at hb;exact aan (F.wf b o' hb) hn
theorem KA(F:qR P ops s0 h0 A i s h)(ho:ops[i]? = some o)(hput:∀d,o.dst=some d->d<s.size)(hk:yL q ops o=3){h1:za}(af:AF h h1)
  {u:aaa} (hs:YH P ops s o h u h1) (m:Nat):∃y,fY P q ops s0 h0 A i o s h u h1 m y:=by
 have hrd:∀n b,(Nat.blt b n=true) ↔ b<n:=λn b=>by rw[aa3]
 have hn:h.next<=h1.next:=af.next;have hwf:WF h1:=F.wf.af af
 refine⟨⟨i,o,u,s,h,h1,λb=>Nat.blt b h.next,λb=>Nat.blt b h1.next⟩,rfl,rfl,rfl,rfl,rfl,
  ⟨ho,F.env,F.size,λb=>?_,F.ro,F.next,F.nA,hn,hs,λd hd=>by rw[<- F.size];exact hput d hd,λb hb=>?_,λb hb=>?_,λb o' hb hlt hg=>?_⟩,
  ⟨λb hb=>(hrd _ b).1 hb,λh=>by simp only at h;omega,λh=>by simp only at h;omega,λh=>(by simp only[hk]at h;cases h),λh=>by exact absurd hk h⟩,λb=>?_,af.ro,hn,aam _,λ_=>rfl,hwf⟩
 ·show h.get b=if Nat.blt b h.next=true then WR A h0 b else none;by_cases hb:b<h.next
  ·rw[aai ((hrd _ b).2 hb),F.heap]
  ·rw[aae (λe=>hb ((hrd _ b).1 e)),lx F.wf hb]
 ·have hb:=(hrd _ b).1 hb;by_cases hlt:b<h.next
  ·exact .inl ((hrd _ b).2 hlt)
  ·exact .inr ⟨acy hlt,hb⟩
 ·have hb':¬b<h1.next:=λe=>by
   have:=(hrd h1.next b).2 e;rw[show Nat.blt b h1.next=false from hb]at this;cases this
  show h1.get b=h.get b;rw[lx hwf hb',lx F.wf (by omega)]
 ·rcases af.alive b o' hg with h2|⟨h2,_⟩
  ·exact h2
  ·have hlt:b<h.next:=hlt;omega
 ·show h1.get b=if Nat.blt b h1.next=true then h1.get b else h.get b;by_cases hb:b<h1.next
  ·rw[aai ((hrd _ b).2 hb)]
  ·rw[aae (λe=>hb ((hrd _ b).1 e)),lx hwf hb,lx F.wf (by omega)]
structure Mw (g:za) (v:aaa) (g':za):Prop where
 next:g.next<=g'.next
 ro:g'.ro=g.ro
 same:∀b,¬(g.next<=b/\b<g'.next)->(∀a n c,v=.slice (some a) n c->b≠a.block)->g'.get b=g.get b
 gone:∀b o,b<g.next->g'.get b=some o->g.get b≠none
 wf:WF g->WF g'
theorem Af{g:za}{v:aaa}:Mw g v g:=⟨aam _,rfl,λ_ _ _=>rfl,λb o _ h=>by rw[h];simp,id⟩
theorem zdU{elem:TypeId}{ti:TypeInfo}{n:Nat}{new:List aaa}{s u:aaa}{g g':za}(he:Jj g elem ti n new s=some (u,g')):Mw g s g':=by
 unfold Jj at he;split at he
 ·cases h0:Nat.beq n 0 with
  |true=>rw[h0]at he;simp only[aaB,aab,aag]at he;obtain⟨_,rfl⟩:=he;exact Af
  |false=>
   rw[h0]at he;obtain⟨_,he⟩:=zA he;simp only[aab,aag]at he;obtain⟨_,rfl⟩:=he;refine⟨abC _,rfl,λb hb _=>?_,λb o hb hg=>?_,λw b o hb=>?_⟩
   ·rw[za.vO,aae (λe=>hb ⟨by omega,by rw[za.fL];omega⟩)]
   ·rw[za.vO,aae (by omega)]at hg;rw[hg];simp
   ·rw[za.vO]at hb;rw[za.fL];split at hb
    ·omega
    ·exact acH (w b o hb)
 ·rename_i b0 off len c;cases h0:Nat.beq n 0 with
  |true=>rw[h0]at he;simp only[aaB,aab,aag]at he;obtain⟨_,rfl⟩:=he;exact Af
  |false=>
   rw[h0]at he;simp only[aaI]at he;split at he
   ·rename_i cs t hg0;obtain⟨_,he⟩:=zA he;simp only[aab,aag]at he;obtain⟨_,rfl⟩:=he
    have key:∀b o,((g.set b0 none).push o).get b=if b=g.next then some o else if b=b0 then none else g.get b:=λb o=>by
     rw[za.vO,za.yR];rfl
    refine⟨abC _,rfl,λb hb hne=>?_,λb o hb hg=>?_,λw b o hb=>?_⟩
    ·rw[key,aae (λe=>hb ⟨by omega,by show b<g.next+1;omega⟩),aae (hne _ _ _ rfl)]
    ·rw[key,aae (by omega)]at hg;split at hg
     ·cases hg
     ·rw[hg];simp
    ·rw[key]at hb;show b<g.next+1;split at hb
     ·omega
     ·split at hb
      ·cases hb
      ·exact acH (w b o hb)
   ·cases he
 ·cases he
theorem SW{ts:List TypeId}{r:TypeId}{s u:aaa}{vs':List aaa}{g g':za}(he:zP P .append ts r (s::vs') g=some (u,g')):Mw g s g':=by
 match ts,vs',he with
 |[sT,xT],[x],he=>
  have he:Kf P sT xT s x g=some (u,g'):=he;unfold Kf at he;split at he
  ·split at he
   ·split at he
    ·obtain⟨_,he⟩:=zA he;exact zdU he
    ·cases he
   ·cases he
  ·cases he
 |[],_,he=>cases he
 |[_],_,he=>cases he
 |_::_::_::_,_,he=>cases he
 |[_,_],[],he=>cases he
 |[_,_],_::_::_,he=>cases he
end
end
noncomputable section
variable {P:Program}
section
variable {q:FuncId->Nat}{ops:Array Oper}{s0:Env}{h0:za}{A:List yU}{i:Nat}{o:Oper}{s:Env}{h:za}
theorem HE(h:za)(v:aaa)(h':za)(b:Nat):(xt h v h').get b=h.get b\/((∃a n c,v=.slice (some a) n c/\b=a.block)/\(xt h v h').get b=h'.get b):=by
 unfold xt;split
 ·rename_i a n c;rw[za.yR];by_cases e:b=a.block
  ·rw[aai e];exact .inr ⟨⟨a,n,c,rfl,e⟩,by rw[e]⟩
  ·rw[aae e];exact .inl rfl
 ·exact .inl rfl
theorem fM(h:za)(v:aaa)(h':za):(xt h v h').next=h.next:=by unfold xt;split <;> rfl
theorem Fe(h:za)(v:aaa)(h':za):(xt h v h').ro=h.ro:=by unfold xt;split <;> rfl
def Df(v:aaa)(b:Nat):Bool:=match v with
 | .slice (some a) _ _=>Nat.beq a.block b
 |_=>false
theorem Px{v:aaa}{b:Nat}:Df v b=true ↔ ∃a n c,v=.slice (some a) n c/\b=a.block:=by
 unfold Df;split
 ·rename_i a n c;rw[acG]
  constructor
  ·intro e;exact⟨a,n,c,rfl,e.symm⟩
  ·rintro⟨a',n',c',e1,e2⟩;cases e1;exact e2.symm
 ·rename_i hn
  constructor
  ·intro e;cases e
  ·rintro⟨a',n',c',e1,e2⟩;exact absurd e1 (hn a' n' c')
theorem P7(F:qR P ops s0 h0 A i s h)(ho:ops[i]? = some o)(hput:∀d,o.dst=some d->d<s.size)(hk:yL q ops o=4){m:Nat}{v u:aaa}{g':za}{z:yU}(hz:z∈A)(hzl:Wv (yL q ops z.o)=true)(hzo:OM ops o=some z.j)
  (hown:zg3 v z.g.next z.g'.next (kZ m (Vw q ops A) h)) (fx:Mw (kZ m (Vw q ops A) h) v g') (hs:YH P ops s o (kZ m (Vw q ops A) h) u g'):∃y,fY P q ops s0 h0 A i o s h u (qi (xt h v g') g') m y:=by
 obtain⟨v1,v2,v3⟩:=Xa m (Vw q ops A) h;generalize hG:kZ m (Vw q ops A) h=g at *
 have hn:h.next<=g'.next:=by rw[<- v1];exact fx.next
 have hzn:z.g'.next<=h.next:=F.nA z hz;have hsee:∀b,g.get b=if ry m (Vw q ops A) h b=true then WR A h0 b else none:=λb=>by rw[<- hG];exact pA F b
 have htc:∀b,((decide (h.next<=b/\b<g'.next)||Df v b)=true) ↔ ((h.next<=b/\b<g'.next) \/ ∃a n c,v=.slice (some a) n c/\b=a.block):=λb=>by rw[aa8,aaR,Px]
 have hblk:∀b,(∃a n c,v=.slice (some a) n c/\b=a.block)->z.g.next<=b/\b<z.g'.next/\g.get b≠none:=by
  rintro b ⟨a,n,c,rfl,rfl⟩;exact hown
 refine⟨⟨i,o,u,s,g,g',ry m (Vw q ops A) h,λb=>decide (h.next<=b/\b<g'.next)||Df v b⟩,rfl,rfl,rfl,rfl,v1,
  ⟨ho,F.env,F.size,hsee,v2.trans F.ro,by rw[v1];exact F.next,λx hx=>by rw[v1];exact F.nA x hx,fx.next,hs,λd hd=>by rw[<- F.size];exact hput d hd,λb hb=>?_,λb hb=>?_,λb o' hb hlt hg=>fx.gone b o' hlt hg⟩,
  ⟨λb hb=>by show b<g.next;rw[v1];exact EF hb,λe=>by simp only at e;omega,λe=>by simp only at e;omega,λ_ b hb z hz hl hm=>AB hb hz hl hm,λ_ b hb=>?_⟩,λb=>?_,?_,hn,aam _,λ_=>rfl,λb o' hb=>?_⟩
 ·rcases (htc b).1 hb with e|e
  ·exact .inr (by show g.next<=b/\b<g'.next;rw[v1];exact e)
  ·refine .inl ?_;show ry m (Vw q ops A) h b=true;cases he:ry m (Vw q ops A) h b with
   |true=>rfl
   |false=>exact absurd (by rw[hsee,he];rfl) (hblk b e).2.2
 ·have hb:(decide (h.next<=b/\b<g'.next)||Df v b)=false:=hb;refine fx.same b (λe=>?_) (λa n c e1 e2=>?_)
  ·rw[(htc b).2 (.inl (by rw[<- v1];exact e))]at hb;cases hb
  ·rw[(htc b).2 (.inr ⟨a,n,c,e1,e2⟩)]at hb;cases hb
 ·rcases (htc b).1 hb with e|e
  ·exact .inl (by show g.next<=b/\b<g'.next;rw[v1];exact e)
  ·exact .inr ⟨hk,z,hz,hzl,hzo,(hblk b e).1,(hblk b e).2.1⟩
 ·show(qi (xt h v g') g').get b=if (decide (h.next<=b/\b<g'.next)||Df v b)=true then g'.get b else h.get b;rw[qN,fM];by_cases e:h.next<=b/\b<g'.next
  ·rw[aai e,aai ((htc b).2 (.inl e))]
  ·rw[aae e];by_cases e2:∃a n c,v=.slice (some a) n c/\b=a.block
   ·rw[aai ((htc b).2 (.inr e2))];obtain⟨a,n,c,rfl,rfl⟩:=e2;unfold xt;rw[za.yR,aai rfl]
   ·rw[aae (λt=>by rcases (htc b).1 t with t|t;exact e t;exact e2 t)];rcases HE h v g' b with t|⟨t,_⟩
    ·exact t
    ·exact absurd t e2
 ·show(xt h v g').ro=h.ro;exact Fe h v g'
 ·show b<g'.next;rw[qN,fM]at hb;split at hb
  ·rename_i e;exact e.2
  ·rcases HE h v g' b with t|⟨t,_⟩
   ·rw[t]at hb;exact aan (F.wf b o' hb) hn
   ·have:=hblk b t;omega
theorem zb3{u:aaa}{h':za}(hk:yL q ops o=5)(he:gh P s o h=some (u,h')):∃ob,h'=h.push ob/\gh P s o (h.pick [])=some (u,(h.pick []).push ob):=by
 unfold yL at hk;unfold gh at he ⊢
 split at he <;> rename_i y7 <;> simp only[y7]at hk ⊢ <;> first
  |(cases hk;done)
  |(cases he;done)
  |skip
 ·split at he
  ·simp only[aab,Cd,aag]at he;obtain⟨rfl,rfl⟩:=he;exact⟨_,rfl,rfl⟩
  ·cases he
 ·split at he
  ·simp only[aab,Cd,aag]at he;obtain⟨rfl,rfl⟩:=he;exact⟨_,rfl,rfl⟩
  ·cases he
 ·split at he
  ·unfold zZ at he ⊢;split at he
   ·split at he
    ·obtain⟨hc,he⟩:=zA he;rw[hc];simp only[aaB];split at he
     ·obtain⟨hc2,he⟩:=zA he;rw[hc2];simp only[aaB,aab,aag]at he ⊢;obtain⟨rfl,rfl⟩:=he;exact⟨_,rfl,rfl,rfl⟩
     ·cases he
    ·cases he
   ·cases he
  ·cases he
 ·split at he
  ·unfold UJ at he ⊢;split at he
   ·split at he
    ·cases he
    ·split at he
     ·cases he
     ·obtain⟨hc,he⟩:=zA he;rw[hc];simp only[aaB,aab,aag]at he ⊢;obtain⟨rfl,rfl⟩:=he;exact⟨_,rfl,rfl,rfl⟩
   ·cases he
  ·cases he
 ·exfalso
  split at hk <;> rename_i heq <;> first
   |(cases heq;done)
   |skip
  ·split at hk <;> cases hk
  ·rename_i b _ _ _;cases hq:UH b <;> rw[hq]at hk <;> cases hk
  all_goals (cases hk;done)
 all_goals (cases he;exact⟨_,rfl,rfl⟩)
end
end
noncomputable section
variable {P:Program}
section
variable {q:FuncId->Nat}{ops:Array Oper}{s0:Env}{h0:za}{A:List yU}{i:Nat}{o:Oper}{s:Env}{h:za}
theorem EU{k:Nat}(hc:Kr o.op=false)(hk:yL q ops o=k)(h5:k<=2):wY q o=k:=by
 unfold yL at hk;unfold wY;unfold Kr at hc
 split at hk <;> rename_i y7 <;> simp only[y7]at hc ⊢ <;> first
  |(cases hc;done)
  |exact hk
  |(subst hk;omega)
  |(split at hk <;> (subst hk;omega))
  |skip
theorem SY(F:qR P ops s0 h0 A i s h){v:aaa}{h1:za}{y:yU}{u:aaa}{m:Nat}(N:fY P q ops s0 h0 A i o s h u h1 m y):AF h h1 :=
 ⟨N.next,N.ro,λb o hb=>by
  rw[N.heap]at hb;by_cases ht:y.tc b=true
  ·rw[aai ht]at hb;by_cases hl:b<y.g.next
   ·have h2:=N.told.tc3 b o ht hl hb;have h3:=N.told.heap b;rw[h3]at h2;by_cases hr:y.rd b=true
    ·rw[aai hr,<- F.heap]at h2;exact .inl h2
    ·rw[aae hr]at h2;exact absurd rfl h2
   ·have hb1:h1.get b=some o:=(by rw[N.heap,aai ht];exact hb);exact .inr ⟨by rw[<- N.gn];omega,N.wf b o hb1⟩
  ·rw[aae ht]at hb;exact .inl (by rw[hb];simp)⟩
theorem DH(F:qR P ops s0 h0 A i s h)(hron:h.ro<=h.next)(ho:ops[i]? = some o)(hput:∀d,o.dst=some d->d<s.size)(hw:yP ops s o=true){r:Env}(hl:Le r s){m:Nat}
  {K:aaa->za->Prop} (hk:Rc P q ops r o (Vw q ops A) (kZ m (Vw q ops A) h) h K):∃v u h1 y,(yu v=true\/v=u)/\K v h1/\fY P q ops s0 h0 A i o s h u h1 m y:=by
 obtain⟨w1,w2,w3⟩:=Xa m (Vw q ops A) h;unfold Rc at hk;split at hk
 ·rename_i g args ts y7;have ef:Zf s (.func g)=some (.func (.func g) #[] #[]):=rfl;have hkind:yL q ops o=ES (q g):=by unfold yL;simp only[y7]
  split at hk
  ·rename_i hq;obtain⟨hc,hn,v,hsc,hT,hK⟩:=hk
   have hT2:TC P g (nq r args.toList) (kZ m (Vw q ops A) h) (λv1 h1=>v1=v/\h1=kZ m (Vw q ops A) h) :=
    (hT.quiet (λv1 _ e=>by rw[e];exact hsc)).mono (by rintro v1 h1 ⟨⟨_,e1⟩,e2⟩;exact⟨e1,e2⟩)
   obtain⟨y,hy⟩:=Bi (q:=q) F ho hput (by rw[hkind,hq];rfl) (u:=v) (.inr ⟨hw,.inr (.inl ⟨.func g,args,ts,g,#[],#[],_,y7,ef,bR hl hn,hc,by simpa using hT2⟩)⟩);exact⟨v,v,h,y,.inr rfl,hK,hy⟩
  ·rename_i hq;obtain⟨hc,hn,v,h2,hT,af,hK⟩:=hk;have hnx:h.next<=h2.next:=by have:=af.next;rw[<- w1];exact this
   obtain⟨y,hy⟩:=L4 (q:=q) F ho hput (by rw[hkind,hq];rfl) (m:=m) hnx (u:=v)
    (.inr ⟨hw,.inr (.inl ⟨.func g,args,ts,g,#[],#[],_,y7,ef,bR hl hn,hc,by simpa using hT.fresh⟩)⟩)
   exact⟨v,v,_,y,.inr rfl,hK,hy⟩
  ·rename_i hq;obtain⟨hn,hk⟩:=hk;obtain⟨v,h2,he,hK⟩:=Xn hk;obtain⟨f1,f2,f3⟩:=KE (Vv he);obtain⟨y,hy⟩:=rf (q:=q) F ho hput (by rw[hkind,hq];rfl) f1 f2 f3 (u:=v) (.inr ⟨hw,.inr (.inr ⟨.func g,args,ts,g,#[],#[],_,y7,ef,bR hl hn,by simpa using he⟩)⟩) m;exact⟨v,v,_,y,.inr rfl,hK,hy⟩
  ·rename_i n2 n3 n4;obtain⟨hc,hn,hd⟩:=hk;obtain⟨v,h2,hK,af,hT⟩:=hd ⟨F.wf,hron⟩
   obtain⟨y,hy⟩:=KA (q:=q) F ho hput (by rw[hkind];unfold ES;split <;> first|rfl|(exfalso;simp_all)) af (u:=v)
    (.inr ⟨hw,.inr (.inl ⟨.func g,args,ts,g,#[],#[],_,y7,ef,bR hl hn,hc,by simpa using hT⟩)⟩) m
   exact⟨v,v,_,y,.inr rfl,hK,hy⟩
 ·rename_i f args ts hnf y7;unfold oI at hk;split at hk
  ·rename_i g a c hf;have ef:Zf s f=some (.func (.func g) a c):=by rw[XZ hl (x:=f) (by rw[hf];rfl),hf]
   obtain⟨hn0,hc,hn,hd⟩:=hk;obtain⟨v,h2,hK,af,hT⟩:=hd ⟨F.wf,hron⟩
   have hkind:yL q ops o=3:=by
    unfold yL;simp only[y7]
   obtain⟨y,hy⟩:=KA (q:=q) F ho hput hkind af (u:=v) (.inr ⟨hw,.inr (.inl ⟨f,args,ts,g,a,c,_,y7,ef,bR hl hn0,hc,hT⟩)⟩) m;exact⟨v,v,_,y,.inr rfl,hK,hy⟩
  ·exact hk.elim
 ·rename_i args ts y7;split at hk
  ·rename_i z hz;have hkind:yL q ops o=4:=by unfold yL;simp only[y7,hz]
   unfold Lc at hk;split at hk
   case h_2=>exact hk.elim
   rename_i x sv vs' hx hvs;obtain⟨how,hk⟩:=hk;obtain⟨v,h2,he,hK⟩:=Xn hk;obtain⟨hn,he⟩:=kB he;obtain⟨f,t⟩:=x;obtain⟨zr,hzm,hzl,hze⟩:=zb7 (Bf hx);simp only[aag]at hze;obtain⟨rfl,rfl,rfl⟩:=hze
   have hop2:gh P s o (kZ m (Vw q ops A) h)=some (v,h2):=by
    unfold gh;simp only[y7];rw[bR hl hn];exact he
   rw[hvs]at he;obtain⟨y,hy⟩:=P7 (q:=q) F ho hput hkind (m:=m) hzm hzl hz how (SW he) (.inr ⟨hw,.inl hop2⟩);exact⟨v,v,_,y,.inr rfl,hK,hy⟩
  ·rename_i hz;have hkind:yL q ops o=3:=by unfold yL;simp only[y7,hz]
   obtain⟨v,u,h',he,hv,hK⟩:=Yr hl hk;obtain⟨y,hy⟩:=KA (q:=q) F ho hput hkind (Wr he).1 (u:=u) (.inr ⟨hw,.inl he⟩) m;exact⟨v,u,h',y,hv,hK,hy⟩
 ·rename_i hn1 hn2 hn3;cases h1:Nat.beq (yL q ops o) 1 with
  |true=>
   rw[h1]at hk;have h1:=aat h1;obtain⟨v,u,h',he,hv,hK⟩:=Yr hl hk;have hnc:=QE he;obtain rfl:=dZ (EU hnc h1 (by omega)) hnc he;obtain⟨y,hy⟩:=Bi (q:=q) F ho hput h1 (m:=m) (u:=u) (.inr ⟨hw,.inl he⟩);exact⟨v,u,h,y,hv,hK,hy⟩
  |false=>
   rw[h1]at hk;obtain⟨v,u,h',he,hv,hK⟩:=Yr hl hk;have hnc:=QE he
   have hkle:yL q ops o=0\/yL q ops o=1\/yL q ops o=2\/yL q ops o=3\/yL q ops o=5:=by
    unfold yL;split <;> (try simp)
    ·rename_i y7;rw[y7]at hnc;cases hnc
    ·rename_i y7;exact absurd y7 (hn3 _ _)
    ·cases UH _ <;> simp
   rcases hkle with h0'|h1'|h2'|h3'|h5'
   ·obtain⟨rfl,hany⟩:=Bt (EU hnc h0' (by omega)) hnc he;obtain⟨y,hy⟩:=i9 (q:=q) F ho hput (u:=u) (.inr ⟨hw,.inl (hany _)⟩) m;exact⟨v,u,h',y,hv,hK,hy⟩
   ·rw[h1']at h1;cases h1
   ·obtain⟨f1,f2,f3⟩:=KE (pS (EU hnc h2' (by omega)) hnc he);obtain⟨y,hy⟩:=rf (q:=q) F ho hput h2' f1 f2 f3 (u:=u) (.inr ⟨hw,.inl he⟩) m;exact⟨v,u,h',y,hv,hK,hy⟩
   ·obtain⟨y,hy⟩:=KA (q:=q) F ho hput h3' (Wr he).1 (u:=u) (.inr ⟨hw,.inl he⟩) m;exact⟨v,u,h',y,hv,hK,hy⟩
   ·obtain⟨ob,rfl,he2⟩:=zb3 h5' he;obtain⟨y,hy⟩:=P9 (q:=q) F ho hput h5' (u:=u) (.inr ⟨hw,.inl he2⟩) m;exact⟨v,u,_,y,hv,hK,hy⟩
theorem Bu{A1 A2:List yU}{x w:yU}(F:qR P ops s0 h0 (A1++x::A2) i s h)(hw:w∈A1):w.g'.next<=x.g.next:=(F.told A1 x A2 rfl).nA w hw
theorem DM{A1 A2:List yU}{x w:yU}(F:qR P ops s0 h0 (A1++x::A2) i s h)(hw:w∈A2):x.g'.next<=w.g.next:=by
 obtain⟨B1,B2,rfl⟩:=aaV hw;exact(F.told (A1++x::B1) w B2 (by simp)).nA x (by simp)
theorem ze5{x:yU}(F:qR P ops s0 h0 A i s h)(hx:x∈A):x.g.next<=x.g'.next:=by
 obtain⟨B1,B2,rfl⟩:=aaV hx;exact(F.told B1 x B2 rfl).n1
theorem DN{u w:yU}(F:qR P ops s0 h0 A i s h)(hu:u∈A)(hw:w∈A)(hne:u.j≠w.j):u.g'.next<=w.g.next\/w.g'.next<=u.g.next:=by
 obtain⟨B1,B2,rfl⟩:=aaV hu;rcases aa2.1 hw with h1|h1
 ·exact .inr (Bu F h1)
 ·rcases abm.1 h1 with rfl|h1
  ·exact absurd rfl hne
  ·exact .inl (DM F h1)
theorem LC{A1 A2:List yU}{x y:yU}{mx my:Nat}(F:qR P ops s0 h0 (A1++x::A2) i s h)(hx:RV q ops A1 mx x)(hy:RV q ops (A1++x::A2) my y)(hn:∀w,w∈A1++x::A2->w.g'.next<=y.g.next)
  (hs:Xq ops x.o y.o=true) (hbit:my.testBit x.j=false) (hzy:∀z,OM ops y.o=some z->my.testBit z=true) (hp:zaK (x.j,yL q ops x.o,OM ops x.o,mx) (yL q ops y.o) (OM ops y.o) my=true):sn ops x y:=by
 simp only[Xq,aah]at hs;obtain⟨h1,h2⟩:=hs
 have d1:∀d,x.o.dst=some d->d∉y.o.looksAt ops/\y.o.dst≠some d:=by
  intro d hd;rw[hd]at h1;simp only[aah,aaz,aaL,aaO]at h1;exact⟨h1.1,h1.2⟩
 have d2:∀d,y.o.dst=some d->d∉x.o.looksAt ops:=by
  intro d hd;rw[hd]at h2;simp only[aaz,aaL,aaO]at h2;exact h2
 have ff:∀{b:Bool},b≠true->b=false:=λh=>by simpa using h
 have xm:x∈A1++x::A2:=by simp
 have xu:=ze5 F xm;have xy:=hn x xm;unfold zaK at hp;simp only[aa8,aah,aaz]at hp;rcases hp with(hp|hp)|⟨⟨⟨⟨p1,p2⟩,p3⟩,p4⟩,p5⟩
 ·have e:=aat hp;have t:=hx.k1 (by omega);have r:=hx.k0 (.inl e);exact⟨d1,d2,λb hb=>(by rw[t b]at hb;cases hb),λb _=>r b⟩
 ·have e:=aat hp;have t:=hy.k1 (by omega);have r:=hy.k0 (.inl e);exact⟨d1,d2,λb _=>⟨r b,t b⟩,λb hb=>by rw[t b]at hb;cases hb⟩
 have nb:∀{n m:Nat},Nat.beq n m=false->n≠m:=λh e=>by subst e;simp at h
 have x3:=nb p1;have y3:=nb p2;have xtc:=hx.tc x3;have ytc:=hy.tc y3
 have lay:∀{o:Oper},yL q ops o≠3->¬yL q ops o<=1->Wv (yL q ops o)=true:=λ{o} h3 h1=>by
  have:yL q ops o=0\/yL q ops o=1\/yL q ops o=2\/yL q ops o=3\/yL q ops o=4\/yL q ops o=5\/yL q ops o=6:=by
   unfold yL;split <;> (try simp)
   ·unfold ES;split <;> simp
   ·split <;> simp
   ·cases UH _ <;> simp
  rcases this with e|e|e|e|e|e|e
  ·omega
  ·omega
  ·rw[e];rfl
  ·exact absurd e h3
  ·rw[e];rfl
  ·rw[e];rfl
  ·rw[e];rfl
 have Fy:∀b,y.rd b=true->yL q ops x.o≠1->LW (yL q ops y.o)=true/\yL q ops y.o≠5:=λb hr hk1=>by
  have k0:yL q ops y.o≠0:=λe=>by rw[hy.k0 (.inl e) b]at hr;cases hr
  have k5:yL q ops y.o≠5:=λe=>by rw[hy.k0 (.inr e) b]at hr;cases hr
  refine⟨?_,k5⟩;by_cases l1:yL q ops y.o<=1
  ·have:yL q ops y.o=1:=by omega
   rw[this];rfl
  ·have:=lay y3 l1
   have n2:yL q ops y.o≠2:=by
    rcases p3 with p3|p3
    ·exact nb p3
    ·exact absurd (aat p3) hk1
   unfold Wv at this;simp only[aa8,acG]at this;rcases this with((e|e)|e)|e
   ·exact absurd e n2
   ·rw[e];rfl
   ·exact absurd e k5
   ·rw[e];rfl
 have xn1:∀b,x.tc b=true->¬yL q ops x.o<=1:=λb hb e=>by rw[hx.k1 e b]at hb;cases hb
 refine⟨d1,d2,λb hb=>?_,λb hb=>ff λhr=>?_⟩
 ·have x1:=xn1 b hb;have xne:yL q ops x.o≠1:=by omega
  rcases xtc b hb with hown|⟨k4,z,hz,hzl,hzo,hzb⟩
  ·refine⟨ff λhr=>?_,ff λht=>?_⟩
   ·exact hy.lk (Fy b hr xne).1 b hr x xm (lay x3 x1) hbit hown
   ·rcases ytc b ht with e|⟨_,w,hw,hwl,hwo,hwb⟩
    ·omega
    ·have hne:x.j≠w.j:=λe=>by
      have:=hzy _ hwo;rw[<- e,hbit]at this;cases this
     have:=DN F xm hw hne;omega
  ·have zm:z∈A1++x::A2:=by simp[hz]
   have zx:=Bu F hz;rcases p4 with(p4|p4)|p4
   ·exact absurd k4 (nb p4)
   ·have k5:=aat p4;refine⟨hy.k0 (.inr k5) b,ff λht=>?_⟩;rcases ytc b ht with e|⟨ky4,_⟩
    ·omega
    ·omega
   ·rw[hzo]at p4;simp only[aah,aaz]at p4;refine⟨ff λhr=>?_,ff λht=>?_⟩
    ·exact hy.lk (Fy b hr xne).1 b hr z zm hzl p4.1 hzb
    ·rcases ytc b ht with e|⟨_,w,hw,hwl,hwo,hwb⟩
     ·omega
     ·rw[hwo]at p4;simp only[aaz]at p4;have:=DN F zm hw (nb p4.2);omega
 ·have hlt:=hx.rd b hr;rcases ytc b hb with e|⟨ky4,w,hw,hwl,hwo,hwb⟩
  ·omega
  ·rcases p5 with(p5|p5)|p5
   ·exact absurd ky4 (nb p5)
   ·have k5:=aat p5;rw[hx.k0 (.inr k5) b]at hr;cases hr
   ·rw[hwo]at p5;simp only[aaz]at p5;rcases aa2.1 hw with h1|h1
    ·exact hx.lk p5.1 b hr w h1 hwl p5.2 hwb
    ·rcases abm.1 h1 with rfl|h1
     ·omega
     ·have:=DM F h1;omega
end
end
noncomputable section
variable {P:Program}
theorem OJ{q:FuncId->Nat}{ops:Array Oper}{s0:Env}{h0:za}(hro0:h0.ro<=h0.next):∀(l:List Oper) (i:Nat) (ms:List Nat) (A:List yU) (prev:List (Nat×Nat×Option Nat×Nat)) (r s:Env) (h:za) {K:Env->za->Prop},
  ops.toList.drop i=l->i<=ops.size->gF ops ms->ms.length=i->qR P ops s0 h0 A i s h->(∀A1 x A2,A=A1++x::A2->∃m,(x.j,yL q ops x.o,OM ops x.o,m)∈prev/\RV q ops A1 m x)->WW ops l i ms (A.reverse.map λx=>(x.j,x.o))=true->r9 q ops l ms prev=true ->
  Le r s->It P q ops l i ms (Vw q ops A) r h K->∃A' r' s' h',qR P ops s0 h0 A' ops.size s' h'/\Le r' s'/\K r' h'/\Fr (Kz l) s s'/\AF h h'
 |[],i,ms,A,prev,r,s,h,K,hl,hle,hm,hml,F,hrp,hst,hkd,hle1,hk=>by
  have:i=ops.size:=by
   have:=congrArg List.length hl;simp at this;omega
  subst this;exact⟨A,r,s,h,F,hle1,hk,.refl _ _,.refl _⟩
 |o::os,i,ms,A,prev,r,s,h,K,hl,hle,hm,hml,F,hrp,hst,hkd,hle1,hk=>by
  have ho:ops[i]? = some o:=by
   have:=congrArg (λl=>l[0]?) hl;simp only[aaW,aaf]at this;simpa using this
  have hlt:i<ops.size:=by
   rcases aax i ops.size with h|h
   ·exact h
   ·rw[aaP h]at ho;cases ho
  have hl':ops.toList.drop (i+1)=os:=by rw[<- acK,hl];rfl
  simp only[WW,aah]at hst;obtain⟨⟨hedge,hslots⟩,hst⟩:=hst;simp only[r9,aah]at hkd;obtain⟨⟨hpair,hzz⟩,hkd⟩:=hkd;have hzz2:∀z,OM ops o=some z->(xe ms o).testBit z=true:=λz hz=>by rw[hz]at hzz;exact hzz
  have go:∀(v u:aaa) (h1:za) (y:yU),(yu v=true\/v=u)->fY P q ops s0 h0 A i o s h u h1 (xe ms o) y ->
    (match r.put o.dst v with|some s1=>It P q ops os (i+1) (ms++[xe ms o]) (cond (Wv (yL q ops o)) (Vw q ops A++[(i,h.next,h1.next)]) (Vw q ops A)) s1 h1 K|none=>False) ->
    ∃A' r' s' h',qR P ops s0 h0 A' ops.size s' h'/\Le r' s'/\K r' h'/\Fr (Kz (o::os)) s s'/\AF h h':=by
   intro v u h1 y hv N hk;split at hk
   case h_2=>exact hk.elim
   rename_i r1 hp;obtain⟨s1,hp1,hl1⟩:=hle1.put hp hv
   have hs1:∀t,s1.get t=if o.dst=some t then u else s.get t:=by
    intro t;cases hd:o.dst with
    |none=>rw[hd]at hp1;simp only[Env.put,aab]at hp1;subst hp1;simp
    |some d=>
     rw[hd]at hp1;simp only[Env.put]at hp1;obtain⟨_,hp1⟩:=zA hp1;simp only[aab]at hp1;subst hp1;rw[Env.yR];by_cases e:t=d
     ·subst e;simp
     ·rw[aae e,aae (by simp only[aab];exact λh=>e h.symm)]
   have hs1s:s1.size=s.size:=(Fr.put hp1).size
   have hal2:(cond (Wv (yL q ops o)) (Vw q ops A++[(i,h.next,h1.next)]) (Vw q ops A))=Vw q ops (A++[y]):=by
    rw[SI,N.y7,N.hj,N.gn];cases hla:Wv (yL q ops o) with
    |true=>rw[N.geq hla]
    |false=>rfl
   rw[hal2]at hk;have hny:∀w,w∈A->w.g'.next<=y.g.next:=λw hw=>by rw[N.gn];exact F.nA w hw
   have F1:qR P ops s0 h0 (A++[y]) (i+1) s1 h1:=by
    refine⟨?_,?_,hs1s.trans F.size,?_,N.ro.trans F.ro,aaZ F.next N.next,?_,N.wf,?_,?_,?_⟩
    ·rw[abX,F.js,List.range_succ];simp[N.hj]
    ·intro t;rw[hs1,fE,N.y7,N.TZ,F.env]
    ·intro b;rw[N.heap,mV,F.heap]
    ·intro x hx;rcases aa2.1 hx with hx|hx
     ·exact aaZ (F.nA x hx) N.next
     ·simp only[abp]at hx;subst hx;exact N.TV
    ·intro A1 r A2 e;rcases qP e with⟨_,rfl,rfl⟩|⟨A3,_,e3⟩
     ·exact N.told
     ·exact F.told A1 r A3 e3
    ·intro A1 r A2 e ed hed hb;rcases qP e with⟨_,rfl,rfl⟩|⟨A3,_,e3⟩
     ·rw[N.y7]at hed;simp only[aaM,aa8,aaz,aa3]at hedge;rcases hedge ed (by simpa using hed) with h2|h2
      ·rw[hb]at h2;cases h2
      ·have:ed.on∈A1.map (·.j):=(by rw[F.js];exact abK.2 h2);obtain⟨x,hx,hxj⟩:=abL.1 this;exact⟨x,hx,hxj⟩
     ·exact F.Jq A1 r A3 e3 ed hed hb
    ·intro A1 x A2 z A3 e;have e':A++[y]=(A1++x::A2)++z::A3:=by rw[e];simp
     rcases qP e' with⟨_,e1,rfl⟩|⟨A4,_,e3⟩
     ·have e1:A=A1++x::A2:=e1.symm;have hxm:x∈A:=by rw[e1];simp
      obtain⟨mx,hpm,hrx⟩:=hrp A1 x A2 e1;simp only[aaM,aa8]at hpair hslots;rcases hslots (x.j,x.o) (abL.2 ⟨x,by simpa using hxm,rfl⟩) with h2|h2
      ·rw[N.hj];exact .inl (jx hm ho h2)
      ·rcases hpair _ hpm with h3|h3
       ·rw[N.hj];exact .inl (jx hm ho h3)
       ·by_cases hbit:(xe ms o).testBit x.j=true
        ·rw[N.hj];exact .inl (jx hm ho hbit)
        ·simp only[acz]at hbit;have F':=F;have nr:=N.rv;rw[e1]at F' nr;rw[e1]at hny;exact .inr (LC F' hrx nr hny (by rw[N.y7];exact h2) hbit (by rw[N.y7];exact hzz2) (by rw[N.y7];exact h3))
     ·exact F.apart A1 x A2 z A4 (by rw[e3];simp)
   have hrp1:∀A1 x A2,A++[y]=A1++x::A2->∃m,(x.j,yL q ops x.o,OM ops x.o,m)∈(ms.length,yL q ops o,OM ops o,xe ms o)::prev/\RV q ops A1 m x:=by
    intro A1 x A2 e;rcases qP e with⟨_,e1,e2⟩|⟨A3,_,e3⟩
    ·subst e1 e2;exact⟨xe ms o,by rw[N.hj,N.y7,hml];simp,N.rv⟩
    ·obtain⟨m,h1,h2⟩:=hrp A1 x A3 e3;exact⟨m,List.mem_cons_of_mem _ h1,h2⟩
   obtain⟨A',r',s',h',F',l',k',f',a'⟩:=OJ hro0 os (i+1) (ms++[xe ms o]) (A++[y]) _ r1 s1 h1 hl' hlt (Ky hm hml ho) (by simp[hml]) F1 hrp1
    (by simpa [N.hj,N.y7] using hst) hkd hl1 hk
   exact⟨A',r',s',h',F',l',k',(Fr.put hp1).left.trans f'.right,(SY F (v:=v) N).trans a'⟩
  have slot:∀{v:aaa} {h1:za} {al':List (Nat×Nat×Nat)},(match r.put o.dst v with|some s1=>It P q ops os (i+1) (ms++[xe ms o]) al' s1 h1 K|none=>False)->∀d,o.dst=some d->d<s.size:=by
   intro v h1 al' hk d hd;split at hk
   case h_2=>exact hk.elim
   rename_i r1 hp;rw[hd]at hp;simp only[Env.put]at hp;obtain⟨hb,_⟩:=zA hp;rw[<- hle1.size];simpa [aa3] using hb
  have hron:h.ro<=h.next:=by rw[F.ro];exact aaZ hro0 F.next
  have dstok:∀{hv:za} {al:List (Nat×Nat×Nat)} {K':aaa->za->Prop},Rc P q ops r o al hv h K'->(∀v h1,K' v h1->∀d,o.dst=some d->d<s.size)->∀d,o.dst=some d->d<s.size:=by
   intro hv al K' hk hs
   have fromA:∀{g:za} {K2:aaa->za->Prop},opA P r o g K2->(∀v h1,K2 v h1->∀d,o.dst=some d->d<s.size)->∀d,o.dst=some d->d<s.size:=λhk hs=>by
    obtain⟨v,u,h',_,_,hK⟩:=Yr hle1 hk;exact hs v h' hK
   unfold Rc at hk;split at hk
   ·split at hk
    ·obtain⟨_,_,v,_,_,hK⟩:=hk;exact hs _ _ hK
    ·obtain⟨_,_,v,h2,_,_,hK⟩:=hk;exact hs _ _ hK
    ·obtain⟨_,hk⟩:=hk;obtain⟨v,h2,_,hK⟩:=Xn hk;exact hs _ _ hK
    ·obtain⟨_,_,hd⟩:=hk;obtain⟨v,h2,hK,_⟩:=hd ⟨F.wf,hron⟩;exact hs _ _ hK
   ·unfold oI at hk;split at hk
    ·obtain⟨_,_,_,hd⟩:=hk;obtain⟨v,h2,hK,_⟩:=hd ⟨F.wf,hron⟩;exact hs _ _ hK
    ·exact hk.elim
   ·split at hk
    ·unfold Lc at hk;split at hk
     ·obtain⟨_,hk⟩:=hk;obtain⟨v,h2,_,hK⟩:=Xn hk;exact hs _ _ hK
     ·exact hk.elim
    ·exact fromA hk hs
   ·cases h1:Nat.beq (yL q ops o) 1 with
    |true=>rw[h1]at hk;exact fromA hk (λv _ q=>hs v _ q)
    |false=>rw[h1]at hk;exact fromA hk hs
  simp only[It]at hk;split at hk
  ·rename_i hg;obtain⟨v,u,h1,y,hv,hK,N⟩:=DH F hron ho (dstok hk (λv h1 hK=>slot hK)) (by simp only[yP,hg]) hle1 hk;exact go v u h1 y hv N hK
  ·rename_i j want hg;split at hk
   ·exact hk.elim
   ·rename_i d hdst;unfold GD at hk;split at hk
    ·rename_i b hb
     have hs:s.get d=.bool b:=by
      rcases hle1.get d with e|e
      ·rw[hb]at e;cases e
      ·rw[<- e,hb]
     have haw:yP ops s o=(b == want):=(by simp only[yP,hg,hdst,hs]);by_cases hbw:b=want
     ·have hk:=hk.1 hbw;obtain⟨v,u,h1,y,hv,hK,N⟩:=DH F hron ho (dstok hk (λv h1 hK=>slot hK)) (by rw[haw,hbw];simp) hle1 hk;exact go v u h1 y hv N hK
     ·have hk:=hk.2 hbw;obtain⟨y,N⟩:=i9 (q:=q) F ho (slot hk) (u:=undef) (.inl ⟨by rw[haw];simpa using hbw,rfl,rfl⟩) (xe ms o);exact go undef undef h y (.inr rfl) N hk
    ·exact hk.elim
    ·rename_i n1 n2
     have hs:s.get d=r.get d:=by
      rcases hle1.get d with e|e
      ·obtain⟨k,p,q,e2⟩:=Uu e;exact absurd e2 (n2 k p q)
      ·exact e.symm
     have haw:yP ops s o=false:=by
      simp only[yP,hg,hdst,hs]
     obtain⟨y,N⟩:=i9 (q:=q) F ho (slot hk) (u:=undef) (.inl ⟨haw,rfl,rfl⟩) (xe ms o);exact go undef undef h y (.inr rfl) N hk
theorem Ho{q:FuncId->Nat}(hmix:P.follows .mixedOrders=true):gD P (Hn P q):=by
 intro ops r s h K rd id hle wf hk;unfold Hn at hk;cases hc:Di q ops with
 |false=>rw[hc]at hk;exact hk.elim
 |true=>
  rw[hc]at hk;have hk:It P q ops ops.toList 0 [] [] r h K:=hk;simp only[Di,aah]at hc
  have F0:qR P ops s h ([]:List yU) 0 s h:=⟨rfl,λt=>rfl,rfl,λb=>rfl,rfl,aam _,λx hx=>(by cases hx),wf.1,
   λA1 r A2 e=>by simp at e,λA1 r A2 e=>by simp at e,λA1 x A2 y A3 e=>by simp at e⟩
  obtain⟨A,r',s',h',F,hl',hK,hf,af⟩:=OJ wf.2 ops.toList 0 [] [] [] r s h rfl (aaX _) (λk q hq=>by simp at hq) rfl F0 (λA1 x A2 e=>by simp at e) hc.1 hc.2 hle hk
  have V:Valid P ops s h A:=⟨by rw[F.js];exact List.nodup_range,λi hi=>by
    have:i∈A.map (·.j):=(by rw[F.js];exact abK.2 hi);obtain⟨r,hr,hj⟩:=abL.1 this;exact⟨r,hr,hj⟩,F.told,F.Jq,F.apart⟩
  exact⟨r',s',h',hl',hK,hf,af,JG hmix V F.env F.size F.heap F.ro F.next F.nA (Q:=λe s1 h1=>e=.normal/\s1=s'/\h1=h') ⟨rfl,rfl,rfl⟩⟩
theorem OO{q:FuncId->Nat}(hmix:P.follows .mixedOrders=true){n:Nat}{f:FuncId}{args:List aaa}{h:za}{R:aaa->za->Prop}(hk:Rx P (Hn P q) n f args h R):DC P f args h R:=nz (Ho hmix) hk
end
noncomputable section
variable {P:Program}
def jo(q:FuncId->Nat)(o:Oper):Nat:=match o.op with
 | .load _ _=>1
 | .store _ _ _=>2
 |_=>(match wY q o with
  |0=>0
  |1=>3
  |_=>4)
def zaL(x y:Nat):Bool:=Nat.beq x 0||Nat.beq y 0||((Nat.beq x 1||Nat.beq x 3)&&(Nat.beq y 1||Nat.beq y 3))||(Nat.beq x 1&&Nat.beq y 2)||(Nat.beq x 2&&Nat.beq y 1)
def sa(q:FuncId->Nat):List Oper->List Nat->List (Nat×Nat)->Bool
 |[],_,_=>true
 |o::os,ms,prev=>Nat.ble (jo q o) 3&&(prev.all λx=>(xe ms o).testBit x.1||zaL x.2 (jo q o))&&sa q os (ms++[xe ms o]) ((ms.length,jo q o)::prev)
def Tq(q:FuncId->Nat)(ops:Array Oper):Bool:=WW ops ops.toList 0 [] []&&sa q ops.toList [] []
def szL(P:Program)(t:TypeId):Nat:=match yk P (isAgg t) with
 |some true=>(match yk P (sizeOf t) with
  |some n=>n
  |none=>0)
 |_=>1
def szS(P:Program)(t:TypeId):Nat:=match yk P (sizeOf t) with
 |some n=>n
 |none=>0
def Po(n:Nat)(a:aaa)(m:Nat)(c:aaa):Prop:=match a,c with
 | .pointer (some ⟨b,o,none⟩),.pointer (some ⟨c,p,none⟩)=>b≠c\/o+n<=p\/p+m<=o
 |_,_=>False
theorem C9{n m b o c p:Nat}:Po n (.pointer (some ⟨b,o,none⟩)) m (.pointer (some ⟨c,p,none⟩))=(b≠c\/o+n<=p\/p+m<=o):=rfl
def mi(m:Nat)(st:Bool)(n:Nat)(a:aaa):List (Nat×Bool×Nat×aaa)->Prop->Prop
 |[],Q=>Q
 |x::l,Q=>sel (m.testBit x.1||(st == x.2.1)) (mi m st n a l Q) (Po n a x.2.2.1 x.2.2.2/\mi m st n a l Q)
def Re(P:Program)(s:Env)(o:Oper)(m:Nat)(fl:List (Nat×Bool×Nat×aaa))(h:za)(K:aaa->za->Prop):Prop:=match o.op with
 | .load t a=>mi m false (szL P t) (ev s a) fl (opt (zd P t (ev s a) h) λv=>K v h)
 | .store t a x=>mi m true (szS P t) (ev s a) fl (opt (nb [ev s x] (wx P t (ev s a) (ev s x) h)) λh'=>K undef h')
 | .call {callee := .value (.func g),args,argTypes}=>vL P g (nq s args.toList) h λv=>K v h
 |_=>opA P s o h K
def Iw(P:Program)(s:Env)(o:Oper)(i:Nat)(fl:List (Nat×Bool×Nat×aaa)):List (Nat×Bool×Nat×aaa):=match o.op with
 | .load t a=>fl++[(i,false,szL P t,ev s a)]
 | .store t a _=>fl++[(i,true,szS P t,ev s a)]
 |_=>fl
def Iu(P:Program)(ops:Array Oper):List Oper->Nat->List Nat->List (Nat×Bool×Nat×aaa)->Env->za->(Env->za->Prop)->Prop
 |[],_,_,_,s,h,K=>K s h
 |o::os,i,ms,fl,s,h,K=>(match o.guard with
  |none=>Re P s o (xe ms o) fl h λv h1=>(match s.put o.dst v with
   |some s1=>Iu P ops os (i+1) (ms++[xe ms o]) (Iw P s o i fl) s1 h1 K
   |none=>False)
  |some (j,want)=>(match (ops[j]?).bind (·.dst) with
   |none=>False
   |some d=>GD (s.get d) want (Re P s o (xe ms o) fl h) (λv h1=>(match s.put o.dst v with
    |some s1=>Iu P ops os (i+1) (ms++[xe ms o]) (Iw P s o i fl) s1 h1 K
    |none=>False)) h))
def NM(P:Program)(q:FuncId->Nat)(ops:Array Oper)(s:Env)(h:za)(K:Env->za->Prop):Prop:=sel (Tq q ops) (Iu P ops ops.toList 0 [] [] s h K) False
theorem fB{m:Nat}{st:Bool}{n:Nat}{a:aaa}:∀{l:List (Nat×Bool×Nat×aaa)} {Q:Prop},mi m st n a l Q->Q /\ ∀x,x∈l->m.testBit x.1=false->x.2.1≠st->Po n a x.2.2.1 x.2.2.2
 |[],Q,h=>⟨h,λx hx=>(by cases hx)⟩
 |y::l,Q,h=>by
  unfold mi at h;cases hb:(m.testBit y.1||(st == y.2.1)) with
  |true=>
   rw[hb]at h;obtain⟨h1,h2⟩:=fB (l:=l) h;refine⟨h1,λx hx hm hs=>?_⟩;rcases abm.1 hx with rfl|hx
   ·rw[hm,Bool.false_or,beq_iff_eq]at hb;exact absurd hb.symm hs
   ·exact h2 x hx hm hs
  |false=>
   rw[hb]at h;obtain⟨h0,h⟩:=h;obtain⟨h1,h2⟩:=fB (l:=l) h;refine⟨h1,λx hx hm hs=>?_⟩;rcases abm.1 hx with rfl|hx
   ·exact h0
   ·exact h2 x hx hm hs
theorem rC(vs:List aaa):∀(c:List aaa) (o k:Nat),k<o\/o+vs.length<=k->(zb c o vs)[k]? = c[k]?:=by
 induction vs with
 |nil=>intro c o k _;rfl
 |cons v vs ih=>
  intro c o k hk;simp only[zb];simp only[aaE]at hk;rw[ih _ _ _ (by omega),abj (by omega)]
theorem ri{c vs:List aaa}{t:TypeId}{o off n:Nat}(h:off+n<=o\/o+vs.length<=off):nt (some (.cells (zb c o vs) t)) off n=nt (some (.cells c t)) off n:=by
 simp only[nt,Zq];by_cases hl:off+n<=c.length
 ·rw[aai hl,aai hl]
  congr 1
  apply abw;intro k;by_cases hk:k<n
  ·rw[aa7 hk,aa7 hk,aaW,aaW,rC _ _ _ _ (by omega)]
  ·rw[aak (by simp;omega),aak (by simp;omega)]
 ·rw[aae hl,aae hl]
theorem Pm{t:TypeId}{b off:Nat}{g g2:za}{v:aaa}(h:zd P t (.pointer (some ⟨b,off,none⟩)) g=some v)(e:nt (g2.get b) off (szL P t)=nt (g.get b) off (szL P t)):zd P t (.pointer (some ⟨b,off,none⟩)) g2=some v:=by
 unfold zd szL at *
 simp only at *
 cases hg:g.get b with
 |none=>rw[hg]at h;cases h
 |some ob=>
  rw[hg]at h e;cases ob with
  |cells c t1=>
   simp only at h;cases ha:yk P (isAgg t) with
   |none=>rw[ha]at h;cases h
   |some ag=>
    rw[ha]at h e;cases ag with
    |true=>
     simp only at h e;cases hs:yk P (sizeOf t) with
     |none=>rw[hs]at h;cases h
     |some n=>
      rw[hs]at h e;simp only at h e;obtain⟨hle,h⟩:=zA h;rw[ach]at hle;simp only[nt,aai hle]at e;cases hg2:g2.get b with
      |none=>rw[hg2]at e;cases e
      |some ob2=>
       rw[hg2]at e;cases ob2 with
       |cells c2 t2=>
        simp only at e;split at e
        ·rename_i hle2;simp only[aab]at e;simp only[show Nat.ble (off+n) c2.length=true by rw[ach];exact hle2,aaB,e];exact h
        ·cases e
       |_=>simp at e
    |false=>
     simp only at h e
     have hlt:off<c.length:=by
      rcases aax off c.length with q|q
      ·exact q
      ·rw[aak q]at h;cases h
     simp only[nt,aai (show off+1<=c.length from hlt)]at e;cases hg2:g2.get b with
     |none=>rw[hg2]at e;cases e
     |some ob2=>
      rw[hg2]at e;cases ob2 with
      |cells c2 t2=>
       simp only at e;split at e
       ·simp only[aab]at e;have:=congrArg (λl=>l[0]?) e;simp only[aa7 (Nat.zero_lt_one),aaW,ab8]at this;exact this.trans h
       ·cases e
      |_=>simp at e
  |_=>simp at h
def PW(P:Program)(ops:Array Oper)(x:yU):Option (Nat×Nat×Nat):=match x.o.op with
 | .load t a=>(match Zf x.s a with
   |some (.pointer (some ⟨b,off,none⟩))=>cond (yP ops x.s x.o) (some (b,off,szL P t)) none
   |_=>none)
 |_=>none
structure RZ (P:Program) (q:FuncId->Nat) (ops:Array Oper) (fl:List (Nat×Bool×Nat×aaa)) (x:yU):Prop where
 k0:jo q x.o=0->(∀b,x.rd b=false) /\ ∀b,x.tc b=false
 k13:jo q x.o=1\/jo q x.o=3->∀b,x.tc b=false
 k1:jo q x.o=1->(∀b,x.rd b=false) \/ ∃b off sp n,(∀c,x.rd c=true->c=b)/\(sp=none->PW P ops x=some (b,off,n))/\(x.j,false,n,Value.pointer (some ⟨b,off,sp⟩))∈fl
 k2:jo q x.o=2->((∀b,x.rd b=false) /\ ∀b,x.tc b=false) \/ ∃b off n c vs t,(∀d,x.rd d=true ↔ d=b)/\(∀d,x.tc d=true ↔ d=b)/\x.g.get b=some (.cells c t)/\x.g'.get b=some (.cells (zb c off vs) t)/\vs.length=n/\(x.j,true,n,Value.pointer (some ⟨b,off,none⟩))∈fl
theorem RZ.mono{q:FuncId->Nat}{ops:Array Oper}{fl fl':List (Nat×Bool×Nat×aaa)}{x:yU}(r:RZ P q ops fl x)(h:∀e,e∈fl->e∈fl'):RZ P q ops fl' x :=
 ⟨r.k0,r.k13,λe=>by
  rcases r.k1 e with h1|⟨b,off,sp,n,h1,h2,h3⟩
  ·exact .inl h1
  ·exact .inr ⟨b,off,sp,n,h1,h2,h _ h3⟩,λe=>by
  rcases r.k2 e with h1|⟨b,off,n,c,vs,t,h1,h2,h3,h4,h5,h6⟩
  ·exact .inl h1
  ·exact .inr ⟨b,off,n,c,vs,t,h1,h2,h3,h4,h5,h _ h6⟩⟩
structure UC (P:Program) (ops:Array Oper) (s0:Env) (h0:za) (A:List yU) (i:Nat) (s:Env) (h:za):Prop where
 js:A.map (·.j)=List.range i
 env:∀t,s.get t=KH A s0 t
 size:s.size=s0.size
 heap:∀b,h.get b=WR A h0 b
 ro:h.ro=h0.ro
 next:h.next=h0.next
 wf:WF h
 told:∀A1 r A2,A=A1++r::A2->RX (PW P ops) P ops s0 h0 A1 r
 Jq:∀A1 r A2,A=A1++r::A2->∀e,e∈r.o.after->Region.binds .any e=true->∃x,x∈A1/\x.j=e.on
 apart:∀A1 x A2 y A3,A=A1++x::(A2++y::A3)->Prec ops x.j y.j\/Qn (PW P ops) ops x y
structure so (P:Program) (q:FuncId->Nat) (ops:Array Oper) (s0:Env) (h0:za) (A:List yU) (i:Nat) (o:Oper) (s:Env) (h:za) (u:aaa) (h1:za) (m:Nat) (fl fl1:List (Nat×Bool×Nat×aaa)) (y:yU):Prop where
 hj:y.j=i
 y7:y.o=o
 TZ:y.v=u
 told:RX (PW P ops) P ops s0 h0 A y
 rz:RZ P q ops fl1 y
 heap:∀b,h1.get b=if y.tc b=true then y.g'.get b else h.get b
 ro:h1.ro=h.ro
 next:h1.next=h.next
 wf:WF h1
 af:AF h h1
 mi:∀e,e∈fl->m.testBit e.1=false->(jo q o=1/\e.2.1=true->((∀b,y.rd b=false) \/ ∃b off sp n,(∀c,y.rd c=true->c=b)/\(sp=none->PW P ops y=some (b,off,n))/\Po n (.pointer (some ⟨b,off,sp⟩)) e.2.2.1 e.2.2.2)) /\
  (jo q o=2/\e.2.1=false->((∀b,y.tc b=false) \/ ∃b off n c vs t,(∀d,y.rd d=true ↔ d=b)/\(∀d,y.tc d=true ↔ d=b)/\y.g.get b=some (.cells c t)/\y.g'.get b=some (.cells (zb c off vs) t)/\vs.length=n/\Po n (.pointer (some ⟨b,off,none⟩)) e.2.2.1 e.2.2.2))
section
variable {q:FuncId->Nat}{ops:Array Oper}{s0:Env}{h0:za}{A:List yU}{i:Nat}{o:Oper}{s:Env}{h:za}{m:Nat}{fl fl1:List (Nat×Bool×Nat×aaa)}
theorem la(F:UC P ops s0 h0 A i s h)(ho:ops[i]? = some o)(hput:∀d,o.dst=some d->d<s.size){u:aaa}(hs:YH P ops s o (h.pick []) u (h.pick []))(hlk:∀t a,o.op=.load t a->yP ops s o=false):∃y,so P q ops s0 h0 A i o s h u h m fl fl1 y:=by
 refine⟨⟨i,o,u,s,h.pick [],h.pick [],λ_=>false,λ_=>false⟩,rfl,rfl,rfl,
  ⟨⟨ho,F.env,F.size,λb=>by rw[qY];simp,F.ro,by show h0.next<=h.next;rw[F.next];exact aam _,λx hx=>?_,aam _,hs,λd hd=>by rw[<- F.size];exact hput d hd,λb hb=>(by cases hb),λb _=>rfl,λb o' hb=>(by cases hb)⟩,⟨F.next,F.next⟩,λb0 off n e=>?_⟩,
  ⟨λ_=>⟨λ_=>rfl,λ_=>rfl⟩,λ_ _=>rfl,λ_ => .inl λ_=>rfl,λ_ => .inl ⟨λ_=>rfl,λ_=>rfl⟩⟩,λb=>by simp,rfl,rfl,F.wf,.refl _,λe he hm=>⟨λ_ => .inl λ_=>rfl,λ_ => .inl λ_=>rfl⟩⟩
 ·obtain⟨A1,A2,rfl⟩:=aaV hx;have:=(F.told A1 x A2 rfl).still.2;show x.g'.next<=h.next;rw[this,F.next];exact aam _
 ·exfalso;unfold PW at e;simp only at e;split at e
  ·rename_i t a y7;split at e
   ·rw[hlk t a y7]at e;cases e
   ·cases e
  ·cases e
theorem Of(F:UC P ops s0 h0 A i s h):∀x,x∈A->x.g'.next<=h.next:=λx hx=>by
 obtain⟨A1,A2,rfl⟩:=aaV hx;have:=(F.told A1 x A2 rfl).still.2;rw[this,F.next];exact aam _
theorem zam(F:UC P ops s0 h0 A i s h):h0.next<=h.next:=by rw[F.next];exact aam _
theorem zfv{h:za}(w:WF h){b:Nat}(hb:¬b<h.next):h.get b=none:=by
 cases hh:h.get b with|none=>rfl|some o'=>exact absurd (w b o' hh) hb
theorem Bj(F:UC P ops s0 h0 A i s h)(ho:ops[i]? = some o)(hput:∀d,o.dst=some d->d<s.size){u:aaa}(hs:YH P ops s o h u h)(hk:jo q o=3):∃y,so P q ops s0 h0 A i o s h u h m fl fl1 y:=by
 have hrd:∀b,(Nat.blt b h.next=true) ↔ b<h.next:=λb=>by rw[aa3]
 have nl:∀t a,o.op=.load t a->False:=λt a e=>by unfold jo at hk;rw[e]at hk;cases hk
 refine⟨⟨i,o,u,s,h,h,λb=>Nat.blt b h.next,λ_=>false⟩,rfl,rfl,rfl,
  ⟨⟨ho,F.env,F.size,λb=>?_,F.ro,zam F,Of F,aam _,hs,λd hd=>by rw[<- F.size];exact hput d hd,λb hb=>(by cases hb),λb _=>rfl,λb o' hb=>(by cases hb)⟩,⟨F.next,F.next⟩,λb0 off n e=>?_⟩,
  ⟨λe=>by simp only at e;omega,λ_ _=>rfl,λe=>by simp only at e;omega,λe=>by simp only at e;omega⟩,λb=>by simp,rfl,rfl,F.wf,.refl _,λe he hm=>⟨λ⟨e,_⟩=>by omega,λ⟨e,_⟩=>by omega⟩⟩
 ·show h.get b=if Nat.blt b h.next=true then WR A h0 b else none;by_cases hb:b<h.next
  ·rw[aai ((hrd b).2 hb),F.heap]
  ·rw[aae (λe=>hb ((hrd b).1 e)),zfv F.wf hb]
 ·exfalso;unfold PW at e;cases y7:o.op <;> simp only[y7]at e <;> first|(cases e;done)|exact nl _ _ y7
theorem L5(F:UC P ops s0 h0 A i s h)(ho:ops[i]? = some o)(hput:∀d,o.dst=some d->d<s.size)(hw:yP ops s o=true){t:TypeId}{a:Operand}(y7:o.op=.load t a){av u:aaa}(hav:Zf s a=some av)(hl:zd P t av h=some u)
  (hcl:∀e,e∈fl->m.testBit e.1=false->e.2.1≠false->Po (szL P t) av e.2.2.1 e.2.2.2):∃y,so P q ops s0 h0 A i o s h u h m fl (fl++[(i,false,szL P t,av)]) y:=by
 have hk1:jo q o=1:=by unfold jo;rw[y7]
 obtain⟨b,off,sp,rfl,hsp⟩:∃b off sp,av=.pointer (some ⟨b,off,sp⟩) /\ ∀g:za,g.get b=h.get b->zd P t av g=some u:=by
  unfold zd at hl;split at hl
  ·rename_i b off;exact⟨b,off,none,rfl,λg hg=>by unfold zd;simp only;rw[hg];exact hl⟩
  ·rename_i b off;exact⟨b,off,some 0,rfl,λg hg=>by unfold zd;simp only;rw[hg];exact hl⟩
  ·cases hl
 have sem:∀g:za,zd P t (.pointer (some ⟨b,off,sp⟩)) g=some u->YH P ops s o g u g:=λg hg => .inr ⟨hw,.inl (by unfold gh;simp only[y7,hav,hg,one])⟩
 refine⟨⟨i,o,u,s,h.pick [b],h.pick [b],λc=>decide (c=b),λ_=>false⟩,rfl,rfl,rfl,
  ⟨⟨ho,F.env,F.size,λc=>?_,F.ro,(zam F:h0.next<=h.next),λx hx=>Of F x hx,aam _,sem _ (hsp _ (by rw[qY,aai (by simp)])),λd hd=>by rw[<- F.size];exact hput d hd,λb hb=>(by cases hb),λb _=>rfl,λb o' hb=>(by cases hb)⟩,⟨F.next,F.next⟩,λb0 off0 n e=>?_⟩,
  ⟨λe=>by simp only at e;omega,λ_ _=>rfl,λ_ => .inr ⟨b,off,sp,szL P t,λc hc=>by simpa using hc,λhsp0=>?_,by simp⟩,λe=>by simp only at e;omega⟩,λb=>by simp,rfl,rfl,F.wf,.refl _,λe he hm=>⟨λ⟨_,h1⟩ => .inr ⟨b,off,sp,szL P t,λc hc=>by simpa using hc,λhsp0=>?_,hcl e he hm (by rw[h1];simp)⟩,λ⟨e,_⟩=>by omega⟩⟩
 ·show(h.pick [b]).get c=if decide (c=b)=true then WR A h0 c else none;rw[qY];by_cases e:c=b
  ·subst e;simp[F.heap]
  ·simp[e]
 ·unfold PW at e;simp only[y7,hav]at e;cases sp with
  |some k=>simp at e
  |none=>
   simp only[hw,aaB,aab,aag]at e;obtain⟨rfl,rfl,rfl⟩:=e;exact⟨by simp,λc hc=>by simpa using hc,λ_=>rfl,λg hg=>sem g (Pm (hsp _ (by rw[qY,aai (by simp)])) hg)⟩
 ·subst hsp0;unfold PW;simp only[y7,hav,hw,aaB]
 ·subst hsp0;unfold PW;simp only[y7,hav,hw,aaB]
theorem HS(F:UC P ops s0 h0 A i s h)(ho:ops[i]? = some o)(hput:∀d,o.dst=some d->d<s.size)(hw:yP ops s o=true){t:TypeId}{a x:Operand}(y7:o.op=.store t a x){av xv:aaa}(hav:Zf s a=some av)(hxv:Zf s x=some xv){h1:za}(hl:wx P t av xv h=some h1)
  (hcl:∀e,e∈fl->m.testBit e.1=false->e.2.1≠true->Po (szS P t) av e.2.2.1 e.2.2.2):∃y,so P q ops s0 h0 A i o s h undef h1 m fl (fl++[(i,true,szS P t,av)]) y:=by
 have hk2:jo q o=2:=by unfold jo;rw[y7]
 have af:=Db hl
 obtain⟨b,off,c,t',rfl,hg,hn,hh1,hst⟩:∃b off c t',av=.pointer (some ⟨b,off,none⟩)/\h.get b=some (.cells c t')/\xv.cells.size=szS P t/\h1=h.set b (some (.cells (zb c off xv.cells.toList) t')) /\
   ∀g:za,g.get b=h.get b->g.ro=h.ro->wx P t av xv g=some (g.set b (some (.cells (zb c off xv.cells.toList) t'))):=by
  unfold wx at hl;split at hl
  ·rename_i b off;split at hl
   ·cases hl
   ·rename_i c t' hg;split at hl
    ·cases hl
    ·rename_i n hs;obtain⟨hc,hl⟩:=zA hl;simp only[aab]at hl;have hc':=hc;simp only[aah,acG]at hc';refine⟨b,off,c,t',rfl,hg,?_,hl.symm,λg hgg hro=>?_⟩
     ·unfold szS;rw[hs];exact hc'.1.1.1
     ·unfold wx;simp only;rw[hgg,hg];simp only[hs,hro,hc,aaB]
   ·cases hl
  ·cases hl
 subst hh1;have eq1:∀d,(decide (d=b)=true) ↔ d=b:=λd=>by simp
 have g2:((h.pick [b]).set b (some (.cells (zb c off xv.cells.toList) t'))).get b=some (.cells (zb c off xv.cells.toList) t'):=by rw[za.yR,aai rfl]
 have g1:(h.pick [b]).get b=some (.cells c t'):=by rw[qY,aai (by simp)];exact hg
 refine⟨⟨i,o,undef,s,h.pick [b],(h.pick [b]).set b (some (.cells (zb c off xv.cells.toList) t')),λd=>decide (d=b),λd=>decide (d=b)⟩,rfl,rfl,rfl,
  ⟨⟨ho,F.env,F.size,λd=>?_,F.ro,(zam F:h0.next<=h.next),λx hx=>Of F x hx,aam _,.inr ⟨hw,.inl ?_⟩,λd hd=>by rw[<- F.size];exact hput d hd,λd hd => .inl hd,λd hd=>?_,λd o' hd _ _=>?_⟩,⟨F.next,F.next⟩,λb0 off0 n e=>?_⟩,
  ⟨λe=>by simp only at e;omega,λe=>by simp only at e;omega,λe=>by simp only at e;omega,λ_ => .inr ⟨b,off,szS P t,c,xv.cells.toList,t',eq1,eq1,g1,g2,by simpa using hn,by simp⟩⟩,λd=>?_,rfl,rfl,λd o' hd=>?_,af,λe he hm=>⟨λ⟨e,_⟩=>by omega,λ⟨_,h1⟩ => .inr ⟨b,off,szS P t,c,xv.cells.toList,t',eq1,eq1,g1,g2,by simpa using hn,hcl e he hm (by rw[h1];simp)⟩⟩⟩
 ·show(h.pick [b]).get d=if decide (d=b)=true then WR A h0 d else none;rw[qY];by_cases e:d=b
  ·subst e;simp[F.heap]
  ·simp[e]
 ·unfold gh;simp only[y7,hav,hxv,hst (h.pick [b]) (by rw[qY,aai (by simp)]) rfl]
 ·have hd:decide (d=b)=false:=hd;have:d≠b:=λe=>by rw[(eq1 d).2 e]at hd;cases hd
  rw[za.yR,aae this]
 ·have:=(eq1 d).1 hd;subst this;rw[g1];simp
 ·exfalso;unfold PW at e;simp only[y7]at e;cases e
 ·show(h.set b _).get d=if decide (d=b)=true then _ else _;by_cases e:d=b
  ·subst e;rw[aai (by simp),za.yR,aai rfl,za.yR,aai rfl]
  ·rw[aae (by simp[e]),za.yR,aae e]
 ·rw[za.yR]at hd;show d<h.next;split at hd
  ·rename_i e;subst e;exact F.wf _ _ hg
  ·exact F.wf _ _ hd
theorem DI(F:UC P ops s0 h0 A i s h)(hron:h.ro<=h.next)(ho:ops[i]? = some o)(hput:∀d,o.dst=some d->d<s.size)(hw:yP ops s o=true)(hkz:jo q o<=3){r:Env}(hl:Le r s)
  {K:aaa->za->Prop} (hk:Re P r o m fl h K):∃v u h1 y,(yu v=true\/v=u)/\K v h1/\so P q ops s0 h0 A i o s h u h1 m fl (Iw P r o i fl) y:=by
 unfold Re at hk;split at hk
 ·rename_i t a y7;obtain⟨hk,hc⟩:=fB hk;obtain⟨v,he,hK⟩:=kI hk
  have hnb:yu (ev r a)=false:=by
   cases hb:yu (ev r a) with
   |false=>rfl
   |true=>obtain⟨k,p,z,e2⟩:=Uu hb;rw[e2]at he;cases he
  have hav:=XZ hl hnb;obtain⟨y,hy⟩:=L5 (q:=q) (m:=m) (fl:=fl) F ho hput hw y7 hav he hc;exact⟨v,v,h,y,.inr rfl,hK,by unfold Iw;simp only[y7];exact hy⟩
 ·rename_i t a x y7;obtain⟨hk,hc⟩:=fB hk;obtain⟨h1,he,hK⟩:=kI hk;obtain⟨hn,he⟩:=kB he
  have hnx:yu (ev r x)=false:=by
   cases hb:yu (ev r x) with
   |false=>rfl
   |true=>simp only[yy,hb,aaB]at hn;cases hn
  have hnb:yu (ev r a)=false:=by
   cases hb:yu (ev r a) with
   |false=>rfl
   |true=>obtain⟨k,p,z,e2⟩:=Uu hb;rw[e2]at he;cases he
  obtain⟨y,hy⟩:=HS (q:=q) (m:=m) (fl:=fl) F ho hput hw y7 (XZ hl hnb) (XZ hl hnx) he hc;exact⟨undef,undef,h1,y,.inr rfl,hK,by unfold Iw;simp only[y7];exact hy⟩
 ·rename_i g args ts y7;obtain⟨hc,hn,v,hsc,hT,hK⟩:=hk;have ef:Zf s (.func g)=some (.func (.func g) #[] #[]):=rfl
  have hT2:TC P g (nq r args.toList) h (λv1 h1=>v1=v/\h1=h) :=
   (hT.quiet (λv1 _ e=>by rw[e];exact hsc)).mono (by rintro v1 h1 ⟨⟨_,e1⟩,e2⟩;exact⟨e1,e2⟩)
  have hk3:jo q o=3:=by
   unfold jo at hkz ⊢;simp only[y7]at hkz ⊢;have:wY q o=mW (q g):=by unfold wY;simp only[y7]
   rw[this]at hkz ⊢;have kc:mW (q g)=1\/mW (q g)=2\/mW (q g)=3:=by unfold mW;split <;> simp
   rcases kc with e|e|e <;> rw[e]at hkz ⊢ <;> simp at hkz ⊢
  obtain⟨y,hy⟩:=Bj (q:=q) (m:=m) (fl:=fl) (fl1:=Iw P r o i fl) F ho hput (u:=v) (.inr ⟨hw,.inr (.inl ⟨.func g,args,ts,g,#[],#[],_,y7,ef,bR hl hn,hc,by simpa using hT2⟩)⟩) hk3;exact⟨v,v,h,y,.inr rfl,hK,hy⟩
 ·rename_i n1 n2 n3;obtain⟨v,u,h',he,hv,hK⟩:=Yr hl hk;have hnc:=QE he
  have hkk:jo q o=(match wY q o with
   |0=>0
   |1=>3
   |_=>4):=by
   unfold jo;split
   ·rename_i t a y7;exact absurd y7 (n1 t a)
   ·rename_i t a x y7;exact absurd y7 (n2 t a x)
   ·rfl
  have hcase:wY q o=0\/wY q o=1:=by
   rw[hkk]at hkz;split at hkz
   ·left;assumption
   ·right;assumption
   ·omega
  rcases hcase with h0'|h1'
  ·obtain⟨rfl,hany⟩:=Bt h0' hnc he;obtain⟨y,hy⟩:=la (q:=q) (m:=m) (fl:=fl) (fl1:=Iw P r o i fl) F ho hput (u:=u) (.inr ⟨hw,.inl (hany _)⟩) (λt a e=>absurd e (n1 t a));exact⟨v,u,h',y,hv,hK,hy⟩
  ·obtain rfl:=dZ h1' hnc he;obtain⟨y,hy⟩:=Bj (q:=q) (m:=m) (fl:=fl) (fl1:=Iw P r o i fl) F ho hput (u:=u) (.inr ⟨hw,.inl he⟩) (by rw[hkk,h1'];rfl);exact⟨v,u,h',y,hv,hK,hy⟩
theorem zbu{n m b o c p k:Nat}{l vs:List aaa}{t:TypeId}(h:Po n (.pointer (some ⟨b,o,none⟩)) m (.pointer (some ⟨c,p,none⟩)))(e:b=c)(hv:vs.length=m):nt (some (.cells (zb l p vs) t)) o n=nt (some (.cells l t)) o n:=by
 rw[C9]at h;exact ri (by omega)
theorem SZ{n m b o c p:Nat}{l vs:List aaa}{t:TypeId}(h:Po m (.pointer (some ⟨c,p,none⟩)) n (.pointer (some ⟨b,o,none⟩)))(e:b=c)(hv:vs.length=m):nt (some (.cells (zb l p vs) t)) o n=nt (some (.cells l t)) o n:=by
 rw[C9]at h;exact ri (by omega)
theorem LD{u:aaa}{h1:za}{x y:yU}(hxA:x∈A)(hx:RZ P q ops fl x)(N:so P q ops s0 h0 A i o s h u h1 m fl fl1 y)(hkx:jo q x.o<=3)(hky:jo q o<=3)
  (hs:Xq ops x.o y.o=true) (hbit:m.testBit x.j=false) (hp:zaL (jo q x.o) (jo q o)=true):Qn (PW P ops) ops x y:=by
 have ff:∀{b:Bool},b≠true->b=false:=λh=>by simpa using h
 simp only[Xq,aah]at hs;obtain⟨a1,a2⟩:=hs
 have d1:∀d,x.o.dst=some d->d∉y.o.looksAt ops/\y.o.dst≠some d:=by
  intro d hd;rw[hd]at a1;simp only[aah,aaz,aaL,aaO]at a1;exact⟨a1.1,a1.2⟩
 have d2:∀d,y.o.dst=some d->d∉x.o.looksAt ops:=by
  intro d hd;rw[hd]at a2;simp only[aaz,aaL,aaO]at a2;exact a2
 have hyo:=N.y7;have hy:=N.rz;unfold zaL at hp;simp only[aa8,aah,acG]at hp;rcases hp with(((hp|hp)|⟨hp,hq⟩)|⟨hp,hq⟩)|⟨hp,hq⟩
 ·obtain⟨r,t⟩:=hx.k0 hp;exact⟨d1,d2,λb hb=>(by rw[t b]at hb;cases hb),λb _ => .inl (r b)⟩
 ·obtain⟨r,t⟩:=hy.k0 (by rw[hyo];exact hp);exact⟨d1,d2,λb _=>⟨t b,.inl (r b)⟩,λb hb=>(by rw[t b]at hb;cases hb)⟩
 ·have tx:=hx.k13 hp;have ty:=hy.k13 (by rw[hyo];exact hq);exact⟨d1,d2,λb hb=>(by rw[tx b]at hb;cases hb),λb hb=>(by rw[ty b]at hb;cases hb)⟩
 ·
  have tx:=hx.k13 (.inl hp);refine⟨d1,d2,λb hb=>(by rw[tx b]at hb;cases hb),λb hb=>?_⟩;rcases hx.k1 hp with hn|⟨bx,ox,sp,nx,c1,c2,c3⟩
  ·exact .inl (hn b)
  ·rcases (N.mi _ c3 hbit).2 ⟨hq,rfl⟩ with hn|⟨by',oy,ny,c,vs,t,e1,e2,e3,e4,e5,e6⟩
   ·rw[hn b]at hb;cases hb
   ·have hb':=(e2 b).1 hb;subst hb';cases hr:x.rd b with
    |false=>exact .inl rfl
    |true=>
     have hbx:=c1 b hr;cases sp with
     |some k=>exact e6.elim
     |none=>
      refine .inr ⟨ox,nx,by rw[c2 rfl,hbx],(e1 b).2 rfl,?_⟩;rw[e3,e4];exact SZ e6 hbx.symm e5
 ·
  have ty:=hy.k13 (.inl (by rw[hyo];exact hq));refine⟨d1,d2,λb hb=>⟨ty b,?_⟩,λb hb=>(by rw[ty b]at hb;cases hb)⟩;rcases hx.k2 hp with⟨_,hn⟩|⟨bx,ox,nx,c,vs,t,e1,e2,e3,e4,e5,e6⟩
  ·rw[hn b]at hb;cases hb
  ·have hb':=(e2 b).1 hb;subst hb';rcases (N.mi _ e6 hbit).1 ⟨hq,rfl⟩ with hn|⟨by',oy,sp,ny,c1,c2,c3⟩
   ·exact .inl (hn b)
   ·cases hr:y.rd b with
    |false=>exact .inl rfl
    |true=>
     have hby:=c1 b hr;cases sp with
     |some k=>exact c3.elim
     |none=>
      refine .inr ⟨oy,ny,by rw[c2 rfl,hby],(e1 b).2 rfl,?_⟩;rw[e3,e4];exact zbu (k:=0) c3 hby.symm e5
end
theorem OK{q:FuncId->Nat}{ops:Array Oper}{s0:Env}{h0:za}(hro0:h0.ro<=h0.next):∀(l:List Oper) (i:Nat) (ms:List Nat) (A:List yU) (prev:List (Nat×Nat)) (fl:List (Nat×Bool×Nat×aaa)) (r s:Env) (h:za) {K:Env->za->Prop},
  ops.toList.drop i=l->i<=ops.size->gF ops ms->ms.length=i->UC P ops s0 h0 A i s h->(∀x,x∈A->(x.j,jo q x.o)∈prev/\jo q x.o<=3/\RZ P q ops fl x)->WW ops l i ms (A.reverse.map λx=>(x.j,x.o))=true->sa q l ms prev=true ->
  Le r s->Iu P ops l i ms fl r h K->∃A' r' s' h',UC P ops s0 h0 A' ops.size s' h'/\Le r' s'/\K r' h'/\Fr (Kz l) s s'/\AF h h'
 |[],i,ms,A,prev,fl,r,s,h,K,hl,hle,hm,hml,F,hrp,hst,hkd,hle1,hk=>by
  have:i=ops.size:=by
   have:=congrArg List.length hl;simp at this;omega
  subst this;exact⟨A,r,s,h,F,hle1,hk,.refl _ _,.refl _⟩
 |o::os,i,ms,A,prev,fl,r,s,h,K,hl,hle,hm,hml,F,hrp,hst,hkd,hle1,hk=>by
  have ho:ops[i]? = some o:=by
   have:=congrArg (λl=>l[0]?) hl;simp only[aaW,aaf]at this;simpa using this
  have hlt:i<ops.size:=by
   rcases aax i ops.size with h|h
   ·exact h
   ·rw[aaP h]at ho;cases ho
  have hl':ops.toList.drop (i+1)=os:=by rw[<- acK,hl];rfl
  simp only[WW,aah]at hst;obtain⟨⟨hedge,hslots⟩,hst⟩:=hst;simp only[sa,aah,ach]at hkd;obtain⟨⟨hkz,hpair⟩,hkd⟩:=hkd
  have go:∀(v u:aaa) (h1:za) (y:yU),(yu v=true\/v=u)->so P q ops s0 h0 A i o s h u h1 (xe ms o) fl (Iw P r o i fl) y ->
    (match r.put o.dst v with|some s1=>Iu P ops os (i+1) (ms++[xe ms o]) (Iw P r o i fl) s1 h1 K|none=>False) ->
    ∃A' r' s' h',UC P ops s0 h0 A' ops.size s' h'/\Le r' s'/\K r' h'/\Fr (Kz (o::os)) s s'/\AF h h':=by
   intro v u h1 y hv N hk;split at hk
   case h_2=>exact hk.elim
   rename_i r1 hp;obtain⟨s1,hp1,hl1⟩:=hle1.put hp hv
   have hs1:∀t,s1.get t=if o.dst=some t then u else s.get t:=by
    intro t;cases hd:o.dst with
    |none=>rw[hd]at hp1;simp only[Env.put,aab]at hp1;subst hp1;simp
    |some d=>
     rw[hd]at hp1;simp only[Env.put]at hp1;obtain⟨_,hp1⟩:=zA hp1;simp only[aab]at hp1;subst hp1;rw[Env.yR];by_cases e:t=d
     ·subst e;simp
     ·rw[aae e,aae (by simp only[aab];exact λh=>e h.symm)]
   have hs1s:s1.size=s.size:=(Fr.put hp1).size
   have F1:UC P ops s0 h0 (A++[y]) (i+1) s1 h1:=by
    refine⟨?_,?_,hs1s.trans F.size,?_,N.ro.trans F.ro,N.next.trans F.next,N.wf,?_,?_,?_⟩
    ·rw[abX,F.js,List.range_succ];simp[N.hj]
    ·intro t;rw[hs1,fE,N.y7,N.TZ,F.env]
    ·intro b;rw[N.heap,mV,F.heap]
    ·intro A1 r A2 e;rcases qP e with⟨_,rfl,rfl⟩|⟨A3,_,e3⟩
     ·exact N.told
     ·exact F.told A1 r A3 e3
    ·intro A1 r A2 e ed hed hb;rcases qP e with⟨_,rfl,rfl⟩|⟨A3,_,e3⟩
     ·rw[N.y7]at hed;simp only[aaM,aa8,aaz,aa3]at hedge;rcases hedge ed (by simpa using hed) with h2|h2
      ·rw[hb]at h2;cases h2
      ·have:ed.on∈A1.map (·.j):=(by rw[F.js];exact abK.2 h2);obtain⟨x,hx,hxj⟩:=abL.1 this;exact⟨x,hx,hxj⟩
     ·exact F.Jq A1 r A3 e3 ed hed hb
    ·intro A1 x A2 z A3 e;have e':A++[y]=(A1++x::A2)++z::A3:=by rw[e];simp
     rcases qP e' with⟨_,e1,rfl⟩|⟨A4,_,e3⟩
     ·have hxm:x∈A:=(by rw[<- e1];simp);obtain⟨hpm,hkx,hrx⟩:=hrp x hxm;simp only[aaM,aa8]at hpair hslots;rcases hslots (x.j,x.o) (abL.2 ⟨x,by simpa using hxm,rfl⟩) with h2|h2
      ·rw[N.hj];exact .inl (jx hm ho h2)
      ·rcases hpair _ hpm with h3|h3
       ·rw[N.hj];exact .inl (jx hm ho h3)
       ·by_cases hbit:(xe ms o).testBit x.j=true
        ·rw[N.hj];exact .inl (jx hm ho hbit)
        ·simp only[acz]at hbit;exact .inr (LD hxm hrx N hkx hkz (by rw[N.y7];exact h2) hbit h3)
     ·exact F.apart A1 x A2 z A4 (by rw[e3];simp)
   have hfl:∀e,e∈fl->e∈Iw P r o i fl:=λe he=>by
    unfold Iw;split <;> simp[he]
   have hrp1:∀x,x∈A++[y]->(x.j,jo q x.o)∈(ms.length,jo q o)::prev/\jo q x.o<=3/\RZ P q ops (Iw P r o i fl) x:=by
    intro x hx;rcases aa2.1 hx with hx|hx
    ·obtain⟨h1,h2,h3⟩:=hrp x hx;exact⟨List.mem_cons_of_mem _ h1,h2,h3.mono hfl⟩
    ·simp only[abp]at hx;subst hx;exact⟨by rw[N.hj,N.y7,hml];simp,by rw[N.y7];exact hkz,N.rz⟩
   obtain⟨A',r',s',h',F',l',k',f',a'⟩:=OK hro0 os (i+1) (ms++[xe ms o]) (A++[y]) _ _ r1 s1 h1 hl' hlt (Ky hm hml ho) (by simp[hml]) F1 hrp1
    (by simpa [N.hj,N.y7] using hst) hkd hl1 hk
   exact⟨A',r',s',h',F',l',k',(Fr.put hp1).left.trans f'.right,N.af.trans a'⟩
  have slot:∀{v:aaa} {h1:za},(match r.put o.dst v with|some s1=>Iu P ops os (i+1) (ms++[xe ms o]) (Iw P r o i fl) s1 h1 K|none=>False)->∀d,o.dst=some d->d<s.size:=by
   intro v h1 hk d hd;split at hk
   case h_2=>exact hk.elim
   rename_i r1 hp;rw[hd]at hp;simp only[Env.put]at hp;obtain⟨hb,_⟩:=zA hp;rw[<- hle1.size];simpa [aa3] using hb
  have hron:h.ro<=h.next:=by rw[F.ro,F.next];exact hro0
  have dstok:∀{K':aaa->za->Prop},Re P r o (xe ms o) fl h K'->(∀v h1,K' v h1->∀d,o.dst=some d->d<s.size)->∀d,o.dst=some d->d<s.size:=by
   intro K' hk hs;unfold Re at hk;split at hk
   ·obtain⟨v,_,hK⟩:=kI (fB hk).1;exact hs _ _ hK
   ·obtain⟨v,_,hK⟩:=kI (fB hk).1;exact hs _ _ hK
   ·obtain⟨_,_,v,_,_,hK⟩:=hk;exact hs _ _ hK
   ·obtain⟨v,u,h',_,_,hK⟩:=Yr hle1 hk;exact hs v h' hK
  simp only[Iu]at hk;split at hk
  ·rename_i hg;obtain⟨v,u,h1,y,hv,hK,N⟩:=DI (q:=q) F hron ho (dstok hk (λv h1 hK=>slot hK)) (by simp only[yP,hg]) hkz hle1 hk;exact go v u h1 y hv N hK
  ·rename_i j want hg;split at hk
   ·exact hk.elim
   ·rename_i d hdst;unfold GD at hk;split at hk
    ·rename_i b hb
     have hs:s.get d=.bool b:=by
      rcases hle1.get d with e|e
      ·rw[hb]at e;cases e
      ·rw[<- e,hb]
     have haw:yP ops s o=(b == want):=(by simp only[yP,hg,hdst,hs]);by_cases hbw:b=want
     ·have hk:=hk.1 hbw;obtain⟨v,u,h1,y,hv,hK,N⟩:=DI (q:=q) F hron ho (dstok hk (λv h1 hK=>slot hK)) (by rw[haw,hbw];simp) hkz hle1 hk;exact go v u h1 y hv N hK
     ·have hk:=hk.2 hbw;obtain⟨y,N⟩:=la (q:=q) (m:=xe ms o) (fl:=fl) (fl1:=Iw P r o i fl) F ho (slot hk) (u:=undef) (.inl ⟨by rw[haw];simpa using hbw,rfl,rfl⟩) (λ_ _ _=>by rw[haw];simpa using hbw);exact go undef undef h y (.inr rfl) N hk
    ·exact hk.elim
    ·rename_i n1 n2
     have hs:s.get d=r.get d:=by
      rcases hle1.get d with e|e
      ·obtain⟨k,p,q,e2⟩:=Uu e;exact absurd e2 (n2 k p q)
      ·exact e.symm
     have haw:yP ops s o=false:=by
      simp only[yP,hg,hdst,hs]
     obtain⟨y,N⟩:=la (q:=q) (m:=xe ms o) (fl:=fl) (fl1:=Iw P r o i fl) F ho (slot hk) (u:=undef) (.inl ⟨haw,rfl,rfl⟩) (λ_ _ _=>haw);exact go undef undef h y (.inr rfl) N hk
theorem TB{q:FuncId->Nat}(hmix:P.follows .mixedOrders=true):gD P (NM P q):=by
 intro ops r s h K rd id hle wf hk;unfold NM at hk;cases hc:Tq q ops with
 |false=>rw[hc]at hk;exact hk.elim
 |true=>
  rw[hc]at hk;have hk:Iu P ops ops.toList 0 [] [] r h K:=hk;simp only[Tq,aah]at hc
  have F0:UC P ops s h ([]:List yU) 0 s h:=⟨rfl,λt=>rfl,rfl,λb=>rfl,rfl,rfl,wf.1,
   λA1 r A2 e=>by simp at e,λA1 r A2 e=>by simp at e,λA1 x A2 y A3 e=>by simp at e⟩
  obtain⟨A,r',s',h',F,hl',hK,hf,af⟩:=OK (q:=q) wf.2 ops.toList 0 [] [] [] [] r s h rfl (aaX _) (λk q hq=>by simp at hq) rfl F0 (λx e=>by simp at e) hc.1 hc.2 hle hk
  have V:WD (PW P ops) P ops s h A:=⟨by rw[F.js];exact List.nodup_range,λi hi=>by
    have:i∈A.map (·.j):=(by rw[F.js];exact abK.2 hi);obtain⟨r,hr,hj⟩:=abL.1 this;exact⟨r,hr,hj⟩,F.told,F.Jq,F.apart⟩
  exact⟨r',s',h',hl',hK,hf,af,BU hmix V F.env F.size F.heap F.ro (by rw[F.next];exact aam _) (λx hx=>Of F x hx) F.next (Q:=λe s1 h1=>e=.normal/\s1=s'/\h1=h') ⟨rfl,rfl,rfl⟩⟩
def Tz(P:Program)(q:FuncId->Nat)(ops:Array Oper)(s:Env)(h:za)(K:Env->za->Prop):Prop:=sel (calm q ops) (wpD P q ops ops.toList 0 [] [] s h K) (sel (Di q ops) (Hn P q ops s h K) (NM P q ops s h K))
theorem TA{q:FuncId->Nat}(hmix:P.follows .mixedOrders=true):gD P (Tz P q):=by
 intro ops r s h K rd id hle wf hk;unfold Tz at hk;cases hc:calm q ops with
 |true=>
  rw[hc]at hk;exact Hp hmix ops r s h K rd id hle wf (by unfold bJ;rw[hc];exact hk)
 |false=>
  rw[hc]at hk;have hk:sel (Di q ops) (Hn P q ops r h K) (NM P q ops r h K):=hk;cases hv:Di q ops with
  |true=>rw[hv]at hk;exact Ho hmix ops r s h K rd id hle wf hk
  |false=>rw[hv]at hk;exact TB hmix ops r s h K rd id hle wf hk
theorem eG{q:FuncId->Nat}(hmix:P.follows .mixedOrders=true){n:Nat}{f:FuncId}{args:List aaa}{h:za}{R:aaa->za->Prop}(hk:Rx P (Tz P q) n f args h R):DC P f args h R:=nz (TA hmix) hk
end
end Go.Ai
