import Derived.Test.YtpjjmindjodknaaGreatTD
set_option linter.unusedVariables false
set_option linter.unusedSimpArgs false
set_option maxRecDepth 100000
namespace Go.Ai
noncomputable section
variable {P:Program}
@[congr] theorem TU {f:aaa} {f':Unit->aaa} {l l':List aaa} {h h':za} {K:aaa->za->Prop} (e1:∀u:Unit,(f,u).1=f' u) (e2:l=l') (e3:h=h'):zP P f l h K=zP P (f' ()) l' h' K:=by rw[<- e1,e2,e3]
@[congr] theorem TT {g:FuncId} {l l':List aaa} {h:za} {h':Unit->za} {K:aaa->Prop} (e2:l=l') (e3:∀u:Unit,(h,u).1=h' u):qu P g l h K=qu P g l' (h' ()) K:=by rw[e2,<- e3]
@[congr] theorem TV {g:FuncId} {l l':List aaa} {h:za} {h':Unit->za} {K:aaa->za->Prop} (e2:l=l') (e3:∀u:Unit,(h,u).1=h' u):DX P g l h K=DX P g l' (h' ()) K:=by rw[e2,<- e3]
@[congr] theorem TS {g:FuncId} {l l':List aaa} {h:za} {h':Unit->za} {K:aaa->za->Prop} (e2:l=l') (e3:∀u:Unit,(h,u).1=h' u):i5 P g l h K=i5 P g l' (h' ()) K:=by rw[e2,<- e3]
@[congr] theorem zcr {step:List aaa->za->(List aaa->za->Prop)->Prop} {vs vs':List aaa} {h:za} {h':Unit->za} (e1:vs=vs') (e2:∀u:Unit,(h,u).1=h' u):LP step vs h=LP step vs' (h' ()):=by rw[e1,<- e2]
@[congr] theorem zcb {α:Type} {x:Option α} {y:Unit->Option α} {K:α->Prop} (h:∀u:Unit,(x,u).1=y u):opt x K=opt (y ()) K:=by rw[<- h]
@[congr] theorem za0 {x:Option (aaa×za)} {y:Unit->Option (aaa×za)} {K:aaa->za->Prop} (h:∀u:Unit,(x,u).1=y u):zD x K=zD (y ()) K:=by rw[<- h]
@[congr] theorem zcq {g:aaa} {g':Unit->aaa} {want:Bool} {A:(aaa->za->Prop)->Prop} {K:aaa->za->Prop} {h:za} (e:∀u:Unit,(g,u).1=g' u):GD g want A K h=GD (g' ()) want A K h:=by rw[<- e]
@[congr] theorem zcp {g:aaa} {g':Unit->aaa} {A B:(List aaa->za->Prop)->Prop} {J:List aaa->za->Prop} (e:∀u:Unit,(g,u).1=g' u):CD g A B J=CD (g' ()) A B J:=by rw[<- e]
end
noncomputable section
variable {P:Program}
def Fin(L:Nat)(K:aaa->za->Prop)(e:Ex)(h2:za):Prop := ∃A2,h2.get L=some (.loop A2)/\h2.ro<=L/\K (.bool (Xk e).isNone) (h2.set L (some (.loop (A2.left e))))
end
noncomputable section
variable {P:Program}
def fE(o:Option vl)(off n:Nat):Option (List aaa):=match o with
 |some (.cells c _)=>if off+n<=c.length then some ((c.drop off).take n) else none
 |_=>none
abbrev Lk:=yr->Option (Nat×Nat×Nat)
structure WO (lk:Lk) (ops:Array Oper) (x y:yr):Prop where
 d1:∀d,x.o.dst=some d->d∉y.o.looksAt ops/\y.o.dst≠some d
 d2:∀d,y.o.dst=some d->d∉x.o.looksAt ops
 b1:∀b,x.tc b=true->y.tc b=false/\(y.rd b=false \/ ∃off n,lk y=some (b,off,n)/\x.rd b=true/\fE (x.g'.get b) off n=fE (x.g.get b) off n)
 b2:∀b,y.tc b=true->x.rd b=false \/ ∃off n,lk x=some (b,off,n)/\y.rd b=true/\fE (y.g'.get b) off n=fE (y.g.get b) off n
structure MI (lk:Lk) (P:Program) (ops:Array Oper) (s0:Env) (h0:za) (A:List yr) (r:yr):Prop extends Told P ops s0 h0 A r where
 still:r.g.next=h0.next/\r.g'.next=h0.next
 look:∀b0 off n,lk r=some (b0,off,n)->r.rd b0=true/\(∀b,r.rd b=true->b=b0)/\(∀b,r.tc b=false) /\ ∀g:za,fE (g.get b0) off n=fE (r.g.get b0) off n->kO P ops r.s r.o g r.v g
structure Yp (lk:Lk) (P:Program) (ops:Array Oper) (s0:Env) (h0:za) (tr:List yr):Prop where
 nodup:(tr.map (·.j)).Nodup
 all:∀i,i<ops.size->∃r,r∈tr/\r.j=i
 told:∀A r B,tr=A++r::B->MI lk P ops s0 h0 A r
 Vc:∀A r B,tr=A++r::B->∀e,e∈r.o.after->Region.binds .any e=true->∃x,x∈A/\x.j=e.on
 apart:∀A x B y C,tr=A++x::(B++y::C)->Prec ops x.j y.j\/WO lk ops x y
section
variable {lk:Lk}
theorem HA{ops:Array Oper}{s0:Env}{h0:za}{tr:List yr}(V:Yp lk P ops s0 h0 tr){S:Nat->Bool}(hdown:∀i j,Prec ops i j->S j=true->S i=true){A B:List yr}{r:yr}(e:tr=A++r::B)
  (hready:∀i,Prec ops i r.j->S i=true) (hnot:S r.j=false) {p:yr->Bool} (hp:∀x,(x∈A->p x=true->Prec ops x.j r.j)/\(x∈B->p x=true->Prec ops r.j x.j)) :
  (A.filter (λx=>S x.j)).filter p=A.filter p/\(B.filter (λx=>S x.j)).filter p=[]:=by
 constructor
 ·rw[abP];apply abB;intro x hx;cases hpx:p x with
  |false=>simp
  |true=>rw[hready _ ((hp x).1 hx hpx)];rfl
 ·rw[abP,acj];intro x hx hc;simp only[aad]at hc;have:=hdown _ _ ((hp x).2 hx hc.1) hc.2;rw[hnot]at this;cases this
theorem Yp.order{ops:Array Oper}{s0:Env}{h0:za}{tr A B:List yr}{r:yr}(V:Yp lk P ops s0 h0 tr)(e:tr=A++r::B){p:yr->Bool}(hA:∀x,WO lk ops x r->p x=false)(hB:∀x,WO lk ops r x->p x=false) :
  ∀x,(x∈A->p x=true->Prec ops x.j r.j)/\(x∈B->p x=true->Prec ops r.j x.j):=by
 intro x
 constructor
 ·intro hx hpx;obtain⟨A1,A2,rfl⟩:=aaR hx;rcases V.apart A1 x A2 r B (by simp[e]) with h|h
  ·exact h
  ·rw[hA x h]at hpx;cases hpx
 ·intro hx hpx;obtain⟨B1,B2,rfl⟩:=aaR hx;rcases V.apart A r B1 x B2 e with h|h
  ·exact h
  ·rw[hB x h]at hpx;cases hpx
section
variable {ops:Array Oper}{s0:Env}{h0:za}{tr A B:List yr}{r:yr}{S:Nat->Bool}
theorem Uh(e:tr=A++r::B)(hnot:S r.j=false):tr.filter (λx=>S x.j)=A.filter (λx=>S x.j)++B.filter (λx=>S x.j):=by
 subst e;simp[hnot]
theorem i7(V:Yp lk P ops s0 h0 tr)(e:tr=A++r::B):tr.filter (λx=>qN S r.j x.j)=A.filter (λx=>S x.j)++r::B.filter (λx=>S x.j):=by
 have hA:A.filter (λx=>qN S r.j x.j)=A.filter (λx=>S x.j):=abB λx hx=>by simp[qN,WG V.nodup e (.inl hx)]
 have hB:B.filter (λx=>qN S r.j x.j)=B.filter (λx=>S x.j):=abB λx hx=>by simp[qN,WG V.nodup e (.inr hx)]
 rw[e,aaO,abL,hA,hB,aai (by simp[qN])]
theorem QP(V:Yp lk P ops s0 h0 tr)(hdown:∀i j,Prec ops i j->S j=true->S i=true)(e:tr=A++r::B)(hready:∀i,Prec ops i r.j->S i=true)(hnot:S r.j=false){p:yr->Bool}
  (hA:∀x,WO lk ops x r->p x=false) (hB:∀x,WO lk ops r x->p x=false):vr (tr.filter λx=>S x.j) p=vr A p:=by
 obtain⟨h1,h2⟩:=HA V hdown e hready hnot (V.order e hA hB);rw[vr,Uh e hnot,aaO,h1,h2,aa8];rfl
theorem VZ(V:Yp lk P ops s0 h0 tr)(hdown:∀i j,Prec ops i j->S j=true->S i=true)(e:tr=A++r::B)(hready:∀i,Prec ops i r.j->S i=true)(hnot:S r.j=false){p:yr->Bool}(hr:p r=true)
  (hA:∀x,WO lk ops x r->p x=false) (hB:∀x,WO lk ops r x->p x=false):vr (tr.filter λx=>qN S r.j x.j) p=some r:=by
 obtain⟨h1,h2⟩:=HA V hdown e hready hnot (V.order e hA hB);rw[vr,i7 V e,aaO,abL,aai hr,h1,h2];simp
theorem Yi(V:Yp lk P ops s0 h0 tr)(e:tr=A++r::B)(hnot:S r.j=false){p:yr->Bool}(hr:p r=false):vr (tr.filter λx=>qN S r.j x.j) p=vr (tr.filter λx=>S x.j) p:=by
 rw[vr,vr,i7 V e,Uh e hnot,aaO,abL,hr,aag (by simp),aaO]
theorem TW(V:Yp lk P ops s0 h0 tr)(hdown:∀i j,Prec ops i j->S j=true->S i=true)(e:tr=A++r::B)(hready:∀i,Prec ops i r.j->S i=true)(hnot:S r.j=false){b0 off n:Nat}(hlk:lk r=some (b0,off,n))(hrd:r.rd b0=true)(htc:r.tc b0=false) :
  fE (Yh (tr.filter λx=>S x.j) h0 b0) off n=fE (Yh A h0 b0) off n:=by
 have val:∀(l:List yr),Yh l h0 b0=match (l.filter λx=>x.tc b0).getLast? with|some r=>r.g'.get b0|none=>h0.get b0:=λl=>rfl
 have one:∀A1 x A2,tr=A1++x::A2->x.tc b0=true->(WO lk ops x r\/WO lk ops r x)->fE (x.g'.get b0) off n=fE (Yh A1 h0 b0) off n:=by
  intro A1 x A2 e1 hx hf;have D:=V.told A1 x A2 e1
  have key:x.rd b0=true/\fE (x.g'.get b0) off n=fE (x.g.get b0) off n:=by
   rcases hf with hf|hf
   ·rcases (hf.b1 b0 hx).2 with h1|⟨o1,n1,h1,h2,h3⟩
    ·rw[hrd]at h1;cases h1
    ·rw[hlk]at h1;cases h1;exact⟨h2,h3⟩
   ·rcases hf.b2 b0 hx with h1|⟨o1,n1,h1,h2,h3⟩
    ·rw[hrd]at h1;cases h1
    ·rw[hlk]at h1;cases h1;exact⟨h2,h3⟩
  rw[key.2,D.heap,aai key.1]
 let p:yr->Bool:=λx=>x.tc b0
 have ord:∀A1 x A2,tr=A1++x::A2->p x=true->∀A3 y A4,A1=A3++y::A4->p y=true->Prec ops y.j x.j:=by
  intro A1 x A2 e1 hx A3 y A4 e2 hy;subst e2;rcases V.apart A3 y A4 x A2 (by simpa using e1) with h|h
  ·exact h
  ·have:=(h.b1 b0 hy).1;rw[show x.tc b0=true from hx]at this;cases this
 have go:∀(C D:List yr),tr=C++D->(∀x,x∈C->p x=true->S x.j=false->WO lk ops x r)->fE (Yh (C.filter λx=>S x.j) h0 b0) off n=fE (Yh C h0 b0) off n:=by
  intro C
  induction hC:C.length generalizing C with
  |zero=>intro D _ _;rw[abC.1 hC];rfl
  |succ m ih=>
   intro D e1 hfree;rcases List.eq_nil_or_concat C with rfl|⟨C',x,rfl⟩
   ·cases hC
   simp only[List.concat_eq_append]at *
   have e2:tr=C'++x::D:=by rw[e1];simp
   have ih':=ih C' (by simpa using hC) (x::D) e2 λy hy=>hfree y (by simp[hy]);cases hp:p x with
   |false=>
    have h1:(C'++[x]).filter p=C'.filter p:=by rw[aaO];simp[hp]
    have h2:((C'++[x]).filter λy=>S y.j).filter p=(C'.filter λy=>S y.j).filter p:=by
     rw[aaO,aaO];cases hs:S x.j <;> simp[hs,hp]
    rw[val,val,show((C'++[x]).filter λx=>x.tc b0)=C'.filter p from h1,show(((C'++[x]).filter λy=>S y.j).filter λx=>x.tc b0)=(C'.filter λy=>S y.j).filter p from h2];rw[val,val]at ih';exact ih'
   |true=>
    have h1:(C'++[x]).filter p=C'.filter p++[x]:=(by rw[aaO];simp[hp]);cases hs:S x.j with
    |true=>
     have h2:((C'++[x]).filter λy=>S y.j).filter p=(C'.filter λy=>S y.j).filter p++[x]:=by
      rw[aaO,aaO];simp[hs,hp]
     rw[val,val,show((C'++[x]).filter λx=>x.tc b0)=C'.filter p++[x] from h1,show(((C'++[x]).filter λy=>S y.j).filter λx=>x.tc b0)=(C'.filter λy=>S y.j).filter p++[x] from h2];simp
    |false=>
     have h2:((C'++[x]).filter λy=>S y.j).filter p=(C'.filter λy=>S y.j).filter p:=by
      rw[aaO,aaO];simp[hs]
     have hx:=one C' x D e2 hp (.inl (hfree x (by simp) hp hs));rw[val ((C'++[x]).filter _),val (C'++[x]),show((C'++[x]).filter λx=>x.tc b0)=C'.filter p++[x] from h1,show(((C'++[x]).filter λy=>S y.j).filter λx=>x.tc b0)=(C'.filter λy=>S y.j).filter p from h2];rw[val]at ih';simp only[List.getLast?_append,List.getLast?_singleton,Option.some_or];rw[hx];exact ih'
 have back:∀(C D:List yr),B=C++D->fE (Yh (A.filter (λx=>S x.j)++C.filter (λx=>S x.j)) h0 b0) off n=fE (Yh (A.filter λx=>S x.j) h0 b0) off n:=by
  intro C
  induction hC:C.length generalizing C with
  |zero=>intro D _;rw[abC.1 hC];simp
  |succ m ih=>
   intro D e1;rcases List.eq_nil_or_concat C with rfl|⟨C',x,rfl⟩
   ·cases hC
   simp only[List.concat_eq_append]at *
   have e2:B=C'++x::D:=by rw[e1];simp
   have ih':=ih C' (by simpa using hC) (x::D) e2;cases hs:S x.j with
   |false=>rw[aaO];simpa [hs] using ih'
   |true=>
    cases hp:p x with
    |false=>
     have h2:((A.filter (λx=>S x.j)++(C'++[x]).filter λy=>S y.j).filter p)=(A.filter (λx=>S x.j)++C'.filter λy=>S y.j).filter p:=by
      rw[aaO C' [x]];simp[hs,hp]
     rw[val,show((A.filter (λx=>S x.j)++(C'++[x]).filter λy=>S y.j).filter λx=>x.tc b0)=_ from h2];rw[val]at ih';exact ih'
    |true=>
     have e3:tr=(A++r::C')++x::D:=by rw[e,e2];simp
     have hfr:WO lk ops r x:=by
      rcases V.apart A r C' x D (by rw[e,e2]) with h|h
      ·have:=hdown _ _ h hs;rw[hnot]at this;cases this
      ·exact h
     have hx:=one (A++r::C') x D e3 hp (.inr hfr)
     have h2:((A.filter (λx=>S x.j)++(C'++[x]).filter λy=>S y.j).filter p)=(A.filter (λx=>S x.j)++C'.filter λy=>S y.j).filter p++[x]:=by
      rw[aaO C' [x]];simp[hs,hp,aaO]
     rw[val,show((A.filter (λx=>S x.j)++(C'++[x]).filter λy=>S y.j).filter λx=>x.tc b0)=_ from h2];simp only[List.getLast?_append,List.getLast?_singleton,Option.some_or];rw[hx,<- ih']
     have h4:(A++r::C').filter p=(A.filter (λx=>S x.j)++C'.filter λy=>S y.j).filter p:=by
      have all:∀y,y∈A++r::C'->p y=true->S y.j=true:=by
       intro y hy hpy;obtain⟨Y1,Y2,hY⟩:=aaR hy;exact hdown _ _ (ord (A++r::C') x D e3 hp Y1 y Y2 hY hpy) hs
      rw[<- aaO,abP,aaO,aaO,abL,show p r=false from htc];simp only[aa9,ab1]
      congr 1
      ·apply abB;intro y hy;cases hpy:p y with
       |false=>simp
       |true=>rw[all y (by simp[hy]) hpy];rfl
      ·apply abB;intro y hy;cases hpy:p y with
       |false=>simp
       |true=>rw[all y (by simp[hy]) hpy];rfl
     rw[val,val,show((A++r::C').filter λx=>x.tc b0)=_ from h4]
 have hA:=go A (r::B) e λx hx hpx hsx=>by
  obtain⟨A1,A2,rfl⟩:=aaR hx;rcases V.apart A1 x A2 r B (by simp[e]) with h|h
  ·have:=hready _ h;rw[hsx]at this;cases this
  ·exact h
 rw[Uh e hnot,back B [] (by simp),hA]
theorem FZ(hro0:h0.ro<=h0.next)(V:Yp lk P ops s0 h0 tr)(hdown:∀i j,Prec ops i j->S j=true->S i=true)(e:tr=A++r::B)(hready:∀i,Prec ops i r.j->S i=true)(hnot:S r.j=false)
  {N:Nat} (hN:∀x,x∈tr->x.g'.next<=N) (hlk:lk r=none) {ρ0 ρ:xo} {w0 w:World} {tm:Array aaa} (I:aB P tr s0 h0 N ρ0 w0 S ρ w tm) (ds:List Deferred) (rest:List Nat) (b:Frame) (k:List Item) (cs:List Frame) :
  ∃ρ' w' tm',aB P tr s0 h0 N ρ0 w0 (qN S r.j) ρ' w' tm'/\Steps P (lone (vB b tm ds (.inRegion ops (r.j::rest)::k)) cs w) (lone (vB b tm' ds (.inRegion ops rest::k)) cs w'):=by
 have D:=V.told A r B e;have hrm:r∈tr:=by rw[e];simp
 have rdA:∀x,WO lk ops x r->∀bb,x.tc bb=true->r.rd bb=true->False:=λx hx bb hw hb=>by
  rcases (hx.b1 bb hw).2 with h|⟨_,_,h,_⟩
  ·rw[hb]at h;cases h
  ·rw[hlk]at h;cases h
 have rdB:∀x,WO lk ops r x->∀bb,x.tc bb=true->r.rd bb=true->False:=λx hx bb hw hb=>by
  rcases hx.b2 bb hw with h|⟨_,_,h,_⟩
  ·rw[hb]at h;cases h
  ·rw[hlk]at h;cases h
 have lookEnv:∀t,t∈r.o.looksAt ops->vr (tr.filter λx=>S x.j) (Uo t)=vr A (Uo t):=λt ht=>
  QP V hdown e hready hnot (λx hx=>by
   cases hw:Uo t x with
   |false=>rfl
   |true=>exact absurd ht (hx.d1 t (aa1 hw)).1) (λx hx=>by
   cases hw:Uo t x with
   |false=>rfl
   |true=>exact absurd ht (hx.d2 t (aa1 hw)))
 have lookHeap:∀bb,r.rd bb=true->vr (tr.filter λx=>S x.j) (λx=>x.tc bb)=vr A (λx=>x.tc bb):=λbb hb=>
  QP V hdown e hready hnot (λx hx=>by
   cases hw:x.tc bb with
   |false=>rfl
   |true=>exact(rdA x hx bb hw hb).elim) (λx hx=>by
   cases hw:x.tc bb with
   |false=>rfl
   |true=>exact(rdB x hx bb hw hb).elim)
 have hpVeq:∀bb,r.rd bb=true->Yh (tr.filter λx=>S x.j) h0 bb=r.g.get bb:=λbb hb=>by
  rw[D.heap,aai hb];simp only[Yh,lookHeap bb hb]
 have hpNle:∀bb,r.rd bb=true->gS (tr.filter λx=>S x.j) h0.next bb<=r.g.next:=λbb hb=>by
  simp only[gS,lookHeap bb hb];split
  ·rename_i x hx;exact D.nA x (Xl hx).1
  ·exact D.n0
 have galive:∀bb o,r.g.get bb=some o->r.rd bb=true/\Yh (tr.filter λx=>S x.j) h0 bb=some o:=λbb o hg=>by
  rw[D.heap]at hg;cases hb:r.rd bb with
  |false=>rw[hb]at hg;simp at hg
  |true=>exact⟨rfl,by rw[hpVeq bb hb,D.heap];exact hg⟩
 let ρr:=ρ.cut r.g.next
 have hrel:Rel P ρr r.g w:=by
  refine⟨rfl,?_,?_,?_,?_,by rw[D.ro];exact I.lh,I.gl⟩
  ·have h1:=D.ro;have h2:=D.n0;show r.g.ro<=r.g.next;omega
  ·intro bb o hg;obtain⟨h1,h2⟩:=galive bb o hg;exact aap (I.heap bb o h2).1 (hpNle bb h1)
  ·intro bb o hg;obtain⟨h1,h2⟩:=galive bb _ hg;obtain⟨_,pl,hp,hc⟩:=I.heap bb o h2;refine⟨pl,hp,?_⟩;rw[D.ro];exact hc.K8 (hpNle bb h1)
  ·intro b1 b2 o1 o2 p1 p2 g1 g2;exact I.inj b1 b2 o1 o2 p1 p2 (galive b1 o1 g1).2 (galive b2 o2 g2).2
 have hlook:∀t,t∈r.o.looksAt ops->zH ρr (r.s.get t) (tm.getD t undef):=by
  intro t ht;have h1:=I.env t;have e1:Uf (tr.filter λx=>S x.j) s0 t=r.s.get t:=by rw[D.env t];simp only[Uf,lookEnv t ht]
  have e2:eG (tr.filter λx=>S x.j) h0.next t<=r.g.next:=by
   simp only[eG,lookEnv t ht];split
   ·rename_i x hx;exact D.nA x (Xl hx).1
   ·exact D.n0
  rw[e1]at h1;exact h1.K8 e2
 obtain⟨v',w',ρq,st,hv,sx⟩:=Jm D.op D.sem hrel (D.size.trans I.size) hlook ds rest b k cs
 let ρ':xo:={next:=N,m:=λbb=>if r.g.next<=bb/\bb<r.g'.next then ρq.m bb else ρ.m bb}
 have qnext:ρq.next=r.g'.next:=st.rel.next;have qlow:∀bb,bb<r.g.next->ρq.m bb=ρ.m bb:=λbb hb=>st.le.2 bb hb
 have pq:∀bb,bb<r.g'.next->ρ'.m bb=ρq.m bb:=by
  intro bb hb;by_cases hl:r.g.next<=bb
  ·exact aai ⟨hl,hb⟩
  ·rw[show ρ'.m bb=ρ.m bb from aag (by omega),qlow bb (by omega)]
 have rfresh:=I.fresh r hrm hnot
 have pext:∀bb pl,ρ.m bb=some pl->ρ'.m bb=some pl:=by
  intro bb pl hm
  rw[show ρ'.m bb=ρ.m bb from aag (by
   rintro⟨h1,h2⟩;rw[rfresh bb h1 h2]at hm;cases hm)]
  exact hm
 have hn1N:r.g'.next<=N:=hN r hrm
 have notMine:∀bb o pl,Yh (tr.filter λx=>S x.j) h0 bb=some o->ρ.m bb=some pl->r.rd bb=false->¬mq ρr r.g pl.c:=by
  rintro bb o pl hg hm hb ⟨b1,o1,p1,g1,_,m1,e1⟩;obtain⟨k1,k2⟩:=galive b1 o1 g1;have:=I.inj b1 bb o1 o p1 pl k2 hg m1 hm e1;subst this;rw[hb]at k1;cases k1
 have hpVnew:∀bb,Yh (tr.filter λx=>qN S r.j x.j) h0 bb=if r.tc bb=true then r.g'.get bb else Yh (tr.filter λx=>S x.j) h0 bb:=by
  intro bb;cases ht:r.tc bb with
  |true=>
   rw[aai rfl];simp only[Yh]
   rw[VZ V hdown e hready hnot ht (λx hx=>by
    cases hw:x.tc bb with
    |false=>rfl
    |true=>have:=(hx.b1 bb hw).1;rw[ht]at this;cases this) (λx hx=>by
    cases hw:x.tc bb with
    |false=>rfl
    |true=>have:=(hx.b1 bb ht).1;rw[hw]at this;cases this)]
  |false=>
   rw[aag (by simp)];simp only[Yh];rw[Yi V e hnot (p:=λx=>x.tc bb) ht]
 have hpNnew:∀bb,gS (tr.filter λx=>qN S r.j x.j) h0.next bb=if r.tc bb=true then r.g'.next else gS (tr.filter λx=>S x.j) h0.next bb:=by
  intro bb;cases ht:r.tc bb with
  |true=>
   rw[aai rfl];simp only[gS]
   rw[VZ V hdown e hready hnot ht (λx hx=>by
    cases hw:x.tc bb with
    |false=>rfl
    |true=>have:=(hx.b1 bb hw).1;rw[ht]at this;cases this) (λx hx=>by
    cases hw:x.tc bb with
    |false=>rfl
    |true=>have:=(hx.b1 bb ht).1;rw[hw]at this;cases this)]
  |false=>
   rw[aag (by simp)];simp only[gS];rw[Yi V e hnot (p:=λx=>x.tc bb) ht]
 have cases':∀bb o,Yh (tr.filter λx=>qN S r.j x.j) h0 bb=some o->(r.tc bb=true/\r.g'.get bb=some o)\/(r.tc bb=false/\Yh (tr.filter λx=>S x.j) h0 bb=some o):=by
  intro bb o h;rw[hpVnew]at h;cases ht:r.tc bb with
  |true=>rw[ht,aai rfl]at h;exact .inl ⟨rfl,h⟩
  |false=>rw[ht,aag (by simp)]at h;exact .inr ⟨rfl,h⟩
 refine⟨ρ',w',qo tm r.o.dst v',⟨rfl,?_,?_,?_,?_,?_,?_,st.os.trans I.os,st.tape.trans I.tape,st.output.trans I.output,aaV I.bu st.size,?_,?_,I.lh,λb pl hb hm=>I.gl b pl hb (by
  rw[show ρ'.m b=ρ.m b from aag (by have:=D.n0;have:=I.lh;omega)]at hm;exact hm)⟩,sx⟩
 ·intro bb hb;rw[show ρ'.m bb=ρ.m bb from aag (by have:=D.n0;omega)];exact I.old bb hb
 ·cases r.o.dst with
  |none=>exact I.size
  |some d=>simp only[qo,Array.size_setIfInBounds];exact I.size
 ·
  intro t;by_cases ht:r.o.dst=some t
  ·have e1:vr (tr.filter λx=>qN S r.j x.j) (Uo t)=some r:=VZ V hdown e hready hnot (p:=Uo t) (by simp[Uo,ht]) (λx hx=>by
    cases hw:Uo t x with
    |false=>rfl
    |true=>exact absurd ht (hx.d1 t (aa1 hw)).2) (λx hx=>by
    cases hw:Uo t x with
    |false=>rfl
    |true=>exact absurd (aa1 hw) (hx.d1 t ht).2)
   simp only[Uf,eG,e1]
   have e2:(qo tm r.o.dst v').getD t undef=v':=by
    have hlt:t<tm.size:=(by rw[<- I.size];exact D.put t ht);rw[ht];simp[qo,aaw,hlt]
   rw[e2];refine hv.ext (by show ρq.next<=r.g'.next;rw[qnext];exact aaj _) (λbb pl hb hm=>?_);show ρ'.m bb=some pl;rw[pq bb (by rw[<- qnext];exact hb)];exact hm
  ·have e1:vr (tr.filter λx=>qN S r.j x.j) (Uo t)=vr (tr.filter λx=>S x.j) (Uo t):=Yi V e hnot (p:=Uo t) (by simp[Uo,ht])
   have e2:(qo tm r.o.dst v').getD t undef=tm.getD t undef:=by
    cases hd:r.o.dst with
    |none=>rfl
    |some d=>
     have:d≠t:=λh=>ht (by rw[hd,h]);simp[qo,aaw,this]
   have h1:=I.env t;simp only[Uf,eG]at h1 ⊢;rw[e1,e2];exact h1.oV (ρ':=ρ') pext
 ·
  intro bb o hg;rcases cases' bb _ hg with⟨ht,hg'⟩|⟨ht,hg'⟩
  ·rw[hpNnew,aai ht];obtain⟨pl,hp,hc⟩:=st.rel.ok bb o hg';have hlt:=st.rel.Ko bb _ hg';refine⟨hlt,pl,by rw[pq bb hlt];exact hp,?_⟩;have hro:r.g'.ro=h0.ro:=st.ro.trans D.ro;rw[hro]at hc;exact hc.ext (by show ρq.next<=r.g'.next;rw[qnext];exact aaj _) (λb2 p2 hb hm=>by show ρ'.m b2=some p2;rw[pq b2 (by rw[<- qnext];exact hb)];exact hm)
  ·rw[hpNnew,ht,aag (by simp)];obtain⟨hlt,pl,hp,hc⟩:=I.heap bb o hg';refine⟨hlt,pl,pext bb pl hp,?_⟩
   have hdone:vS P (ρ.cut (gS (tr.filter λx=>S x.j) h0.next bb)) (decide (h0.ro<=bb)) o pl w':=by
    cases hb:r.rd bb with
    |true=>
     have hgg:r.g'.get bb=some o:=(by rw[D.tc2 bb ht,<- hpVeq bb hb];exact hg');obtain⟨p2,hp2,hc2⟩:=st.rel.ok bb o hgg;have hbl:bb<r.g.next:=aap hlt (hpNle bb hb);rw[qlow bb hbl,hp]at hp2;cases hp2;have hro:r.g'.ro=h0.ro:=st.ro.trans D.ro;rw[hro]at hc2;exact vS.down (ρ:=ρ.cut (gS (tr.filter λx=>S x.j) h0.next bb)) (ρ2:=ρq) (λb2 hb2=>qlow b2 (aap hb2 (hpNle bb hb))) hc hc2
    |false=>exact hc.other (st.frame pl.c hc.lt (notMine bb _ pl hg' hp hb))
   exact hdone.oV (ρ':=ρ') pext
 ·
  have key:∀b1 b2 o1 o2 p1 p2,r.tc b1=true->r.g'.get b1=some o1->r.tc b2=false->Yh (tr.filter λx=>S x.j) h0 b2=some o2->ρ'.m b1=some p1->ρ'.m b2=some p2->p1.c=p2.c->b1=b2:=by
   intro b1 b2 o1 o2 p1 p2 t1 g1 t2 g2 m1 m2 ec;obtain⟨hlt2,q2,hq2,hc2⟩:=I.heap b2 o2 g2;rw[pext b2 q2 hq2]at m2;cases m2;have hl1:=st.rel.Ko b1 o1 g1;rw[pq b1 hl1]at m1;cases hb2:r.rd b2 with
   |true=>
    have hgg:r.g'.get b2=some o2:=(by rw[D.tc2 b2 t2,<- hpVeq b2 hb2];exact g2);have hbl:b2<r.g.next:=aap hlt2 (hpNle b2 hb2);exact st.rel.inj b1 b2 o1 _ p1 p2 g1 hgg m1 (by rw[qlow b2 hbl];exact hq2) ec
   |false=>
    by_cases hw:h0.ro<=b1
    ·have hM:mq ρq r.g' p1.c:=⟨b1,o1,p1,g1,by rw[st.ro,D.ro];exact hw,m1,rfl⟩;have hlt:p1.c<w.heap.size:=by rw[ec];exact hc2.lt
     have:=st.l9 p1.c hlt hM;rw[ec]at this;exact absurd this (notMine b2 _ p2 g2 hq2 hb2)
    ·have hb1:b1<r.g.next:=(by have:=D.n0;omega);have hne:=D.tc3 b1 o1 t1 hb1 g1;obtain⟨o1',ho1'⟩:∃o,r.g.get b1=some o:=by cases hh:r.g.get b1 with|none=>exact absurd hh hne|some o=>exact⟨o,rfl⟩
     rw[qlow b1 hb1]at m1;exact I.inj b1 b2 o1' _ p1 p2 (galive b1 o1' ho1').2 g2 m1 hq2 ec
  intro b1 b2 o1 o2 p1 p2 g1 g2 m1 m2 ec;rcases cases' b1 o1 g1 with⟨t1,k1⟩|⟨t1,k1⟩ <;> rcases cases' b2 o2 g2 with⟨t2,k2⟩|⟨t2,k2⟩
  ·have l1:=st.rel.Ko b1 o1 k1;have l2:=st.rel.Ko b2 o2 k2;rw[pq b1 l1]at m1;rw[pq b2 l2]at m2;exact st.rel.inj b1 b2 o1 o2 p1 p2 k1 k2 m1 m2 ec
  ·exact key b1 b2 o1 o2 p1 p2 t1 k1 t2 k2 m1 m2 ec
  ·exact(key b2 b1 o2 o1 p2 p1 t2 k2 t1 k1 m2 m1 ec.symm).symm
  ·obtain⟨_,q1,hq1,_⟩:=I.heap b1 o1 k1;obtain⟨_,q2,hq2,_⟩:=I.heap b2 o2 k2;rw[pext b1 q1 hq1]at m1;rw[pext b2 q2 hq2]at m2;cases m1;cases m2;exact I.inj b1 b2 _ _ p1 p2 k1 k2 hq1 hq2 ec
 ·
  intro x hx hS bb h1 h2;simp only[qN,aba,aam]at hS;have h3:=I.fresh x hx hS.1 bb h1 h2;have hne:x≠r:=λh=>hS.2 (by rw[h])
  have hdis:¬(r.g.next<=bb/\bb<r.g'.next):=by
   rw[e]at hx;rcases aaG.1 hx with hxA|hxB
   ·have:=D.nA x hxA;omega
   ·rcases aaP.1 hxB with hxr|hxB
    ·exact absurd hxr hne
    ·obtain⟨B1,B2,rfl⟩:=aaR hxB;have:=(V.told (A++r::B1) x B2 (by simp[e])).nA r (by simp);omega
  rw[show ρ'.m bb=ρ.m bb from aag hdis];exact h3
 ·intro c hc hn
  rw[st.frame c (aap hc I.bu) (by
   rintro⟨b1,o1,p1,g1,hro1,m1,rfl⟩;exact hn (I.l9 b1 o1 p1 (galive b1 o1 g1).2 (by rw[<- D.ro];exact hro1) m1 hc))]
  exact I.frame c hc hn
 ·intro bb o pl hg hro hm hc;rcases cases' bb o hg with⟨ht,hg'⟩|⟨ht,hg'⟩
  ·rw[pq bb (st.rel.Ko bb o hg')]at hm;obtain⟨b1,o1,p1,g1,hro1,m1,e1⟩:=st.l9 pl.c (aap hc I.bu) ⟨bb,o,pl,hg',by rw[st.ro,D.ro];exact hro,hm,rfl⟩;rw[<- e1];exact I.l9 b1 o1 p1 (galive b1 o1 g1).2 (by rw[<- D.ro];exact hro1) m1 (by rw[e1];exact hc)
  ·obtain⟨_,q,hq,_⟩:=I.heap bb o hg';rw[pext bb q hq]at hm;cases hm;exact I.l9 bb _ pl hg' hro hq hc
theorem FY(hro0:h0.ro<=h0.next)(V:Yp lk P ops s0 h0 tr)(hdown:∀i j,Prec ops i j->S j=true->S i=true)(e:tr=A++r::B)(hready:∀i,Prec ops i r.j->S i=true)(hnot:S r.j=false)
  {N:Nat} (hN:∀x,x∈tr->x.g'.next<=N) (hNN:N=h0.next) {b0 off n:Nat} (hlk:lk r=some (b0,off,n)) {ρ0 ρ:xo} {w0 w:World} {tm:Array aaa} (I:aB P tr s0 h0 N ρ0 w0 S ρ w tm) (ds:List Deferred) (rest:List Nat) (b:Frame) (k:List Item) (cs:List Frame) :
  ∃ρ' w' tm',aB P tr s0 h0 N ρ0 w0 (qN S r.j) ρ' w' tm'/\Steps P (lone (vB b tm ds (.inRegion ops (r.j::rest)::k)) cs w) (lone (vB b tm' ds (.inRegion ops rest::k)) cs w'):=by
 have D:=V.told A r B e;have hrm:r∈tr:=by rw[e];simp
 obtain⟨l1,l2,l3,l4⟩:=D.look b0 off n hlk;have hNr:r.g.next=N:=by rw[D.still.1,hNN]
 have hNr':r.g'.next=N:=by rw[D.still.2,hNN]
 have hcut:ρ.cut N=ρ:=by have:=I.next;cases ρ;simp only at this;subst this;rfl
 have lookEnv:∀t,t∈r.o.looksAt ops->vr (tr.filter λx=>S x.j) (Uo t)=vr A (Uo t):=λt ht=>
  QP V hdown e hready hnot (λx hx=>by
   cases hw:Uo t x with
   |false=>rfl
   |true=>exact absurd ht (hx.d1 t (aa1 hw)).1) (λx hx=>by
   cases hw:Uo t x with
   |false=>rfl
   |true=>exact absurd ht (hx.d2 t (aa1 hw)))
 have lastn:∀(p:yr->Bool) x,vr (tr.filter λx=>S x.j) p=some x->x.g'.next<=N:=λp x hx=>hN x (abM.1 (Xl hx).1).1
 have hpNle:∀bb,gS (tr.filter λx=>S x.j) h0.next bb<=N:=λbb=>by
  simp only[gS];split
  ·rename_i x hx;exact lastn _ x hx
  ·omega
 let g1:za:=r.g.set b0 (Yh (tr.filter λx=>S x.j) h0 b0)
 have g1get:∀bb o,g1.get bb=some o->bb=b0/\Yh (tr.filter λx=>S x.j) h0 b0=some o:=λbb o hg=>by
  show bb=b0/\_;have hg:(r.g.set b0 (Yh (tr.filter λx=>S x.j) h0 b0)).get bb=some o:=hg;rw[za.yy]at hg;split at hg
  ·rename_i q;exact⟨q,hg⟩
  ·rw[D.heap]at hg;cases hb:r.rd bb with
   |false=>rw[hb]at hg;simp at hg
   |true=>rename_i q;exact absurd (l2 bb hb) q
 have hrel:Rel P ρ g1 w:=by
  refine⟨by rw[I.next];exact hNr.symm,by have h1:=D.ro;have h2:=D.n0;show r.g.ro<=r.g.next;omega,λbb o hg=>?_,λbb o hg=>?_,λb1 b2 o1 o2 p1 p2 q1 q2 _ _ _=>?_,by show _<=r.g.ro;rw[D.ro];exact I.lh,I.gl⟩
  ·obtain⟨rfl,h2⟩:=g1get bb o hg;have:=(I.heap bb o h2).1;have:=hpNle bb;show bb<r.g.next;omega
  ·obtain⟨rfl,h2⟩:=g1get bb o hg;obtain⟨_,pl,hp,hc⟩:=I.heap bb o h2;refine⟨pl,hp,?_⟩;have hc:=hc.K8 (hpNle bb);rw[hcut]at hc;show vS P ρ (decide (r.g.ro<=bb)) o pl w;rw[D.ro];exact hc
  ·rw[(g1get b1 o1 q1).1,(g1get b2 o2 q2).1]
 have hsem:kO P ops r.s r.o g1.lock r.v g1.lock:=l4 g1.lock (by
  show fE ((r.g.set b0 (Yh (tr.filter λx=>S x.j) h0 b0)).get b0) off n=_;rw[za.yy,aai rfl,TW V hdown e hready hnot hlk l1 (l3 b0),D.heap,aai l1])
 have hlook:∀t,t∈r.o.looksAt ops->zH ρ (r.s.get t) (tm.getD t undef):=by
  intro t ht;have h1:=I.env t;have e1:Uf (tr.filter λx=>S x.j) s0 t=r.s.get t:=by rw[D.env t];simp only[Uf,lookEnv t ht]
  rw[e1]at h1
  have h1:=h1.K8 (m:=N) (by
   simp only[eG];split
   ·rename_i x hx;exact lastn _ x hx
   ·omega)
  rw[hcut]at h1;exact h1
 obtain⟨v',w',ρq,st,hv,sx⟩:=Jm D.op hsem hrel.lock (D.size.trans I.size) hlook ds rest b k cs
 have hfr:∀c,c<w.heap.size->w'.heap[c]? = w.heap[c]?:=λc hc=>st.frame c hc (by
  rintro⟨bb,o,pl,hg,hro,_,_⟩;have h1:=hrel.lock.Ko bb o hg;have h2:g1.next<=bb:=hro;have h3:bb<g1.next:=h1;omega)
 have qn:ρq.next=N:=by
  have:ρq.next=g1.next:=st.rel.next;rw[this];exact hNr
 have hv2:zH ρ v' v'\/True := .inr trivial
 have hvr:zH ρ r.v v':=hv.ext (by rw[qn,I.next];exact aaj _) λbb pl hb hm=>by
  rw[<- st.le.2 bb (by rw[I.next,<- qn];exact hb)];exact hm
 have hpVnew:∀bb,Yh (tr.filter λx=>qN S r.j x.j) h0 bb=Yh (tr.filter λx=>S x.j) h0 bb:=λbb=>by
  simp only[Yh];rw[Yi V e hnot (p:=λx=>x.tc bb) (l3 bb)]
 have hpNnew:∀bb,gS (tr.filter λx=>qN S r.j x.j) h0.next bb=gS (tr.filter λx=>S x.j) h0.next bb:=λbb=>by
  simp only[gS];rw[Yi V e hnot (p:=λx=>x.tc bb) (l3 bb)]
 refine⟨ρ,w',qo tm r.o.dst v',⟨I.next,I.old,?_,?_,?_,?_,?_,st.os.trans I.os,st.tape.trans I.tape,st.output.trans I.output,aaV I.bu st.size,?_,?_,I.lh,I.gl⟩,sx⟩
 ·cases r.o.dst with
  |none=>exact I.size
  |some d=>simp only[qo,Array.size_setIfInBounds];exact I.size
 ·intro t;by_cases ht:r.o.dst=some t
  ·have e1:vr (tr.filter λx=>qN S r.j x.j) (Uo t)=some r:=VZ V hdown e hready hnot (p:=Uo t) (by simp[Uo,ht]) (λx hx=>by
    cases hw:Uo t x with
    |false=>rfl
    |true=>exact absurd ht (hx.d1 t (aa1 hw)).2) (λx hx=>by
    cases hw:Uo t x with
    |false=>rfl
    |true=>exact absurd (aa1 hw) (hx.d1 t ht).2)
   simp only[Uf,eG,e1]
   have e2:(qo tm r.o.dst v').getD t undef=v':=by
    have hlt:t<tm.size:=(by rw[<- I.size];exact D.put t ht);rw[ht];simp[qo,aaw,hlt]
   rw[e2,hNr',hcut];exact hvr
  ·have e1:vr (tr.filter λx=>qN S r.j x.j) (Uo t)=vr (tr.filter λx=>S x.j) (Uo t):=Yi V e hnot (p:=Uo t) (by simp[Uo,ht])
   have e2:(qo tm r.o.dst v').getD t undef=tm.getD t undef:=by
    cases hd:r.o.dst with
    |none=>rfl
    |some d=>
     have:d≠t:=λh=>ht (by rw[hd,h]);simp[qo,aaw,this]
   have h1:=I.env t;simp only[Uf,eG]at h1 ⊢;rw[e1,e2];exact h1
 ·intro bb o hg;rw[hpVnew]at hg;rw[hpNnew];obtain⟨h1,pl,hp,hc⟩:=I.heap bb o hg;exact⟨h1,pl,hp,hc.other (hfr pl.c hc.lt)⟩
 ·intro b1 b2 o1 o2 p1 p2 g1 g2;rw[hpVnew]at g1 g2;exact I.inj b1 b2 o1 o2 p1 p2 g1 g2
 ·intro x hx hS;simp only[qN,aba,aam]at hS;exact I.fresh x hx hS.1
 ·intro c hc hn;rw[hfr c (aap hc I.bu)];exact I.frame c hc hn
 ·intro bb o pl hg;rw[hpVnew]at hg;exact I.l9 bb o pl hg
theorem F3(hro0:h0.ro<=h0.next)(V:Yp lk P ops s0 h0 tr)(hdown:∀i j,Prec ops i j->S j=true->S i=true)(e:tr=A++r::B)(hready:∀i,Prec ops i r.j->S i=true)(hnot:S r.j=false)
  {N:Nat} (hN:∀x,x∈tr->x.g'.next<=N) (hNN:N=h0.next) {ρ0 ρ:xo} {w0 w:World} {tm:Array aaa} (I:aB P tr s0 h0 N ρ0 w0 S ρ w tm) (ds:List Deferred) (rest:List Nat) (b:Frame) (k:List Item) (cs:List Frame) :
  ∃ρ' w' tm',aB P tr s0 h0 N ρ0 w0 (qN S r.j) ρ' w' tm'/\Steps P (lone (vB b tm ds (.inRegion ops (r.j::rest)::k)) cs w) (lone (vB b tm' ds (.inRegion ops rest::k)) cs w'):=by
 cases hlk:lk r with
 |none=>exact FZ hro0 V hdown e hready hnot hN hlk I ds rest b k cs
 |some x=>obtain⟨b0,off,n⟩:=x;exact FY hro0 V hdown e hready hnot hN hNN hlk I ds rest b k cs
end
section
variable {ops:Array Oper}{s0:Env}{h0:za}{tr:List yr}
theorem NZ(hro0:h0.ro<=h0.next)(V:Yp lk P ops s0 h0 tr){N:Nat}(hN:∀x,x∈tr->x.g'.next<=N)(hNN:N=h0.next){ρ0:xo}{w0:World}(ds:List Deferred)(b:Frame)(k:List Item)(cs:List Frame) :
  ∀(fuel t:Nat) (listed:Array Bool) (ρ:xo) (w:World) (tm:Array aaa),listed.size=ops.size->((List.range ops.size).filter λi => !listed.getD i false).length<=fuel ->
   (∀i j,Prec ops i j->listed.getD j false=true->listed.getD i false=true)->aB P tr s0 h0 N ρ0 w0 (λj=>listed.getD j false) ρ w tm ->
   ∃S ρ' w' tm',(∀r,r∈tr->S r.j=true)/\aB P tr s0 h0 N ρ0 w0 S ρ' w' tm' /\
    Steps P (lone (vB b tm ds (.inRegion ops (Region.linearise.go .any ops fuel t listed [])::k)) cs w) (lone (vB b tm' ds (.inRegion ops []::k)) cs w'):=by
 intro fuel
 induction fuel with
 |zero=>
  intro t listed ρ w tm hsz hcount hdown I;refine⟨_,ρ,w,tm,?_,I,.refl P _⟩;intro r hr;have hnil:=abu (Nat.le_zero.1 hcount);obtain⟨A,B,e⟩:=aaR hr;have yk:=(V.told A r B e).op
  have hlt:r.j<ops.size:=by
   rcases aaL r.j ops.size with h|h
   ·exact h
   ·rw[aaH h]at yk;cases yk
  cases hl:listed.getD r.j false with
  |true=>rfl
  |false=>
   have:r.j∈(List.range ops.size).filter λi => !listed.getD i false:=abM.2 ⟨abe.2 hlt,by rw[hl];rfl⟩;rw[hnil]at this;cases this
 |succ fuel ih=>
  intro t listed ρ w tm hsz hcount hdown I;simp only[Region.linearise.go]
  change ∃S ρ' w' tm',(∀r,r∈tr->S r.j=true)/\aB P tr s0 h0 N ρ0 w0 S ρ' w' tm'/\Steps P (lone (vB b tm ds (.inRegion ops (match (Region.ready .any ops listed)[t%(Region.ready .any ops listed).length]? with
   |some i=>Region.linearise.go .any ops fuel (t/(Region.ready .any ops listed).length) (listed.setIfInBounds i true) [i]
   |none=>[].reverse)::k)) cs w) _
  have getTF:∀i,i<ops.size->listed.getD i true=listed.getD i false:=by
   intro i hi;simp[aaw,aaI (hsz ▸ hi)]
  by_cases hall:∀r,r∈tr->listed.getD r.j false=true
  ·
   have hnone:Region.ready .any ops listed=[]:=by
    rw[List.eq_nil_iff_forall_not_mem];intro i hi;obtain⟨h1,h2,_⟩:=ay hi;obtain⟨r,hr,hrj⟩:=V.all i h1;have:=hall r hr;rw[hrj,<- getTF i h1,h2]at this;cases this
   rw[hnone];exact⟨_,ρ,w,tm,hall,I,.refl P _⟩
  ·
   have hex:∃i,i∈Region.ready .any ops listed:=by
    have:∃A r B,tr=A++r::B/\listed.getD r.j false=false /\ ∀x,x∈A->listed.getD x.j false=true:=by
     clear ih I hN V
     induction tr with
     |nil=>exact absurd (λr hr=>by cases hr) hall
     |cons x tr iht=>
      cases hx:listed.getD x.j false with
      |false=>exact⟨[],x,tr,rfl,hx,λy hy=>by cases hy⟩
      |true=>
       obtain⟨A,r,B,e,h1,h2⟩:=iht (λh=>hall (λr hr=>by rcases aaP.1 hr with rfl|hr;exact hx;exact h r hr));exact⟨x::A,r,B,by rw[e];rfl,h1,λy hy=>by rcases aaP.1 hy with rfl|hy;exact hx;exact h2 y hy⟩
    obtain⟨A,r,B,e,h1,h2⟩:=this;have yk:=(V.told A r B e).op
    have hlt:r.j<ops.size:=by
     rcases aaL r.j ops.size with h|h
     ·exact h
     ·rw[aaH h]at yk;cases yk
    refine⟨r.j,EW hlt (by rw[getTF _ hlt];exact h1) (λo ho ed hed hb=>?_)⟩;rw[yk]at ho;cases ho;obtain⟨x,hx,hxe⟩:=V.Vc A r B e ed hed hb;rw[<- hxe];exact h2 x hx
   cases hi:(Region.ready .any ops listed)[t%(Region.ready .any ops listed).length]? with
   |none=>
    obtain⟨i,hmem⟩:=hex;have hpos:0<(Region.ready .any ops listed).length:=List.length_pos_of_mem hmem;rw[aaf (Nat.mod_lt _ hpos)]at hi;cases hi
   |some i=>
    simp only[];rw[linearise_go_acc,List.reverse_singleton,List.singleton_append];obtain⟨hlt,hl,hed⟩:=ay (aax hi);obtain⟨r,hr,hrj⟩:=V.all i hlt;obtain⟨A,B,e⟩:=aaR hr;subst hrj;have yk:=(V.told A r B e).op
    have hready:∀q,Prec ops q r.j->listed.getD q false=true:=by
     intro q hq;cases hq with
     |one ho he hb=>exact hed _ ho _ he hb
     |more ho he hb hp=>exact hdown _ _ hp (hed _ ho _ he hb)
    have hnot:listed.getD r.j false=false:=(by rw[<- getTF _ hlt];exact hl);obtain⟨ρ1,w1,tm1,I1,sx⟩:=F3 hro0 V hdown e hready hnot hN hNN I ds (Region.linearise.go .any ops fuel (t/(Region.ready .any ops listed).length) (listed.setIfInBounds r.j true) []) b k cs
    have hadd:(λj=>(listed.setIfInBounds r.j true).getD j false)=qN (λj=>listed.getD j false) r.j:=by
     funext j
     simp only[qN,aaw,aa2];by_cases ej:r.j=j
     ·subst ej;rw[aai rfl,aai (by omega)];simp
     ·rw[aag ej];have:decide (j=r.j)=false:=aaX (λh=>ej h.symm);rw[this,Bool.or_false]
    rw[<- hadd]at I1
    have hcnt:((List.range ops.size).filter λi => !(listed.setIfInBounds r.j true).getD i false).length<=fuel:=by
     have hmem:r.j∈(List.range ops.size).filter λi => !listed.getD i false:=abM.2 ⟨abe.2 hlt,by rw[hnot];rfl⟩
     have hsub:(List.range ops.size).filter (λi => !(listed.setIfInBounds r.j true).getD i false)=((List.range ops.size).filter λi => !listed.getD i false).filter (λi=>decide (i≠r.j)):=by
      rw[abP];apply abB;intro i _;have:=congrFun hadd i;simp only[qN]at this;rw[this];by_cases ei:i=r.j <;> simp[ei]
     rw[hsub]
     have hlen:∀(l:List Nat),r.j∈l->(l.filter λi=>decide (i≠r.j)).length<l.length:=by
      intro l hl;apply List.length_filter_lt_length_iff_exists.2;exact⟨r.j,hl,by simp⟩
     have:=hlen _ hmem;omega
    have hdn:∀q j,Prec ops q j->(listed.setIfInBounds r.j true).getD j false=true->(listed.setIfInBounds r.j true).getD q false=true:=by
     intro q j hq hj;have h1:=congrFun hadd j;have h2:=congrFun hadd q;rw[h1]at hj;rw[h2];simp only[qN,aaW,aaF]at hj ⊢;rcases hj with hj|rfl
     ·exact .inl (hdown q j hq hj)
     ·exact .inl (hready q hq)
    obtain⟨S,ρ2,w2,tm2,hS,I2,sx2⟩:=ih (t/(Region.ready .any ops listed).length) (listed.setIfInBounds r.j true) ρ1 w1 tm1 (by simpa using hsz) hcnt hdn I1;exact⟨S,ρ2,w2,tm2,hS,I2,sx.trans sx2⟩
theorem rJ(hmix:P.follows .mixedOrders=true){id:Nat}{rd:Option Nat}{Q:Ex->Env->za->Prop}(V:Yp lk P ops s0 h0 tr){sf:Env}{hf:za}(hs:∀t,sf.get t=Uf tr s0 t)(hsz:sf.size=s0.size)
  (hh:∀b,hf.get b=Yh tr h0 b) (hro:hf.ro=h0.ro) (hn:h0.next<=hf.next) (hN:∀x,x∈tr->x.g'.next<=hf.next) (hNN:hf.next=h0.next) (hq:Q .normal sf hf):T P rd (.region id ops true) s0 h0 Q:=by
 intro ρ w tm ds hr hse b hb k cs
 let w1:World:={w with drawn:=w.drawn+1}
 let ρ1:xo:={next:=hf.next,m:=λbb=>if bb<h0.next then ρ.m bb else none}
 have hm1:∀bb pl,bb<ρ.next->ρ.m bb=some pl->ρ1.m bb=some pl:=λbb pl hb hm=>by
  rw[show ρ1.m bb=ρ.m bb from aai (by rw[<- hr.next];exact hb)];exact hm
 have hnil:tr.filter (λr=>(Array.replicate ops.size false).getD r.j false)=[]:=by
  rw[acj];intro r _ h;simp only[aaw,abO]at h;split at h <;> simp at h
 have I:aB P tr s0 h0 hf.next ρ w (λj=>(Array.replicate ops.size false).getD j false) ρ1 w1 tm:=by
  refine⟨rfl,λbb hb=>aai hb,hse.size,?_,?_,?_,?_,rfl,rfl,rfl,aaj _,λ_ _ _=>rfl,?_,hr.lh,λbb pl hb hm=>hr.Yn bb pl hb (by
   rw[show ρ1.m bb=ρ.m bb from aai (aap hb (aaV hr.lh hr.ro))]at hm;exact hm)⟩
  ·intro t;rw[hnil];exact(hse.get t).ext (ρ':=ρ1.cut h0.next) (by rw[hr.next];exact aaj _) hm1
  ·intro bb o hg;rw[hnil]at hg ⊢;have hb:=hr.Ko bb _ hg;obtain⟨pl,hp,hc⟩:=hr.ok bb o hg;refine⟨hb,pl,hm1 bb pl (by rw[hr.next];exact hb) hp,?_⟩;exact vS.other (vS.ext (ρ:=ρ) (ρ':=ρ1.cut h0.next) (by rw[hr.next];exact aaj _) hm1 hc) rfl
  ·intro b1 b2 o1 o2 p1 p2 g1 g2 m1 m2 e;rw[hnil]at g1 g2;have l1:=hr.Ko b1 o1 g1;have l2:=hr.Ko b2 o2 g2;rw[show ρ1.m b1=ρ.m b1 from aai l1]at m1;rw[show ρ1.m b2=ρ.m b2 from aai l2]at m2;exact hr.inj b1 b2 o1 o2 p1 p2 g1 g2 m1 m2 e
  ·intro x hx _ bb h1 h2;obtain⟨A,B,e⟩:=aaR hx;have:=(V.told A x B e).n0;exact aag (by omega)
  ·intro bb o pl hg hro' hm hc;rw[hnil]at hg;have l:=hr.Ko bb o hg;rw[show ρ1.m bb=ρ.m bb from aai l]at hm;exact⟨bb,o,pl,hg,hro',hm,rfl⟩
 have hcount:((List.range ops.size).filter λi => !(Array.replicate ops.size false).getD i false).length<=ops.size:=by
  have:=List.length_filter_le (λi => !(Array.replicate ops.size false).getD i false) (List.range ops.size);simpa using this
 obtain⟨S,ρ2,w2,tm2,hS,I2,sx⟩:=NZ hr.ro V hN hNN ds b k cs ops.size (w.tape w.drawn (.order b.fn id)) (Array.replicate ops.size false) ρ1 w1 tm (by simp) hcount (λi j _ hj=>by
  simp only[aaw,abO]at hj;split at hj <;> simp at hj) I
 have hfull:tr.filter (λr=>S r.j)=tr:=List.filter_eq_self.2 hS;have lastn:∀(p:yr->Bool) x,vr tr p=some x->x.g'.next<=hf.next:=λp x hx=>hN x (Xl hx).1;have hcut:ρ2=ρ2.cut hf.next:=by have:=I2.next;cases ρ2;simp only at this;subst this;rfl
 have hrel:Rel P ρ2 hf w2:=by
  refine⟨I2.next,by rw[hro];exact aaV hr.ro hn,?_,?_,?_,by rw[hro];exact hr.lh,I2.gl⟩
  ·intro bb o hg;rw[hh]at hg;have:=(I2.heap bb o (by rw[hfull];exact hg)).1;rw[hfull]at this;refine aap this ?_;simp only[gS];split
   ·rename_i x hx;exact lastn _ x hx
   ·exact hn
  ·intro bb o hg;rw[hh]at hg;obtain⟨_,pl,hp,hc⟩:=I2.heap bb o (by rw[hfull];exact hg);refine⟨pl,hp,?_⟩;rw[hro];rw[hfull]at hc;rw[hcut];refine vS.K8 ?_ hc;simp only[gS];split
   ·rename_i x hx;exact lastn _ x hx
   ·exact hn
  ·intro b1 b2 o1 o2 p1 p2 g1 g2;rw[hh]at g1 g2;exact I2.inj b1 b2 o1 o2 p1 p2 (by rw[hfull];exact g1) (by rw[hfull];exact g2)
 refine⟨.normal,sf,hf,ρ2,w2,tm2,ds,hq,⟨⟨by rw[I2.next,hr.next];exact hn,λbb hb=>I2.old bb (by rw[<- hr.next];exact hb)⟩,hrel,hro,I2.os,I2.tape,I2.output,I2.bu,I2.frame,?_⟩,⟨hsz.trans I2.size,λt=>?_⟩,.refl _ _ _,?_⟩
 ·rintro c hc ⟨bb,o,pl,hg,hrb,hm,rfl⟩;rw[hh]at hg;exact I2.l9 bb o pl (by rw[hfull];exact hg) (by rw[<- hro];exact hrb) hm hc
 ·have:=I2.env t;rw[hfull]at this;rw[hs t];rw[hcut];refine zH.K8 ?_ this;simp only[eG];split
  ·rename_i x hx;exact lastn _ x hx
  ·exact hn
 ·refine .head VU ?_
  have:Region.schedule (P.follows .mixedOrders) ops (w.tape w.drawn (.order b.fn id))=Region.linearise .any ops (w.tape w.drawn (.order b.fn id)):=by
   simp only[Region.schedule,hmix,Bool.true_or,abS]
  rw[this];exact sx.trans (.one Xj)
end
end
end
noncomputable section
variable {P:Program}
def pG:Nat->Nat
 |2=>1
 |3=>6
 |4=>2
 |_=>3
def BX(d:Nat):List Oper->Nat->Option Nat
 |[],_=>none
 |o::os,i=>(match o.op with
  | .buildSlice _ _ _=>(match o.dst with
    |some e=>cond (Nat.beq e d) (some i) (BX d os (i+1))
    |none=>BX d os (i+1))
  |_=>BX d os (i+1))
def GW(ops:Array Oper)(o:Oper):Option Nat:=match o.op with
 | .call {callee := .builtin .append,args,.. }=>(match args.toList with
   | .tmp d::_=>BX d ops.toList 0
   |_=>none)
 |_=>none
def IK(o:Oper):Option Nat:=match o.op with
 | .call {callee := .builtin .append,args,.. }=>(match args.toList with
   | .tmp d::_=>some d
   |_=>none)
 |_=>none
def YO(s:Env)(o:Oper):aaa:=match IK o with
 |some d=>s.get d
 |none=>bot
def rX(v:aaa):Nat:=match v with
 | .slice (some a) _ _=>a.block
 |_=>0
def rY(v:aaa):Nat:=match v with
 | .slice (some a) _ _=>a.block+1
 |_=>0
theorem PF(v:aaa)(b:Nat):(rX v<=b/\b<rY v) ↔ ∃a n c,v=.slice (some a) n c/\b=a.block:=by
 unfold rX rY;split
 ·rename_i a n c
  constructor
  ·intro e;exact⟨a,n,c,rfl,by omega⟩
  ·rintro⟨a',n',c',e1,e2⟩;cases e1;omega
 ·rename_i hn
  constructor
  ·intro e;omega
  ·rintro⟨a',n',c',e1,e2⟩;exact absurd e1 (hn a' n' c')
def sg(P:Program)(s d:TypeId):Bool:=(match yg P (underlying s),yg P (underlying d) with|some (.int _),some (.int _)=>true|_,_=>false)&&(match P.underlying s,P.underlying d with|some (.int _),some (.int _)=>true|_,_=>false)
def bp(P:Program)(d:TypeId):Bool:=(match yg P (underlying d) with|some .string=>true|_=>false)&&(match P.underlying d with|some .string=>true|_=>false)
def z9(P:Program)(q:FuncId->Nat)(ops:Array Oper)(o:Oper):Nat:=match o.op with
 | .call {callee := .value (.func g),.. }=>pG (q g)
 | .call {callee := .value _,.. }=>3
 | .call {callee := .builtin .append,.. }=>(match GW ops o with|some _=>4|none=>(match IK o,o.guard with|some _,none=>7|_,_=>3))
 | .call {callee := .builtin b,.. }=>cond (Xp b) 1 3
 | .move _ | .assign _ | .pick _ _ _ | .build _ _ | .nilCheck _ | .binOp _ _ _ _ _ | .unOp _ _ _ | .makeInterface _ _ | .makeFunc _ _ _ | .fieldAddr _ _ _ | .field _ _ _ | .indexAddr _ _ _ | .index _ _ _ | .extract _ _=>0
 | .load _ _ | .lookup _ _ _ _ | .slice _ _ _ _ _ | .entry _=>1
 | .box _ _ | .alloc _ | .buildSlice _ _ _ | .makeSlice _ _ _ | .makeMap _ _=>5
 | .convert a b _=>cond (sg P a b) 0 (cond (bp P b) 1 2)
 | .range _ _=>2
 |_=>3
def BO(k:Nat):Bool:=Nat.beq k 1||Nat.beq k 4||Nat.beq k 6
def Wi(k:Nat):Bool:=Nat.beq k 2||Nat.beq k 4||Nat.beq k 5||Nat.beq k 6||Nat.beq k 7
def pI(k i n n':Nat)(v:aaa):List (Nat×Nat×Nat):=cond (Wi k) (cond (Nat.beq k 7) [(i,n,n'),(i,rX v,rY v)] [(i,n,n')]) []
def OR(x:Nat×Nat×Option Nat×Nat)(ky:Nat)(zy:Option Nat)(my:Nat):Bool :=
 Nat.beq x.2.1 0||Nat.beq ky 0||(Nat.beq x.2.1 3&&Nat.beq ky 5)||(Nat.beq x.2.1 7&&(Nat.beq ky 1||Nat.beq ky 5)) ||
 (!(Nat.beq x.2.1 3) && !(Nat.beq ky 3) && !(Nat.beq x.2.1 7) && !(Nat.beq ky 7)&&(!(Nat.beq ky 2)||Nat.beq x.2.1 1) &&
  (!(Nat.beq x.2.1 4)||Nat.beq ky 5||(match x.2.2.1 with|some z => !(my.testBit z)&&(match zy with|some w => !(Nat.beq z w)|none=>true)|none=>false)) &&
  (!(Nat.beq ky 4)||Nat.beq x.2.1 5||(BO x.2.1&&(match zy with|some w => !(x.2.2.2.testBit w)|none=>false))))
def mc(P:Program)(q:FuncId->Nat)(ops:Array Oper):List Oper->List Nat->List (Nat×Nat×Option Nat×Nat)->Bool
 |[],_,_=>true
 |o::os,ms,prev=>(prev.all λx=>(yz ms o).testBit x.1||OR x (z9 P q ops o) (GW ops o) (yz ms o))&&(match GW ops o with|some z=>(yz ms o).testBit z|none=>true) &&
  mc P q ops os (ms++[yz ms o]) ((ms.length,z9 P q ops o,GW ops o,yz ms o)::prev)
def tX(P:Program)(q:FuncId->Nat)(ops:Array Oper):Bool:=Zn ops ops.toList 0 [] []&&mc P q ops ops.toList [] []
def cut(h:za)(n m:Nat):za:=h.YD (List.range' n (m-n))
@[simp] theorem zb4 (h:za) (n m:Nat):(cut h n m).next=h.next:=rfl
@[simp] theorem zc0 (h:za) (n m:Nat):(cut h n m).ro=h.ro:=rfl
theorem BE(h:za)(n m b:Nat):(cut h n m).get b=if n<=b/\b<m then none else h.get b:=by
 unfold cut;rw[uP];simp only[jU]
theorem Vf{h:za}{n m b:Nat}(hb:b<n):(cut h n m).get b=h.get b:=by rw[BE,aag (by omega)]
def qz(m:Nat):List (Nat×Nat×Nat)->za->za
 |[],h=>h
 |x::l,h=>cond (m.testBit x.1) (qz m l h) (qz m l (cut h x.2.1 x.2.2))
def AH(m:Nat)(al:List (Nat×Nat×Nat))(b:Nat):Bool:=al.all λx=>m.testBit x.1 || !(Nat.ble x.2.1 b&&Nat.blt b x.2.2)
theorem Zo(m:Nat):∀(al:List (Nat×Nat×Nat)) (h:za),(qz m al h).next=h.next/\(qz m al h).ro=h.ro /\ ∀b,(qz m al h).get b=if AH m al b=true then h.get b else none
 |[],h=>⟨rfl,rfl,λb=>rfl⟩
 |x::l,h=>by
  unfold qz;cases hb:m.testBit x.1 with
  |true=>
   obtain⟨a1,a2,a3⟩:=Zo m l h;refine⟨a1,a2,λb=>?_⟩;rw[aav,a3];unfold AH;rw[ab8,hb,Bool.true_or,abq]
  |false=>
   obtain⟨a1,a2,a3⟩:=Zo m l (cut h x.2.1 x.2.2);refine⟨a1,a2,λb=>?_⟩;rw[aaB,a3];unfold AH;rw[ab8,hb,acz,BE];by_cases hc:x.2.1<=b/\b<x.2.2
   ·have e:(Nat.ble x.2.1 b&&Nat.blt b x.2.2)=true:=by
     rw[aad,abU,aaM];exact hc
    rw[e,Bool.not_true,Bool.false_and,aai hc];split <;> simp
   ·have e:(Nat.ble x.2.1 b&&Nat.blt b x.2.2)=false:=by
     cases he:(Nat.ble x.2.1 b&&Nat.blt b x.2.2) with
     |false=>rfl
     |true=>rw[aad,abU,aaM]at he;exact absurd he hc
    rw[e,ab4,abq,aag hc]
def Ja(z:Nat):List (Nat×Nat×Nat)->Option (Nat×Nat)
 |[]=>none
 |x::l=>cond (Nat.beq x.1 z) (some x.2) (Ja z l)
def Yy(P:Program)(g:FuncId)(args:List aaa)(hv h:za)(K:aaa->za->Prop):Prop :=
 xS P g=true/\yi args=true /\ ∃v h2,TC P g args hv.lock (λv1 h1=>v1=v/\h1=h2)/\AF hv.lock h2/\K v (wS h h2)
def zcc(s:aaa)(f t:Nat)(hv:za):Prop:=match s with
 | .slice (some a) _ _=>f<=a.block/\a.block<t/\hv.get a.block≠none
 |_=>True
def Kp(h:za)(s:aaa)(h':za):za:=match s with
 | .slice (some a) _ _=>h.set a.block (h'.get a.block)
 |_=>h
def cB(P:Program)(ts:List TypeId)(r:TypeId)(vs:List aaa)(zr:Option (Nat×Nat))(hv h:za)(K:aaa->za->Prop):Prop:=match zr,vs with
 |some x,s::_=>zcc s x.1 x.2 hv/\zD (nb vs (zG P .append ts r vs hv)) λv h'=>K v (wS (Kp h s h') h')
 |_,_=>False
def Mb(P:Program)(q:FuncId->Nat)(ops:Array Oper)(s:Env)(o:Oper)(al:List (Nat×Nat×Nat))(hv h:za)(K:aaa->za->Prop):Prop:=match o.op with
 | .call {callee := .value (.func g),args,argTypes}=>(match q g with
   |2=>qu P g (cX s args.toList) hv λv=>K v h
   |3=>Yy P g (cX s args.toList) hv h K
   |4=>SW P g (cX s args.toList) h K
   |_=>i5 P g (cX s args.toList) h K)
 | .call {callee := .value f,args,argTypes}=>gI P (ev s f) (cX s args.toList) h K
 | .call {callee := .builtin .append,args,argTypes}=>(match GW ops o with
   |some z=>cB P argTypes.toList o.type (cX s args.toList) (Ja z al) hv h K
   |none=>L9 P s o h K)
 |_=>Mx (Nat.beq (z9 P q ops o) 1) (L9 P s o hv λv _=>K v h) (L9 P s o h K)
def Fg(P:Program)(q:FuncId->Nat)(ops:Array Oper):List Oper->Nat->List Nat->List (Nat×Nat×Nat)->Env->za->(Env->za->Prop)->Prop
 |[],_,_,_,s,h,K=>K s h
 |o::os,i,ms,al,s,h,K=>(match o.guard with
  |none=>Mb P q ops s o al (qz (yz ms o) al h) h λv h1=>(match s.put o.dst v with
   |some s1=>Fg P q ops os (i+1) (ms++[yz ms o]) (al++pI (z9 P q ops o) i h.next h1.next (YO s o)) s1 h1 K
   |none=>False)
  |some (j,want)=>(match (ops[j]?).bind (·.dst) with
   |none=>False
   |some d=>GD (s.get d) want (Mb P q ops s o al (qz (yz ms o) al h) h) (λv h1=>(match s.put o.dst v with
    |some s1=>Fg P q ops os (i+1) (ms++[yz ms o]) (al++pI (z9 P q ops o) i h.next h1.next (YO s o)) s1 h1 K
    |none=>False)) h))
def H4(P:Program)(q:FuncId->Nat)(ops:Array Oper)(s:Env)(h:za)(K:Env->za->Prop):Prop:=Mx (tX P q ops) (Fg P q ops ops.toList 0 [] [] s h K) False
end
noncomputable section
variable {P:Program}
structure RV (P:Program) (q:FuncId->Nat) (ops:Array Oper) (A:List yr) (m:Nat) (x:yr):Prop where
 rd:∀b,x.rd b=true->b<x.g.next
 k0:z9 P q ops x.o=0\/z9 P q ops x.o=5->∀b,x.rd b=false
 k1:z9 P q ops x.o<=1->∀b,x.tc b=false
 lk:BO (z9 P q ops x.o)=true->∀b,x.rd b=true->∀z,z∈A->Wi (z9 P q ops z.o)=true->m.testBit z.j=false->¬(z.g.next<=b/\b<z.g'.next)
 tc:z9 P q ops x.o≠3->∀b,x.tc b=true->(x.g.next<=b/\b<x.g'.next)\/(z9 P q ops x.o=4 /\ ∃z,z∈A/\Wi (z9 P q ops z.o)=true/\GW ops x.o=some z.j/\z.g.next<=b/\b<z.g'.next)\/(z9 P q ops x.o=7/\b<x.g.next/\rX (YO x.s x.o)<=b/\b<rY (YO x.s x.o))
 lb:BO (z9 P q ops x.o)=true->∀b,x.rd b=true->∀z,z∈A->z9 P q ops z.o=7->m.testBit z.j=false->¬(rX (YO z.s z.o)<=b/\b<rY (YO z.s z.o))
 t3:z9 P q ops x.o=3->∀b,x.tc b=true->b<x.g'.next
structure Kv (P:Program) (q:FuncId->Nat) (ops:Array Oper) (s0:Env) (h0:za) (A:List yr) (i:Nat) (o:Oper) (s:Env) (h:za) (u:aaa) (h1:za) (m:Nat) (y:yr):Prop where
 hj:y.j=i
 yk:y.o=o
 hsl:y.s=s
 r7:y.v=u
 gn:y.g.next=h.next
 told:Told P ops s0 h0 A y
 rv:RV P q ops A m y
 heap:∀b,h1.get b=if y.tc b=true then y.g'.get b else h.get b
 ro:h1.ro=h.ro
 next:h.next<=h1.next
 Ei:y.g'.next<=h1.next
 geq:Wi (z9 P q ops o)=true->y.g'.next=h1.next
 wf:WF h1
def Xc(P:Program)(q:FuncId->Nat)(ops:Array Oper):List yr->List (Nat×Nat×Nat)
 |[]=>[]
 |x::l=>pI (z9 P q ops x.o) x.j x.g.next x.g'.next (YO x.s x.o)++Xc P q ops l
theorem Nn(P:Program)(q:FuncId->Nat)(ops:Array Oper)(A:List yr)(y:yr):Xc P q ops (A++[y])=Xc P q ops A++pI (z9 P q ops y.o) y.j y.g.next y.g'.next (YO y.s y.o):=by
 induction A with
 |nil=>simp only[abF,Xc,aa8]
 |cons x A ih=>simp only[acx,Xc,ih,aa7]
theorem pJ{k i n n':Nat}{v:aaa}:(Wi k=false/\pI k i n n' v=[])\/(Wi k=true/\(pI k i n n' v=[(i,n,n')]\/(k=7/\pI k i n n' v=[(i,n,n'),(i,rX v,rY v)]))):=by
 unfold pI;cases Wi k with
 |false=>exact .inl ⟨rfl,rfl⟩
 |true=>
  refine .inr ⟨rfl,?_⟩;cases h7:Nat.beq k 7 with
  |false=>exact .inl rfl
  |true=>exact .inr ⟨aak h7,rfl⟩
theorem N5{q:FuncId->Nat}{ops:Array Oper}{A:List yr}{z f t:Nat}(h:Ja z (Xc P q ops A)=some (f,t)):∃x,x∈A/\Wi (z9 P q ops x.o)=true/\(z,f,t)=(x.j,x.g.next,x.g'.next):=by
 induction A with
 |nil=>cases h
 |cons x A ih=>
  simp only[Xc]at h
  have rest:Ja z (Xc P q ops A)=some (f,t)->∃y,y∈x::A/\Wi (z9 P q ops y.o)=true/\(z,f,t)=(y.j,y.g.next,y.g'.next):=λh=>by
   obtain⟨x',h1,h2⟩:=ih h;exact⟨x',by simp[h1],h2⟩
  rcases pJ (k:=z9 P q ops x.o) (i:=x.j) (n:=x.g.next) (n':=x.g'.next) (v:=YO x.s x.o) with⟨hl,e⟩|⟨hl,e|⟨_,e⟩⟩
  ·rw[e]at h;exact rest h
  ·rw[e]at h;cases hb:Nat.beq x.j z with
   |true=>
    simp only[List.singleton_append,Ja,hb,aav,aab,aae]at h;exact⟨x,by simp,hl,by rw[<- aak hb,h.1,h.2]⟩
   |false=>simp only[List.singleton_append,Ja,hb,aaB]at h;exact rest h
  ·rw[e]at h;cases hb:Nat.beq x.j z with
   |true=>
    simp only[acx,abF,Ja,hb,aav,aab,aae]at h;exact⟨x,by simp,hl,by rw[<- aak hb,h.1,h.2]⟩
   |false=>simp only[acx,abF,Ja,hb,aaB]at h;exact rest h
theorem Py{q:FuncId->Nat}{ops:Array Oper}{A:List yr}{x:yr}(h:x∈A)(hl:Wi (z9 P q ops x.o)=true):(x.j,x.g.next,x.g'.next)∈Xc P q ops A:=by
 induction A with
 |nil=>cases h
 |cons z A ih=>
  simp only[Xc];rcases aaP.1 h with rfl|h
  ·refine aaK _ ?_;rcases pJ (k:=z9 P q ops x.o) (i:=x.j) (n:=x.g.next) (n':=x.g'.next) (v:=YO x.s x.o) with⟨hl',e⟩|⟨_,e|⟨_,e⟩⟩
   ·rw[hl]at hl';cases hl'
   ·rw[e];simp
   ·rw[e];simp
  ·exact aa5 _ (ih h)
theorem Nm{q:FuncId->Nat}{ops:Array Oper}{A:List yr}{x:yr}(h:x∈A)(h7:z9 P q ops x.o=7):(x.j,rX (YO x.s x.o),rY (YO x.s x.o))∈Xc P q ops A:=by
 induction A with
 |nil=>cases h
 |cons z A ih=>
  simp only[Xc];rcases aaP.1 h with rfl|h
  ·refine aaK _ ?_;rw[h7];show _∈[_,_];simp
  ·exact aa5 _ (ih h)
section
variable {q:FuncId->Nat}{ops:Array Oper}{s0:Env}{h0:za}{A:List yr}{i:Nat}{o:Oper}{s:Env}{h:za}
theorem Ul{h:za}(w:WF h){b:Nat}(hb:¬b<h.next):h.get b=none:=by
 cases hh:h.get b with|none=>rfl|some o'=>exact absurd (w b o' hh) hb
def eH(m:Nat)(al:List (Nat×Nat×Nat))(h:za)(b:Nat):Bool:=Nat.blt b h.next&&AH m al b
theorem By{m:Nat}{al:List (Nat×Nat×Nat)}{b:Nat}(hb:eH m al h b=true):b<h.next:=by
 unfold eH at hb;rw[aad,aaM]at hb;exact hb.1
theorem oZ{m:Nat}{b:Nat}(hb:eH m (Xc P q ops A) h b=true){z:yr}(hz:z∈A)(hl:Wi (z9 P q ops z.o)=true)(hm:m.testBit z.j=false):¬(z.g.next<=b/\b<z.g'.next):=by
 unfold eH AH at hb;rw[aad,aaD]at hb;have:=hb.2 _ (Py hz hl);simp only[hm,acz,aan]at this;intro e;have t:(Nat.ble z.g.next b&&Nat.blt b z.g'.next)=true:=by rw[aad,abU,aaM];exact e
 rw[t]at this;cases this
theorem gN{m:Nat}{b:Nat}(hb:eH m (Xc P q ops A) h b=true){z:yr}(hz:z∈A)(h7:z9 P q ops z.o=7)(hm:m.testBit z.j=false):¬(rX (YO z.s z.o)<=b/\b<rY (YO z.s z.o)):=by
 unfold eH AH at hb;rw[aad,aaD]at hb;have:=hb.2 _ (Nm hz h7);simp only[hm,acz,aan]at this;intro e;have t:(Nat.ble (rX (YO z.s z.o)) b&&Nat.blt b (rY (YO z.s z.o)))=true:=by rw[aad,abU,aaM];exact e
 rw[t]at this;cases this
theorem ik{m:Nat}(F:vz P ops s0 h0 A i s h)(b:Nat):(qz m (Xc P q ops A) h).get b=if eH m (Xc P q ops A) h b=true then Yh A h0 b else none:=by
 rw[(Zo m (Xc P q ops A) h).2.2 b];unfold eH;by_cases hb:b<h.next
 ·rw[show Nat.blt b h.next=true by rw[aaM];exact hb,abq,F.heap]
 ·have e:Nat.blt b h.next=false:=by
   cases e:Nat.blt b h.next with
   |false=>rfl
   |true=>rw[aaM]at e;exact absurd e hb
  rw[e,Bool.false_and,Ul F.wf hb];simp
theorem cK(F:vz P ops s0 h0 A i s h)(ho:ops[i]? = some o)(hput:∀d,o.dst=some d->d<s.size){u:aaa}(hs:kO P ops s o (h.pick []) u (h.pick []))(m:Nat):∃y,Kv P q ops s0 h0 A i o s h u h m y:=by
 refine⟨⟨i,o,u,s,h.pick [],h.pick [],λ_=>false,λ_=>false⟩,rfl,rfl,rfl,rfl,rfl,
  ⟨ho,F.env,F.size,λb=>by rw[uq];simp,F.ro,F.next,F.nA,aaj _,hs,λd hd=>by rw[<- F.size];exact hput d hd,λb hb=>(by cases hb),λb _=>rfl,λb o' hb=>(by cases hb)⟩,
  ⟨λb hb=>(by cases hb),λ_ _=>rfl,λ_ _=>rfl,λ_ b hb=>(by cases hb),λ_ b hb=>(by cases hb),λ_ b hb=>(by cases hb),λ_ b hb=>(by cases hb)⟩,λb=>by simp,rfl,aaj _,aaj _,λ_=>rfl,F.wf⟩
theorem L6(F:vz P ops s0 h0 A i s h)(ho:ops[i]? = some o)(hput:∀d,o.dst=some d->d<s.size)(hk:z9 P q ops o=5){u:aaa}{ob:vl}(hs:kO P ops s o (h.pick []) u ((h.pick []).push ob))(m:Nat):∃y,Kv P q ops s0 h0 A i o s h u (h.push ob) m y:=by
 have hp:(h.pick []).next=h.next:=rfl;have htc:∀b,(decide (b=h.next)=true) ↔ b=h.next:=λb=>by simp
 refine⟨⟨i,o,u,s,h.pick [],(h.pick []).push ob,λ_=>false,λb=>decide (b=h.next)⟩,rfl,rfl,rfl,rfl,rfl,
  ⟨ho,F.env,F.size,λb=>by rw[uq];simp,F.ro,F.next,F.nA,abI _,hs,λd hd=>by rw[<- F.size];exact hput d hd,λb hb=>?_,λb hb=>?_,λb o' hb hlt=>?_⟩,
  ⟨λb hb=>(by cases hb),λ_ _=>rfl,λh=>?_,λ_ b hb=>(by cases hb),λ_ b hb=>?_,λ_ b hb=>(by cases hb),λe=>absurd (hk.symm.trans e) (by decide)⟩,λb=>?_,rfl,abI _,aaj _,λ_=>rfl,λb o' hb=>?_⟩
 ·refine .inr ?_;have:=(htc b).1 hb;show h.next<=b/\b<h.next+1;omega
 ·have hb:decide (b=h.next)=false:=hb;have hne:b≠h.next:=λe=>by rw[(htc b).2 e]at hb;cases hb
  rw[za.vT,aag (by rw[hp];exact hne)]
 ·have e1:=(htc b).1 hb;have e2:b<h.next:=hlt;omega
 ·simp only at h;omega
 ·have:=(htc b).1 hb;refine .inl ?_;show h.next<=b/\b<h.next+1;omega
 ·show(h.push ob).get b=if decide (b=h.next)=true then ((h.pick []).push ob).get b else h.get b;rw[za.vT,za.vT,hp];by_cases e:b=h.next
  ·rw[aai e,aai ((htc b).2 e),aai e]
  ·rw[aag e,aag (λt=>e ((htc b).1 t))]
 ·rw[za.vT]at hb;rw[za.ai];split at hb
  ·rename_i e;omega
  ·exact acr (F.wf b o' hb)
theorem pQ(F:vz P ops s0 h0 A i s h)(ho:ops[i]? = some o)(hput:∀d,o.dst=some d->d<s.size)(hk:z9 P q ops o=1){m:Nat}{u:aaa}(hs:kO P ops s o (qz m (Xc P q ops A) h) u (qz m (Xc P q ops A) h)):∃y,Kv P q ops s0 h0 A i o s h u h m y:=by
 obtain⟨v1,v2,v3⟩:=Zo m (Xc P q ops A) h
 refine⟨⟨i,o,u,s,qz m (Xc P q ops A) h,qz m (Xc P q ops A) h,eH m (Xc P q ops A) h,λ_=>false⟩,rfl,rfl,rfl,rfl,v1,
  ⟨ho,F.env,F.size,ik F,v2.trans F.ro,by rw[v1];exact F.next,λx hx=>by rw[v1];exact F.nA x hx,aaj _,hs,λd hd=>by rw[<- F.size];exact hput d hd,λb hb=>(by cases hb),λb _=>rfl,λb o' hb=>(by cases hb)⟩,
  ⟨λb hb=>by show b<(qz m (Xc P q ops A) h).next;rw[v1];exact By hb,λe=>by simp only at e;omega,λ_ _=>rfl,λ_ b hb z hz hl hm=>oZ hb hz hl hm,λ_ b hb=>(by cases hb),λ_ b hb z hz hl hm=>gN hb hz hl hm,λ_ b hb=>(by cases hb)⟩,λb=>by simp,rfl,aaj _,by rw[v1];exact aaj _,λe=>(by rw[hk]at e;cases e),F.wf⟩
theorem Gv(F:vz P ops s0 h0 A i s h)(ho:ops[i]? = some o)(hput:∀d,o.dst=some d->d<s.size)(hk:z9 P q ops o=6){m:Nat}{h2:za}(hn:h.next<=h2.next){u:aaa}(hs:kO P ops s o (qz m (Xc P q ops A) h) u (wS (qz m (Xc P q ops A) h) h2)):∃y,Kv P q ops s0 h0 A i o s h u (wS h h2) m y:=by
 obtain⟨v1,v2,v3⟩:=Zo m (Xc P q ops A) h;have htc:∀b,(decide (h.next<=b/\b<h2.next)=true) ↔ (h.next<=b/\b<h2.next):=λb=>by simp
 refine⟨⟨i,o,u,s,qz m (Xc P q ops A) h,wS (qz m (Xc P q ops A) h) h2,eH m (Xc P q ops A) h,λb=>decide (h.next<=b/\b<h2.next)⟩,rfl,rfl,rfl,rfl,v1,
  ⟨ho,F.env,F.size,ik F,v2.trans F.ro,by rw[v1];exact F.next,λx hx=>by rw[v1];exact F.nA x hx,by show(qz m (Xc P q ops A) h).next<=h2.next;rw[v1];exact hn,hs,λd hd=>by rw[<- F.size];exact hput d hd,λb hb=>?_,λb hb=>?_,λb o' hb hlt=>?_⟩,
  ⟨λb hb=>by show b<(qz m (Xc P q ops A) h).next;rw[v1];exact By hb,λe=>by simp only at e;omega,λe=>by simp only at e;omega,λ_ b hb z hz hl hm=>oZ hb hz hl hm,λ_ b hb=>?_,λ_ b hb z hz hl hm=>gN hb hz hl hm,λe=>absurd (hk.symm.trans e) (by decide)⟩,λb=>?_,rfl,hn,aaj _,λ_=>rfl,λb o' hb=>?_⟩
 ·refine .inr ?_;have:=(htc b).1 hb;show(qz m (Xc P q ops A) h).next<=b/\b<h2.next;rw[v1];exact this
 ·have hb:decide (h.next<=b/\b<h2.next)=false:=hb;rw[wO,v1,aag (λe=>by rw[(htc b).2 e]at hb;cases hb)]
 ·have:=(htc b).1 hb;have hlt:b<(qz m (Xc P q ops A) h).next:=hlt;rw[v1]at hlt;omega
 ·refine .inl ?_;show(qz m (Xc P q ops A) h).next<=b/\b<h2.next;rw[v1];exact(htc b).1 hb
 ·show(wS h h2).get b=if decide (h.next<=b/\b<h2.next)=true then (wS (qz m (Xc P q ops A) h) h2).get b else h.get b;rw[wO,wO,v1];by_cases e:h.next<=b/\b<h2.next
  ·rw[aai e,aai ((htc b).2 e),aai e]
  ·rw[aag e,aag (λt=>e ((htc b).1 t))]
 ·show b<h2.next;rw[wO]at hb;split at hb
  ·rename_i e;exact e.2
  ·exact aap (F.wf b o' hb) hn
theorem lr(F:vz P ops s0 h0 A i s h)(ho:ops[i]? = some o)(hput:∀d,o.dst=some d->d<s.size)(hk:z9 P q ops o=2){h1:za}(hn:h.next<=h1.next)(hro:h1.ro=h.ro)(hold:∀b,¬(h.next<=b/\b<h1.next)->h1.get b=h.get b)
  {u:aaa} (hs:kO P ops s o h u h1) (m:Nat):∃y,Kv P q ops s0 h0 A i o s h u h1 m y:=by
 have hrd:∀b,(Nat.blt b h.next=true) ↔ b<h.next:=λb=>by rw[aaM]
 have htc:∀b,(decide (h.next<=b/\b<h1.next)=true) ↔ (h.next<=b/\b<h1.next):=λb=>by simp
 refine⟨⟨i,o,u,s,h,h1,λb=>Nat.blt b h.next,λb=>decide (h.next<=b/\b<h1.next)⟩,rfl,rfl,rfl,rfl,rfl,
  ⟨ho,F.env,F.size,λb=>?_,F.ro,F.next,F.nA,hn,hs,λd hd=>by rw[<- F.size];exact hput d hd,λb hb => .inr ((htc b).1 hb),λb hb=>?_,λb o' hb hlt=>?_⟩,
  ⟨λb hb=>(hrd b).1 hb,λh=>by simp only at h;omega,λh=>by simp only at h;omega,λh=>(by simp only[hk]at h;cases h),λ_ b hb => .inl ((htc b).1 hb),λh=>(by simp only[hk]at h;cases h),λe=>absurd (hk.symm.trans e) (by decide)⟩,λb=>?_,hro,hn,aaj _,λ_=>rfl,λb o' hb=>?_⟩
 ·show h.get b=if Nat.blt b h.next=true then Yh A h0 b else none;by_cases hb:b<h.next
  ·rw[aai ((hrd b).2 hb),F.heap]
  ·rw[aag (λe=>hb ((hrd b).1 e)),Ul F.wf hb]
 ·refine hold b (λe=>?_);have:=(htc b).2 e;rw[show decide (h.next<=b/\b<h1.next)=false from hb]at this;cases this
 ·have:=((htc b).1 hb).1;have hlt:b<h.next:=hlt;omega
 ·show h1.get b=if decide (h.next<=b/\b<h1.next)=true then h1.get b else h.get b;by_cases hb:h.next<=b/\b<h1.next
  ·rw[aai ((htc b).2 hb)]
  ·rw[aag (λe=>hb ((htc b).1 e)),hold b hb]
 ·by_cases hc:h.next<=b/\b<h1.next
  ·exact hc.2
  ·rw[hold b hc]at hb;exact aap (F.wf b o' hb) hn
theorem V0(F:vz P ops s0 h0 A i s h)(ho:ops[i]? = some o)(hput:∀d,o.dst=some d->d<s.size)(hk:z9 P q ops o=3){h1:za}(af:AF h h1)
  {u:aaa} (hs:kO P ops s o h u h1) (m:Nat):∃y,Kv P q ops s0 h0 A i o s h u h1 m y:=by
 have hrd:∀n b,(Nat.blt b n=true) ↔ b<n:=λn b=>by rw[aaM]
 have hn:h.next<=h1.next:=af.next;have hwf:WF h1:=F.wf.af af
 refine⟨⟨i,o,u,s,h,h1,λb=>Nat.blt b h.next,λb=>Nat.blt b h1.next⟩,rfl,rfl,rfl,rfl,rfl,
  ⟨ho,F.env,F.size,λb=>?_,F.ro,F.next,F.nA,hn,hs,λd hd=>by rw[<- F.size];exact hput d hd,λb hb=>?_,λb hb=>?_,λb o' hb hlt hg=>?_⟩,
  ⟨λb hb=>(hrd _ b).1 hb,λh=>by simp only at h;omega,λh=>by simp only at h;omega,λh=>(by simp only[hk]at h;cases h),λh=>by exact absurd hk h,λh=>(by simp only[hk]at h;cases h),λ_ b hb=>(hrd _ b).1 hb⟩,λb=>?_,af.ro,hn,aaj _,λ_=>rfl,hwf⟩
 ·show h.get b=if Nat.blt b h.next=true then Yh A h0 b else none;by_cases hb:b<h.next
  ·rw[aai ((hrd _ b).2 hb),F.heap]
  ·rw[aag (λe=>hb ((hrd _ b).1 e)),Ul F.wf hb]
 ·have hb:=(hrd _ b).1 hb;by_cases hlt:b<h.next
  ·exact .inl ((hrd _ b).2 hlt)
  ·exact .inr ⟨abR hlt,hb⟩
 ·have hb':¬b<h1.next:=λe=>by
   have:=(hrd h1.next b).2 e;rw[show Nat.blt b h1.next=false from hb]at this;cases this
  show h1.get b=h.get b;rw[Ul hwf hb',Ul F.wf (by omega)]
 ·rcases af.alive b o' hg with h2|⟨h2,_⟩
  ·exact h2
  ·have hlt:b<h.next:=hlt;omega
 ·show h1.get b=if Nat.blt b h1.next=true then h1.get b else h.get b;by_cases hb:b<h1.next
  ·rw[aai ((hrd _ b).2 hb)]
  ·rw[aag (λe=>hb ((hrd _ b).1 e)),Ul hwf hb,Ul F.wf (by omega)]
structure Cj (g:za) (v:aaa) (g':za):Prop where
 next:g.next<=g'.next
 ro:g'.ro=g.ro
 same:∀b,¬(g.next<=b/\b<g'.next)->(∀a n c,v=.slice (some a) n c->b≠a.block)->g'.get b=g.get b
 gone:∀b o,b<g.next->g'.get b=some o->g.get b≠none
 wf:WF g->WF g'
theorem oD{g:za}{v:aaa}:Cj g v g:=⟨aaj _,rfl,λ_ _ _=>rfl,λb o _ h=>by rw[h];simp,id⟩
theorem Tw{elem:TypeId}{ti:TypeInfo}{n:Nat}{new:List aaa}{s u:aaa}{g g':za}(he:UA g elem ti n new s=some (u,g')):Cj g s g':=by
 unfold UA at he;split at he
 ·cases h0:Nat.beq n 0 with
  |true=>rw[h0]at he;simp only[aav,aab,aae]at he;obtain⟨_,rfl⟩:=he;exact oD
  |false=>
   rw[h0]at he;obtain⟨_,he⟩:=zo he;simp only[aab,aae]at he;obtain⟨_,rfl⟩:=he;refine⟨abI _,rfl,λb hb _=>?_,λb o hb hg=>?_,λw b o hb=>?_⟩
   ·rw[za.vT,aag (λe=>hb ⟨by omega,by rw[za.ai];omega⟩)]
   ·rw[za.vT,aag (by omega)]at hg;rw[hg];simp
   ·rw[za.vT]at hb;rw[za.ai];split at hb
    ·omega
    ·exact acr (w b o hb)
 ·rename_i b0 off len c;cases h0:Nat.beq n 0 with
  |true=>rw[h0]at he;simp only[aav,aab,aae]at he;obtain⟨_,rfl⟩:=he;exact oD
  |false=>
   rw[h0]at he;simp only[aaB]at he;split at he
   ·rename_i cs t hg0;obtain⟨_,he⟩:=zo he;simp only[aab,aae]at he;obtain⟨_,rfl⟩:=he
    have key:∀b o,((g.set b0 none).push o).get b=if b=g.next then some o else if b=b0 then none else g.get b:=λb o=>by
     rw[za.vT,za.yy];rfl
    refine⟨abI _,rfl,λb hb hne=>?_,λb o hb hg=>?_,λw b o hb=>?_⟩
    ·rw[key,aag (λe=>hb ⟨by omega,by show b<g.next+1;omega⟩),aag (hne _ _ _ rfl)]
    ·rw[key,aag (by omega)]at hg;split at hg
     ·cases hg
     ·rw[hg];simp
    ·rw[key]at hb;show b<g.next+1;split at hb
     ·omega
     ·split at hb
      ·cases hb
      ·exact acr (w b o hb)
   ·cases he
 ·cases he
theorem DL{ts:List TypeId}{r:TypeId}{s u:aaa}{vs':List aaa}{g g':za}(he:zG P .append ts r (s::vs') g=some (u,g')):Cj g s g':=by
 match ts,vs',he with
 |[sT,xT],[x],he=>
  have he:VN P sT xT s x g=some (u,g'):=he;unfold VN at he;split at he
  ·split at he
   ·split at he
    ·obtain⟨_,he⟩:=zo he;exact Tw he
    ·cases he
   ·cases he
  ·cases he
 |[],_,he=>cases he
 |[_],_,he=>cases he
 |_::_::_::_,_,he=>cases he
 |[_,_],[],he=>cases he
 |[_,_],_::_::_,he=>cases he
end
end
noncomputable section
variable {P:Program}
section
variable {q:FuncId->Nat}{ops:Array Oper}{s0:Env}{h0:za}{A:List yr}{i:Nat}{o:Oper}{s:Env}{h:za}
theorem eP(h:za)(v:aaa)(h':za)(b:Nat):(Kp h v h').get b=h.get b\/((∃a n c,v=.slice (some a) n c/\b=a.block)/\(Kp h v h').get b=h'.get b):=by
 unfold Kp;split
 ·rename_i a n c;rw[za.yy];by_cases e:b=a.block
  ·rw[aai e];exact .inr ⟨⟨a,n,c,rfl,e⟩,by rw[e]⟩
  ·rw[aag e];exact .inl rfl
 ·exact .inl rfl
theorem aj(h:za)(v:aaa)(h':za):(Kp h v h').next=h.next:=by unfold Kp;split <;> rfl
theorem B5(h:za)(v:aaa)(h':za):(Kp h v h').ro=h.ro:=by unfold Kp;split <;> rfl
def K4(v:aaa)(b:Nat):Bool:=match v with
 | .slice (some a) _ _=>Nat.beq a.block b
 |_=>false
theorem tV{v:aaa}{b:Nat}:K4 v b=true ↔ ∃a n c,v=.slice (some a) n c/\b=a.block:=by
 unfold K4;split
 ·rename_i a n c;rw[acq]
  constructor
  ·intro e;exact⟨a,n,c,rfl,e.symm⟩
  ·rintro⟨a',n',c',e1,e2⟩;cases e1;exact e2.symm
 ·rename_i hn
  constructor
  ·intro e;cases e
  ·rintro⟨a',n',c',e1,e2⟩;exact absurd e1 (hn a' n' c')
theorem L5(F:vz P ops s0 h0 A i s h)(ho:ops[i]? = some o)(hput:∀d,o.dst=some d->d<s.size)(hk:z9 P q ops o=4){m:Nat}{v u:aaa}{g':za}{z:yr}(hz:z∈A)(hzl:Wi (z9 P q ops z.o)=true)(hzo:GW ops o=some z.j)
  (hown:zcc v z.g.next z.g'.next (qz m (Xc P q ops A) h)) (fx:Cj (qz m (Xc P q ops A) h) v g') (hs:kO P ops s o (qz m (Xc P q ops A) h) u g'):∃y,Kv P q ops s0 h0 A i o s h u (wS (Kp h v g') g') m y:=by
 obtain⟨v1,v2,v3⟩:=Zo m (Xc P q ops A) h;generalize hG:qz m (Xc P q ops A) h=g at *
 have hn:h.next<=g'.next:=by rw[<- v1];exact fx.next
 have hzn:z.g'.next<=h.next:=F.nA z hz;have hsee:∀b,g.get b=if eH m (Xc P q ops A) h b=true then Yh A h0 b else none:=λb=>by rw[<- hG];exact ik F b
 have htc:∀b,((decide (h.next<=b/\b<g'.next)||K4 v b)=true) ↔ ((h.next<=b/\b<g'.next) \/ ∃a n c,v=.slice (some a) n c/\b=a.block):=λb=>by rw[aaW,aaF,tV]
 have hblk:∀b,(∃a n c,v=.slice (some a) n c/\b=a.block)->z.g.next<=b/\b<z.g'.next/\g.get b≠none:=by
  rintro b ⟨a,n,c,rfl,rfl⟩;exact hown
 refine⟨⟨i,o,u,s,g,g',eH m (Xc P q ops A) h,λb=>decide (h.next<=b/\b<g'.next)||K4 v b⟩,rfl,rfl,rfl,rfl,v1,
  ⟨ho,F.env,F.size,hsee,v2.trans F.ro,by rw[v1];exact F.next,λx hx=>by rw[v1];exact F.nA x hx,fx.next,hs,λd hd=>by rw[<- F.size];exact hput d hd,λb hb=>?_,λb hb=>?_,λb o' hb hlt hg=>fx.gone b o' hlt hg⟩,
  ⟨λb hb=>by show b<g.next;rw[v1];exact By hb,λe=>by simp only at e;omega,λe=>by simp only at e;omega,λ_ b hb z hz hl hm=>oZ hb hz hl hm,λ_ b hb=>?_,λ_ b hb z hz hl hm=>gN hb hz hl hm,λe=>absurd (hk.symm.trans e) (by decide)⟩,λb=>?_,?_,hn,aaj _,λ_=>rfl,λb o' hb=>?_⟩
 ·rcases (htc b).1 hb with e|e
  ·exact .inr (by show g.next<=b/\b<g'.next;rw[v1];exact e)
  ·refine .inl ?_;show eH m (Xc P q ops A) h b=true;cases he:eH m (Xc P q ops A) h b with
   |true=>rfl
   |false=>exact absurd (by rw[hsee,he];rfl) (hblk b e).2.2
 ·have hb:(decide (h.next<=b/\b<g'.next)||K4 v b)=false:=hb;refine fx.same b (λe=>?_) (λa n c e1 e2=>?_)
  ·rw[(htc b).2 (.inl (by rw[<- v1];exact e))]at hb;cases hb
  ·rw[(htc b).2 (.inr ⟨a,n,c,e1,e2⟩)]at hb;cases hb
 ·rcases (htc b).1 hb with e|e
  ·exact .inl (by show g.next<=b/\b<g'.next;rw[v1];exact e)
  ·exact .inr (.inl ⟨hk,z,hz,hzl,hzo,(hblk b e).1,(hblk b e).2.1⟩)
 ·show(wS (Kp h v g') g').get b=if (decide (h.next<=b/\b<g'.next)||K4 v b)=true then g'.get b else h.get b;rw[wO,aj];by_cases e:h.next<=b/\b<g'.next
  ·rw[aai e,aai ((htc b).2 (.inl e))]
  ·rw[aag e];by_cases e2:∃a n c,v=.slice (some a) n c/\b=a.block
   ·rw[aai ((htc b).2 (.inr e2))];obtain⟨a,n,c,rfl,rfl⟩:=e2;unfold Kp;rw[za.yy,aai rfl]
   ·rw[aag (λt=>by rcases (htc b).1 t with t|t;exact e t;exact e2 t)];rcases eP h v g' b with t|⟨t,_⟩
    ·exact t
    ·exact absurd t e2
 ·show(Kp h v g').ro=h.ro;exact B5 h v g'
 ·show b<g'.next;rw[wO,aj]at hb;split at hb
  ·rename_i e;exact e.2
  ·rcases eP h v g' b with t|⟨t,_⟩
   ·rw[t]at hb;exact aap (F.wf b o' hb) hn
   ·have:=hblk b t;omega
theorem Gu(F:vz P ops s0 h0 A i s h)(ho:ops[i]? = some o)(hput:∀d,o.dst=some d->d<s.size)(hk:z9 P q ops o=7)(m:Nat){v u:aaa}{h1:za}(hv:YO s o=v)(fx:Cj h v h1)(hs:kO P ops s o h u h1):∃y,Kv P q ops s0 h0 A i o s h u h1 m y:=by
 have hn:=fx.next;have hwf:WF h1:=fx.wf F.wf;have htc:∀b,((decide (h.next<=b/\b<h1.next)||(K4 v b&&Nat.blt b h.next))=true) ↔ ((h.next<=b/\b<h1.next)\/((∃a n c,v=.slice (some a) n c/\b=a.block)/\b<h.next)):=λb=>by rw[aaW,aaF,aad,tV,aaM]
 have hsame:∀b,¬(decide (h.next<=b/\b<h1.next)||(K4 v b&&Nat.blt b h.next))=true->h1.get b=h.get b:=λb hb=>by
  have hb1:¬(h.next<=b/\b<h1.next):=λe=>hb ((htc b).2 (.inl e));by_cases e2:∃a n c,v=.slice (some a) n c/\b=a.block
  ·have:¬b<h.next:=λe=>hb ((htc b).2 (.inr ⟨e2,e⟩));rw[Ul F.wf this,Ul hwf (by omega)]
  ·exact fx.same b hb1 (λa n c e1 e3=>e2 ⟨a,n,c,e1,e3⟩)
 refine⟨⟨i,o,u,s,h,h1,λb=>Nat.blt b h.next,λb=>decide (h.next<=b/\b<h1.next)||(K4 v b&&Nat.blt b h.next)⟩,rfl,rfl,rfl,rfl,rfl,
  ⟨ho,F.env,F.size,λb=>?_,F.ro,F.next,F.nA,hn,hs,λd hd=>by rw[<- F.size];exact hput d hd,λb hb=>?_,λb hb=>hsame b (λe=>by
   have hb:(decide (h.next<=b/\b<h1.next)||(K4 v b&&Nat.blt b h.next))=false:=hb;rw[hb]at e;cases e),λb o' hb hlt hg=>fx.gone b o' hlt hg⟩,
  ⟨λb hb=>by rwa [aaM]at hb,λe=>by simp only at e;omega,λe=>by simp only at e;omega,λe=>(by simp only[hk]at e;cases e),λ_ b hb=>?_,λe=>(by simp only[hk]at e;cases e),λe=>absurd (hk.symm.trans e) (by decide)⟩,λb=>?_,fx.ro,hn,aaj _,λ_=>rfl,hwf⟩
 ·show h.get b=if Nat.blt b h.next=true then Yh A h0 b else none;by_cases hb:b<h.next
  ·rw[aai (by rw[aaM];exact hb),F.heap]
  ·rw[aag (λe=>hb (by rwa [aaM]at e)),Ul F.wf hb]
 ·rcases (htc b).1 hb with e|⟨_,e⟩
  ·exact .inr e
  ·exact .inl (by show Nat.blt b h.next=true;rw[aaM];exact e)
 ·rcases (htc b).1 hb with e|⟨e,e2⟩
  ·exact .inl e
  ·refine .inr (.inr ⟨hk,e2,?_⟩);show rX (YO s o)<=b/\b<rY (YO s o);rw[hv];exact(PF v b).2 e
 ·show h1.get b=if (decide (h.next<=b/\b<h1.next)||(K4 v b&&Nat.blt b h.next))=true then h1.get b else h.get b;split
  ·rfl
  ·rename_i e;exact hsame b e
theorem Rb{u:aaa}{h':za}(hk:z9 P q ops o=5)(he:Um P s o h=some (u,h')):∃ob,h'=h.push ob/\Um P s o (h.pick [])=some (u,(h.pick []).push ob):=by
 have hcv:∀a b x,o.op ≠ .convert a b x:=λa b x e=>by
  unfold z9 at hk;simp only[e]at hk;cases hn:sg P a b <;> cases ht:bp P b <;> (rw[hn,ht]at hk;exact absurd hk (by decide))
 unfold z9 at hk;unfold Um at he ⊢
 split at he <;> rename_i yk <;> simp only[yk]at hk ⊢ <;> first
  |(cases hk;done)
  |(exact absurd yk (hcv _ _ _))
  |(cases he;done)
  |skip
 ·split at he
  ·simp only[aab,r9,aae]at he;obtain⟨rfl,rfl⟩:=he;exact⟨_,rfl,rfl⟩
  ·cases he
 ·split at he
  ·simp only[aab,r9,aae]at he;obtain⟨rfl,rfl⟩:=he;exact⟨_,rfl,rfl⟩
  ·cases he
 ·split at he
  ·unfold ze at he ⊢;split at he
   ·split at he
    ·obtain⟨hc,he⟩:=zo he;rw[hc];simp only[aav];split at he
     ·obtain⟨hc2,he⟩:=zo he;rw[hc2];simp only[aav,aab,aae]at he ⊢;obtain⟨rfl,rfl⟩:=he;exact⟨_,rfl,rfl,rfl⟩
     ·cases he
    ·cases he
   ·cases he
  ·cases he
 ·split at he
  ·unfold YS at he ⊢;split at he
   ·split at he
    ·cases he
    ·split at he
     ·cases he
     ·obtain⟨hc,he⟩:=zo he;rw[hc];simp only[aav,aab,aae]at he ⊢;obtain⟨rfl,rfl⟩:=he;exact⟨_,rfl,rfl,rfl⟩
   ·cases he
  ·cases he
 ·exfalso
  split at hk <;> rename_i heq <;> first
   |(cases heq;done)
   |skip
  ·(repeat' split at hk) <;> cases hk
  ·rename_i b _ _ _;cases hq:Xp b <;> rw[hq]at hk <;> cases hk
  all_goals (cases hk;done)
 all_goals (cases he;exact⟨_,rfl,rfl⟩)
end
end
noncomputable section
variable {P:Program}
section
variable {q:FuncId->Nat}{ops:Array Oper}{s0:Env}{h0:za}{A:List yr}{i:Nat}{o:Oper}{s:Env}{h:za}
theorem NP{a b:TypeId}(hn:sg P a b=true){x u:aaa}{g g':za}(he:xg P a b x g=some (u,g')):g'=g /\ ∀g2,xg P a b x g2=some (u,g2):=by
 unfold sg at hn;rw[aad]at hn;obtain⟨n1,n2⟩:=hn;split at n1
 case h_2=>cases n1
 rename_i _ _ _ _ e1 e2;split at n2
 case h_2=>cases n2
 rename_i _ _ _ _ e3 e4;unfold xg QC Bc at he ⊢;simp only[e1,e2,e3,e4]at he ⊢;cases hf:cond (flat x) (fl (yg P (convert a b x))) none with
 |none=>rw[hf]at he;cases he
 |some v=>
  rw[hf]at he;simp only[aab,aae]at he ⊢;obtain⟨rfl,rfl⟩:=he;exact⟨rfl,λ_=>⟨rfl,trivial⟩⟩
theorem LA{a b:TypeId}(hn:bp P b=true){x u:aaa}{g g':za}(he:xg P a b x g=some (u,g')):g'=g:=by
 unfold bp at hn;rw[aad]at hn;obtain⟨n1,n2⟩:=hn;split at n1
 case h_2=>cases n1
 rename_i e1;split at n2
 case h_2=>cases n2
 rename_i e2;unfold xg at he;cases h0:QC P a b x g with
 |some r=>
  rw[h0]at he;simp only[aab]at he;subst he;unfold QC at h0;split at h0
  ·simp only[aab,aae]at h0;exact h0.2.symm
  ·split at h0
   ·rename_i k2 _;rw[e1]at k2;cases k2
   ·split at h0
    ·simp only[aas,aae]at h0;obtain⟨_,_,_,q⟩:=h0;exact q.symm
    ·cases h0
   ·cases h0
 |none=>
  rw[h0]at he;simp only[aas,aae]at he;obtain⟨_,_,_,q⟩:=he;exact q.symm
theorem Ii{k:Nat}(hc:YF o.op=false)(hk:z9 P q ops o=k)(h1:1<=k)(h5:k<=2)(hv:k=1->¬ ∃a b x,o.op=.convert a b x):x9 q o=k:=by
 unfold z9 at hk;unfold x9;unfold YF at hc
 split at hk <;> rename_i yk <;> simp only[yk]at hc ⊢ <;> first
  |(cases hc;done)
  |exact hk
  |(subst hk;omega)
  |(split at hk <;> (subst hk;omega))
  |((repeat' split at hk) <;> (subst hk;omega))
  |skip
 rename_i a b x;cases hn:sg P a b with
 |true=>rw[hn]at hk;exact absurd (show(0:Nat)=k from hk) (by omega)
 |false=>
  rw[hn]at hk;cases ht:bp P b with
  |true=>rw[ht]at hk;exact absurd ⟨_,_,_,yk⟩ (hv (show 1=k from hk).symm)
  |false=>rw[ht]at hk;exact hk
theorem B4{u:aaa}{h':za}(hk:z9 P q ops o=1)(hc:YF o.op=false)(he:Um P s o h=some (u,h')):h'=h:=by
 by_cases hv:∃a b x,o.op=.convert a b x
 ·obtain⟨a,b,x,yk⟩:=hv;unfold z9 at hk;simp only[yk]at hk;cases hn:sg P a b with
  |true=>rw[hn]at hk;cases hk
  |false=>
   cases ht:bp P b with
   |false=>rw[hn,ht]at hk;cases hk
   |true=>
    unfold Um at he;simp only[yk]at he;split at he
    ·exact LA ht he
    ·cases he
 ·exact Jp (Ii hc hk (by omega) (by omega) (λ_=>hv)) hc he
theorem Mf{u:aaa}{h':za}(hk:z9 P q ops o=0)(hc:YF o.op=false)(he:Um P s o h=some (u,h')):h'=h /\ ∀g,Um P s o g=some (u,g):=by
 by_cases hv:∃a b x,o.op=.convert a b x
 ·obtain⟨a,b,x,yk⟩:=hv;unfold z9 at hk;simp only[yk]at hk;cases hn:sg P a b with
  |false=>rw[hn]at hk;cases ht:bp P b <;> (rw[ht]at hk;cases hk)
  |true=>
   unfold Um at he ⊢;simp only[yk]at he ⊢;split at he
   ·exact NP hn he
   ·cases he
 ·refine fo (q:=q) ?_ hc he;unfold z9 at hk;unfold x9;unfold YF at hc
  split at hk <;> rename_i yk <;> simp only[yk]at hc ⊢ <;> first
   |(cases hc;done)
   |exact hk
   |(exact absurd hk (by decide))
   |(exact(hv ⟨_,_,_,yk⟩).elim)
   |(exfalso;split at hk <;> simp at hk)
   |(exfalso; (repeat' split at hk) <;> simp at hk)
   |(split at hk <;> exact absurd hk (by decide))
   |(cases hz:GW ops o <;> (rw[hz]at hk;simp at hk))
theorem Ns(F:vz P ops s0 h0 A i s h){v:aaa}{h1:za}{y:yr}{u:aaa}{m:Nat}(N:Kv P q ops s0 h0 A i o s h u h1 m y):AF h h1 :=
 ⟨N.next,N.ro,λb o hb=>by
  rw[N.heap]at hb;by_cases ht:y.tc b=true
  ·rw[aai ht]at hb;by_cases hl:b<y.g.next
   ·have h2:=N.told.tc3 b o ht hl hb;have h3:=N.told.heap b;rw[h3]at h2;by_cases hr:y.rd b=true
    ·rw[aai hr,<- F.heap]at h2;exact .inl h2
    ·rw[aag hr]at h2;exact absurd rfl h2
   ·have hb1:h1.get b=some o:=(by rw[N.heap,aai ht];exact hb);exact .inr ⟨by rw[<- N.gn];omega,N.wf b o hb1⟩
  ·rw[aag ht]at hb;exact .inl (by rw[hb];simp)⟩
theorem Ay(F:vz P ops s0 h0 A i s h)(hron:h.ro<=h.next)(ho:ops[i]? = some o)(hput:∀d,o.dst=some d->d<s.size)(hw:yq ops s o=true){r:Env}(hl:Le r s){m:Nat}
  {K:aaa->za->Prop} (hk:Mb P q ops r o (Xc P q ops A) (qz m (Xc P q ops A) h) h K):∃v u h1 y,(zQ v=true\/v=u)/\K v h1/\Kv P q ops s0 h0 A i o s h u h1 m y/\(z9 P q ops o=7->YO s o=YO r o):=by
 obtain⟨w1,w2,w3⟩:=Zo m (Xc P q ops A) h;have no7:∀{X:Prop},z9 P q ops o≠7->z9 P q ops o=7->X:=λh1 h2=>absurd h2 h1;unfold Mb at hk;split at hk
 ·rename_i g args ts yk;have ef:kG s (.func g)=some (.func (.func g) #[] #[]):=rfl;have hkind:z9 P q ops o=pG (q g):=by unfold z9;simp only[yk]
  split at hk
  ·rename_i hq;obtain⟨hc,hn,v,hsc,hT,hK⟩:=hk
   have hT2:TC P g (cX r args.toList) (qz m (Xc P q ops A) h) (λv1 h1=>v1=v/\h1=qz m (Xc P q ops A) h) :=
    (hT.quiet (λv1 _ e=>by rw[e];exact hsc)).mono (by rintro v1 h1 ⟨⟨_,e1⟩,e2⟩;exact⟨e1,e2⟩)
   obtain⟨y,hy⟩:=pQ (q:=q) F ho hput (by rw[hkind,hq];rfl) (u:=v) (.inr ⟨hw,.inr (.inl ⟨.func g,args,ts,g,#[],#[],_,yk,ef,QQ hl hn,hc,by simpa using hT2⟩)⟩);exact⟨v,v,h,y,.inr rfl,hK,hy,no7 (by rw[hkind,hq];decide)⟩
  ·rename_i hq;obtain⟨hc,hn,v,h2,hT,af,hK⟩:=hk;have hnx:h.next<=h2.next:=by have:=af.next;rw[<- w1];exact this
   obtain⟨y,hy⟩:=Gv (q:=q) F ho hput (by rw[hkind,hq];rfl) (m:=m) hnx (u:=v)
    (.inr ⟨hw,.inr (.inl ⟨.func g,args,ts,g,#[],#[],_,yk,ef,QQ hl hn,hc,by simpa using hT.fresh⟩)⟩)
   exact⟨v,v,_,y,.inr rfl,hK,hy,no7 (by rw[hkind,hq];decide)⟩
  ·rename_i hq;obtain⟨hn,hk⟩:=hk;obtain⟨v,h2,he,hK⟩:=jV hk;obtain⟨f1,f2,f3⟩:=V2 (Xb he);obtain⟨y,hy⟩:=lr (q:=q) F ho hput (by rw[hkind,hq];rfl) f1 f2 f3 (u:=v) (.inr ⟨hw,.inr (.inr ⟨.func g,args,ts,g,#[],#[],_,yk,ef,QQ hl hn,by simpa using he⟩)⟩) m;exact⟨v,v,_,y,.inr rfl,hK,hy,no7 (by rw[hkind,hq];decide)⟩
  ·rename_i n2 n3 n4;obtain⟨hc,hn,hd⟩:=hk;obtain⟨v,h2,hK,af,hT⟩:=hd ⟨F.wf,hron⟩;have hk3:z9 P q ops o=3:=by rw[hkind];unfold pG;split <;> first|rfl|(exfalso;simp_all)
   obtain⟨y,hy⟩:=V0 (q:=q) F ho hput hk3 af (u:=v)
    (.inr ⟨hw,.inr (.inl ⟨.func g,args,ts,g,#[],#[],_,yk,ef,QQ hl hn,hc,by simpa using hT⟩)⟩) m
   exact⟨v,v,_,y,.inr rfl,hK,hy,no7 (by rw[hk3];decide)⟩
 ·rename_i f args ts hnf yk;unfold gI at hk;split at hk
  ·rename_i g a c hf;have ef:kG s f=some (.func (.func g) a c):=by rw[ZI hl (x:=f) (by rw[hf];rfl),hf]
   obtain⟨hn0,hc,hn,hd⟩:=hk;obtain⟨v,h2,hK,af,hT⟩:=hd ⟨F.wf,hron⟩
   have hkind:z9 P q ops o=3:=by
    unfold z9;simp only[yk]
   obtain⟨y,hy⟩:=V0 (q:=q) F ho hput hkind af (u:=v) (.inr ⟨hw,.inr (.inl ⟨f,args,ts,g,a,c,_,yk,ef,QQ hl hn0,hc,hT⟩)⟩) m;exact⟨v,v,_,y,.inr rfl,hK,hy,no7 (by rw[hkind];decide)⟩
  ·exact hk.elim
 ·rename_i args ts yk;split at hk
  ·rename_i z hz;have hkind:z9 P q ops o=4:=by unfold z9;simp only[yk,hz]
   unfold cB at hk;split at hk
   case h_2=>exact hk.elim
   rename_i x sv vs' hx hvs;obtain⟨how,hk⟩:=hk;obtain⟨v,h2,he,hK⟩:=jV hk;obtain⟨hn,he⟩:=qa he;obtain⟨f,t⟩:=x;obtain⟨zr,hzm,hzl,hze⟩:=N5 hx;simp only[aae]at hze;obtain⟨rfl,rfl,rfl⟩:=hze
   have hop2:Um P s o (qz m (Xc P q ops A) h)=some (v,h2):=by
    unfold Um;simp only[yk];rw[QQ hl hn];exact he
   rw[hvs]at he;obtain⟨y,hy⟩:=L5 (q:=q) F ho hput hkind (m:=m) hzm hzl hz how (DL he) (.inr ⟨hw,.inl hop2⟩);exact⟨v,v,_,y,.inr rfl,hK,hy,no7 (by rw[hkind];decide)⟩
  ·rename_i hz;obtain⟨v,u,h',he,hv,hK⟩:=qT hl hk
   have hkk:z9 P q ops o=7\/z9 P q ops o=3:=by
    unfold z9;simp only[yk,hz];split
    ·exact .inl rfl
    ·exact .inr rfl
   rcases hkk with h7|h3
   ·have hs0:∃d xs,args.toList=.tmp d::xs/\IK o=some d:=by
     unfold z9 at h7;simp only[yk,hz]at h7;split at h7
     ·rename_i d hd _;have hd2:=hd;unfold IK at hd;simp only[yk]at hd;split at hd
      ·rename_i d2 xs hx;obtain rfl:d2=d:=by simpa using hd
       exact⟨_,xs,hx,hd2⟩
      ·cases hd
     ·cases h7
    obtain⟨d,xs,hx,hsl⟩:=hs0;have he0:=he;unfold Um at he;simp only[yk,hx]at he;simp only[Vq,kG]at he;split at he
    ·rename_i vs hvs;split at hvs
     ·cases hvs
     ·cases hvs;have r7:YO s o=s.get d:=by unfold YO;rw[hsl]
      obtain⟨y,hy⟩:=Gu (q:=q) F ho hput h7 m r7 (DL he) (.inr ⟨hw,.inl he0⟩);refine⟨v,u,h',y,hv,hK,hy,λ_=>?_⟩;rw[r7];unfold YO;rw[hsl];unfold L9 at hk;simp only[yk,hx]at hk;obtain⟨v2,h2,he2,_⟩:=jV hk;obtain⟨hnb,_⟩:=qa he2;simp only[cX,ev,yi]at hnb
      have hd:zQ (r.get d)=false:=by
       cases hb:zQ (r.get d) with
       |false=>rfl
       |true=>rw[hb]at hnb;cases hnb
      rcases hl.get d with e|e
      ·rw[e]at hd;cases hd
      ·exact e.symm
    ·cases he
   ·obtain⟨y,hy⟩:=V0 (q:=q) F ho hput h3 (Zz he).1 (u:=u) (.inr ⟨hw,.inl he⟩) m;exact⟨v,u,h',y,hv,hK,hy,no7 (by rw[h3];decide)⟩
 ·rename_i hn1 hn2 hn3;cases h1:Nat.beq (z9 P q ops o) 1 with
  |true=>
   rw[h1]at hk;have h1:=aak h1;obtain⟨v,u,h',he,hv,hK⟩:=qT hl hk;have hnc:=Xf he;obtain rfl:=B4 h1 hnc he;obtain⟨y,hy⟩:=pQ (q:=q) F ho hput h1 (m:=m) (u:=u) (.inr ⟨hw,.inl he⟩);exact⟨v,u,h,y,hv,hK,hy,no7 (by rw[h1];decide)⟩
  |false=>
   rw[h1]at hk;obtain⟨v,u,h',he,hv,hK⟩:=qT hl hk;have hnc:=Xf he
   have hkle:z9 P q ops o=0\/z9 P q ops o=1\/z9 P q ops o=2\/z9 P q ops o=3\/z9 P q ops o=5:=by
    unfold z9;split <;> (try simp)
    ·rename_i yk;rw[yk]at hnc;cases hnc
    ·rename_i yk;exact absurd yk (hn3 _ _)
    ·cases Xp _ <;> simp
    ·cases sg P _ _ <;> cases bp P _ <;> simp
   rcases hkle with h0'|h1'|h2'|h3'|h5'
   ·obtain⟨rfl,hany⟩:=Mf h0' hnc he;obtain⟨y,hy⟩:=cK (q:=q) F ho hput (u:=u) (.inr ⟨hw,.inl (hany _)⟩) m;exact⟨v,u,h',y,hv,hK,hy,no7 (by rw[h0'];decide)⟩
   ·rw[h1']at h1;cases h1
   ·obtain⟨f1,f2,f3⟩:=V2 (iU (Ii hnc h2' (by omega) (by omega) (λe=>absurd e (by decide))) hnc he);obtain⟨y,hy⟩:=lr (q:=q) F ho hput h2' f1 f2 f3 (u:=u) (.inr ⟨hw,.inl he⟩) m;exact⟨v,u,h',y,hv,hK,hy,no7 (by rw[h2'];decide)⟩
   ·obtain⟨y,hy⟩:=V0 (q:=q) F ho hput h3' (Zz he).1 (u:=u) (.inr ⟨hw,.inl he⟩) m;exact⟨v,u,h',y,hv,hK,hy,no7 (by rw[h3'];decide)⟩
   ·obtain⟨ob,rfl,he2⟩:=Rb h5' he;obtain⟨y,hy⟩:=L6 (q:=q) F ho hput h5' (u:=u) (.inr ⟨hw,.inl he2⟩) m;exact⟨v,u,_,y,hv,hK,hy,no7 (by rw[h5'];decide)⟩
theorem ra{A1 A2:List yr}{x w:yr}(F:vz P ops s0 h0 (A1++x::A2) i s h)(hw:w∈A1):w.g'.next<=x.g.next:=(F.told A1 x A2 rfl).nA w hw
theorem AD{A1 A2:List yr}{x w:yr}(F:vz P ops s0 h0 (A1++x::A2) i s h)(hw:w∈A2):x.g'.next<=w.g.next:=by
 obtain⟨B1,B2,rfl⟩:=aaR hw;exact(F.told (A1++x::B1) w B2 (by simp)).nA x (by simp)
theorem zax{x:yr}(F:vz P ops s0 h0 A i s h)(hx:x∈A):x.g.next<=x.g'.next:=by
 obtain⟨B1,B2,rfl⟩:=aaR hx;exact(F.told B1 x B2 rfl).n1
theorem AE{u w:yr}(F:vz P ops s0 h0 A i s h)(hu:u∈A)(hw:w∈A)(hne:u.j≠w.j):u.g'.next<=w.g.next\/w.g'.next<=u.g.next:=by
 obtain⟨B1,B2,rfl⟩:=aaR hu;rcases aaG.1 hw with h1|h1
 ·exact .inr (ra F h1)
 ·rcases aaP.1 h1 with rfl|h1
  ·exact absurd rfl hne
  ·exact .inl (AD F h1)
theorem Ga{A1 A2:List yr}{x y:yr}{mx my:Nat}(F:vz P ops s0 h0 (A1++x::A2) i s h)(hx:RV P q ops A1 mx x)(hy:RV P q ops (A1++x::A2) my y)(hn:∀w,w∈A1++x::A2->w.g'.next<=y.g.next)
  (hs:kU ops x.o y.o=true) (hbit:my.testBit x.j=false) (hzy:∀z,GW ops y.o=some z->my.testBit z=true) (hp:OR (x.j,z9 P q ops x.o,GW ops x.o,mx) (z9 P q ops y.o) (GW ops y.o) my=true):lB ops x y:=by
 simp only[kU,aad]at hs;obtain⟨h1,h2⟩:=hs
 have d1:∀d,x.o.dst=some d->d∉y.o.looksAt ops/\y.o.dst≠some d:=by
  intro d hd;rw[hd]at h1;simp only[aad,aan,aam,aaC]at h1;exact⟨h1.1,h1.2⟩
 have d2:∀d,y.o.dst=some d->d∉x.o.looksAt ops:=by
  intro d hd;rw[hd]at h2;simp only[aan,aam,aaC]at h2;exact h2
 have ff:∀{b:Bool},b≠true->b=false:=λh=>by simpa using h
 have xm:x∈A1++x::A2:=by simp
 have xu:=zax F xm;have xy:=hn x xm;unfold OR at hp;simp only[aaW,aad,aan]at hp;rcases hp with(((hp|hp)|hp)|hp)|⟨⟨⟨⟨⟨⟨p1,p2⟩,p7⟩,q7⟩,p3⟩,p4⟩,p5⟩
 ·have e:=aak hp;have t:=hx.k1 (by omega);have r:=hx.k0 (.inl e);exact⟨d1,d2,λb hb=>(by rw[t b]at hb;cases hb),λb _=>r b⟩
 ·have e:=aak hp;have t:=hy.k1 (by omega);have r:=hy.k0 (.inl e);exact⟨d1,d2,λb _=>⟨r b,t b⟩,λb hb=>by rw[t b]at hb;cases hb⟩
 ·have e3:=aak hp.1;have e5:=aak hp.2
  have own:∀b,y.tc b=true->y.g.next<=b:=λb hb=>by
   rcases hy.tc (by omega) b hb with q|⟨q,_⟩|⟨q,_⟩
   ·exact q.1
   ·omega
   ·omega
  exact⟨d1,d2,λb hb=>⟨hy.k0 (.inr e5) b,ff λht=>by have:=hx.t3 e3 b hb;have:=own b ht;omega⟩,λb hb=>ff λhr=>by have:=hx.rd b hr;have:=own b hb;omega⟩
 ·have e7:=aak hp.1;have k15:z9 P q ops y.o=1\/z9 P q ops y.o=5:=hp.2.imp aak aak
  have own:∀b,y.tc b=true->y.g.next<=b:=λb hb=>by
   rcases hy.tc (by omega) b hb with q|⟨q,_⟩|⟨q,_⟩
   ·exact q.1
   ·omega
   ·omega
  have xl:Wi (z9 P q ops x.o)=true:=by rw[e7];rfl
  refine⟨d1,d2,λb hb=>?_,λb hb=>ff λhr=>by have:=hx.rd b hr;have:=own b hb;omega⟩;rcases hx.tc (by omega) b hb with e|⟨q,_⟩|⟨_,q1,q2⟩
  ·refine⟨ff λhr=>?_,ff λht=>by have:=own b ht;omega⟩;rcases k15 with k|k
   ·exact hy.lk (by rw[k];rfl) b hr x xm xl hbit e
   ·rw[hy.k0 (.inr k) b]at hr;cases hr
  ·omega
  ·refine⟨ff λhr=>?_,ff λht=>by have:=own b ht;omega⟩;rcases k15 with k|k
   ·exact hy.lb (by rw[k];rfl) b hr x xm e7 hbit q2
   ·rw[hy.k0 (.inr k) b]at hr;cases hr
 have nb:∀{n m:Nat},Nat.beq n m=false->n≠m:=λh e=>by subst e;simp at h
 have x3:=nb p1;have y3:=nb p2;have x7:=nb p7;have y7:=nb q7;have xtc:=hx.tc x3;have ytc:=hy.tc y3
 have lay:∀{o:Oper},z9 P q ops o≠3->¬z9 P q ops o<=1->Wi (z9 P q ops o)=true:=λ{o} h3 h1=>by
  have:z9 P q ops o=0\/z9 P q ops o=1\/z9 P q ops o=2\/z9 P q ops o=3\/z9 P q ops o=4\/z9 P q ops o=5\/z9 P q ops o=6\/z9 P q ops o=7:=by
   unfold z9;split <;> (try simp)
   ·unfold pG;split <;> simp
   ·split
    ·simp
    ·split <;> simp
   ·cases Xp _ <;> simp
   ·cases sg P _ _ <;> cases bp P _ <;> simp
  rcases this with e|e|e|e|e|e|e|e
  ·omega
  ·omega
  ·rw[e];rfl
  ·exact absurd e h3
  ·rw[e];rfl
  ·rw[e];rfl
  ·rw[e];rfl
  ·rw[e];rfl
 have Ci:∀b,y.rd b=true->z9 P q ops x.o≠1->BO (z9 P q ops y.o)=true/\z9 P q ops y.o≠5:=λb hr hk1=>by
  have k0:z9 P q ops y.o≠0:=λe=>by rw[hy.k0 (.inl e) b]at hr;cases hr
  have k5:z9 P q ops y.o≠5:=λe=>by rw[hy.k0 (.inr e) b]at hr;cases hr
  refine⟨?_,k5⟩;by_cases l1:z9 P q ops y.o<=1
  ·have:z9 P q ops y.o=1:=by omega
   rw[this];rfl
  ·have:=lay y3 l1
   have n2:z9 P q ops y.o≠2:=by
    rcases p3 with p3|p3
    ·exact nb p3
    ·exact absurd (aak p3) hk1
   unfold Wi at this;simp only[aaW,acq]at this;rcases this with(((e|e)|e)|e)|e
   ·exact absurd e n2
   ·rw[e];rfl
   ·exact absurd e k5
   ·rw[e];rfl
   ·exact absurd e y7
 have xn1:∀b,x.tc b=true->¬z9 P q ops x.o<=1:=λb hb e=>by rw[hx.k1 e b]at hb;cases hb
 refine⟨d1,d2,λb hb=>?_,λb hb=>ff λhr=>?_⟩
 ·have x1:=xn1 b hb;have xne:z9 P q ops x.o≠1:=by omega
  rcases xtc b hb with hown|⟨k4,z,hz,hzl,hzo,hzb⟩|⟨q,_⟩
  rotate_left 2
  ·exact absurd q x7
  ·refine⟨ff λhr=>?_,ff λht=>?_⟩
   ·exact hy.lk (Ci b hr xne).1 b hr x xm (lay x3 x1) hbit hown
   ·rcases ytc b ht with e|⟨_,w,hw,hwl,hwo,hwb⟩|⟨q,_⟩
    rotate_left 2
    ·exact absurd q y7
    ·omega
    ·have hne:x.j≠w.j:=λe=>by
      have:=hzy _ hwo;rw[<- e,hbit]at this;cases this
     have:=AE F xm hw hne;omega
  ·have zm:z∈A1++x::A2:=by simp[hz]
   have zx:=ra F hz;rcases p4 with(p4|p4)|p4
   ·exact absurd k4 (nb p4)
   ·have k5:=aak p4;refine⟨hy.k0 (.inr k5) b,ff λht=>?_⟩;rcases ytc b ht with e|⟨ky4,_⟩|⟨q,_⟩
    ·omega
    ·omega
    ·omega
   ·rw[hzo]at p4;simp only[aad,aan]at p4;refine⟨ff λhr=>?_,ff λht=>?_⟩
    ·exact hy.lk (Ci b hr xne).1 b hr z zm hzl p4.1 hzb
    ·rcases ytc b ht with e|⟨_,w,hw,hwl,hwo,hwb⟩|⟨q,_⟩
     rotate_left 2
     ·exact absurd q y7
     ·omega
     ·rw[hwo]at p4;simp only[aan]at p4;have:=AE F zm hw (nb p4.2);omega
 ·have hlt:=hx.rd b hr;rcases ytc b hb with e|⟨ky4,w,hw,hwl,hwo,hwb⟩|⟨q,_⟩
  rotate_left 2
  ·exact absurd q y7
  ·omega
  ·rcases p5 with(p5|p5)|p5
   ·exact absurd ky4 (nb p5)
   ·have k5:=aak p5;rw[hx.k0 (.inr k5) b]at hr;cases hr
   ·rw[hwo]at p5;simp only[aan]at p5;rcases aaG.1 hw with h1|h1
    ·exact hx.lk p5.1 b hr w h1 hwl p5.2 hwb
    ·rcases aaP.1 h1 with rfl|h1
     ·omega
     ·have:=AD F h1;omega
end
end
noncomputable section
variable {P:Program}
theorem lj{q:FuncId->Nat}{ops:Array Oper}{o:Oper}(h:z9 P q ops o=7):o.guard=none:=by
 unfold z9 at h;split at h
 ·unfold pG at h;split at h <;> cases h
 ·cases h
 ·split at h
  ·cases h
  ·split at h
   ·assumption
   ·cases h
 ·rename_i b _ _ _ _;cases hq:Xp b <;> rw[hq]at h <;> cases h
 all_goals first
  |(cases h;done)
  |(rename_i a b _ _;cases hn:sg P a b <;> cases ht:bp P b <;> (rw[hn]at h;try rw[ht]at h) <;> cases h)
theorem IT{q:FuncId->Nat}{ops:Array Oper}{s0:Env}{h0:za}(hro0:h0.ro<=h0.next):∀(l:List Oper) (i:Nat) (ms:List Nat) (A:List yr) (prev:List (Nat×Nat×Option Nat×Nat)) (r s:Env) (h:za) {K:Env->za->Prop},
  ops.toList.drop i=l->i<=ops.size->Ku ops ms->ms.length=i->vz P ops s0 h0 A i s h->(∀A1 x A2,A=A1++x::A2->∃m,(x.j,z9 P q ops x.o,GW ops x.o,m)∈prev/\RV P q ops A1 m x)->Zn ops l i ms (A.reverse.map λx=>(x.j,x.o))=true->mc P q ops l ms prev=true ->
  Le r s->Fg P q ops l i ms (Xc P q ops A) r h K->∃A' r' s' h',vz P ops s0 h0 A' ops.size s' h'/\Le r' s'/\K r' h'/\Fr (Vi l) s s'/\AF h h'
 |[],i,ms,A,prev,r,s,h,K,hl,hle,hm,hml,F,hrp,hst,hkd,hle1,hk=>by
  have:i=ops.size:=by
   have:=congrArg List.length hl;simp at this;omega
  subst this;exact⟨A,r,s,h,F,hle1,hk,.refl _ _,.refl _⟩
 |o::os,i,ms,A,prev,r,s,h,K,hl,hle,hm,hml,F,hrp,hst,hkd,hle1,hk=>by
  have ho:ops[i]? = some o:=by
   have:=congrArg (λl=>l[0]?) hl;simp only[aaS,aay]at this;simpa using this
  have hlt:i<ops.size:=by
   rcases aaL i ops.size with h|h
   ·exact h
   ·rw[aaH h]at ho;cases ho
  have hl':ops.toList.drop (i+1)=os:=by rw[<- aci,hl];rfl
  simp only[Zn,aad]at hst;obtain⟨⟨hedge,hslots⟩,hst⟩:=hst;simp only[mc,aad]at hkd;obtain⟨⟨hpair,hzz⟩,hkd⟩:=hkd;have hzz2:∀z,GW ops o=some z->(yz ms o).testBit z=true:=λz hz=>by rw[hz]at hzz;exact hzz
  have go:∀(v u:aaa) (h1:za) (y:yr),(zQ v=true\/v=u)->Kv P q ops s0 h0 A i o s h u h1 (yz ms o) y->(z9 P q ops o=7->YO s o=YO r o) ->
    (match r.put o.dst v with|some s1=>Fg P q ops os (i+1) (ms++[yz ms o]) (Xc P q ops A++pI (z9 P q ops o) i h.next h1.next (YO r o)) s1 h1 K|none=>False) ->
    ∃A' r' s' h',vz P ops s0 h0 A' ops.size s' h'/\Le r' s'/\K r' h'/\Fr (Vi (o::os)) s s'/\AF h h':=by
   intro v u h1 y hv N h7 hk;split at hk
   case h_2=>exact hk.elim
   rename_i r1 hp;obtain⟨s1,hp1,hl1⟩:=hle1.put hp hv
   have hs1:∀t,s1.get t=if o.dst=some t then u else s.get t:=by
    intro t;cases hd:o.dst with
    |none=>rw[hd]at hp1;simp only[Env.put,aab]at hp1;subst hp1;simp
    |some d=>
     rw[hd]at hp1;simp only[Env.put]at hp1;obtain⟨_,hp1⟩:=zo hp1;simp only[aab]at hp1;subst hp1;rw[Env.yy];by_cases e:t=d
     ·subst e;simp
     ·rw[aag e,aag (by simp only[aab];exact λh=>e h.symm)]
   have hs1s:s1.size=s.size:=(Fr.put hp1).size
   have hal2:(Xc P q ops A++pI (z9 P q ops o) i h.next h1.next (YO r o))=Xc P q ops (A++[y]):=by
    rw[Nn,N.yk,N.hj,N.gn,N.hsl];unfold pI;cases hla:Wi (z9 P q ops o) with
    |true=>
     rw[N.geq hla];cases h7b:Nat.beq (z9 P q ops o) 7 with
     |true=>rw[h7 (aak h7b)]
     |false=>rfl
    |false=>rfl
   rw[hal2]at hk;have hny:∀w,w∈A->w.g'.next<=y.g.next:=λw hw=>by rw[N.gn];exact F.nA w hw
   have F1:vz P ops s0 h0 (A++[y]) (i+1) s1 h1:=by
    refine⟨?_,?_,hs1s.trans F.size,?_,N.ro.trans F.ro,aaV F.next N.next,?_,N.wf,?_,?_,?_⟩
    ·rw[abm,F.js,abE];simp[N.hj]
    ·intro t;rw[hs1,UL,N.yk,N.r7,F.env]
    ·intro b;rw[N.heap,Jj,F.heap]
    ·intro x hx;rcases aaG.1 hx with hx|hx
     ·exact aaV (F.nA x hx) N.next
     ·simp only[aaq]at hx;subst hx;exact N.Ei
    ·intro A1 r A2 e;rcases vI e with⟨_,rfl,rfl⟩|⟨A3,_,e3⟩
     ·exact N.told
     ·exact F.told A1 r A3 e3
    ·intro A1 r A2 e ed hed hb;rcases vI e with⟨_,rfl,rfl⟩|⟨A3,_,e3⟩
     ·rw[N.yk]at hed;simp only[aaD,aaW,aan,aaM]at hedge;rcases hedge ed (by simpa using hed) with h2|h2
      ·rw[hb]at h2;cases h2
      ·have:ed.on∈A1.map (·.j):=(by rw[F.js];exact abe.2 h2);obtain⟨x,hx,hxj⟩:=aa4.1 this;exact⟨x,hx,hxj⟩
     ·exact F.Vc A1 r A3 e3 ed hed hb
    ·intro A1 x A2 z A3 e;have e':A++[y]=(A1++x::A2)++z::A3:=by rw[e];simp
     rcases vI e' with⟨_,e1,rfl⟩|⟨A4,_,e3⟩
     ·have e1:A=A1++x::A2:=e1.symm;have hxm:x∈A:=by rw[e1];simp
      obtain⟨mx,hpm,hrx⟩:=hrp A1 x A2 e1;simp only[aaD,aaW]at hpair hslots;rcases hslots (x.j,x.o) (aa4.2 ⟨x,by simpa using hxm,rfl⟩) with h2|h2
      ·rw[N.hj];exact .inl (uX hm ho h2)
      ·rcases hpair _ hpm with h3|h3
       ·rw[N.hj];exact .inl (uX hm ho h3)
       ·by_cases hbit:(yz ms o).testBit x.j=true
        ·rw[N.hj];exact .inl (uX hm ho hbit)
        ·simp only[abZ]at hbit;have F':=F;have nr:=N.rv;rw[e1]at F' nr;rw[e1]at hny;exact .inr (Ga F' hrx nr hny (by rw[N.yk];exact h2) hbit (by rw[N.yk];exact hzz2) (by rw[N.yk];exact h3))
     ·exact F.apart A1 x A2 z A4 (by rw[e3];simp)
   have hrp1:∀A1 x A2,A++[y]=A1++x::A2->∃m,(x.j,z9 P q ops x.o,GW ops x.o,m)∈(ms.length,z9 P q ops o,GW ops o,yz ms o)::prev/\RV P q ops A1 m x:=by
    intro A1 x A2 e;rcases vI e with⟨_,e1,e2⟩|⟨A3,_,e3⟩
    ·subst e1 e2;exact⟨yz ms o,by rw[N.hj,N.yk,hml];simp,N.rv⟩
    ·obtain⟨m,h1,h2⟩:=hrp A1 x A3 e3;exact⟨m,aaz _ h1,h2⟩
   obtain⟨A',r',s',h',F',l',k',f',a'⟩:=IT hro0 os (i+1) (ms++[yz ms o]) (A++[y]) _ r1 s1 h1 hl' hlt (XX hm hml ho) (by simp[hml]) F1 hrp1
    (by simpa [N.hj,N.yk] using hst) hkd hl1 hk
   exact⟨A',r',s',h',F',l',k',(Fr.put hp1).left.trans f'.right,(Ns F (v:=v) N).trans a'⟩
  have slot:∀{v:aaa} {h1:za} {al':List (Nat×Nat×Nat)},(match r.put o.dst v with|some s1=>Fg P q ops os (i+1) (ms++[yz ms o]) al' s1 h1 K|none=>False)->∀d,o.dst=some d->d<s.size:=by
   intro v h1 al' hk d hd;split at hk
   case h_2=>exact hk.elim
   rename_i r1 hp;rw[hd]at hp;simp only[Env.put]at hp;obtain⟨hb,_⟩:=zo hp;rw[<- hle1.size];simpa [aaM] using hb
  have hron:h.ro<=h.next:=by rw[F.ro];exact aaV hro0 F.next
  have dstok:∀{hv:za} {al:List (Nat×Nat×Nat)} {K':aaa->za->Prop},Mb P q ops r o al hv h K'->(∀v h1,K' v h1->∀d,o.dst=some d->d<s.size)->∀d,o.dst=some d->d<s.size:=by
   intro hv al K' hk hs
   have fromA:∀{g:za} {K2:aaa->za->Prop},L9 P r o g K2->(∀v h1,K2 v h1->∀d,o.dst=some d->d<s.size)->∀d,o.dst=some d->d<s.size:=λhk hs=>by
    obtain⟨v,u,h',_,_,hK⟩:=qT hle1 hk;exact hs v h' hK
   unfold Mb at hk;split at hk
   ·split at hk
    ·obtain⟨_,_,v,_,_,hK⟩:=hk;exact hs _ _ hK
    ·obtain⟨_,_,v,h2,_,_,hK⟩:=hk;exact hs _ _ hK
    ·obtain⟨_,hk⟩:=hk;obtain⟨v,h2,_,hK⟩:=jV hk;exact hs _ _ hK
    ·obtain⟨_,_,hd⟩:=hk;obtain⟨v,h2,hK,_⟩:=hd ⟨F.wf,hron⟩;exact hs _ _ hK
   ·unfold gI at hk;split at hk
    ·obtain⟨_,_,_,hd⟩:=hk;obtain⟨v,h2,hK,_⟩:=hd ⟨F.wf,hron⟩;exact hs _ _ hK
    ·exact hk.elim
   ·split at hk
    ·unfold cB at hk;split at hk
     ·obtain⟨_,hk⟩:=hk;obtain⟨v,h2,_,hK⟩:=jV hk;exact hs _ _ hK
     ·exact hk.elim
    ·exact fromA hk hs
   ·cases h1:Nat.beq (z9 P q ops o) 1 with
    |true=>rw[h1]at hk;exact fromA hk (λv _ q=>hs v _ q)
    |false=>rw[h1]at hk;exact fromA hk hs
  simp only[Fg]at hk;split at hk
  ·rename_i hg;obtain⟨v,u,h1,y,hv,hK,N,h7⟩:=Ay F hron ho (dstok hk (λv h1 hK=>slot hK)) (by simp only[yq,hg]) hle1 hk;exact go v u h1 y hv N h7 hK
  ·rename_i j want hg;split at hk
   ·exact hk.elim
   ·rename_i d hdst;unfold GD at hk;split at hk
    ·rename_i b hb
     have hs:s.get d=.bool b:=by
      rcases hle1.get d with e|e
      ·rw[hb]at e;cases e
      ·rw[<- e,hb]
     have haw:yq ops s o=(b == want):=(by simp only[yq,hg,hdst,hs]);by_cases hbw:b=want
     ·have hk:=hk.1 hbw;obtain⟨v,u,h1,y,hv,hK,N,h7⟩:=Ay F hron ho (dstok hk (λv h1 hK=>slot hK)) (by rw[haw,hbw];simp) hle1 hk;exact go v u h1 y hv N h7 hK
     ·have hk:=hk.2 hbw;obtain⟨y,N⟩:=cK (q:=q) F ho (slot hk) (u:=undef) (.inl ⟨by rw[haw];simpa using hbw,rfl,rfl⟩) (yz ms o);exact go undef undef h y (.inr rfl) N (λe=>by rw[lj e]at hg;cases hg) hk
    ·exact hk.elim
    ·rename_i n1 n2
     have hs:s.get d=r.get d:=by
      rcases hle1.get d with e|e
      ·obtain⟨k,p,q,e2⟩:=YE e;exact absurd e2 (n2 k p q)
      ·exact e.symm
     have haw:yq ops s o=false:=by
      simp only[yq,hg,hdst,hs]
     obtain⟨y,N⟩:=cK (q:=q) F ho (slot hk) (u:=undef) (.inl ⟨haw,rfl,rfl⟩) (yz ms o);exact go undef undef h y (.inr rfl) N (λe=>by rw[lj e]at hg;cases hg) hk
theorem NV{q:FuncId->Nat}(hmix:P.follows .mixedOrders=true):Kr P (H4 P q):=by
 intro ops r s h K rd id hle wf hk;unfold H4 at hk;cases hc:tX P q ops with
 |false=>rw[hc]at hk;exact hk.elim
 |true=>
  rw[hc]at hk;have hk:Fg P q ops ops.toList 0 [] [] r h K:=hk;simp only[tX,aad]at hc
  have F0:vz P ops s h ([]:List yr) 0 s h:=⟨rfl,λt=>rfl,rfl,λb=>rfl,rfl,aaj _,λx hx=>(by cases hx),wf.1,
   λA1 r A2 e=>by simp at e,λA1 r A2 e=>by simp at e,λA1 x A2 y A3 e=>by simp at e⟩
  obtain⟨A,r',s',h',F,hl',hK,hf,af⟩:=IT wf.2 ops.toList 0 [] [] [] r s h rfl (aaN _) (λk q hq=>by simp at hq) rfl F0 (λA1 x A2 e=>by simp at e) hc.1 hc.2 hle hk
  have V:Valid P ops s h A:=⟨by rw[F.js];exact acw,λi hi=>by
    have:i∈A.map (·.j):=(by rw[F.js];exact abe.2 hi);obtain⟨r,hr,hj⟩:=aa4.1 this;exact⟨r,hr,hj⟩,F.told,F.Vc,F.apart⟩
  exact⟨r',s',h',hl',hK,hf,af,Wj hmix V F.env F.size F.heap F.ro F.next F.nA (Q:=λe s1 h1=>e=.normal/\s1=s'/\h1=h') ⟨rfl,rfl,rfl⟩⟩
end
noncomputable section
variable {P:Program}
def jT(q:FuncId->Nat)(o:Oper):Nat:=match o.op with
 | .load _ _=>1
 | .store _ _ _=>6
 | .call {callee := .value (.func g),.. }=>cond (Nat.ble (q g) 1) 5 9
 |_=>(match x9 q o with
  |0=>0
  |_=>9)
def OQ(x y:Nat):Bool:=Nat.beq x 0||Nat.beq y 0||(Nat.beq x 1&&(Nat.beq y 1||Nat.beq y 5))
def ma(q:FuncId->Nat):List Oper->List Nat->List (Nat×Nat)->Bool
 |[],_,_=>true
 |o::os,ms,prev=>Nat.ble (jT q o) 6&&(prev.all λx=>(yz ms o).testBit x.1||OQ x.2 (jT q o))&&ma q os (ms++[yz ms o]) ((ms.length,jT q o)::prev)
def NN(q:FuncId->Nat)(ops:Array Oper):Bool:=Zn ops ops.toList 0 [] []&&ma q ops.toList [] []
def BG(m:Nat):List (Nat×aaa)->Option (List Nat)
 |[]=>some []
 |x::l=>cond (m.testBit x.1) (BG m l) (match x.2 with
  | .pointer (some a)=>(match BG m l with
    |some r=>some (a.block::r)
    |none=>none)
  |_=>none)
def TR(P:Program)(g:FuncId)(args:List aaa)(hid:List Nat)(h:za)(K:aaa->za->Prop):Prop :=
 xS P g=true/\yi args=true/\DC P g args (h.YD hid) λv h2=>K v (h2.cT h hid)
def Wa(P:Program)(g:FuncId)(args:List aaa)(m:Nat)(fl:List (Nat×aaa))(h:za)(K:aaa->za->Prop):Prop:=match BG m fl with
 |some hid=>TR P g args hid h K
 |none=>False
@[congr] theorem SV {g:FuncId} {l l':List aaa} {m:Nat} {fl fl':List (Nat×aaa)} {h:za} {h':Unit->za} {K:aaa->za->Prop} (e2:l=l') (e4:fl=fl') (e3:∀u:Unit,(h,u).1=h' u):Wa P g l m fl h K=Wa P g l' m fl' (h' ()) K:=by rw[e2,e4,<- e3]
theorem Ly{g:FuncId}{args:List aaa}{m:Nat}{fl:List (Nat×aaa)}{hid:List Nat}{h:za}{K R:aaa->za->Prop}(hc:xS P g=true)(hn:yi args=true)(hh:BG m fl=some hid)(d:DC P g args (h.YD hid) R)(k:∀v h2,R v h2->K v (h2.cT h hid)):Wa P g args m fl h K:=by
 unfold Wa;rw[hh];exact⟨hc,hn,d.mono k⟩
def Ru(P:Program)(s:Env)(o:Oper)(m:Nat)(fl:List (Nat×aaa))(h:za)(K:aaa->za->Prop):Prop:=match o.op with
 | .load t a=>opt (zd P t (ev s a) h) λv=>K v h
 | .call {callee := .value (.func g),args,argTypes}=>Wa P g (cX s args.toList) m fl h K
 |_=>L9 P s o h K
def Pr(s:Env)(o:Oper)(i:Nat)(fl:List (Nat×aaa)):List (Nat×aaa):=match o.op with
 | .load t a=>fl++[(i,ev s a)]
 |_=>fl
def Mu(P:Program)(ops:Array Oper):List Oper->Nat->List Nat->List (Nat×aaa)->Env->za->(Env->za->Prop)->Prop
 |[],_,_,_,s,h,K=>K s h
 |o::os,i,ms,fl,s,h,K=>(match o.guard with
  |none=>Ru P s o (yz ms o) fl h λv h1=>(match s.put o.dst v with
   |some s1=>Mu P ops os (i+1) (ms++[yz ms o]) (Pr s o i fl) s1 h1 K
   |none=>False)
  |some _=>False)
def D5(P:Program)(q:FuncId->Nat)(ops:Array Oper)(s:Env)(h:za)(K:Env->za->Prop):Prop:=Mx (NN q ops) (Mu P ops ops.toList 0 [] [] s h K) False
structure RL (q:FuncId->Nat) (fl:List (Nat×aaa)) (x:yr):Prop where
 k0:jT q x.o=0->(∀b,x.rd b=false) /\ ∀b,x.tc b=false
 k1:jT q x.o=1->(∀b,x.tc b=false) /\ ∃b off sp,(∀c,x.rd c=true->c=b)/\(x.j,Value.pointer (some ⟨b,off,sp⟩))∈fl
theorem RL.mono{q:FuncId->Nat}{fl fl':List (Nat×aaa)}{x:yr}(r:RL q fl x)(h:∀e,e∈fl->e∈fl'):RL q fl' x:=⟨r.k0,λe=>by
 obtain⟨h1,b,off,sp,h2,h3⟩:=r.k1 e;exact⟨h1,b,off,sp,h2,h _ h3⟩⟩
theorem pz{m:Nat}:∀{fl:List (Nat×aaa)} {hid:List Nat},BG m fl=some hid->(∀j b off sp,(j,Value.pointer (some ⟨b,off,sp⟩))∈fl->m.testBit j=false->b∈hid)/\(∀b,b∈hid->∃j off sp,(j,Value.pointer (some ⟨b,off,sp⟩))∈fl)
 |[],hid,h=>by
  simp only[BG,aab]at h;subst h;exact⟨λj b off sp h=>(by cases h),λb h=>(by cases h)⟩
 |x::l,hid,h=>by
  unfold BG at h;cases hb:m.testBit x.1 with
  |true=>
   rw[hb]at h;obtain⟨h1,h2⟩:=pz (fl:=l) (hid:=hid) h;refine⟨λj b off sp hm hj=>?_,λb hb2=>?_⟩
   ·rcases aaP.1 hm with e|hm
    ·rw[<- e]at hb;rw[hb]at hj;cases hj
    ·exact h1 j b off sp hm hj
   ·obtain⟨j,off,sp,hm⟩:=h2 b hb2;exact⟨j,off,sp,aaz _ hm⟩
  |false=>
   rw[hb]at h;simp only[aaB]at h;split at h
   ·rename_i a ha;split at h
    ·rename_i r hr;simp only[aab]at h;subst h;obtain⟨h1,h2⟩:=pz hr;refine⟨λj b off sp hm hj=>?_,λb hb2=>?_⟩
     ·rcases aaP.1 hm with e|hm
      ·rw[<- e]at ha;simp only[ack,aab]at ha;rw[<- ha];exact aao
      ·exact aaz _ (h1 j b off sp hm hj)
     ·rcases aaP.1 hb2 with rfl|hb2
      ·obtain⟨k,v⟩:=x;simp only at ha;subst ha;obtain⟨ab,ao,asp⟩:=a;exact⟨k,ao,asp,aao⟩
      ·obtain⟨j,off,sp,hm⟩:=h2 b hb2;exact⟨j,off,sp,aaz _ hm⟩
    ·cases h
   ·cases h
structure Cn (P:Program) (q:FuncId->Nat) (ops:Array Oper) (s0:Env) (h0:za) (A:List yr) (i:Nat) (o:Oper) (s:Env) (h:za) (u:aaa) (h1:za) (m:Nat) (fl fl1:List (Nat×aaa)) (y:yr):Prop where
 hj:y.j=i
 yk:y.o=o
 r7:y.v=u
 told:Told P ops s0 h0 A y
 rl:RL q fl1 y
 heap:∀b,h1.get b=if y.tc b=true then y.g'.get b else h.get b
 ro:h1.ro=h.ro
 next:h.next<=h1.next
 Ei:y.g'.next<=h1.next
 wf:WF h1
 af:AF h h1
 sep:jT q o=5->∀j b off sp,(j,Value.pointer (some ⟨b,off,sp⟩))∈fl->m.testBit j=false->y.rd b=false/\y.tc b=false
 low:∀j b off sp,(j,Value.pointer (some ⟨b,off,sp⟩))∈fl1->(j,Value.pointer (some ⟨b,off,sp⟩))∈fl\/b<h1.next
section
variable {q:FuncId->Nat}{ops:Array Oper}{s0:Env}{h0:za}{A:List yr}{i:Nat}{o:Oper}{s:Env}{h:za}{m:Nat}{fl fl1:List (Nat×aaa)}
theorem Gt(F:vz P ops s0 h0 A i s h)(ho:ops[i]? = some o)(hput:∀d,o.dst=some d->d<s.size){u:aaa}(hs:kO P ops s o (h.pick []) u (h.pick []))(hk:jT q o=0):∃y,Cn P q ops s0 h0 A i o s h u h m fl fl y:=by
 refine⟨⟨i,o,u,s,h.pick [],h.pick [],λ_=>false,λ_=>false⟩,rfl,rfl,rfl,
  ⟨ho,F.env,F.size,λb=>by rw[uq];simp,F.ro,F.next,F.nA,aaj _,hs,λd hd=>by rw[<- F.size];exact hput d hd,λb hb=>(by cases hb),λb _=>rfl,λb o' hb=>(by cases hb)⟩,
  ⟨λ_=>⟨λ_=>rfl,λ_=>rfl⟩,λe=>by simp only at e;omega⟩,λb=>by simp,rfl,aaj _,aaj _,F.wf,.refl _,λe=>by omega,λj b off sp hm => .inl hm⟩
theorem Gs(F:vz P ops s0 h0 A i s h)(ho:ops[i]? = some o)(hput:∀d,o.dst=some d->d<s.size)(hw:yq ops s o=true){t:TypeId}{a:Operand}(yk:o.op=.load t a){av u:aaa}(hav:kG s a=some av)(hl:zd P t av h=some u):∃y,Cn P q ops s0 h0 A i o s h u h m fl (fl++[(i,av)]) y:=by
 have hk1:jT q o=1:=by unfold jT;rw[yk]
 obtain⟨b,off,sp,rfl,hne,hsp⟩:∃b off sp,av=.pointer (some ⟨b,off,sp⟩)/\h.get b≠none /\ ∀g:za,g.get b=h.get b->zd P t av g=some u:=by
  unfold zd at hl;split at hl
  ·rename_i b off;exact⟨b,off,none,rfl,(λe=>by rw[e]at hl;cases hl),λg hg=>by unfold zd;simp only;rw[hg];exact hl⟩
  ·rename_i b off;exact⟨b,off,some 0,rfl,(λe=>by rw[e]at hl;cases hb:b.blt P.globals.size <;> rw[hb]at hl <;> cases hl),λg hg=>by unfold zd;simp only;rw[hg];exact hl⟩
  ·cases hl
 have hlt:b<h.next:=by
  cases hg:h.get b with
  |none=>exact absurd hg hne
  |some o'=>exact F.wf b o' hg
 refine⟨⟨i,o,u,s,h.pick [b],h.pick [b],λc=>decide (c=b),λ_=>false⟩,rfl,rfl,rfl,
  ⟨ho,F.env,F.size,λc=>?_,F.ro,F.next,F.nA,aaj _,.inr ⟨hw,.inl (by unfold Um;simp only[yk,hav,hsp _ (show(h.pick [b]).get b=h.get b by rw[uq,aai (by simp)]),one])⟩,λd hd=>by rw[<- F.size];exact hput d hd,λb hb=>(by cases hb),λb _=>rfl,λb o' hb=>(by cases hb)⟩,
  ⟨λe=>by simp only at e;omega,λ_=>⟨λ_=>rfl,b,off,sp,λc hc=>by simpa using hc,by simp⟩⟩,λb=>by simp,rfl,aaj _,aaj _,F.wf,.refl _,λe=>by omega,λj c off' sp' hm=>?_⟩
 ·show(h.pick [b]).get c=if decide (c=b)=true then Yh A h0 c else none;rw[uq];by_cases e:c=b
  ·subst e;simp[F.heap]
  ·simp[e]
 ·rcases aaG.1 hm with hm|hm
  ·exact .inl hm
  ·simp only[aaq,aae,ack,aab,acf]at hm;obtain⟨_,rfl,_⟩:=hm;exact .inr hlt
theorem Gr(F:vz P ops s0 h0 A i s h)(ho:ops[i]? = some o)(hput:∀d,o.dst=some d->d<s.size){hid:List Nat}(hh:BG m fl=some hid)(hlo:∀j b off sp,(j,Value.pointer (some ⟨b,off,sp⟩))∈fl->b<h.next){v:aaa}{h':za}(af:AF (h.YD hid) h')(hs:kO P ops s o (h.YD hid) v h')(hk:jT q o=5):∃y,Cn P q ops s0 h0 A i o s h v (h'.cT h hid) m fl fl y:=by
 obtain⟨hm1,hm2⟩:=pz hh
 have hlt:∀b,b∈hid->b<h.next:=λb hb=>by
  obtain⟨j,off,sp,hm⟩:=hm2 b hb;exact hlo j b off sp hm
 have hwfh:WF (h.YD hid):=λb o' hb=>by
  rw[uP]at hb;split at hb
  ·cases hb
  ·exact F.wf b o' hb
 have hwf:=hwfh.af af;have hn:h.next<=h'.next:=af.next
 have hgone:∀b,b∈hid->h'.get b=none:=by
  intro b hb;cases hh:h'.get b with
  |none=>rfl
  |some o'=>
   rcases af.alive b o' hh with h2|⟨h2,_⟩
   ·rw[uP,aai hb]at h2;exact absurd rfl h2
   ·have:h.next<=b:=h2;have:=hlt b hb;omega
 have hbeyond:∀b,¬b<h'.next->h'.get b=none/\h.get b=none:=by
  intro b hb;refine⟨?_,?_⟩
  ·cases hh:h'.get b with|none=>rfl|some o'=>exact absurd (hwf b o' hh) hb
  ·cases hh:h.get b with|none=>rfl|some o'=>exact absurd (aap (F.wf b o' hh) hn) hb
 refine⟨⟨i,o,v,s,h.YD hid,h',λb=>Nat.blt b h.next && !hid.contains b,λb=>Nat.blt b h'.next && !hid.contains b⟩,rfl,rfl,rfl,
  ⟨ho,F.env,F.size,λb=>?_,F.ro,F.next,F.nA,hn,hs,λd hd=>by rw[<- F.size];exact hput d hd,λb hb=>?_,λb hb=>?_,λb o' _ hlt2 hb=>?_⟩,
  ⟨λe=>by simp only at e;omega,λe=>by simp only at e;omega⟩,λb=>?_,af.ro,hn,aaj _,λb o' hb=>?_,⟨hn,af.ro,λb o' hb=>?_⟩,λ_ j b off sp hm hj=>?_,λj b off sp hm => .inl hm⟩
 ·rw[uP];simp only[aad,aaM,aan,aaC,aam];by_cases hm:b∈hid
  ·rw[aai hm,aag (λhc=>hc.2 hm)]
  ·rw[aag hm];by_cases hb:b<h.next
   ·rw[aai ⟨hb,hm⟩];exact F.heap b
   ·rw[aag (λhc=>hb hc.1)];cases hh:h.get b with
    |none=>rfl
    |some o'=>exact absurd (F.wf b o' hh) hb
 ·simp only[aad,aaM,aan,aaC,aam]at hb ⊢;by_cases hb2:b<h.next
  ·exact .inl ⟨hb2,hb.2⟩
  ·exact .inr ⟨abR hb2,hb.1⟩
 ·show h'.get b=(h.YD hid).get b;rw[uP];by_cases hm:b∈hid
  ·rw[aai hm,hgone b hm]
  ·rw[aag hm]
   have hb':¬b<h'.next:=by
    intro hc;have h3:(Nat.blt b h'.next && !hid.contains b)=true:=by simpa [aaM] using⟨hc,hm⟩
    exact ab2 ((show(Nat.blt b h'.next && !hid.contains b)=false from hb).symm.trans h3)
   rw[(hbeyond b hb').1,(hbeyond b hb').2]
 ·rcases af.alive b o' hb with h2|⟨h2,_⟩
  ·exact h2
  ·exact absurd hlt2 (by show ¬b<(h.YD hid).next;omega)
 ·rw[Zj];simp only[aad,aaM,aan,aaC,aam];by_cases hm:b∈hid
  ·rw[aai hm,aag (λhc=>hc.2 hm)]
  ·rw[aag hm];by_cases hb:b<h'.next
   ·rw[aai ⟨hb,hm⟩]
   ·rw[aag (λhc=>hb hc.1),(hbeyond b hb).1,(hbeyond b hb).2]
 ·rw[Zj]at hb;show b<h'.next;split at hb
  ·exact aap (F.wf b o' hb) hn
  ·exact hwf b o' hb
 ·rw[Zj]at hb;split at hb
  ·exact .inl (by rw[hb];simp)
  ·rcases af.alive b o' hb with h2|⟨h2,h3⟩
   ·rw[uP]at h2;split at h2
    ·exact absurd rfl h2
    ·exact .inl h2
   ·exact .inr ⟨h2,h3⟩
 ·have:=hm1 j b off sp hm hj;exact⟨by simp[this],by simp[this]⟩
theorem EF(F:vz P ops s0 h0 A i s h)(ho:ops[i]? = some o)(hput:∀d,o.dst=some d->d<s.size)(hk:jT q o=6){h1:za}(af:AF h h1)
  {u:aaa} (hs:kO P ops s o h u h1):∃y,Cn P q ops s0 h0 A i o s h u h1 m fl fl y:=by
 have hrd:∀n b,(Nat.blt b n=true) ↔ b<n:=λn b=>by rw[aaM]
 have hn:h.next<=h1.next:=af.next;have hwf:WF h1:=F.wf.af af
 refine⟨⟨i,o,u,s,h,h1,λb=>Nat.blt b h.next,λb=>Nat.blt b h1.next⟩,rfl,rfl,rfl,
  ⟨ho,F.env,F.size,λb=>?_,F.ro,F.next,F.nA,hn,hs,λd hd=>by rw[<- F.size];exact hput d hd,λb hb=>?_,λb hb=>?_,λb o' hb hlt hg=>?_⟩,
  ⟨λe=>by simp only at e;omega,λe=>by simp only at e;omega⟩,λb=>?_,af.ro,hn,aaj _,hwf,af,λe=>by omega,λj b off sp hm => .inl hm⟩
 ·show h.get b=if Nat.blt b h.next=true then Yh A h0 b else none;by_cases hb:b<h.next
  ·rw[aai ((hrd _ b).2 hb),F.heap]
  ·rw[aag (λe=>hb ((hrd _ b).1 e)),qC F.wf hb]
 ·have hb:=(hrd _ b).1 hb;by_cases hlt:b<h.next
  ·exact .inl ((hrd _ b).2 hlt)
  ·exact .inr ⟨abR hlt,hb⟩
 ·have hb':¬b<h1.next:=λe=>by
   have:=(hrd h1.next b).2 e;rw[show Nat.blt b h1.next=false from hb]at this;cases this
  show h1.get b=h.get b;rw[qC hwf hb',qC F.wf (by omega)]
 ·rcases af.alive b o' hg with h2|⟨h2,_⟩
  ·exact h2
  ·have hlt:b<h.next:=hlt;omega
 ·show h1.get b=if Nat.blt b h1.next=true then h1.get b else h.get b;by_cases hb:b<h1.next
  ·rw[aai ((hrd _ b).2 hb)]
  ·rw[aag (λe=>hb ((hrd _ b).1 e)),qC hwf hb,qC F.wf (by omega)]
theorem Ma(F:vz P ops s0 h0 A i s h)(hron:h.ro<=h.next)(ho:ops[i]? = some o)(hput:∀d,o.dst=some d->d<s.size)(hw:yq ops s o=true)(hkl:jT q o<=6)(hlo:∀j b off sp,(j,Value.pointer (some ⟨b,off,sp⟩))∈fl->b<h.next){r:Env}(hl:Le r s)
  {K:aaa->za->Prop} (hk:Ru P r o m fl h K):∃v u h1 y,(zQ v=true\/v=u)/\K v h1/\Cn P q ops s0 h0 A i o s h u h1 m fl (Pr r o i fl) y:=by
 unfold Ru at hk;split at hk
 ·rename_i t a yk;obtain⟨v,he,hK⟩:=uY hk
  have hnb:zQ (ev r a)=false:=by
   cases hb:zQ (ev r a) with
   |false=>rfl
   |true=>obtain⟨k,p,z,e2⟩:=YE hb;rw[e2]at he;cases he
  obtain⟨y,hy⟩:=Gs (q:=q) (m:=m) (fl:=fl) F ho hput hw yk (ZI hl hnb) he;exact⟨v,v,h,y,.inr rfl,hK,by unfold Pr;simp only[yk];exact hy⟩
 ·rename_i g args ts yk;have ef:kG s (.func g)=some (.func (.func g) #[] #[]):=rfl
  have hk5:jT q o=5:=by
   unfold jT at hkl ⊢;simp only[yk]at hkl ⊢;cases hb:Nat.ble (q g) 1 with
   |true=>rfl
   |false=>rw[hb]at hkl;exact absurd hkl (by decide)
  unfold Wa at hk;split at hk
  ·rename_i hid hh;obtain⟨hc,hn,hd⟩:=hk
   have wfh:qJ (h.YD hid):=⟨λb o' hb=>by
    rw[uP]at hb;split at hb
    ·cases hb
    ·exact F.wf b o' hb,hron⟩
   obtain⟨v,h2,hK,af,hT⟩:=hd wfh;obtain⟨y,hy⟩:=Gr (q:=q) (m:=m) (fl:=fl) F ho hput hh hlo af (.inr ⟨hw,.inr (.inl ⟨.func g,args,ts,g,#[],#[],_,yk,ef,QQ hl hn,hc,by simpa using hT⟩)⟩) hk5;exact⟨v,v,_,y,.inr rfl,hK,by unfold Pr;simp only[yk];exact hy⟩
  ·exact hk.elim
 ·rename_i n1 n2;obtain⟨v,u,h',he,hv,hK⟩:=qT hl hk;have hnc:=Xf he;by_cases hst:∃t a x,o.op=.store t a x
  ·obtain⟨t,a,x,yk⟩:=hst;obtain⟨y,hy⟩:=EF (q:=q) (m:=m) (fl:=fl) F ho hput (by unfold jT;simp only[yk]) (Zz he).1 (u:=u) (.inr ⟨hw,.inl he⟩);refine⟨v,u,h',y,hv,hK,?_⟩;unfold Pr;split
   ·rename_i yk;exact absurd yk (n1 _ _)
   ·exact hy
  have hk0:jT q o=0/\x9 q o=0:=by
   unfold jT at hkl ⊢;split at hkl
   ·rename_i yk;exact absurd yk (n1 _ _)
   ·rename_i yk;exact absurd ⟨_,_,_,yk⟩ hst
   ·rename_i yk;exact absurd yk (n2 _ _ _)
   ·cases hko:x9 q o with
    |zero=>exact⟨rfl,rfl⟩
    |succ k=>rw[hko]at hkl;exact absurd hkl (by show ¬(9:Nat)<=6;decide)
  obtain⟨rfl,hany⟩:=fo hk0.2 hnc he;obtain⟨y,hy⟩:=Gt (q:=q) (m:=m) (fl:=fl) F ho hput (u:=u) (.inr ⟨hw,.inl (hany _)⟩) hk0.1;refine⟨v,u,h',y,hv,hK,?_⟩;unfold Pr;split
  ·rename_i yk;exact absurd yk (n1 _ _)
  ·exact hy
theorem F9{x y:yr}(hx:RL q fl x)(hy0:jT q y.o=0->(∀b,y.rd b=false) /\ ∀b,y.tc b=false)(hy1:jT q y.o=1->∀b,y.tc b=false)(hsep:jT q y.o=5->∀j b off sp,(j,Value.pointer (some ⟨b,off,sp⟩))∈fl->m.testBit j=false->y.rd b=false/\y.tc b=false)(hs:kU ops x.o y.o=true)(hbit:m.testBit x.j=false)(hp:OQ (jT q x.o) (jT q y.o)=true):lB ops x y:=by
 simp only[kU,aad]at hs;obtain⟨h1,h2⟩:=hs
 have d1:∀d,x.o.dst=some d->d∉y.o.looksAt ops/\y.o.dst≠some d:=by
  intro d hd;rw[hd]at h1;simp only[aad,aan,aam,aaC]at h1;exact⟨h1.1,h1.2⟩
 have d2:∀d,y.o.dst=some d->d∉x.o.looksAt ops:=by
  intro d hd;rw[hd]at h2;simp only[aan,aam,aaC]at h2;exact h2
 unfold OQ at hp;simp only[aaW,aad]at hp;rcases hp with(h|h)|⟨h,h'⟩
 ·have h:=aak h;obtain⟨r,t⟩:=hx.k0 h;exact⟨d1,d2,λb hb=>(by rw[t b]at hb;cases hb),λb _=>r b⟩
 ·have h:=aak h;obtain⟨r,t⟩:=hy0 h;exact⟨d1,d2,λb _=>⟨r b,t b⟩,λb hb=>by rw[t b]at hb;cases hb⟩
 ·have h:=aak h;obtain⟨t,b0,off,sp,hrd,hm⟩:=hx.k1 h;refine⟨d1,d2,λb hb=>(by rw[t b]at hb;cases hb),λb hb=>?_⟩;rcases h' with h'|h'
  ·have h':=aak h';rw[hy1 h' b]at hb;cases hb
  ·have h':=aak h';cases hr:x.rd b with
   |false=>rfl
   |true=>
    have e:=hrd b hr;subst e;rw[(hsep h' _ _ _ _ hm hbit).2]at hb;cases hb
end
theorem IS{q:FuncId->Nat}{ops:Array Oper}{s0:Env}{h0:za}(hro0:h0.ro<=h0.next):∀(l:List Oper) (i:Nat) (ms:List Nat) (fl:List (Nat×aaa)) (A:List yr) (r s:Env) (h:za) {K:Env->za->Prop},
  ops.toList.drop i=l->i<=ops.size->Ku ops ms->ms.length=i->vz P ops s0 h0 A i s h->(∀x,x∈A->RL q fl x)->(∀j b off sp,(j,Value.pointer (some ⟨b,off,sp⟩))∈fl->b<h.next)->Zn ops l i ms (A.reverse.map λx=>(x.j,x.o))=true->ma q l ms (A.reverse.map λx=>(x.j,jT q x.o))=true ->
  Le r s->Mu P ops l i ms fl r h K->∃A' r' s' h',vz P ops s0 h0 A' ops.size s' h'/\Le r' s'/\K r' h'/\Fr (Vi l) s s'/\AF h h'
 |[],i,ms,fl,A,r,s,h,K,hl,hle,hm,hml,F,hrl,hlo,hst,hkd,hle1,hk=>by
  have:i=ops.size:=by
   have:=congrArg List.length hl;simp at this;omega
  subst this;exact⟨A,r,s,h,F,hle1,hk,.refl _ _,.refl _⟩
 |o::os,i,ms,fl,A,r,s,h,K,hl,hle,hm,hml,F,hrl,hlo,hst,hkd,hle1,hk=>by
  have ho:ops[i]? = some o:=by
   have:=congrArg (λl=>l[0]?) hl;simp only[aaS,aay]at this;simpa using this
  have hlt:i<ops.size:=by
   rcases aaL i ops.size with h|h
   ·exact h
   ·rw[aaH h]at ho;cases ho
  have hl':ops.toList.drop (i+1)=os:=by rw[<- aci,hl];rfl
  simp only[Zn,aad]at hst;obtain⟨⟨hedge,hslots⟩,hst⟩:=hst;simp only[ma,aad]at hkd;obtain⟨⟨hkl,hpair⟩,hkd⟩:=hkd;have hkl:=aaE hkl;have hron:h.ro<=h.next:=by rw[F.ro];exact aaV hro0 F.next
  simp only[Mu]at hk;split at hk
  case h_2=>exact hk.elim
  rename_i hg
  have hput:∀d,o.dst=some d->d<s.size:=by
   have slot:∀{v:aaa} {h1:za},(match r.put o.dst v with|some s1=>Mu P ops os (i+1) (ms++[yz ms o]) (Pr r o i fl) s1 h1 K|none=>False)->∀d,o.dst=some d->d<s.size:=by
    intro v h1 hk d hd;split at hk
    case h_2=>exact hk.elim
    rename_i r1 hp;rw[hd]at hp;simp only[Env.put]at hp;obtain⟨hb,_⟩:=zo hp;rw[<- hle1.size];simpa [aaM] using hb
   unfold Ru at hk;split at hk
   ·obtain⟨v,_,hK⟩:=uY hk;exact slot hK
   ·unfold Wa at hk;split at hk
    ·rename_i hid hh;obtain⟨_,_,hd⟩:=hk
     have wfh:qJ (h.YD hid):=⟨λb o' hb=>by
      rw[uP]at hb;split at hb
      ·cases hb
      ·exact F.wf b o' hb,hron⟩
     obtain⟨v,h2,hK,_⟩:=hd wfh;exact slot hK
    ·exact hk.elim
   ·obtain⟨v,u,h',_,_,hK⟩:=qT hle1 hk;exact slot hK
  obtain⟨v,u,h1,y,hv,hK,N⟩:=Ma (q:=q) (m:=yz ms o) F hron ho hput (by simp only[yq,hg]) hkl hlo hle1 hk;split at hK
  case h_2=>exact hK.elim
  rename_i r1 hp;obtain⟨s1,hp1,hl1⟩:=hle1.put hp hv
  have hs1:∀t,s1.get t=if o.dst=some t then u else s.get t:=by
   intro t;cases hd:o.dst with
   |none=>rw[hd]at hp1;simp only[Env.put,aab]at hp1;subst hp1;simp
   |some d=>
    rw[hd]at hp1;simp only[Env.put]at hp1;obtain⟨_,hp1⟩:=zo hp1;simp only[aab]at hp1;subst hp1;rw[Env.yy];by_cases e:t=d
    ·subst e;simp
    ·rw[aag e,aag (by simp only[aab];exact λh=>e h.symm)]
  have hs1s:s1.size=s.size:=(Fr.put hp1).size
  have hfl:∀e,e∈fl->e∈Pr r o i fl:=λe he=>by
   unfold Pr;split
   ·exact aaK _ he
   ·exact he
  have F1:vz P ops s0 h0 (A++[y]) (i+1) s1 h1:=by
   refine⟨?_,?_,hs1s.trans F.size,?_,N.ro.trans F.ro,aaV F.next N.next,?_,N.wf,?_,?_,?_⟩
   ·rw[abm,F.js,abE];simp[N.hj]
   ·intro t;rw[hs1,UL,N.yk,N.r7,F.env]
   ·intro b;rw[N.heap,Jj,F.heap]
   ·intro x hx;rcases aaG.1 hx with hx|hx
    ·exact aaV (F.nA x hx) N.next
    ·simp only[aaq]at hx;subst hx;exact N.Ei
   ·intro A1 r A2 e;rcases vI e with⟨_,rfl,rfl⟩|⟨A3,_,e3⟩
    ·exact N.told
    ·exact F.told A1 r A3 e3
   ·intro A1 r A2 e ed hed hb;rcases vI e with⟨_,rfl,rfl⟩|⟨A3,_,e3⟩
    ·rw[N.yk]at hed;simp only[aaD,aaW,aan,aaM]at hedge;rcases hedge ed (by simpa using hed) with h2|h2
     ·rw[hb]at h2;cases h2
     ·have:ed.on∈A1.map (·.j):=(by rw[F.js];exact abe.2 h2);obtain⟨x,hx,hxj⟩:=aa4.1 this;exact⟨x,hx,hxj⟩
    ·exact F.Vc A1 r A3 e3 ed hed hb
   ·intro A1 x A2 z A3 e;have e':A++[y]=(A1++x::A2)++z::A3:=by rw[e];simp
    rcases vI e' with⟨_,e1,rfl⟩|⟨A4,_,e3⟩
    ·have hxm:x∈A:=(by rw[<- e1];simp);simp only[aaD,aaW]at hpair hslots;rcases hslots (x.j,x.o) (aa4.2 ⟨x,by simpa using hxm,rfl⟩) with h2|h2
     ·rw[N.hj];exact .inl (uX hm ho h2)
     ·rcases hpair (x.j,jT q x.o) (aa4.2 ⟨x,by simpa using hxm,rfl⟩) with h3|h3
      ·rw[N.hj];exact .inl (uX hm ho h3)
      ·by_cases hbit:(yz ms o).testBit x.j=true
       ·rw[N.hj];exact .inl (uX hm ho hbit)
       ·simp only[abZ]at hbit;exact .inr (F9 (fl:=fl) (m:=yz ms o) (hrl x hxm) N.rl.k0 (λe=>(N.rl.k1 e).1) (λe=>N.sep (by rw[<- N.yk];exact e)) (by rw[N.yk];exact h2) hbit (by rw[N.yk];exact h3))
    ·exact F.apart A1 x A2 z A4 (by rw[e3];simp)
  obtain⟨A',r',s',h',F',l',k',f',a'⟩:=IS hro0 os (i+1) (ms++[yz ms o]) (Pr r o i fl) (A++[y]) r1 s1 h1 hl' hlt (XX hm hml ho) (by simp[hml]) F1
   (λx hx=>by rcases aaG.1 hx with hx|hx
              ·exact(hrl x hx).mono hfl
              ·simp only[aaq]at hx;subst hx;exact N.rl)
   (λj b off sp hm2=>by
    rcases N.low j b off sp hm2 with q2|q2
    ·exact aap (hlo j b off sp q2) N.next
    ·exact q2)
   (by simpa [N.hj,N.yk] using hst) (by have:ms.length=y.j:=by rw[N.hj,hml]
                                        simpa [this,N.yk] using hkd) hl1 hK
  exact⟨A',r',s',h',F',l',k',(Fr.put hp1).left.trans f'.right,N.af.trans a'⟩
theorem NU{q:FuncId->Nat}(hmix:P.follows .mixedOrders=true):Kr P (D5 P q):=by
 intro ops r s h K rd id hle wf hk;unfold D5 at hk;cases hc:NN q ops with
 |false=>rw[hc]at hk;exact hk.elim
 |true=>
  rw[hc]at hk;have hk:Mu P ops ops.toList 0 [] [] r h K:=hk;simp only[NN,aad]at hc
  have F0:vz P ops s h ([]:List yr) 0 s h:=⟨rfl,λt=>rfl,rfl,λb=>rfl,rfl,aaj _,λx hx=>(by cases hx),wf.1,
   λA1 r A2 e=>by simp at e,λA1 r A2 e=>by simp at e,λA1 x A2 y A3 e=>by simp at e⟩
  obtain⟨A,r',s',h',F,hl',hK,hf,af⟩:=IS (q:=q) wf.2 ops.toList 0 [] [] [] r s h rfl (aaN _) (λk q hq=>by simp at hq) rfl F0 (λx hx=>(by cases hx)) (λj b off sp hm=>(by cases hm)) hc.1 hc.2 hle hk
  have V:Valid P ops s h A:=⟨by rw[F.js];exact acw,λi hi=>by
    have:i∈A.map (·.j):=(by rw[F.js];exact abe.2 hi);obtain⟨r,hr,hj⟩:=aa4.1 this;exact⟨r,hr,hj⟩,F.told,F.Vc,F.apart⟩
  exact⟨r',s',h',hl',hK,hf,af,Wj hmix V F.env F.size F.heap F.ro F.next F.nA (Q:=λe s1 h1=>e=.normal/\s1=s'/\h1=h') ⟨rfl,rfl,rfl⟩⟩
end
end Go.Ai
