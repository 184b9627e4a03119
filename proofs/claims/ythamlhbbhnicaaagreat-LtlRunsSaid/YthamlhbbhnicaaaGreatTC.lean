/- A part of the proof. -/
import Derived.Test.YthamlhbbhnicaaaGreatTB
set_option linter.unusedVariables false
set_option linter.unusedSimpArgs false
set_option maxRecDepth 100000
namespace Go.Ai
noncomputable section
variable {P:Program}
structure mc (P:Program) (tr:List yW) (s0:Env) (h0:za) (N:Nat) (ρ0:xt) (w0:World) (S:Nat->Bool) (ρ:xt) (w:World) (tm:Array aaa):Prop where
 next:ρ.next=N
 old:∀b,b<h0.next->ρ.m b=ρ0.m b
 size:s0.size=tm.size
 env:∀t,zS (ρ.cut (pR (tr.filter λr=>S r.j) h0.next t)) (Jn (tr.filter λr=>S r.j) s0 t) (tm.getD t undef)
 heap:∀b o,WM (tr.filter λr=>S r.j) h0 b=some o->b<tC (tr.filter λr=>S r.j) h0.next b /\
  ∃pl,ρ.m b=some pl/\vX P (ρ.cut (tC (tr.filter λr=>S r.j) h0.next b)) (decide (h0.ro<=b)) o pl w
 inj:∀b1 b2 o1 o2 p1 p2,WM (tr.filter λr=>S r.j) h0 b1=some o1->WM (tr.filter λr=>S r.j) h0 b2=some o2->ρ.m b1=some p1->ρ.m b2=some p2->p1.c=p2.c->b1=b2
 fresh:∀x,x∈tr->S x.j=false->∀b,x.g.next<=b->b<x.g'.next->ρ.m b=none
 os:w.os=w0.os
 tape:w.tape=w0.tape
 output:w.output=w0.output
 mN:w0.heap.size<=w.heap.size
 frame:∀c,c<w0.heap.size->¬ot ρ0 h0 c->w.heap[c]? = w0.heap[c]?
 A6:∀b o pl,WM (tr.filter λr=>S r.j) h0 b=some o->h0.ro<=b->ρ.m b=some pl->pl.c<w0.heap.size->ot ρ0 h0 pl.c
 tB:P.globals.size<=h0.ro
 gl:∀b pl,b<P.globals.size->ρ.m b=some pl->pl.c=b/\pl.base=0
def k8(S:Nat->Bool)(j:Nat):Nat->Bool:=λi=>S i||decide (i=j)
section
variable {ops:Array Oper}{s0:Env}{h0:za}{tr A B:List yW}{r:yW}{S:Nat->Bool}
theorem pZ(e:tr=A++r::B)(hnot:S r.j=false):tr.filter (λx=>S x.j)=A.filter (λx=>S x.j)++B.filter (λx=>S x.j):=by
 subst e;simp[hnot]
theorem Dl(V:Valid P ops s0 h0 tr)(e:tr=A++r::B):tr.filter (λx=>k8 S r.j x.j)=A.filter (λx=>S x.j)++r::B.filter (λx=>S x.j):=by
 have hA:A.filter (λx=>k8 S r.j x.j)=A.filter (λx=>S x.j):=abX λx hx=>by simp[k8,U0 V.nodup e (.inl hx)]
 have hB:B.filter (λx=>k8 S r.j x.j)=B.filter (λx=>S x.j):=abX λx hx=>by simp[k8,U0 V.nodup e (.inr hx)]
 rw[e,aaT,abS,hA,hB,aai (by simp[k8])]
theorem AK(V:Valid P ops s0 h0 tr)(hdown:∀i j,Prec ops i j->S j=true->S i=true)(e:tr=A++r::B)(hready:∀i,Prec ops i r.j->S i=true)(hnot:S r.j=false){p:yW->Bool}
  (hA:∀x,Bs ops x r->p x=false) (hB:∀x,Bs ops r x->p x=false):w7 (tr.filter λx=>S x.j) p=w7 A p:=by
 obtain⟨h1,h2⟩:=zb6 V hdown e hready hnot (V.order e hA hB);rw[w7,pZ e hnot,aaT,h1,h2,ab6];rfl
theorem nM(V:Valid P ops s0 h0 tr)(hdown:∀i j,Prec ops i j->S j=true->S i=true)(e:tr=A++r::B)(hready:∀i,Prec ops i r.j->S i=true)(hnot:S r.j=false){p:yW->Bool}(hr:p r=true)
  (hA:∀x,Bs ops x r->p x=false) (hB:∀x,Bs ops r x->p x=false):w7 (tr.filter λx=>k8 S r.j x.j) p=some r:=by
 obtain⟨h1,h2⟩:=zb6 V hdown e hready hnot (V.order e hA hB);rw[w7,Dl V e,aaT,abS,aai hr,h1,h2];simp
theorem nN(V:Valid P ops s0 h0 tr)(e:tr=A++r::B)(hnot:S r.j=false){p:yW->Bool}(hr:p r=false):w7 (tr.filter λx=>k8 S r.j x.j) p=w7 (tr.filter λx=>S x.j) p:=by
 rw[w7,w7,Dl V e,pZ e hnot,aaT,abS,hr,aac (by simp),aaT]
theorem VN{T:List yW}{p:yW->Bool}{x:yW}(h:w7 T p=some x):x∈T/\p x=true:=by
 have:=List.mem_of_getLast? h;exact ach.1 this
theorem zah(hro0:h0.ro<=h0.next)(V:Valid P ops s0 h0 tr)(hdown:∀i j,Prec ops i j->S j=true->S i=true)(e:tr=A++r::B)(hready:∀i,Prec ops i r.j->S i=true)(hnot:S r.j=false)
  {N:Nat} (hN:∀x,x∈tr->x.g'.next<=N) {ρ0 ρ:xt} {w0 w:World} {tm:Array aaa} (I:mc P tr s0 h0 N ρ0 w0 S ρ w tm) (ds:List Deferred) (rest:List Nat) (b:Frame) (k:List Item) (cs:List Frame) :
  ∃ρ' w' tm',mc P tr s0 h0 N ρ0 w0 (k8 S r.j) ρ' w' tm'/\Steps P (lone (vx b tm ds (.inRegion ops (r.j::rest)::k)) cs w) (lone (vx b tm' ds (.inRegion ops rest::k)) cs w'):=by
 have D:=V.told A r B e;have hrm:r∈tr:=by rw[e];simp
 have lookEnv:∀t,t∈r.o.looksAt ops->w7 (tr.filter λx=>S x.j) (Jy t)=w7 A (Jy t):=λt ht=>
  AK V hdown e hready hnot (λx hx=>by
   cases hw:Jy t x with
   |false=>rfl
   |true=>exact absurd ht (hx.d1 t (abv hw)).1) (λx hx=>by
   cases hw:Jy t x with
   |false=>rfl
   |true=>exact absurd ht (hx.d2 t (abv hw)))
 have lookHeap:∀bb,r.rd bb=true->w7 (tr.filter λx=>S x.j) (λx=>x.tc bb)=w7 A (λx=>x.tc bb):=λbb hb=>
  AK V hdown e hready hnot (λx hx=>by
   cases hw:x.tc bb with
   |false=>rfl
   |true=>have:=(hx.b1 bb hw).1;rw[hb]at this;cases this) (λx hx=>by
   cases hw:x.tc bb with
   |false=>rfl
   |true=>have:=hx.b2 bb hw;rw[hb]at this;cases this)
 have hpVeq:∀bb,r.rd bb=true->WM (tr.filter λx=>S x.j) h0 bb=r.g.get bb:=λbb hb=>by
  rw[D.heap,aai hb];simp only[WM,lookHeap bb hb]
 have hpNle:∀bb,r.rd bb=true->tC (tr.filter λx=>S x.j) h0.next bb<=r.g.next:=λbb hb=>by
  simp only[tC,lookHeap bb hb];split
  ·rename_i x hx;exact D.nA x (VN hx).1
  ·exact D.n0
 have galive:∀bb o,r.g.get bb=some o->r.rd bb=true/\WM (tr.filter λx=>S x.j) h0 bb=some o:=λbb o hg=>by
  rw[D.heap]at hg;cases hb:r.rd bb with
  |false=>rw[hb]at hg;simp at hg
  |true=>exact⟨rfl,by rw[hpVeq bb hb,D.heap];exact hg⟩
 let ρr:=ρ.cut r.g.next
 have hrel:Rel P ρr r.g w:=by
  refine⟨rfl,?_,?_,?_,?_,by rw[D.ro];exact I.tB,I.gl⟩
  ·have h1:=D.ro;have h2:=D.n0;show r.g.ro<=r.g.next;omega
  ·intro bb o hg;obtain⟨h1,h2⟩:=galive bb o hg;exact aao (I.heap bb o h2).1 (hpNle bb h1)
  ·intro bb o hg;obtain⟨h1,h2⟩:=galive bb _ hg;obtain⟨_,pl,hp,hc⟩:=I.heap bb o h2;refine⟨pl,hp,?_⟩;rw[D.ro];exact hc.iq (hpNle bb h1)
  ·intro b1 b2 o1 o2 p1 p2 g1 g2;exact I.inj b1 b2 o1 o2 p1 p2 (galive b1 o1 g1).2 (galive b2 o2 g2).2
 have hlook:∀t,t∈r.o.looksAt ops->zS ρr (r.s.get t) (tm.getD t undef):=by
  intro t ht;have h1:=I.env t;have e1:Jn (tr.filter λx=>S x.j) s0 t=r.s.get t:=by rw[D.env t];simp only[Jn,lookEnv t ht]
  have e2:pR (tr.filter λx=>S x.j) h0.next t<=r.g.next:=by
   simp only[pR,lookEnv t ht];split
   ·rename_i x hx;exact D.nA x (VN hx).1
   ·exact D.n0
  rw[e1]at h1;exact h1.iq e2
 obtain⟨v',w',ρq,st,hv,sx⟩:=iL D.op D.sem hrel (D.size.trans I.size) hlook ds rest b k cs
 let ρ':xt:={next:=N,m:=λbb=>if r.g.next<=bb/\bb<r.g'.next then ρq.m bb else ρ.m bb}
 have qnext:ρq.next=r.g'.next:=st.rel.next;have qlow:∀bb,bb<r.g.next->ρq.m bb=ρ.m bb:=λbb hb=>st.le.2 bb hb
 have pq:∀bb,bb<r.g'.next->ρ'.m bb=ρq.m bb:=by
  intro bb hb;by_cases hl:r.g.next<=bb
  ·exact aai ⟨hl,hb⟩
  ·rw[show ρ'.m bb=ρ.m bb from aac (by omega),qlow bb (by omega)]
 have rfresh:=I.fresh r hrm hnot
 have pext:∀bb pl,ρ.m bb=some pl->ρ'.m bb=some pl:=by
  intro bb pl hm
  rw[show ρ'.m bb=ρ.m bb from aac (by
   rintro⟨h1,h2⟩;rw[rfresh bb h1 h2]at hm;cases hm)]
  exact hm
 have hn1N:r.g'.next<=N:=hN r hrm
 have notMine:∀bb o pl,WM (tr.filter λx=>S x.j) h0 bb=some o->ρ.m bb=some pl->r.rd bb=false->¬ot ρr r.g pl.c:=by
  rintro bb o pl hg hm hb ⟨b1,o1,p1,g1,_,m1,e1⟩;obtain⟨k1,k2⟩:=galive b1 o1 g1;have:=I.inj b1 bb o1 o p1 pl k2 hg m1 hm e1;subst this;rw[hb]at k1;cases k1
 have hpVnew:∀bb,WM (tr.filter λx=>k8 S r.j x.j) h0 bb=if r.tc bb=true then r.g'.get bb else WM (tr.filter λx=>S x.j) h0 bb:=by
  intro bb;cases ht:r.tc bb with
  |true=>
   rw[aai rfl];simp only[WM]
   rw[nM V hdown e hready hnot ht (λx hx=>by
    cases hw:x.tc bb with
    |false=>rfl
    |true=>have:=(hx.b1 bb hw).2;rw[ht]at this;cases this) (λx hx=>by
    cases hw:x.tc bb with
    |false=>rfl
    |true=>have:=(hx.b1 bb ht).2;rw[hw]at this;cases this)]
  |false=>
   rw[aac (by simp)];simp only[WM];rw[nN V e hnot (p:=λx=>x.tc bb) ht]
 have hpNnew:∀bb,tC (tr.filter λx=>k8 S r.j x.j) h0.next bb=if r.tc bb=true then r.g'.next else tC (tr.filter λx=>S x.j) h0.next bb:=by
  intro bb;cases ht:r.tc bb with
  |true=>
   rw[aai rfl];simp only[tC]
   rw[nM V hdown e hready hnot ht (λx hx=>by
    cases hw:x.tc bb with
    |false=>rfl
    |true=>have:=(hx.b1 bb hw).2;rw[ht]at this;cases this) (λx hx=>by
    cases hw:x.tc bb with
    |false=>rfl
    |true=>have:=(hx.b1 bb ht).2;rw[hw]at this;cases this)]
  |false=>
   rw[aac (by simp)];simp only[tC];rw[nN V e hnot (p:=λx=>x.tc bb) ht]
 have cases':∀bb o,WM (tr.filter λx=>k8 S r.j x.j) h0 bb=some o->(r.tc bb=true/\r.g'.get bb=some o)\/(r.tc bb=false/\WM (tr.filter λx=>S x.j) h0 bb=some o):=by
  intro bb o h;rw[hpVnew]at h;cases ht:r.tc bb with
  |true=>rw[ht,aai rfl]at h;exact .inl ⟨rfl,h⟩
  |false=>rw[ht,aac (by simp)]at h;exact .inr ⟨rfl,h⟩
 refine⟨ρ',w',qP tm r.o.dst v',⟨rfl,?_,?_,?_,?_,?_,?_,st.os.trans I.os,st.tape.trans I.tape,st.output.trans I.output,aaS I.mN st.size,?_,?_,I.tB,λb pl hb hm=>I.gl b pl hb (by
  rw[show ρ'.m b=ρ.m b from aac (by have:=D.n0;have:=I.tB;omega)]at hm;exact hm)⟩,sx⟩
 ·intro bb hb;rw[show ρ'.m bb=ρ.m bb from aac (by have:=D.n0;omega)];exact I.old bb hb
 ·cases r.o.dst with
  |none=>exact I.size
  |some d=>simp only[qP,Array.size_setIfInBounds];exact I.size
 ·
  intro t;by_cases ht:r.o.dst=some t
  ·have e1:w7 (tr.filter λx=>k8 S r.j x.j) (Jy t)=some r:=nM V hdown e hready hnot (p:=Jy t) (by simp[Jy,ht]) (λx hx=>by
    cases hw:Jy t x with
    |false=>rfl
    |true=>exact absurd ht (hx.d1 t (abv hw)).2) (λx hx=>by
    cases hw:Jy t x with
    |false=>rfl
    |true=>exact absurd (abv hw) (hx.d1 t ht).2)
   simp only[Jn,pR,e1]
   have e2:(qP tm r.o.dst v').getD t undef=v':=by
    have hlt:t<tm.size:=(by rw[<- I.size];exact D.put t ht);rw[ht];simp[qP,aaG,hlt]
   rw[e2];refine hv.ext (by show ρq.next<=r.g'.next;rw[qnext];exact aam _) (λbb pl hb hm=>?_);show ρ'.m bb=some pl;rw[pq bb (by rw[<- qnext];exact hb)];exact hm
  ·have e1:w7 (tr.filter λx=>k8 S r.j x.j) (Jy t)=w7 (tr.filter λx=>S x.j) (Jy t):=nN V e hnot (p:=Jy t) (by simp[Jy,ht])
   have e2:(qP tm r.o.dst v').getD t undef=tm.getD t undef:=by
    cases hd:r.o.dst with
    |none=>rfl
    |some d=>
     have:d≠t:=λh=>ht (by rw[hd,h]);simp[qP,aaG,this]
   have h1:=I.env t;simp only[Jn,pR]at h1 ⊢;rw[e1,e2];exact h1.Da (ρ':=ρ') pext
 ·
  intro bb o hg;rcases cases' bb _ hg with⟨ht,hg'⟩|⟨ht,hg'⟩
  ·rw[hpNnew,aai ht];obtain⟨pl,hp,hc⟩:=st.rel.ok bb o hg';have hlt:=st.rel.eU bb _ hg';refine⟨hlt,pl,by rw[pq bb hlt];exact hp,?_⟩;have hro:r.g'.ro=h0.ro:=st.ro.trans D.ro;rw[hro]at hc;exact hc.ext (by show ρq.next<=r.g'.next;rw[qnext];exact aam _) (λb2 p2 hb hm=>by show ρ'.m b2=some p2;rw[pq b2 (by rw[<- qnext];exact hb)];exact hm)
  ·rw[hpNnew,ht,aac (by simp)];obtain⟨hlt,pl,hp,hc⟩:=I.heap bb o hg';refine⟨hlt,pl,pext bb pl hp,?_⟩
   have hdone:vX P (ρ.cut (tC (tr.filter λx=>S x.j) h0.next bb)) (decide (h0.ro<=bb)) o pl w':=by
    cases hb:r.rd bb with
    |true=>
     have hgg:r.g'.get bb=some o:=(by rw[D.tc2 bb ht,<- hpVeq bb hb];exact hg');obtain⟨p2,hp2,hc2⟩:=st.rel.ok bb o hgg;have hbl:bb<r.g.next:=aao hlt (hpNle bb hb);rw[qlow bb hbl,hp]at hp2;cases hp2;have hro:r.g'.ro=h0.ro:=st.ro.trans D.ro;rw[hro]at hc2;exact vX.down (ρ:=ρ.cut (tC (tr.filter λx=>S x.j) h0.next bb)) (ρ2:=ρq) (λb2 hb2=>qlow b2 (aao hb2 (hpNle bb hb))) hc hc2
    |false=>exact hc.other (st.frame pl.c hc.lt (notMine bb _ pl hg' hp hb))
   exact hdone.Da (ρ':=ρ') pext
 ·
  have key:∀b1 b2 o1 o2 p1 p2,r.tc b1=true->r.g'.get b1=some o1->r.tc b2=false->WM (tr.filter λx=>S x.j) h0 b2=some o2->ρ'.m b1=some p1->ρ'.m b2=some p2->p1.c=p2.c->b1=b2:=by
   intro b1 b2 o1 o2 p1 p2 t1 g1 t2 g2 m1 m2 ec;obtain⟨hlt2,q2,hq2,hc2⟩:=I.heap b2 o2 g2;rw[pext b2 q2 hq2]at m2;cases m2;have hl1:=st.rel.eU b1 o1 g1;rw[pq b1 hl1]at m1;cases hb2:r.rd b2 with
   |true=>
    have hgg:r.g'.get b2=some o2:=(by rw[D.tc2 b2 t2,<- hpVeq b2 hb2];exact g2);have hbl:b2<r.g.next:=aao hlt2 (hpNle b2 hb2);exact st.rel.inj b1 b2 o1 _ p1 p2 g1 hgg m1 (by rw[qlow b2 hbl];exact hq2) ec
   |false=>
    by_cases hw:h0.ro<=b1
    ·have hM:ot ρq r.g' p1.c:=⟨b1,o1,p1,g1,by rw[st.ro,D.ro];exact hw,m1,rfl⟩;have hlt:p1.c<w.heap.size:=by rw[ec];exact hc2.lt
     have:=st.A6 p1.c hlt hM;rw[ec]at this;exact absurd this (notMine b2 _ p2 g2 hq2 hb2)
    ·have hb1:b1<r.g.next:=(by have:=D.n0;omega);have hne:=D.tc3 b1 o1 t1 hb1 g1;obtain⟨o1',ho1'⟩:∃o,r.g.get b1=some o:=by cases hh:r.g.get b1 with|none=>exact absurd hh hne|some o=>exact⟨o,rfl⟩
     rw[qlow b1 hb1]at m1;exact I.inj b1 b2 o1' _ p1 p2 (galive b1 o1' ho1').2 g2 m1 hq2 ec
  intro b1 b2 o1 o2 p1 p2 g1 g2 m1 m2 ec;rcases cases' b1 o1 g1 with⟨t1,k1⟩|⟨t1,k1⟩ <;> rcases cases' b2 o2 g2 with⟨t2,k2⟩|⟨t2,k2⟩
  ·have l1:=st.rel.eU b1 o1 k1;have l2:=st.rel.eU b2 o2 k2;rw[pq b1 l1]at m1;rw[pq b2 l2]at m2;exact st.rel.inj b1 b2 o1 o2 p1 p2 k1 k2 m1 m2 ec
  ·exact key b1 b2 o1 o2 p1 p2 t1 k1 t2 k2 m1 m2 ec
  ·exact(key b2 b1 o2 o1 p2 p1 t2 k2 t1 k1 m2 m1 ec.symm).symm
  ·obtain⟨_,q1,hq1,_⟩:=I.heap b1 o1 k1;obtain⟨_,q2,hq2,_⟩:=I.heap b2 o2 k2;rw[pext b1 q1 hq1]at m1;rw[pext b2 q2 hq2]at m2;cases m1;cases m2;exact I.inj b1 b2 _ _ p1 p2 k1 k2 hq1 hq2 ec
 ·
  intro x hx hS bb h1 h2;simp only[k8,acD,aaJ]at hS;have h3:=I.fresh x hx hS.1 bb h1 h2;have hne:x≠r:=λh=>hS.2 (by rw[h])
  have hdis:¬(r.g.next<=bb/\bb<r.g'.next):=by
   rw[e]at hx;rcases aaQ.1 hx with hxA|hxB
   ·have:=D.nA x hxA;omega
   ·rcases abt.1 hxB with hxr|hxB
    ·exact absurd hxr hne
    ·obtain⟨B1,B2,rfl⟩:=aa0 hxB;have:=(V.told (A++r::B1) x B2 (by simp[e])).nA r (by simp);omega
  rw[show ρ'.m bb=ρ.m bb from aac hdis];exact h3
 ·intro c hc hn
  rw[st.frame c (aao hc I.mN) (by
   rintro⟨b1,o1,p1,g1,hro1,m1,rfl⟩;exact hn (I.A6 b1 o1 p1 (galive b1 o1 g1).2 (by rw[<- D.ro];exact hro1) m1 hc))]
  exact I.frame c hc hn
 ·intro bb o pl hg hro hm hc;rcases cases' bb o hg with⟨ht,hg'⟩|⟨ht,hg'⟩
  ·rw[pq bb (st.rel.eU bb o hg')]at hm;obtain⟨b1,o1,p1,g1,hro1,m1,e1⟩:=st.A6 pl.c (aao hc I.mN) ⟨bb,o,pl,hg',by rw[st.ro,D.ro];exact hro,hm,rfl⟩;rw[<- e1];exact I.A6 b1 o1 p1 (galive b1 o1 g1).2 (by rw[<- D.ro];exact hro1) m1 (by rw[e1];exact hc)
  ·obtain⟨_,q,hq,_⟩:=I.heap bb o hg';rw[pext bb q hq]at hm;cases hm;exact I.A6 bb _ pl hg' hro hq hc
end
end
noncomputable section
variable {P:Program}
section
variable {ops:Array Oper}{s0:Env}{h0:za}{tr:List yW}
theorem lX{listed:Array Bool}{i:Nat}(h:i∈Region.ready .any ops listed):i<ops.size/\listed.getD i true=false /\ ∀o,ops[i]? = some o->∀e,e∈o.after->Region.binds .any e=true->listed.getD e.on false=true:=by
 simp only[Region.ready,ach,abz,aag,aaA]at h;refine⟨h.1,h.2.1,λo ho e he hb=>?_⟩;have:=h.2.2;rw[ho]at this;simp only[abV,abG,Array.all_eq_true_iff_forall_mem,abf,aaA]at this;rcases this e he with h1|h1
 ·rw[hb]at h1;cases h1
 ·exact h1
theorem Nj{listed:Array Bool}{i:Nat}(hi:i<ops.size)(hl:listed.getD i true=false)(h:∀o,ops[i]? = some o->∀e,e∈o.after->Region.binds .any e=true->listed.getD e.on false=true):i∈Region.ready .any ops listed:=by
 simp only[Region.ready,ach,abz,aag,aaA];refine⟨hi,hl,?_⟩;rw[aaP hi];simp only[abV,abG,Array.all_eq_true_iff_forall_mem,abf,aaA];intro e he;cases hb:Region.binds .any e with
 |false=>exact .inl rfl
 |true=>exact .inr (h _ (aaP hi) e he hb)
theorem zez(hro0:h0.ro<=h0.next)(V:Valid P ops s0 h0 tr){N:Nat}(hN:∀x,x∈tr->x.g'.next<=N){ρ0:xt}{w0:World}(ds:List Deferred)(b:Frame)(k:List Item)(cs:List Frame) :
  ∀(fuel t:Nat) (listed:Array Bool) (ρ:xt) (w:World) (tm:Array aaa),listed.size=ops.size->((List.range ops.size).filter λi => !listed.getD i false).length<=fuel ->
   (∀i j,Prec ops i j->listed.getD j false=true->listed.getD i false=true)->mc P tr s0 h0 N ρ0 w0 (λj=>listed.getD j false) ρ w tm ->
   ∃S ρ' w' tm',(∀r,r∈tr->S r.j=true)/\mc P tr s0 h0 N ρ0 w0 S ρ' w' tm' /\
    Steps P (lone (vx b tm ds (.inRegion ops (Region.linearise.go .any ops fuel t listed [])::k)) cs w) (lone (vx b tm' ds (.inRegion ops []::k)) cs w'):=by
 intro fuel
 induction fuel with
 |zero=>
  intro t listed ρ w tm hsz hcount hdown I;refine⟨_,ρ,w,tm,?_,I,.refl P _⟩;intro r hr;have hnil:=abJ (Nat.le_zero.1 hcount);obtain⟨A,B,e⟩:=aa0 hr;have xe:=(V.told A r B e).op
  have hlt:r.j<ops.size:=by
   rcases aar r.j ops.size with h|h
   ·exact h
   ·rw[aaO h]at xe;cases xe
  cases hl:listed.getD r.j false with
  |true=>rfl
  |false=>
   have:r.j∈(List.range ops.size).filter λi => !listed.getD i false:=ach.2 ⟨abz.2 hlt,by rw[hl];rfl⟩;rw[hnil]at this;cases this
 |succ fuel ih=>
  intro t listed ρ w tm hsz hcount hdown I;simp only[Region.linearise.go]
  change ∃S ρ' w' tm',(∀r,r∈tr->S r.j=true)/\mc P tr s0 h0 N ρ0 w0 S ρ' w' tm'/\Steps P (lone (vx b tm ds (.inRegion ops (match (Region.ready .any ops listed)[t%(Region.ready .any ops listed).length]? with
   |some i=>Region.linearise.go .any ops fuel (t/(Region.ready .any ops listed).length) (listed.setIfInBounds i true) [i]
   |none=>[].reverse)::k)) cs w) _
  have getTF:∀i,i<ops.size->listed.getD i true=listed.getD i false:=by
   intro i hi;simp[aaG,aaP (hsz ▸ hi)]
  by_cases hall:∀r,r∈tr->listed.getD r.j false=true
  ·
   have hnone:Region.ready .any ops listed=[]:=by
    rw[List.eq_nil_iff_forall_not_mem];intro i hi;obtain⟨h1,h2,_⟩:=lX hi;obtain⟨r,hr,hrj⟩:=V.all i h1;have:=hall r hr;rw[hrj,<- getTF i h1,h2]at this;cases this
   rw[hnone];exact⟨_,ρ,w,tm,hall,I,.refl P _⟩
  ·
   have hex:∃i,i∈Region.ready .any ops listed:=by
    have:∃A r B,tr=A++r::B/\listed.getD r.j false=false /\ ∀x,x∈A->listed.getD x.j false=true:=by
     clear ih I hN V
     induction tr with
     |nil=>exact absurd (λr hr=>by cases hr) hall
     |cons x tr iht=>
      cases hx:listed.getD x.j false with
      |false=>exact⟨[],x,tr,rfl,hx,λy hy=>by cases hy⟩
      |true=>
       obtain⟨A,r,B,e,h1,h2⟩:=iht (λh=>hall (λr hr=>by rcases abt.1 hr with rfl|hr;exact hx;exact h r hr));exact⟨x::A,r,B,by rw[e];rfl,h1,λy hy=>by rcases abt.1 hy with rfl|hy;exact hx;exact h2 y hy⟩
    obtain⟨A,r,B,e,h1,h2⟩:=this;have xe:=(V.told A r B e).op
    have hlt:r.j<ops.size:=by
     rcases aar r.j ops.size with h|h
     ·exact h
     ·rw[aaO h]at xe;cases xe
    refine⟨r.j,Nj hlt (by rw[getTF _ hlt];exact h1) (λo ho ed hed hb=>?_)⟩;rw[xe]at ho;cases ho;obtain⟨x,hx,hxe⟩:=V.aY A r B e ed hed hb;rw[<- hxe];exact h2 x hx
   cases hi:(Region.ready .any ops listed)[t%(Region.ready .any ops listed).length]? with
   |none=>
    obtain⟨i,hmem⟩:=hex;have hpos:0<(Region.ready .any ops listed).length:=List.length_pos_of_mem hmem;rw[aae (Nat.mod_lt _ hpos)]at hi;cases hi
   |some i=>
    simp only[];rw[linearise_go_acc,List.reverse_singleton,List.singleton_append];obtain⟨hlt,hl,hed⟩:=lX (aau hi);obtain⟨r,hr,hrj⟩:=V.all i hlt;obtain⟨A,B,e⟩:=aa0 hr;subst hrj;have xe:=(V.told A r B e).op
    have hready:∀q,Prec ops q r.j->listed.getD q false=true:=by
     intro q hq;cases hq with
     |one ho he hb=>exact hed _ ho _ he hb
     |more ho he hb hp=>exact hdown _ _ hp (hed _ ho _ he hb)
    have hnot:listed.getD r.j false=false:=(by rw[<- getTF _ hlt];exact hl);obtain⟨ρ1,w1,tm1,I1,sx⟩:=zah hro0 V hdown e hready hnot hN I ds (Region.linearise.go .any ops fuel (t/(Region.ready .any ops listed).length) (listed.setIfInBounds r.j true) []) b k cs
    have hadd:(λj=>(listed.setIfInBounds r.j true).getD j false)=k8 (λj=>listed.getD j false) r.j:=by
     funext j
     simp only[k8,aaG,aby];by_cases ej:r.j=j
     ·subst ej;rw[aai rfl,aai (by omega)];simp
     ·rw[aac ej];have:decide (j=r.j)=false:=decide_eq_false (λh=>ej h.symm);rw[this,Bool.or_false]
    rw[<- hadd]at I1
    have hcnt:((List.range ops.size).filter λi => !(listed.setIfInBounds r.j true).getD i false).length<=fuel:=by
     have hmem:r.j∈(List.range ops.size).filter λi => !listed.getD i false:=ach.2 ⟨abz.2 hlt,by rw[hnot];rfl⟩
     have hsub:(List.range ops.size).filter (λi => !(listed.setIfInBounds r.j true).getD i false)=((List.range ops.size).filter λi => !listed.getD i false).filter (λi=>decide (i≠r.j)):=by
      rw[acj];apply abX;intro i _;have:=congrFun hadd i;simp only[k8]at this;rw[this];by_cases ei:i=r.j <;> simp[ei]
     rw[hsub]
     have hlen:∀(l:List Nat),r.j∈l->(l.filter λi=>decide (i≠r.j)).length<l.length:=by
      intro l hl;apply List.length_filter_lt_length_iff_exists.2;exact⟨r.j,hl,by simp⟩
     have:=hlen _ hmem;omega
    have hdn:∀q j,Prec ops q j->(listed.setIfInBounds r.j true).getD j false=true->(listed.setIfInBounds r.j true).getD q false=true:=by
     intro q j hq hj;have h1:=congrFun hadd j;have h2:=congrFun hadd q;rw[h1]at hj;rw[h2];simp only[k8,abf,aaR]at hj ⊢;rcases hj with hj|rfl
     ·exact .inl (hdown q j hq hj)
     ·exact .inl (hready q hq)
    obtain⟨S,ρ2,w2,tm2,hS,I2,sx2⟩:=ih (t/(Region.ready .any ops listed).length) (listed.setIfInBounds r.j true) ρ1 w1 tm1 (by simpa using hsz) hcnt hdn I1;exact⟨S,ρ2,w2,tm2,hS,I2,sx.trans sx2⟩
theorem bU(hmix:P.follows .mixedOrders=true){id:Nat}{rd:Option Nat}{Q:Ex->Env->za->Prop}(V:Valid P ops s0 h0 tr){sf:Env}{hf:za}(hs:∀t,sf.get t=Jn tr s0 t)(hsz:sf.size=s0.size)
  (hh:∀b,hf.get b=WM tr h0 b) (hro:hf.ro=h0.ro) (hn:h0.next<=hf.next) (hN:∀x,x∈tr->x.g'.next<=hf.next) (hq:Q .normal sf hf):T P rd (.region id ops true) s0 h0 Q:=by
 intro ρ w tm ds hr hse b hb k cs
 let w1:World:={w with drawn:=w.drawn+1}
 let ρ1:xt:={next:=hf.next,m:=λbb=>if bb<h0.next then ρ.m bb else none}
 have hm1:∀bb pl,bb<ρ.next->ρ.m bb=some pl->ρ1.m bb=some pl:=λbb pl hb hm=>by
  rw[show ρ1.m bb=ρ.m bb from aai (by rw[<- hr.next];exact hb)];exact hm
 have hnil:tr.filter (λr=>(Array.replicate ops.size false).getD r.j false)=[]:=by
  rw[acL];intro r _ h;simp only[aaG,aci]at h;split at h <;> simp at h
 have I:mc P tr s0 h0 hf.next ρ w (λj=>(Array.replicate ops.size false).getD j false) ρ1 w1 tm:=by
  refine⟨rfl,λbb hb=>aai hb,hse.size,?_,?_,?_,?_,rfl,rfl,rfl,aam _,λ_ _ _=>rfl,?_,hr.tB,λbb pl hb hm=>hr.XR bb pl hb (by
   rw[show ρ1.m bb=ρ.m bb from aai (aao hb (aaS hr.tB hr.ro))]at hm;exact hm)⟩
  ·intro t;rw[hnil];exact(hse.get t).ext (ρ':=ρ1.cut h0.next) (by rw[hr.next];exact aam _) hm1
  ·intro bb o hg;rw[hnil]at hg ⊢;have hb:=hr.eU bb _ hg;obtain⟨pl,hp,hc⟩:=hr.ok bb o hg;refine⟨hb,pl,hm1 bb pl (by rw[hr.next];exact hb) hp,?_⟩;exact vX.other (vX.ext (ρ:=ρ) (ρ':=ρ1.cut h0.next) (by rw[hr.next];exact aam _) hm1 hc) rfl
  ·intro b1 b2 o1 o2 p1 p2 g1 g2 m1 m2 e;rw[hnil]at g1 g2;have l1:=hr.eU b1 o1 g1;have l2:=hr.eU b2 o2 g2;rw[show ρ1.m b1=ρ.m b1 from aai l1]at m1;rw[show ρ1.m b2=ρ.m b2 from aai l2]at m2;exact hr.inj b1 b2 o1 o2 p1 p2 g1 g2 m1 m2 e
  ·intro x hx _ bb h1 h2;obtain⟨A,B,e⟩:=aa0 hx;have:=(V.told A x B e).n0;exact aac (by omega)
  ·intro bb o pl hg hro' hm hc;rw[hnil]at hg;have l:=hr.eU bb o hg;rw[show ρ1.m bb=ρ.m bb from aai l]at hm;exact⟨bb,o,pl,hg,hro',hm,rfl⟩
 have hcount:((List.range ops.size).filter λi => !(Array.replicate ops.size false).getD i false).length<=ops.size:=by
  have:=List.length_filter_le (λi => !(Array.replicate ops.size false).getD i false) (List.range ops.size);simpa using this
 obtain⟨S,ρ2,w2,tm2,hS,I2,sx⟩:=zez hr.ro V hN ds b k cs ops.size (w.tape w.drawn (.order b.fn id)) (Array.replicate ops.size false) ρ1 w1 tm (by simp) hcount (λi j _ hj=>by
  simp only[aaG,aci]at hj;split at hj <;> simp at hj) I
 have hfull:tr.filter (λr=>S r.j)=tr:=List.filter_eq_self.2 hS;have lastn:∀(p:yW->Bool) x,w7 tr p=some x->x.g'.next<=hf.next:=λp x hx=>hN x (VN hx).1;have hcut:ρ2=ρ2.cut hf.next:=by have:=I2.next;cases ρ2;simp only at this;subst this;rfl
 have hrel:Rel P ρ2 hf w2:=by
  refine⟨I2.next,by rw[hro];exact aaS hr.ro hn,?_,?_,?_,by rw[hro];exact hr.tB,I2.gl⟩
  ·intro bb o hg;rw[hh]at hg;have:=(I2.heap bb o (by rw[hfull];exact hg)).1;rw[hfull]at this;refine aao this ?_;simp only[tC];split
   ·rename_i x hx;exact lastn _ x hx
   ·exact hn
  ·intro bb o hg;rw[hh]at hg;obtain⟨_,pl,hp,hc⟩:=I2.heap bb o (by rw[hfull];exact hg);refine⟨pl,hp,?_⟩;rw[hro];rw[hfull]at hc;rw[hcut];refine vX.iq ?_ hc;simp only[tC];split
   ·rename_i x hx;exact lastn _ x hx
   ·exact hn
  ·intro b1 b2 o1 o2 p1 p2 g1 g2;rw[hh]at g1 g2;exact I2.inj b1 b2 o1 o2 p1 p2 (by rw[hfull];exact g1) (by rw[hfull];exact g2)
 refine⟨.normal,sf,hf,ρ2,w2,tm2,ds,hq,⟨⟨by rw[I2.next,hr.next];exact hn,λbb hb=>I2.old bb (by rw[<- hr.next];exact hb)⟩,hrel,hro,I2.os,I2.tape,I2.output,I2.mN,I2.frame,?_⟩,⟨hsz.trans I2.size,λt=>?_⟩,.refl _ _ _,?_⟩
 ·rintro c hc ⟨bb,o,pl,hg,hrb,hm,rfl⟩;rw[hh]at hg;exact I2.A6 bb o pl (by rw[hfull];exact hg) (by rw[<- hro];exact hrb) hm hc
 ·have:=I2.env t;rw[hfull]at this;rw[hs t];rw[hcut];refine zS.iq ?_ this;simp only[pR];split
  ·rename_i x hx;exact lastn _ x hx
  ·exact hn
 ·refine .head KT ?_
  have:Region.schedule (P.follows .mixedOrders) ops (w.tape w.drawn (.order b.fn id))=Region.linearise .any ops (w.tape w.drawn (.order b.fn id)):=by
   simp only[Region.schedule,hmix,Bool.true_or,aad]
  rw[this];exact sx.trans (.one VI)
end
end
noncomputable section
variable {P:Program}
def YU:List Tmp->List aaa->Env->Option Env
 |[],[],s=>some s
 |t::ts,v::vs,s=>(match s.put (some t) v with
  |some s1=>YU ts vs s1
  |none=>none)
 |_,_,_=>none
theorem iR{ρ:xt}:∀{ts:List Tmp} {vs vs':List aaa} {s s':Env} {tm:Array aaa},YU ts vs s=some s'->vE ρ s tm->xV ρ vs vs' ->
  ts.length=vs'.length/\vE ρ s' ((ts.zip vs').foldl (λtm x=>tm.setIfInBounds x.1 x.2) tm)
 |[],[],vs',s,s',tm,he,hs,hv=>by
  cases hv.uW;simp only[YU,aab]at he;subst he;exact⟨rfl,hs⟩
 |t::ts,v::vs,vs',s,s',tm,he,hs,hv=>by
  obtain⟨y,ys,rfl,h1,h2⟩:=hv.cons_inv;simp only[YU]at he;split at he
  ·rename_i s1 hp;have:=iR he (hs.put h1 hp) h2;exact⟨by simp[this.1],by simpa [qP] using this.2⟩
  ·cases he
 |[],_::_,_,_,_,_,he,_,_=>by simp[YU]at he
 |_::_,[],_,_,_,_,he,_,_=>by simp[YU]at he
def Jt(l:Yl)(tm:Array aaa)(d:Nat)(fn:FuncId):Loop:={state:=l.state,pending:=l.pending,fn:=fn,tmps:=tm,params:=l.params,assign:=l.assign,body:=l.body,defers:=d}
theorem Rel.loop{ρ:xt}{h:za}{w:World}(hr:Rel P ρ h w){b:Nat}{A:Yl}{pl:Place}(hg:h.get b=some (.loop A))(hm:ρ.m b=some pl) :
  ∃tm d fn,w.heap[pl.c]? = some (.loop (Jt A tm d fn))/\vE ρ A.s tm:=hr.zds hg hm
theorem MX(w:World)(l k:Nat)(o:Obj)(hk:k≠l):(w.heap.setIfInBounds l o)[k]? = w.heap[k]?:=by rw[aby,aac (Ne.symm hk)]
theorem MW(w:World)(l:Nat)(o:Obj)(hl:l<w.heap.size):(w.heap.setIfInBounds l o)[l]? = some o:=by rw[aby,aai rfl,aai hl]
theorem Step.zhh{ρ:xt}{h:za}{w:World}(hr:Rel P ρ h w){b:Nat}{A A':Yl}{pl:Place}(hg:h.get b=some (.loop A))(hm:ρ.m b=some pl)(hro:h.ro<=b){tm:Array aaa}{d fn:Nat}
  (ho:w.heap[pl.c]? = some (.loop (Jt A tm d fn))) (hs:vE ρ A'.s tm) :
  Step P ρ h w ρ (h.set b (some (.loop A'))) {w with heap:=w.heap.setIfInBounds pl.c (.loop (Jt A' tm d fn))} :=
 Step.zdA hr hg hm hro (ob' := .loop A') ⟨tm,d,fn,MW w pl.c _ (VO ho),hs⟩ rfl rfl rfl (by simp) (λk hk=>MX w pl.c k _ hk)
theorem Uz{w:World}{l:Nat}{r:Loop}(h:w.heap[l]? = some (.loop r)):(Instr.getLoop l).run P w=.ok r w:=by
 simp only[Instr.getLoop,getObj,aan];simp only[Sem.run,h,aah];rfl
theorem iS{w:World}{l:Nat}{r:Loop}(h:w.heap[l]? = some (.loop r))(o:Obj):(setObj l o).run P w=.ok () {w with heap:=w.heap.setIfInBounds l o}:=by
 simp only[setObj,Sem.run,h]
theorem zaO{w:World}{l:Nat}{r:Loop}{args:Array aaa}(h:w.heap[l]? = some (.loop r))(hn:args.size=r.params.size) :
  (Instr.yield l args).run P w=.ok (.round l r.fn ((r.params.toList.zip args.toList).foldl (λtm x=>tm.setIfInBounds x.1 x.2) r.tmps) r.assign r.body) w:=by
 simp only[Instr.yield,aan,Uz h,aah];rw[aac (by simp[hn])];simp only[aaw];rw[<- Array.foldl_toList,Array.toList_zip]
theorem D5{w:World}{l:Nat}{r:Loop}(h:w.heap[l]? = some (.loop r))(hr:r.state=.ready) :
  (Instr.beginRound l).run P w=.ok () {w with heap:=w.heap.setIfInBounds l (.loop {r with state := .busy})}:=by
 simp only[Instr.beginRound,aan,Uz h,aah,iS h,hr,aaw]
theorem eO{w:World}{l:Nat}{r:Loop}(h:w.heap[l]? = some (.loop r))(jump:Option Code) :
  (Instr.endRound l jump).run P w=.ok (.bool jump.isNone) {w with heap:=w.heap.setIfInBounds l (.loop {r with state:=if jump.isNone then .ready else .done,pending:=jump})}:=by
 simp only[Instr.endRound,aan,Uz h,aah,iS h,aaw]
theorem Nq{w:World}{l:Nat}{r:Loop}(h:w.heap[l]? = some (.loop r))(hb:(r.state == .busy)=false) :
  (Instr.endLoop l).run P w=.ok r.pending {w with heap:=w.heap.setIfInBounds l (.loop {r with state := .exhausted})}:=by
 simp only[Instr.endLoop,aan,Uz h,aah,hb,abo,abe,iS h,aaw]
section moves
variable {b:Frame}{tm:Array aaa}{ds:List Deferred}{k:List Item}{cs:List Frame}{w w':World}
theorem tz{l:Nat}(hb:b.roundOf=some l)(hrun:(Instr.beginRound l).run P w=.ok () w'):step P (lone (vx b tm ds (.beginRound::k)) cs w)=.next (lone (vx b tm ds k) cs w') :=
 step_lone_go (by
  simp only[stepG,vx,stepG.exec,hb,stepG.apply];simp[hrun,Frame.finish])
def VM:Ex->Option Code
 | .normal=>none
 | .ret=>some .ret
 | .exit id=>some (.exit id)
theorem iw{l:Nat}{fr:Frame}(hb:b.roundOf=some l)(hk:b.kind=.normal){e:Ex}(todo:List Item)
  (htodo:match e with | .normal=>todo=[] | .ret=>∃t,todo=.code .ret::t | .exit id=>∃t,todo=.code (.exit id)::t/\exitTo id t=none) {v:aaa}
  (hrun:(Instr.endRound l (VM e)).run P w=.ok v w') :
  step P (lone (vx b tm ds todo) (fr::cs) w)=.next (lone (fr.finish v) cs w') :=
 step_lone_go (by
  cases e with
  |normal=>subst htodo;simp only[VM]at hrun;simp[stepG,vx,stepG.exec,hb,hrun,doReturn,hk]
  |ret=>obtain⟨t,rfl⟩:=htodo;simp only[VM]at hrun;simp[stepG,vx,stepG.exec,hb,hrun,doReturn,hk]
  |exit id=>obtain⟨t,rfl,ht⟩:=htodo;simp only[VM]at hrun;simp[stepG,vx,stepG.exec,hb,ht,hrun,doReturn,hk])
theorem Dq{ops:Array Oper}{i:Nat}{rest:List Nat}{o:Oper}(ho:ops[i]? = some o)(hw:Region.wanted o (yielded ops tm)=true)(hd:VX o.op=false){l:Nat}{f:FuncId}{tm':Array aaa}{as bd:Code}{w':World}
  (hr:(execOp (Act.eval ⟨tm,ds⟩) o).run P w=.ok (.round l f tm' as bd) w') :
  step P (lone (vx b tm ds (.inRegion ops (i::rest)::k)) cs w)=.next (lone (Frame.round l f tm' as bd .normal) (vx b tm ds (.inRegion ops (i::rest)::k)::cs) w') :=
 step_lone_go (by rw[ma ho hw hd];simp[stepG.apply,hr,vx])
theorem nI{l:Nat}{jump:Option Code}(hrun:(Instr.endLoop l).run P w=.ok jump w') :
  step P (lone (vx b tm ds (.endRangeFunc l::k)) cs w)=.next (lone (vx b tm ds ((jump.map Item.code).toList++k)) cs w') :=
 step_lone_go (by simp[stepG,vx,stepG.exec,hrun])
theorem AZ{f:Operand}{params:Array Tmp}{as bd:Code}{l:Nat}{mark:List Deferred}{w1 w2:World}{g:FuncId}{args:Array aaa}
  (hrun:(Instr.enterLoop b.fn tm params as bd b.roundOf).run P w=.ok (l,mark) w1)
  (hcall:(do let d <- resolve (Act.eval ⟨tm,ds⟩) {callee := .value f,args := #[.const (.func (.yield l) #[] #[])],argTypes := #[]} 0;invoke d.target d.args:Sem Next).run P w1=.ok (.enter g args) w2) :
  step P (lone (vx b tm ds (.code (.rangeFunc f params as bd)::k)) cs w)=.next (lone (Frame.enter P g args .normal) (vx b tm (mark++ds) (.inRangeFunc l::k)::cs) w2) :=
 step_lone_go (by
  have he:=Dj b tm (mark++ds) (.inRangeFunc l::k);have he':(Act.eval ⟨tm,mark++ds⟩)=(Act.eval ⟨tm,ds⟩):=by funext x;cases x <;> rfl
  rw[he']at he;simp only[vx]at he;simp only[stepG,vx,stepG.exec];simp only[Sem.runT_eq,hrun,GStep.bare_after];simp only[stepG.apply,he,Sem.runT_eq,hcall];simp[GStep.bare,GStep.after])
end moves
def TY(P:Program)(L:Nat)(args:List aaa)(h:za)(R:aaa->za->Prop):Prop :=
 ∀(ρ:xt) (w:World) (cargs:List aaa) (pl:Place),Rel P ρ h w->xV ρ args cargs->L<ρ.next->ρ.m L=some pl ->
  ∃f tm as bd,(Instr.yield pl.c cargs.toArray).run P w=.ok (.round pl.c f tm as bd) w /\
   ∀(fr:Frame) (cs:List Frame),∃v v' h' ρ' w',R v h'/\Step P ρ h w ρ' h' w'/\zS ρ' v v'/\Steps P (lone (Frame.round pl.c f tm as bd .normal) (fr::cs) w) (lone (fr.finish v') cs w')
def Yl.left(A:Yl)(e:Ex):Yl:={A with state:=if (VM e).isNone then .ready else .done,pending:=VM e}
theorem PU{L:Nat}{A:Yl}{args:List aaa}{h:za}{s0:Env}{R:aaa->za->Prop}(hg:h.get L=some (.loop A))(he:YU A.params.toList args A.s=some s0)
  (ht:T P (some L) A.assign s0 h (λe s1 h1=>e=.normal /\ ∃A1,h1.get L=some (.loop A1)/\A1.state=.ready/\h1.ro<=L /\
   T P (some L) A.body s1 (h1.set L (some (.loop {A1 with state := .busy}))) (λe s2 h2=>∃A2,h2.get L=some (.loop A2)/\h2.ro<=L /\
     R (.bool (VM e).isNone) (h2.set L (some (.loop (A2.left e))))))):TY P L args h R:=by
 intro ρ w cargs pl hr hv hL hm;obtain⟨tm,d,fn,ho,hs⟩:=hr.loop hg hm;obtain⟨hlen,hs0⟩:=iR he hs hv;refine⟨fn,_,A.assign,A.body,zaO ho (by simpa [Jt] using hlen.symm),λfr cs=>?_⟩
 let b:Frame:={ (default:Frame) with fn:=fn,kind := .normal,roundOf:=some pl.c}
 have hrd:Rd ρ (some L) b:=⟨hL,pl,hm,rfl⟩;obtain⟨e,s1,h1,ρ1,w1,tm1,ds1,⟨rfl,A1,g1,a1,ro1,q⟩,st1,hs1,_,ha⟩:=ht ρ w _ [] hr hs0 b hrd [.beginRound,.code A.body] (fr::cs);have hm1:ρ1.m L=some pl:=(st1.le.2 L hL).trans hm;obtain⟨tmA,dA,fnA,hoA,hsA⟩:=st1.rel.loop g1 hm1;have sb:=Step.zhh st1.rel g1 hm1 ro1 (A':={A1 with state := .busy}) hoA hsA;obtain⟨e,s2,h2,ρ2,w2,tm2,ds2,⟨A2,g2,ro2,hR⟩,st2,hs2,_,ha2⟩:=q ρ1 _ tm1 ds1 sb.rel hs1 b (hrd.mono st1.le) [] (fr::cs);have hm2:ρ2.m L=some pl:=(st2.le.2 L (aao hL st1.le.1)).trans hm1;obtain⟨tmB,dB,fnB,hoB,hsB⟩:=st2.rel.loop g2 hm2;have se:=Step.zhh st2.rel g2 hm2 ro2 (A':=A2.left e) hoB hsB;refine⟨_,.bool (VM e).isNone,_,ρ2,_,hR,((st1.trans sb).trans st2).trans se,.bool _,?_⟩;refine acn ha (.head (tz rfl (D5 hoA a1)) ?_);cases e with
 |normal=>exact acn ha2 (.one (iw (e := .normal) rfl rfl [] rfl (eO hoB _)))
 |ret=>obtain⟨t,sx⟩:=ha2;exact sx.trans (.one (iw (e := .ret) rfl rfl _ ⟨t,rfl⟩ (eO hoB _)))
 |exit id=>obtain⟨t,et,sx⟩:=ha2;exact sx.trans (.one (iw (e := .exit id) rfl rfl _ ⟨t,rfl,et.trans rfl⟩ (eO hoB _)))
theorem IA{s:Env}{h:za}{Q:Env->za->Prop}{ops:Array Oper}{i:Nat}{rest:List Nat}{o:Oper}{f:Operand}{cargs:Array Operand}{ts:Array TypeId}{L:Nat}{vs:List aaa}{R:aaa->za->Prop}
  (ho:ops[i]? = some o) (hw:yP ops s o=true) (xe:o.op=.call {callee := .value f,args:=cargs,argTypes:=ts}) (hf:j6 s f=some (.func (.yield L) #[] #[])) (hargs:aR s cargs.toList=some vs)
  (hc:TY P L vs h R) (ht:∀v h1,R v h1->∃s1,s.put o.dst v=some s1/\TO P ops rest s1 h1 Q):TO P ops (i::rest) s h Q:=by
 intro ρ w tm ds hr hs b k cs;have hw':Region.wanted o (yielded ops tm)=true:=(VD hs ops o).trans hw;have e1:=yk (a:=⟨tm,ds⟩) hs hf;have e2:=ZH (a:=⟨tm,ds⟩) hs hargs;generalize hfv:Act.eval ⟨tm,ds⟩ f=fv at e1;cases e1 with
 |yield hb hm=>
  rename_i pl;obtain⟨fn,tmr,as,bd,hy,hgo⟩:=hc ρ w _ pl hr e2 hb hm
  have hrun:(execOp (Act.eval ⟨tm,ds⟩) o).run P w=.ok (.round pl.c fn tmr as bd) w:=by
   have hargs':(#[]:Array aaa)++cargs.map (Act.eval ⟨tm,ds⟩)=(cargs.toList.map (Act.eval ⟨tm,ds⟩)).toArray:=by apply acv;simp
   simp only[execOp,xe,resolve,hfv,Deferred.ofValue,aan,aaw,aah,invoke,hargs',hy]
  obtain⟨v,v',h',ρ',w1,hR,st,hv,hgo⟩:=hgo (vx b tm ds (.inRegion ops (i::rest)::k)) cs;obtain⟨s1,hp,hrest⟩:=ht v h' hR;have hs1:vE ρ' s1 (qP tm o.dst v'):=(hs.mono st.le).put hv hp;obtain⟨s2,h2,ρ2,w2,tm2,q,st2,hs2,sx⟩:=hrest ρ' w1 _ ds st.rel hs1 b k cs;have hd:VX o.op=false:=by rw[xe];rfl
  refine⟨s2,h2,ρ2,w2,tm2,q,st.trans st2,hs2,.head (Dq ho hw' hd hrun) (acn hgo ?_)⟩;rw[ZJ,ho];exact sx
theorem Step.more{ρ:xt}{h:za}{w w':World}(hr:Rel P ρ h w){o:Obj}(hw:w' = {w with heap:=w.heap.push o}):Step P ρ h w ρ h w':=by
 subst hw;have hold:∀k,k<w.heap.size->(w.heap.push o)[k]? = w.heap[k]?:=λk hk=>by rw[Array.getElem?_push,aac (by omega)]
 exact⟨xt.le_refl _,hr.grow hold,rfl,rfl,rfl,rfl,by simp,λk hk _=>hold k hk,λ_ _ h=>h⟩
theorem run_newObj(w:World)(o:Obj):(newObj o).run P w=.ok w.heap.size {w with heap:=w.heap.push o}:=rfl
theorem Ae{rd:Option Nat}{f:Operand}{params:Array Tmp}{as bd:Code}{s:Env}{h:za}{g:FuncId}{fa fc:Array aaa}{Q:Ex->Env->za->Prop}
  (hf:j6 s f=some (.func (.func g) fa fc)) (hcall:xO P g=true) (hrd:∀L,rd=some L->∃A,h.get L=some (.loop A))
  (hc:TC P g (fa.toList++[.func (.yield h.next) #[] #[]]++fc.toList) (h.push (.loop {state := .ready,pending:=none,s:=s,params:=params,assign:=as,body:=bd}))
   (λ_ h1=>∃A,h1.get h.next=some (.loop A)/\(A.state == .busy)=false/\h1.ro<=h.next /\ ∃e,VM e=A.pending/\Q e s (h1.set h.next none))):T P rd (.rangeFunc f params as bd) s h Q:=by
 intro ρ w tm ds hr hs b hb k cs
 let A0:Yl:={state := .ready,pending:=none,s:=s,params:=params,assign:=as,body:=bd}
 obtain⟨mark,d,w1,hrun,st1,hd1⟩:∃mark d w1,(Instr.enterLoop b.fn tm params as bd b.roundOf).run P w=.ok (w1.heap.size,mark) {w1 with heap:=w1.heap.push (.loop (Jt A0 tm d b.fn))} /\ Step P ρ h w ρ h w1/\fh w ds w1 (mark++ds):=by
  cases rd with
  |none=>
   have hb:b.roundOf=none:=hb;refine⟨[M4 w.heap.size],w.heap.size,{w with heap:=w.heap.push (.deferred (some []))},?_,Step.more hr rfl,[w.heap.size],rfl,by simp,λr hr'=>?_⟩
   ·simp only[Instr.enterLoop,hb,aan,run_newObj,aah,aaw];rfl
   ·simp only[aaV]at hr';subst hr';exact⟨aam _,by simp⟩
  |some L0=>
   obtain⟨hL,pl,hm,hb⟩:=hb;obtain⟨A,gA⟩:=hrd L0 rfl;obtain⟨tmA,dA,fnA,hoA,_⟩:=hr.loop gA hm;refine⟨[],dA,w,?_,.refl hr,.refl _ _ _⟩;simp only[Instr.enterLoop,hb,aan,Uz hoA,run_newObj,aah,aaw];rfl
 let pl:Place:=⟨w1.heap.size,0,0,0⟩
 have stp:Step P ρ h w1 (ρ.ext pl) (h.push (.loop A0)) {w1 with heap:=w1.heap.push (.loop (Jt A0 tm d b.fn))} :=
  Step.lW st1.rel (ob := .loop A0) (pl:=pl) rfl rfl ⟨tm,d,b.fn,by simp[pl,Jt],hs.mono (ρ.tE pl)⟩ rfl rfl rfl
 have hnew:(ρ.ext pl).m h.next=some pl:=by rw[<- hr.next];exact ρ.jC pl
 have hlt:h.next<(ρ.ext pl).next:=by show h.next<ρ.next+1;rw[hr.next];omega
 have e1:=yk (a:=⟨tm,ds⟩) (hs.mono (ρ.tE pl)) hf;generalize hfv:Act.eval ⟨tm,ds⟩ f=fv at e1;cases e1 with
 |func ha hcs k1 k2=>
  rename_i fa' fc'
  let yl:aaa := .func (.yield w1.heap.size) #[] #[]
  let full:=fa'.toList++[yl]++fc'.toList
  have hyl:zS (ρ.ext pl) (.func (.yield h.next) #[] #[]) yl := .yield (pl:=pl) hlt hnew
  have hfull:xV (ρ.ext pl) (fa.toList++[.func (.yield h.next) #[] #[]]++fc.toList) full :=
   (xV.append ⟨by simpa using ha,λi x y hx hy=>k1 i x y (by simpa using hx) (by simpa using hy)⟩ (.cons hyl (.nil _))).append ⟨by simpa using hcs,λi x y hx hy=>k2 i x y (by simpa using hx) (by simpa using hy)⟩
  have hrun2:(do let d <- resolve (Act.eval ⟨tm,ds⟩) {callee := .value f,args := #[.const yl],argTypes := #[]} 0;invoke d.target d.args:Sem Next).run P {w1 with heap:=w1.heap.push (.loop (Jt A0 tm d b.fn))} = .ok (.enter g full.toArray) {w1 with heap:=w1.heap.push (.loop (Jt A0 tm d b.fn))}:=by
   have hargs':fa'++(#[.const yl]:Array Operand).map (Act.eval ⟨tm,ds⟩)++fc'=full.toArray:=by apply acv;simp[full];rfl
   simp only[resolve,hfv,Deferred.ofValue,aan,aaw,aah,invoke,callFunc,run_program,hargs'];unfold xO at hcall;cases hfn:P.funcs[g]? with
   |none=>rw[hfn]at hcall;cases hcall
   |some fn=>
    rw[hfn]at hcall;simp only[aag,aaA]at hcall;simp only[hcall.2,abo,abe];rw[aac (by cases hb:fn.body <;> simp_all)];rfl
  obtain⟨e,w3,fr,⟨v,v',h',ρ',rfl,⟨A,gA,nb,roA,ex,hj,q⟩,st,hv⟩,hcomes,_,hleave⟩:=hc (ρ.ext pl) _ full stp.rel hfull (vx b tm (mark++ds) (.inRangeFunc w1.heap.size::k)::cs);have hm':ρ'.m h.next=some pl:=(st.le.2 _ hlt).trans hnew;obtain⟨tmA,dA,fnA,hoA,hsA⟩:=st.rel.loop gA hm';have stt:=Step.zhh st.rel gA hm' roA (A':={A with state := .exhausted}) hoA hsA;have std:=Step.Pf stt.rel h.next;have sta:=(((stp.trans st).trans stt).trans std).same (h'':=h'.set h.next none) ⟨rfl,rfl,λx=>by rw[za.set_set]⟩;refine⟨ex,s,h'.set h.next none,ρ',_,tm,mark++ds,q,st1.trans sta,hs.mono (st1.trans sta).le,hd1.trans (.refl _ _ _) st1.size st1.rel sta,?_⟩
  have harr:Steps P (lone (vx b tm ds (.code (.rangeFunc f params as bd)::k)) cs w) (lone (vx b tm (mark++ds) ((A.pending.map Item.code).toList++k)) cs {w3 with heap:=w3.heap.setIfInBounds pl.c (.loop (Jt {A with state := .exhausted} tmA dA fnA))}) :=
   .head (AZ hrun hrun2) (acn hcomes (.head (step_leave_returned hleave) (.one (nI (Nq hoA nb)))))
  have hp:(A.pending.map Item.code).toList=((VM ex).map Item.code).toList:=by rw[hj]
  rw[hp]at harr;cases ex with
  |normal=>exact harr
  |ret=>exact⟨k,harr⟩
  |exit id=>exact⟨k,rfl,harr⟩
end
noncomputable section
inductive Task where
 |code (rd:Option Nat) (c:Code) (s:Env)
 |call (f:FuncId) (args:List aaa)
inductive Out where
 |ex (e:Ex) (s:Env)
 |val (v:aaa)
abbrev W5:=Task->za->Option (Out×za)
def vB(h h2:za):za := @za.rec (λ_=>za) (λt n r=>@za.rec (λ_=>za) (λt2 n2 _=>⟨(List.range' n (n2-n)).foldl (λt b=>t.set b (t2.get b)) t,n2,r⟩) h2) h
def Mr(cls:List Nat)(rec:W5)(g:FuncId)(args:List aaa)(h:za):Option (aaa×za) :=
 match cls.getD g 0 with
 |1=>(match rec (.call g args) h with
  |some (.val v,h')=>some (v,h')
  |_=>none)
 |2=>(match rec (.call g args) h.lock with
  |some (.val v,_)=>cond (tS v) (some (v,h)) none
  |_=>none)
 |3=>(match rec (.call g args) h.lock with
  |some (.val v,h2)=>some (v,vB h h2)
  |_=>none)
 |_=>none
def zgD:Ex->Bool
 | .normal=>true
 |_=>false
def isReady:LoopState->Bool
 | .ready=>true
 |_=>false
def zeY:LoopState->Bool
 | .busy=>false
 |_=>true
def D3(rec:W5)(L:Nat)(args:List aaa)(h:za):Option (aaa×za) :=
 match h.get L with
 |some (.loop A)=>(match YU A.params.toList args A.s with
  |some s0=>(match rec (.code (some L) A.assign s0) h with
   |some (.ex .normal s1,h1)=>(match h1.get L with
    |some (.loop A1)=>cond (isReady A1.state&&Nat.ble h1.ro L)
      (match rec (.code (some L) A.body s1) (h1.set L (some (.loop {A1 with state := .busy}))) with
       |some (.ex e _,h2)=>(match h2.get L with
        |some (.loop A2)=>cond (Nat.ble h2.ro L) (some (.bool (zgD e),h2.set L (some (.loop (A2.left e))))) none
        |_=>none)
       |_=>none) none
    |_=>none)
   |_=>none)
  |none=>none)
 |_=>none
def zgy:Option Code->Option Ex
 |none=>some .normal
 |some .ret=>some .ret
 |some (.exit id)=>some (.exit id)
 |_=>none
def DX(cls:List Nat)(rec:W5)(rd:Option Nat)(f:Option aaa)(params:Array Tmp)(as bd:Code)(s:Env)(h:za):Option (Ex×za) :=
 match f with
 |some (.func (.func g) fa fc)=>cond (Nat.beq (cls.getD g 0) 1&&(match rd with
   |none=>true
   |some L0=>(match h.get L0 with
    |some (.loop _)=>true
    |_=>false)))
   (match rec (.call g (fa.toList++[.func (.yield h.next) #[] #[]]++fc.toList)) (h.push (.loop {state := .ready,pending:=none,s:=s,params:=params,assign:=as,body:=bd})) with
    |some (.val _,h1)=>(match h1.get h.next with
     |some (.loop A)=>cond (zeY A.state&&Nat.ble h1.ro h.next)
       (match zgy A.pending with
        |some e=>some (e,h1.set h.next none)
        |none=>none) none
     |_=>none)
    |_=>none) none
 |_=>none
def evalOp(P:Program)(cls:List Nat)(rec:W5)(s:Env)(o:Oper)(h:za):Option (aaa×za) :=
 match o.op with
 | .call {callee := .value f,args,argTypes}=>(match j6 s f,aR s args.toList with
   |some (.func (.func g) fa fc),some vs=>cond (Nat.beq (cls.getD g 0) 0) (Hn P g (fa.toList++vs++fc.toList) h) (Mr cls rec g (fa.toList++vs++fc.toList) h)
   |some (.func (.yield L) fa fc),some vs=>cond (Nat.beq fa.size 0&&Nat.beq fc.size 0) (D3 rec L vs h) none
   |_,_=>none)
 |_=>mB P s o h
def eK(P:Program)(cls:List Nat)(rec:W5)(ops:Array Oper):List Oper->Env->za->Option (Env×za)
 |[],s,h=>some (s,h)
 |o::os,s,h=>
  cond (yP ops s o)
   (match evalOp P cls rec s o h with
    |some (v,h1)=>(match s.put o.dst v with
     |some s1=>eK P cls rec ops os s1 h1
     |none=>none)
    |none=>none)
   (match s.put o.dst undef with
    |some s1=>eK P cls rec ops os s1 h
    |none=>none)
structure AT where
 r:yW
 NC:List Nat
 all:Bool
 mK:Bool
 rdl:List Nat
 ex:Bool
def xf(ms:List Nat)(o:Oper):Nat:=o.after.toList.foldl (λm e=>cond (Region.binds .any e) (m ||| (1 <<< e.on) ||| ms.getD e.on 0) m) 0
def Xi(ops:Array Oper)(x y:Oper):Bool :=
 (match x.dst with
  |none=>true
  |some d => !(y.looksAt ops).contains d && !(decide (y.dst=some d))) &&
 (match y.dst with
  |none=>true
  |some d => !(x.looksAt ops).contains d)
def Dt(x y:AT):Bool :=
 cond x.all (y.mK||(y.ex && !y.all&&y.rdl.all (λb => !x.r.tc b)&&y.NC.all (λb => !x.r.tc b))) (x.NC.all λb => !y.r.rd b && !y.r.tc b) &&
 cond y.all (x.mK||(x.ex&&x.rdl.all λb => !y.r.tc b)) (y.NC.all λb => !x.r.rd b)
def WS(ops:Array Oper):List Oper->Nat->List Nat->List (Nat×Oper)->Bool
 |[],_,_,_=>true
 |o::os,i,ms,prev=>
  (o.after.toList.all λe => !(Region.binds .any e)||Nat.blt e.on i)&&(prev.all λx=>(xf ms o).testBit x.1||Xi ops x.2 o)&&WS ops os (i+1) (ms++[xf ms o]) ((i,o)::prev)
def zfJ:aaa->List Nat
 | .pointer (some a)=>[a.block]
 | .slice (some a) _ _=>[a.block]
 | .map (some b)=>[b]
 |_=>[]
def Gs:Op->Bool
 | .call {callee := .builtin .cap,.. } | .call {callee := .builtin .min,.. } | .call {callee := .builtin .max,.. } | .call {callee := .builtin .unsafeSliceData,.. }=>false
 | .move _ | .assign _ | .pick _ _ _ | .alloc _ | .box _ _ | .build _ _ | .nilCheck _ | .binOp _ _ _ _ _ | .unOp _ _ _ | .makeInterface _ _ | .makeFunc _ _ _ | .fieldAddr _ _ _ | .field _ _ _ | .indexAddr _ _ _ | .index _ _ _ | .extract _ _=>false
 |_=>true
def Oy(h:za)(b:Nat):List Nat :=
 match h.get b with
 |some (.iter (some m) _ _ _)=>[b,m]
 |_=>[b]
def zdt(s:Env)(o:Oper)(h:za):List Nat:=cond (Gs o.op) ((o.op.operands.toList.flatMap λx=>(match j6 s x with|some v=>zfJ v|none=>[])).flatMap (Oy h)) []
def za.pick(h:za)(l:List Nat):za := @za.rec (λ_=>za) (λt0 n r=>⟨l.foldl (λt b=>t.set b (t0.get b)) .e,n,r⟩) h
def za.Jq(h:za)(l:List Nat):za := @za.rec (λ_=>za) (λt0 n r=>⟨l.foldl (λt b=>t.set b none) t0,n,r⟩) h
def za.zeW(h g:za)(l:List Nat):za := @za.rec (λ_=>za) (λt0 _ r=>@za.rec (λ_=>za) (λt1 n _=>⟨l.foldl (λt b=>t.set b (t1.get b)) t0,n,r⟩) g) h
def za.zd2(h' h:za)(l:List Nat):za := @za.rec (λ_=>za) (λt0 n r=>⟨l.foldl (λt b=>t.set b (h.get b)) t0,n,r⟩) h'
def pB(s:Env)(dsts:List Nat):List Oper->Nat->Nat->List Nat
 |[],_,_=>[]
 |o::os,j,desc=>cond (o.after.toList.any λe=>Region.binds .any e&&desc.testBit e.on)
  (pB s dsts os (j+1) (desc ||| (1 <<< j)))
  ((cond (Gs o.op) (o.op.operands.toList.flatMap λx=>(match x with
    | .tmp t=>cond (dsts.contains t) [] (zfJ (s.get t))
    |_=>[])) [])++pB s dsts os (j+1) desc)
def UH:Builtin->Bool
 | .len | .cap | .min | .max | .unsafeSliceData=>true
 |_=>false
def VY:Op->Bool
 | .call {callee := .builtin b,.. } => !UH b
 | .store _ _ _=>true
 | .mapUpdate _ _ _ _=>true
 | .next _ _=>true
 | .call _=>true
 |_=>false
def Dc(P:Program)(cls:List Nat)(rec:W5)(ops:Array Oper)(recs:List AT)(mask i:Nat)(os:List Oper)(o:Oper)(s:Env)(h:za):Option (AT×za) :=
 cond (yP ops s o)
  (match o.op with
   | .call {callee := .value f,args,argTypes}=>(match j6 s f,aR s args.toList with
     |some (.func (.func g) fa fc),some vs=>
      (match cls.getD g 0 with
       |1=>
        let hid:=((recs.flatMap λx=>cond (mask.testBit x.r.j) [] (x.NC++x.rdl))++pB s ((o::os).filterMap (·.dst)) os (i+1) (1 <<< i)).filter λb=>Nat.blt b h.next
        (match rec (.call g (fa.toList++vs++fc.toList)) (h.Jq hid) with
         |some (.val v,h')=>some (⟨⟨i,o,v,s,h.Jq hid,h',λb=>Nat.blt b h.next && !hid.contains b,λb=>Nat.blt b h'.next && !hid.contains b⟩,[],true,false,[],false⟩,h'.zd2 h hid)
         |_=>none)
       |2=>
        let hid:=recs.flatMap λx=>cond (mask.testBit x.r.j) [] x.NC
        (match rec (.call g (fa.toList++vs++fc.toList)) (h.Jq hid).lock with
         |some (.val v,_)=>cond (tS v) (some (⟨⟨i,o,v,s,h.Jq hid,h.Jq hid,λb=>Nat.blt b h.next && !hid.contains b,λ_=>false⟩,[],false,false,[],false⟩,h)) none
         |_=>none)
       |3=>
        let hid:=recs.flatMap λx=>cond (mask.testBit x.r.j) [] x.NC
        (match rec (.call g (fa.toList++vs++fc.toList)) (h.Jq hid).lock with
         |some (.val v,h2)=>
          let new:=List.range' h.next (h2.next-h.next)
          some (⟨⟨i,o,v,s,h.Jq hid,vB (h.Jq hid) h2,λb=>Nat.blt b h.next && !hid.contains b,λb=>new.contains b⟩,new,false,false,[],false⟩,vB h h2)
         |_=>none)
       |_=>(match Hn P g (fa.toList++vs++fc.toList) (h.pick []) with
        |some (v,g')=>
         let new:=List.range' h.next (g'.next-h.next)
         some (⟨⟨i,o,v,s,h.pick [],g',λ_=>false,λb=>new.contains b⟩,new,false,new.isEmpty,[],true⟩,h.zeW g' new)
        |none=>none))
     |_,_=>none)
   |_=>
    let bs:=zdt s o h
    (match mB P s o (h.pick bs) with
     |some (v,g')=>
      let new:=List.range' h.next (g'.next-h.next)
      let NC:=cond (VY o.op) (bs++new) new
      some (⟨⟨i,o,v,s,h.pick bs,g',λb=>bs.contains b,λb=>NC.contains b⟩,NC,false,bs.isEmpty&&NC.isEmpty,bs,true⟩,h.zeW g' NC)
     |none=>none))
  (some (⟨⟨i,o,undef,s,h.pick [],h.pick [],λ_=>false,λ_=>false⟩,[],false,true,[],true⟩,h))
def dS(P:Program)(cls:List Nat)(rec:W5)(ops:Array Oper):List Oper->Nat->List Nat->List AT->Env->za->Option (Env×za)
 |[],_,_,_,s,h=>some (s,h)
 |o::os,i,ms,recs,s,h=>
  (match Dc P cls rec ops recs (xf ms o) i os o s h with
   |some (y,h1)=>cond (y.mK||recs.all λx=>Dt x y||(xf ms o).testBit x.r.j)
     (match s.put o.dst y.r.v with
      |some s1=>dS P cls rec ops os (i+1) (ms++[xf ms o]) (y::recs) s1 h1
      |none=>none) none
   |none=>none)
def body(P:Program)(cls:List Nat)(rec:W5):Task->za->Option (Out×za)
 | .call f args,h=>(match P.funcs[f]? with
   |none=>none
   |some fn=>(match fn.body with
    |none=>none
    |some c=>(match rec (.code none c (Env.enter args fn.ntmps)) h with
     |some (.ex .normal s1,h1)=>(match kL P s1 h1 fn.results.toList with
      |some vs=>some (.val (ZI vs),h1)
      |none=>none)
     |some (.ex .ret s1,h1)=>(match kL P s1 h1 fn.results.toList with
      |some vs=>some (.val (ZI vs),h1)
      |none=>none)
     |_=>none)))
 | .code rd c s,h=>(match c with
   | .skip=>some (.ex .normal s,h)
   | .label _=>some (.ex .normal s,h)
   | .exit id=>some (.ex (.exit id) s,h)
   | .ret=>some (.ex .ret s,h)
   | .seq a b=>(match rec (.code rd a s) h with
     |some (.ex .normal s1,h1)=>rec (.code rd b s1) h1
     |r=>r)
   | .cond x a b=>(match j6 s x with
     |some (.bool true)=>rec (.code rd a s) h
     |some (.bool false)=>rec (.code rd b s) h
     |_=>none)
   | .block id a=>(match rec (.code rd a s) h with
     |some (.ex (.exit id') s1,h1)=>cond (Nat.beq id' id) (some (.ex .normal s1,h1)) (some (.ex (.exit id') s1,h1))
     |r=>r)
   | .scope a=>rec (.code rd a s) h
   | .loop a=>(match rec (.code rd a s) h with
     |some (.ex .normal s1,h1)=>rec (.code rd (.loop a) s1) h1
     |r=>r)
   | .region _ ops draw=>cond draw
     (cond (WS ops ops.toList 0 [] []) (match dS P cls rec ops ops.toList 0 [] [] s h with
      |some (s1,h1)=>some (.ex .normal s1,h1)
      |none=>none) none)
     (match eK P cls rec ops ops.toList s h with
      |some (s1,h1)=>some (.ex .normal s1,h1)
      |none=>none)
   | .rangeFunc f params as bd=>(match DX cls rec rd (j6 s f) params as bd s h with
     |some (e,h1)=>some (.ex e s,h1)
     |none=>none)
   |_=>none)
def run(P:Program)(cls:List Nat)(n:Nat):W5:=Nat.rec (λ_ _=>none) (λ_ rec=>body P cls rec) n
end
noncomputable section
variable {P:Program}{cls:List Nat}
theorem Z1{α:Type}(f:Nat->Option α)(j:Nat):∀(l:List Nat) (t:Tr α),(l.foldl (λt b=>t.set b (f b)) t).get j=if j∈l then f j else t.get j
 |[],t=>by simp
 |b::l,t=>by
  rw[List.foldl_cons,Z1 f j l,Tr.yI];by_cases h:j∈l
  ·simp[h]
  ·by_cases e:j=b
   ·subst e;simp[h]
   ·simp[h,e]
theorem qB(h:za)(l:List Nat)(b:Nat):(h.pick l).get b=if b∈l then h.get b else none:=by
 show(l.foldl (λt b=>t.set b (h.get b)) Tr.e).get b=_;rw[Z1];rfl
theorem Xy(h:za)(l:List Nat)(b:Nat):(h.Jq l).get b=if b∈l then none else h.get b:=by
 show(l.foldl (λt b=>t.set b none) h.t).get b=_;rw[Z1 (λ_=>none)];rfl
theorem iA(h g:za)(l:List Nat)(b:Nat):(h.zeW g l).get b=if b∈l then g.get b else h.get b:=by
 show(l.foldl (λt b=>t.set b (g.get b)) h.t).get b=_;rw[Z1];rfl
theorem nK(h' h:za)(l:List Nat)(b:Nat):(h'.zd2 h l).get b=if b∈l then h.get b else h'.get b:=by
 show(l.foldl (λt b=>t.set b (h.get b)) h'.t).get b=_;rw[Z1];rfl
theorem Yh{a c b:Nat}:b∈List.range' a (c-a) ↔ a<=b/\b<c:=by
 rw[List.mem_range'_1];omega
theorem uy(h h2:za)(b:Nat):(vB h h2).get b=if h.next<=b/\b<h2.next then h2.get b else h.get b:=by
 show((List.range' h.next (h2.next-h.next)).foldl (λt b=>t.set b (h2.get b)) h.t).get b=_;rw[Z1];by_cases hb:h.next<=b/\b<h2.next
 ·rw[aai (Yh.2 hb),aai hb]
 ·rw[aac (λhm=>hb (Yh.1 hm)),aac hb];rfl
theorem TC.fresh{f:FuncId}{args:List aaa}{h h2:za}{v:aaa}(ht:TC P f args h.lock (λv1 h1=>v1=v/\h1=h2)):TC P f args h (λv1 h1=>v1=v/\h1=vB h h2):=by
 intro ρ w cargs hr hv;refine(ht ρ w cargs hr.lock hv).mono λe w'=>?_;rintro⟨v1,v',h',ρ',e1,⟨rfl,rfl⟩,st,hvv⟩
 have nomine:∀c,¬ot ρ h.lock c:=by
  rintro c ⟨b,o,pl,hg,hro,_⟩;have h1:h.next<=b:=hro;have h2:=hr.eU b o hg;omega
 have hsame:∀c,c<w.heap.size->w'.heap[c]? = w.heap[c]?:=λc hc=>st.frame c hc (nomine c);have hn:h.next<=h'.next:=by have:=st.le.1;rw[hr.next,st.rel.next]at this;exact this
 have hold:∀b,b<h.next->ρ'.m b=ρ.m b:=λb hb=>st.le.2 b (by rw[hr.next];exact hb)
 have cases':∀b o,(vB h h').get b=some o->(h.next<=b/\b<h'.next/\h'.get b=some o)\/(b<h.next/\h.get b=some o):=by
  intro b o hg;rw[uy]at hg;split at hg
  ·rename_i hb;exact .inl ⟨hb.1,hb.2,hg⟩
  ·exact .inr ⟨hr.eU b o hg,hg⟩
 refine⟨v1,v',vB h h',ρ',e1,⟨rfl,rfl⟩,⟨st.le,⟨st.rel.next,aaS hr.ro hn,?_,?_,?_,hr.tB,st.rel.XR⟩,rfl,st.os,st.tape,st.output,st.size,λc hc _=>hsame c hc,?_⟩,hvv⟩
 ·intro b o hg;rcases cases' b o hg with⟨_,h2,_⟩|⟨h1,_⟩
  ·exact h2
  ·exact aao h1 hn
 ·intro b o hg;rcases cases' b _ hg with⟨h1,h2,h3⟩|⟨h1,h3⟩
  ·obtain⟨pl,hp,hc⟩:=st.rel.ok b o h3;refine⟨pl,hp,hc.za2 (λ_=>?_)⟩;rw[st.ro];exact decide_eq_true h1
  ·obtain⟨pl,hp,hc⟩:=hr.ok b o h3;exact⟨pl,(hold b h1).trans hp,(hc.mono st.le).other (hsame _ hc.lt)⟩
 ·have key:∀b1 b2 o1 o2 p1 p2,h.next<=b1->h'.get b1=some o1->b2<h.next->h.get b2=some o2->ρ'.m b1=some p1->ρ'.m b2=some p2->p1.c=p2.c->False:=by
   intro b1 b2 o1 o2 p1 p2 l1 g1 l2 g2 m1 m2 ec;obtain⟨pl,hp,hc⟩:=hr.ok b2 o2 g2;rw[hold b2 l2,hp]at m2;cases m2;have:=st.A6 p1.c (by rw[ec];exact hc.lt) ⟨b1,o1,p1,g1,by rw[st.ro];exact l1,m1,rfl⟩;exact nomine _ this
  intro b1 b2 o1 o2 p1 p2 g1 g2 m1 m2 ec;rcases cases' b1 o1 g1 with⟨l1,_,k1⟩|⟨l1,k1⟩ <;> rcases cases' b2 o2 g2 with⟨l2,_,k2⟩|⟨l2,k2⟩
  ·exact st.rel.inj b1 b2 o1 o2 p1 p2 k1 k2 m1 m2 ec
  ·exact(key b1 b2 o1 o2 p1 p2 l1 k1 l2 k2 m1 m2 ec).elim
  ·exact(key b2 b1 o2 o1 p2 p1 l2 k2 l1 k1 m2 m1 ec.symm).elim
  ·rw[hold b1 l1]at m1;rw[hold b2 l2]at m2;exact hr.inj b1 b2 o1 o2 p1 p2 k1 k2 m1 m2 ec
 ·rintro c hc ⟨b,o,pl,hg,hro,hm,rfl⟩;rcases cases' b o hg with⟨l1,_,k1⟩|⟨l1,k1⟩
  ·exact(nomine _ (st.A6 pl.c hc ⟨b,o,pl,k1,by rw[st.ro];exact l1,hm,rfl⟩)).elim
  ·rw[hold b l1]at hm;exact⟨b,o,pl,k1,hro,hm,rfl⟩
def XA(P:Program)(cls:List Nat):Bool:=(List.range cls.length).all λg=>Nat.beq (cls.getD g 0) 0||xO P g
theorem YP{g:FuncId}{k:Nat}(hC:XA P cls=true)(h:cls.getD g 0=k+1):xO P g=true:=by
 simp only[XA,aaD,abz,abf]at hC
 have hg:g<cls.length:=by
  rcases aar g cls.length with h1|h1
  ·exact h1
  ·rw[aaB,aal h1]at h;cases h
 rcases hC g hg with h1|h1
 ·rw[h]at h1;cases h1
 ·exact h1
structure Sound (P:Program) (rec:W5):Prop where
 code:∀rd c s h e s' h',rec (.code rd c s) h=some (.ex e s',h')->T P rd c s h (λe1 s1 h1=>e1=e/\s1=s'/\h1=h')
 call:∀f args h v h',rec (.call f args) h=some (.val v,h')->TC P f args h (λv1 h1=>v1=v/\h1=h')
 kind:∀rd c s h o h',rec (.code rd c s) h=some (o,h')->∃e s',o=.ex e s'
 zji:∀f args h o h',rec (.call f args) h=some (o,h')->∃v,o=.val v
theorem Ms{rec:W5}(S:Sound P rec)(hC:XA P cls=true){g:FuncId}{args:List aaa}{h h':za}{v:aaa}(he:Mr cls rec g args h=some (v,h')) :
  xO P g=true/\TC P g args h (λv1 h1=>v1=v/\h1=h'):=by
 unfold Mr at he;split at he
 ·rename_i hk;refine⟨YP hC hk,?_⟩;split at he
  ·rename_i v1 h1 hrec;simp only[aab,aaj]at he;obtain⟨rfl,rfl⟩:=he;exact S.call _ _ _ _ _ hrec
  ·cases he
 ·rename_i hk;refine⟨YP hC hk,?_⟩;split at he
  ·rename_i v1 h1 hrec;obtain⟨hsc,he⟩:=zE he;simp only[aab,aaj]at he;obtain⟨rfl,rfl⟩:=he;refine((S.call _ _ _ _ _ hrec).quiet (λv2 h2 q=>by rw[q.1];exact hsc)).mono ?_;rintro v2 h2 ⟨⟨h3,q1,q2⟩,rfl⟩;exact⟨q1,rfl⟩
  ·cases he
 ·rename_i hk;refine⟨YP hC hk,?_⟩;split at he
  ·rename_i v1 h2 hrec;simp only[aab,aaj]at he;obtain⟨rfl,rfl⟩:=he;exact(S.call _ _ _ _ _ hrec).fresh
  ·cases he
 ·cases he
theorem Ie{rec:W5}(S:Sound P rec){L:Nat}{args:List aaa}{h h':za}{v:aaa}(he:D3 rec L args h=some (v,h')):TY P L args h (λv1 h1=>v1=v/\h1=h'):=by
 unfold D3 at he;split at he
 case h_2=>cases he
 rename_i A hg;split at he
 case h_2=>cases he
 rename_i s0 hs0;split at he
 case h_2=>cases he
 rename_i s1 h1 hrec;split at he
 case h_2=>cases he
 rename_i A1 g1;obtain⟨hc,he⟩:=zE he;simp only[aag]at hc;split at he
 case h_2=>cases he
 rename_i e s2 h2 hrec2;split at he
 case h_2=>cases he
 rename_i A2 g2;obtain⟨hro,he⟩:=zE he;simp only[aab,aaj]at he;obtain⟨rfl,rfl⟩:=he;refine PU hg hs0 ((S.code _ _ _ _ _ _ _ hrec).mono ?_);rintro e1 s3 h3 ⟨rfl,rfl,rfl⟩;refine⟨rfl,A1,g1,?_,aaL hc.2,(S.code _ _ _ _ _ _ _ hrec2).mono ?_⟩
 ·cases hst:A1.state <;> first|rfl|(rw[hst]at hc;cases hc.1)
 ·rintro e1 s3 h3 ⟨rfl,rfl,rfl⟩;refine⟨A2,g2,aaL hro,?_,rfl⟩;cases e1 <;> rfl
theorem MZ{p:Option Code}{e:Ex}(h:zgy p=some e):VM e=p:=by
 unfold zgy at h;split at h <;> first|(simp only[aab]at h;subst h;rfl)|cases h
theorem Ib{rec:W5}(S:Sound P rec)(hC:XA P cls=true){rd:Option Nat}{f:Operand}{params:Array Tmp}{as bd:Code}{s:Env}{h h':za}{e:Ex}(he:DX cls rec rd (j6 s f) params as bd s h=some (e,h')) :
  T P rd (.rangeFunc f params as bd) s h (λe1 s1 h1=>e1=e/\s1=s/\h1=h'):=by
 unfold DX at he;split at he
 case h_2=>cases he
 rename_i g fa fc hf;obtain⟨hc,he⟩:=zE he;simp only[aag]at hc;split at he
 case h_2=>cases he
 rename_i v h1 hrec;split at he
 case h_2=>cases he
 rename_i A hA;obtain⟨hb,he⟩:=zE he;simp only[aag]at hb;split at he
 case h_2=>cases he
 rename_i e1 hex;simp only[aab,aaj]at he;obtain⟨rfl,rfl⟩:=he;refine Ae hf (YP (k:=0) hC (aav hc.1)) ?_ ((S.call _ _ _ _ _ hrec).mono ?_)
 ·rintro L rfl;have:=hc.2;simp only at this;split at this
  ·rename_i A0 g0;exact⟨A0,g0⟩
  ·cases this
 ·rintro v1 h2 ⟨rfl,rfl⟩;refine⟨A,hA,?_,aaL hb.2,e1,MZ hex,rfl,rfl,rfl⟩;cases hst:A.state <;> first|rfl|(rw[hst]at hb;cases hb.1)
theorem eN{rec:W5}(S:Sound P rec)(hC:XA P cls=true){ops:Array Oper}:∀(l:List Oper) (i:Nat) {s s':Env} {h h':za},ops.toList.drop i=l->eK P cls rec ops l s h=some (s',h') ->
  TO P ops (List.range' i l.length) s h (λs1 h1=>s1=s'/\h1=h')
 |[],i,s,s',h,h',hl,he=>by
  simp only[eK,aab,aaj]at he;exact za8 ⟨he.1,he.2⟩
 |o::os,i,s,s',h,h',hl,he=>by
  have ho:ops[i]? = some o:=by
   have:=congrArg (λl=>l[0]?) hl;simp only[aa1,aak]at this;simpa using this
  have hl':ops.toList.drop (i+1)=os:=by rw[<- acV,hl];rfl
  rw[aaE,List.range'_succ];simp only[eK]at he;cases hw:yP ops s o with
  |false=>
   rw[hw]at he;simp only[aaK]at he;split at he
   ·rename_i s1 hp;exact PT ho hw hp (eN S hC os (i+1) hl' he)
   ·cases he
  |true=>
   rw[hw]at he;simp only[aaC]at he;split at he
   ·rename_i v h1 hev;split at he
    ·rename_i s1 hp;have hrest:=eN S hC os (i+1) hl' he;unfold evalOp at hev;split at hev
     ·rename_i f args ts xe;split at hev
      ·rename_i g fa fc vs hf hargs;cases hk:Nat.beq (cls.getD g 0) 0 with
       |true=>
        rw[hk]at hev;simp only[aaC]at hev;exact zfo ho hw (by rw[xe];rfl) (λρ w a hr hs=>Ho xe hf hargs hev hr hs) hp hrest
       |false=>
        rw[hk]at hev;simp only[aaK]at hev;obtain⟨h1c,h2c⟩:=Ms S hC hev;exact PS ho hw xe hf hargs h1c h2c (by rintro v2 h2 ⟨rfl,rfl⟩;exact⟨s1,hp,hrest⟩)
      ·rename_i L fa fc vs hf hargs;obtain⟨hz,hev⟩:=zE hev;simp only[aag]at hz;obtain rfl:=KO hz.1;obtain rfl:=KO hz.2;exact IA ho hw xe hf hargs (Ie S hev) (by rintro v2 h2 ⟨rfl,rfl⟩;exact⟨s1,hp,hrest⟩)
      ·cases hev
     ·exact zfp ho hw hev hp hrest
    ·cases he
   ·cases he
end
noncomputable section
variable {P:Program}{cls:List Nat}
structure AF (h h':za):Prop where
 next:h.next<=h'.next
 ro:h'.ro=h.ro
 alive:∀b o,h'.get b=some o->h.get b≠none\/(h.next<=b/\b<h'.next)
theorem AF.refl(h:za):AF h h:=⟨aam _,rfl,λb o hb => .inl (by rw[hb];simp)⟩
theorem AF.trans{a b c:za}(h:AF a b)(k:AF b c):AF a c:=by
 refine⟨aaS h.next k.next,k.ro.trans h.ro,λx o hx=>?_⟩;rcases k.alive x o hx with h1|⟨h1,h2⟩
 ·obtain⟨o',ho'⟩:∃o,b.get x=some o:=by cases hh:b.get x with|none=>exact absurd hh h1|some o=>exact⟨o,rfl⟩
  rcases h.alive x o' ho' with h2|⟨h2,h3⟩
  ·exact .inl h2
  ·exact .inr ⟨h2,aao h3 k.next⟩
 ·exact .inr ⟨aaS h.next h1,h2⟩
theorem AF.push(h:za)(o:wA):AF h (h.push o):=⟨abr _,rfl,λb o' hb=>by
 rw[za.vA]at hb;split at hb
 ·rename_i e;subst e;exact .inr ⟨aam _,aaH _⟩
 ·exact .inl (by rw[hb];simp)⟩
theorem AF.nV{h:za}{b:Nat}{o:wA}(hb:h.get b=some o)(x:Option wA):AF h (h.set b x):=⟨aam _,rfl,λc o' hc=>by
 rw[za.yI]at hc;split at hc
 ·rename_i e;subst e;exact .inl (by rw[hb];simp)
 ·exact .inl (by rw[hc];simp)⟩
theorem Oq{h h':za}{b off:Nat}{new:List aaa}(he:lO h b off new=some h'):AF h h':=by
 unfold lO at he;cases hz:Nat.beq new.length 0 with
 |true=>rw[hz]at he;simp only[aaC,aab]at he;subst he;exact .refl _
 |false=>
  rw[hz]at he;simp only[aaK]at he;split at he
  ·rename_i hg;obtain⟨_,he⟩:=zE he;simp only[aab]at he;subst he;exact .nV hg _
  ·cases he
theorem F5{t:TypeId}{a v:aaa}{h h':za}(he:xS P t a v h=some h'):AF h h':=by
 unfold xS at he;split at he
 ·split at he
  ·cases he
  ·rename_i hg;split at he
   ·cases he
   ·obtain⟨_,he⟩:=zE he;simp only[aab]at he;subst he;exact .nV hg _
  ·cases he
 ·cases he
theorem Of{sT xT:TypeId}{s x v:aaa}{h h':za}(he:KN P sT xT s x h=some (v,h')):AF h h':=by
 unfold KN at he;split at he
 case h_2=>cases he
 rename_i elem xd n _ _ _;split at he
 case h_2=>cases he
 split at he
 case h_2=>cases he
 obtain⟨_,he⟩:=zE he;unfold aP at he;split at he
 ·cases hz:Nat.beq n 0 with
  |true=>rw[hz]at he;simp only[aaC,aab,aaj]at he;obtain⟨_,rfl⟩:=he;exact .refl _
  |false=>
   rw[hz]at he;obtain⟨_,he⟩:=zE (show cond _ _ none=_ from he);simp only[aab,aaj]at he;obtain⟨_,rfl⟩:=he;exact .push _ _
 ·cases hz:Nat.beq n 0 with
  |true=>rw[hz]at he;simp only[aaC,aab,aaj]at he;obtain⟨_,rfl⟩:=he;exact .refl _
  |false=>
   rw[hz]at he;simp only[aaK]at he;split at he
   ·rename_i hg;obtain⟨_,he⟩:=zE he;simp only[aab,aaj]at he;obtain⟨_,rfl⟩:=he;exact(AF.nV hg none).trans (.push _ _)
   ·cases he
 ·cases he
theorem zbO{t:TypeId}{d x v:aaa}{h h':za}(he:L4 P t d x h=some (v,h')):AF h h':=by
 unfold L4 at he;split at he
 case h_2=>cases he
 split at he
 case h_1=>cases he
 split at he
 case h_1=>cases he
 split at he
 ·simp only[aab,aaj]at he;obtain⟨_,rfl⟩:=he;exact .refl _
 ·simp only[aat,aaj]at he;obtain⟨h2,hs,_,rfl⟩:=he;exact Oq hs
 ·cases he
theorem TR{t:TypeId}{x:aaa}{h h':za}(he:CS P t x h=some h'):AF h h':=by
 unfold CS at he;cases he
theorem EA{t:TypeId}{x k v:aaa}{h h':za}(he:VC P t x k v h=some h'):AF h h':=by
 unfold VC at he;cases he
theorem Ez{t:TypeId}{x k:aaa}{h h':za}(he:QJ P t x k h=some h'):AF h h':=by
 unfold QJ at he;cases he
theorem zbY{x v:aaa}{str:Bool}{h h':za}(he:FX P x str h=some (v,h')):AF h h':=by
 unfold FX at he;cases he
def Still(h h':za):Prop:=h'=h \/ ∃o,h'=h.push o
theorem Still.af{h h':za}(s:Still h h'):AF h h':=by
 rcases s with rfl|⟨o,rfl⟩
 ·exact .refl _
 ·exact .push _ _
theorem L9{t:TypeId}{l c v:aaa}{h h':za}(he:Wo P t l c h=some (v,h')):Still h h':=by
 unfold Wo at he;split at he
 case h_2=>cases he
 split at he
 case h_1=>cases he
 split at he
 case h_1=>cases he
 obtain⟨_,he⟩:=zE he;simp only[aab,aaj]at he;obtain⟨_,rfl⟩:=he;exact .inr ⟨_,rfl⟩
theorem Hh{src dst:TypeId}{x v:aaa}{h h':za}(he:CT P src dst x h=some (v,h')):Still h h':=by
 unfold CT at he;split at he
 ·simp only[aab,aaj]at he;obtain⟨_,rfl⟩:=he;exact .inl rfl
 ·split at he
  ·split at he
   ·simp only[aab,aaj]at he;obtain⟨_,rfl⟩:=he;exact .inr ⟨_,rfl⟩
   ·cases he
  ·split at he
   ·simp only[aat,aaj]at he;obtain⟨_,_,_,rfl⟩:=he;exact .inl rfl
   ·cases he
  ·cases he
theorem L3{src dst:TypeId}{x v:aaa}{h h':za}(he:ud P src dst x h=some (v,h')):Still h h':=by
 unfold ud at he;split at he
 ·rename_i r hc;simp only[aab]at he;subst he;exact Hh hc
 ·simp only[aat,aaj]at he;obtain⟨_,_,_,rfl⟩:=he;exact .inl rfl
theorem zgg{pt:TypeId}{p v:aaa}{n:Int}{h h':za}(he:aus P pt p n h=some (v,h')):AF h h':=by
 unfold aus at he;split at he
 ·obtain⟨_,he⟩:=zE he;simp only[aab,aaj]at he;obtain⟨_,rfl⟩:=he;exact .refl _
 ·cases hn:decide (n=0) with
  |true=>rw[hn]at he;simp only[aaC,aab,aaj]at he;obtain⟨_,rfl⟩:=he;exact .refl _
  |false=>
   rw[hn]at he;simp only[aaK]at he;split at he
   case h_2=>cases he
   rename_i hg;split at he
   case h_2=>cases he
   obtain⟨_,he⟩:=zE he;simp only[aab,aaj]at he;obtain⟨_,rfl⟩:=he;exact .nV hg _
 ·cases he
theorem pA{t:TypeId}{n:Nat}{ps:List (Nat×aaa)}{v:aaa}{h h':za}(he:zH P t n ps h=some (v,h')):Still h h':=by
 unfold zH at he;split at he
 case h_2=>cases he
 split at he
 case h_2=>cases he
 obtain⟨_,he⟩:=zE he;split at he
 case h_2=>cases he
 obtain⟨_,he⟩:=zE he;simp only[aab,aaj]at he;obtain⟨_,rfl⟩:=he;exact .inr ⟨_,rfl⟩
theorem uQ{x:Option aaa}{v:aaa}{h h':za}(he:one h x=some (v,h')):Still h h' := .inl (vD he).2
theorem LY{b:Builtin}{ts:List TypeId}{r:TypeId}{vs:List aaa}{v:aaa}{h h':za}(he:zB P b ts r vs h=some (v,h')):AF h h':=by
 unfold zB at he;split at he
 ·exact Of he
 ·exact zbO he
 ·simp only[aat,aaj]at he;obtain⟨_,_,_,rfl⟩:=he;exact .refl _
 ·simp only[aat,aaj]at he;obtain⟨_,hc,_,rfl⟩:=he;exact TR hc
 ·obtain⟨_,he⟩:=zE he;simp only[aat,aaj]at he;obtain⟨_,_,_,rfl⟩:=he;exact .refl _
 ·obtain⟨_,he⟩:=zE he;simp only[aat,aaj]at he;obtain⟨_,_,_,rfl⟩:=he;exact .refl _
 ·simp only[aat,aaj]at he;obtain⟨_,hc,_,rfl⟩:=he;exact Ez hc
 ·simp only[aat,aaj]at he;obtain⟨_,_,_,rfl⟩:=he;exact .refl _
 ·simp only[aat,aaj]at he;obtain⟨_,_,_,rfl⟩:=he;exact .refl _
 ·exact zgg he
 ·cases he
theorem Hv{t:TypeId}{x v:aaa}{h h':za}(he:td P t x h=some (v,h')):Still h h':=by
 unfold td at he;cases he
theorem gX{b:Builtin}{ts:List TypeId}{r:TypeId}{vs:List aaa}{v:aaa}{h h':za}(hq:UH b=true)(he:zB P b ts r vs h=some (v,h')):h'=h:=by
 unfold zB at he
 split at he <;> first
  |(simp[UH]at hq;done)
  |(simp only[aat,aaj]at he;obtain⟨_,_,_,rfl⟩:=he;rfl)
  |(obtain⟨_,he⟩:=zE he;simp only[aat,aaj]at he;obtain⟨_,_,_,rfl⟩:=he;rfl)
  |cases he
theorem VA{g:FuncId}{args:List aaa}{v:aaa}{h h':za}(he:Hn P g args h=some (v,h')):Still h h':=by
 unfold Hn at he;split at he
 ·rename_i r hn;simp only[aab]at he;subst he;unfold SY at hn;split at hn
  case h_2=>cases hn
  obtain⟨_,hn⟩:=zE hn;split at hn
  case h_2=>cases hn
  simp only[aab,aaj]at hn;obtain⟨_,rfl⟩:=hn;exact .inl rfl
 ·unfold DJ at he;split at he
  case h_2=>cases he
  obtain⟨_,he⟩:=zE he;split at he
  case h_2=>cases he
  split at he
  case h_2=>cases he
  obtain⟨_,he⟩:=zE he;simp only[aab,aaj]at he;obtain⟨_,rfl⟩:=he;exact .inr ⟨_,rfl⟩
theorem Wp{s:Env}{o:Oper}{v:aaa}{h h':za}(he:mB P s o h=some (v,h')):AF h h'/\(VY o.op=false->Still h h'):=by
 unfold mB at he;split at he <;> rename_i xe
 ·have:=uQ he;exact⟨this.af,λ_=>this⟩
 ·have:=uQ he;exact⟨this.af,λ_=>this⟩
 ·split at he
  ·have:=uQ he;exact⟨this.af,λ_=>this⟩
  ·have:=uQ he;exact⟨this.af,λ_=>this⟩
  ·cases he
 ·split at he
  ·simp only[aab,ER,aaj]at he;obtain⟨_,rfl⟩:=he;exact⟨.push _ _,λ_ => .inr ⟨_,rfl⟩⟩
  ·cases he
 ·split at he
  ·simp only[aab,ER,aaj]at he;obtain⟨_,rfl⟩:=he;exact⟨.push _ _,λ_ => .inr ⟨_,rfl⟩⟩
  ·cases he
 ·split at he
  ·have:=uQ he;exact⟨this.af,λ_=>this⟩
  ·cases he
 ·split at he
  ·have:=pA he;exact⟨this.af,λ_=>this⟩
  ·cases he
 ·split at he
  ·have:=uQ he;exact⟨this.af,λ_=>this⟩
  ·cases he
 ·split at he
  ·split at he
   ·rename_i hs;simp only[aab,aaj]at he;obtain⟨_,rfl⟩:=he;exact⟨F5 hs,λhw=>by rw[xe]at hw;cases hw⟩
   ·cases he
  ·cases he
 ·split at he
  ·simp only[aab,aaj]at he;obtain⟨_,rfl⟩:=he;exact⟨.refl _,λ_ => .inl rfl⟩
  ·simp only[aab,aaj]at he;obtain⟨_,rfl⟩:=he;exact⟨.refl _,λ_ => .inl rfl⟩
  ·cases he
 ·split at he
  ·have:=uQ he;exact⟨this.af,λ_=>this⟩
  ·cases he
 ·split at he
  ·obtain⟨_,he⟩:=zE he;have:=uQ he;exact⟨this.af,λ_=>this⟩
  ·cases he
 ·split at he
  ·have:=L3 he;exact⟨this.af,λ_=>this⟩
  ·cases he
 ·split at he
  ·split at he
   ·simp only[aab,aaj]at he;obtain⟨_,rfl⟩:=he;exact⟨.refl _,λ_ => .inl rfl⟩
   ·cases he
  ·cases he
 ·split at he
  ·simp only[aab,aaj]at he;obtain⟨_,rfl⟩:=he;exact⟨.refl _,λ_ => .inl rfl⟩
  ·cases he
 ·split at he
  ·have:=L9 he;exact⟨this.af,λ_=>this⟩
  ·cases he
 ·split at he
  ·split at he
   ·simp only[aab,aaj]at he;obtain⟨_,rfl⟩:=he;exact⟨.refl _,λ_ => .inl rfl⟩
   ·cases he
  ·have:=uQ he;exact⟨this.af,λ_=>this⟩
  ·cases he
 ·split at he
  ·have:=uQ he;exact⟨this.af,λ_=>this⟩
  ·cases he
 ·split at he
  ·split at he
   ·split at he
    ·have:=uQ he;exact⟨this.af,λ_=>this⟩
    ·cases he
   ·cases he
  ·cases he
 ·split at he
  ·have:=uQ he;exact⟨this.af,λ_=>this⟩
  ·cases he
 ·split at he
  ·obtain⟨_,he⟩:=zE he;have:=uQ he;exact⟨this.af,λ_=>this⟩
  ·cases he
 ·split at he
  ·have:=uQ he;exact⟨this.af,λ_=>this⟩
  ·cases he
 ·split at he
  ·refine⟨LY he,λhw=>?_⟩;rw[xe]at hw;simp only[VY,Bool.not_eq_false']at hw;exact .inl (gX hw he)
  ·cases he
 ·simp only[aab,aU,aaj]at he;obtain⟨_,rfl⟩:=he;exact⟨.push _ _,λ_ => .inr ⟨_,rfl⟩⟩
 ·split at he
  ·have:=uQ he;exact⟨this.af,λ_=>this⟩
  ·cases he
 ·split at he
  ·split at he
   ·rename_i hu;simp only[aab,aaj]at he;obtain⟨_,rfl⟩:=he;exact⟨EA hu,λhw=>by rw[xe]at hw;cases hw⟩
   ·cases he
  ·cases he
 ·split at he
  ·have:=Hv he;exact⟨this.af,λ_=>this⟩
  ·cases he
 ·split at he
  ·exact⟨zbY he,λhw=>by rw[xe]at hw;cases hw⟩
  ·cases he
 ·split at he
  ·have:=uQ he;exact⟨this.af,λ_=>this⟩
  ·cases he
 ·cases he
end
noncomputable section
variable {P:Program}{cls:List Nat}
def Frames(rec:W5):Prop := ∀t h o h',rec t h=some (o,h')->AF h h'
def WF(h:za):Prop := ∀b o,h.get b=some o->b<h.next
theorem WF.af{h h':za}(w:WF h)(a:AF h h'):WF h':=by
 intro b o hb;rcases a.alive b o hb with h1|⟨_,h2⟩
 ·obtain⟨o',ho'⟩:∃o,h.get b=some o:=by cases hh:h.get b with|none=>exact absurd hh h1|some o=>exact⟨o,rfl⟩
  exact aao (w b o' ho') a.next
 ·exact h2
theorem AF.lock{h h':za}(a:AF h.lock h'):h.next<=h'.next /\ ∀b o,h'.get b=some o->h.get b≠none\/(h.next<=b/\b<h'.next):=⟨a.next,a.alive⟩
theorem AF.vB{h h2:za}(hn:h.next<=h2.next):AF h (vB h h2):=⟨hn,rfl,λb o hb=>by
 rw[uy]at hb;split at hb
 ·rename_i hc;exact .inr hc
 ·exact .inl (by rw[hb];simp)⟩
def mO(ops:Array Oper)(ms:List Nat):Prop := ∀k q,(ms.getD k 0).testBit q=true->Prec ops q k
theorem ji{ops:Array Oper}{ms:List Nat}(hm:mO ops ms){i:Nat}{o:Oper}(ho:ops[i]? = some o){q:Nat}(h:(xf ms o).testBit q=true):Prec ops q i:=by
 have key:∀(l:List Edge) (m:Nat),(∀e,e∈l->e∈o.after)->(l.foldl (λm e=>cond (Region.binds .any e) (m ||| (1 <<< e.on) ||| ms.getD e.on 0) m) m).testBit q=true->m.testBit q=true\/Prec ops q i:=by
  intro l
  induction l with
  |nil=>intro m _ h;exact .inl h
  |cons e l ih=>
   intro m hl h;rw[List.foldl_cons]at h;rcases ih _ (λx hx=>hl x (by simp[hx])) h with h1|h1
   ·cases hb:Region.binds .any e with
    |false=>rw[hb]at h1;exact .inl h1
    |true=>
     rw[hb]at h1;simp only[aaC,Nat.testBit_or,abf]at h1;rcases h1 with(h1|h1)|h1
     ·exact .inl h1
     ·rw[Nat.testBit_shiftLeft]at h1;simp only[aag,aaR,Nat.testBit_one_eq_true_iff_self_eq_zero]at h1;have:q=e.on:=by omega
      subst this;exact .inr (.one ho (hl e (by simp)) hb)
     ·exact .inr (.more ho (hl e (by simp)) hb (hm _ _ h1))
   ·exact .inr h1
 rcases key o.after.toList 0 (λe he=>by simpa using he) h with h1|h1
 ·simp at h1
 ·exact h1
theorem K5{ops:Array Oper}{ms:List Nat}(hm:mO ops ms){i:Nat}(hl:ms.length=i){o:Oper}(ho:ops[i]? = some o):mO ops (ms++[xf ms o]):=by
 intro k q h;rcases Nat.lt_trichotomy k i with hk|hk|hk
 ·rw[aaB,abj (by omega),<- aaB]at h;exact hm k q h
 ·subst hk;rw[aaB,aa5 (by omega),hl]at h;simp at h;exact ji hm ho h
 ·rw[aaB,aal (by simp;omega)]at h;simp at h
theorem DA(A:List yW)(r:yW)(p:yW->Bool):w7 (A++[r]) p=if p r=true then some r else w7 A p:=by
 simp only[w7,aaT,abS,List.filter_nil];by_cases h:p r=true
 ·simp[h]
 ·simp[h]
theorem lS(A:List yW)(r:yW)(s0:Env)(t:Nat):Jn (A++[r]) s0 t=if r.o.dst=some t then r.v else Jn A s0 t:=by
 simp only[Jn,DA,Jy,aaR];by_cases h:r.o.dst=some t <;> simp[h]
theorem rf(A:List yW)(r:yW)(h0:za)(b:Nat):WM (A++[r]) h0 b=if r.tc b=true then r.g'.get b else WM A h0 b:=by
 simp only[WM,DA];by_cases h:r.tc b=true <;> simp[h]
structure FOk (y:AT):Prop where
 tc:y.all=false->∀b,y.r.tc b=true ↔ b∈y.NC
 lt:∀b,y.all=true->y.r.tc b=true->True
 mK:y.mK=true->(∀b,y.r.rd b=false) /\ ∀b,y.r.tc b=false
 ex:y.ex=true->∀b,y.r.rd b=true->b∈y.rdl
theorem SA{ops:Array Oper}{x y:AT}(hx:FOk x)(hy:FOk y)(hs:Xi ops x.r.o y.r.o=true)(h:y.mK=true\/Dt x y=true):Bs ops x.r y.r:=by
 simp only[Xi,aag]at hs;obtain⟨h1,h2⟩:=hs
 have hd1:∀d,x.r.o.dst=some d->d∉y.r.o.looksAt ops/\y.r.o.dst≠some d:=by
  intro d hd;rw[hd]at h1;simp only[aag,aaA,aaJ,aaN]at h1;exact⟨h1.1,h1.2⟩
 have hd2:∀d,y.r.o.dst=some d->d∉x.r.o.looksAt ops:=by
  intro d hd;rw[hd]at h2;simp only[aaA,aaJ,aaN]at h2;exact h2
 rcases h with hl|h
 ·obtain⟨l1,l2⟩:=hy.mK hl;exact⟨hd1,hd2,λb _=>⟨l1 b,l2 b⟩,λb hb=>by rw[l2 b]at hb;cases hb⟩
 simp only[Dt,aag]at h;obtain⟨h3,h4⟩:=h;refine⟨hd1,hd2,?_,?_⟩
 ·intro b hb;cases ha:x.all with
  |true=>
   rw[ha]at h3;simp only[aaC,abf,aag,aaA,aaD]at h3;rcases h3 with h3|⟨⟨⟨h3,h5⟩,h6⟩,h7⟩
   ·exact⟨(hy.mK h3).1 b,(hy.mK h3).2 b⟩
   ·refine⟨?_,?_⟩
    ·cases hr:y.r.rd b with
     |false=>rfl
     |true=>have:=h6 b (hy.ex h3 b hr);rw[hb]at this;cases this
    ·cases hr:y.r.tc b with
     |false=>rfl
     |true=>have:=h7 b ((hy.tc h5 b).1 hr);rw[hb]at this;cases this
  |false=>
   rw[ha]at h3;simp only[aaK,aaD,aag,aaA]at h3;exact h3 b ((hx.tc ha b).1 hb)
 ·intro b hb;cases ha:y.all with
  |true=>
   rw[ha]at h4;simp only[aaC,abf,aag,aaA,aaD]at h4;rcases h4 with h4|⟨h4,h5⟩
   ·exact(hx.mK h4).1 b
   ·cases hr:x.r.rd b with
    |false=>rfl
    |true=>have:=h5 b (hx.ex h4 b hr);rw[hb]at this;cases this
  |false=>
   rw[ha]at h4;simp only[aaK,aaD,aaA]at h4;exact h4 b ((hy.tc ha b).1 hb)
structure qm (P:Program) (ops:Array Oper) (s0:Env) (h0:za) (A:List yW) (i:Nat) (s:Env) (h:za):Prop where
 js:A.map (·.j)=List.range i
 env:∀t,s.get t=Jn A s0 t
 size:s.size=s0.size
 heap:∀b,h.get b=WM A h0 b
 ro:h.ro=h0.ro
 next:h0.next<=h.next
 nA:∀x,x∈A->x.g'.next<=h.next
 wf:WF h
 told:∀A1 r A2,A=A1++r::A2->Told P ops s0 h0 A1 r
 aY:∀A1 r A2,A=A1++r::A2->∀e,e∈r.o.after->Region.binds .any e=true->∃x,x∈A1/\x.j=e.on
 apart:∀A1 x A2 y A3,A=A1++x::(A2++y::A3)->Prec ops x.j y.j\/Bs ops x y
theorem zag{rec:W5}(S:Sound P rec)(hF:Frames rec)(hC:XA P cls=true){ops:Array Oper}{s0:Env}{h0:za}{A:List yW}{recs:List AT}{i mask:Nat}{o:Oper}{os:List Oper}{s:Env}{h h1:za}{y:AT}
  (F:qm P ops s0 h0 A i s h) (ho:ops[i]? = some o) (hput:∀d,o.dst=some d->d<s.size) (he:Dc P cls rec ops recs mask i os o s h=some (y,h1)) :
  y.r.j=i/\y.r.o=o/\FOk y/\Told P ops s0 h0 A y.r/\(∀b,h1.get b=if y.r.tc b=true then y.r.g'.get b else h.get b)/\h1.ro=h.ro/\h.next<=h1.next/\y.r.g'.next<=h1.next/\WF h1:=by
 unfold Dc at he;cases hw:yP ops s o with
 |false=>
  rw[hw]at he;simp only[aaK,aab,aaj]at he;obtain⟨rfl,rfl⟩:=he;refine⟨rfl,rfl,⟨λ_ b=>by simp,λ_ _ _=>trivial,λ_=>⟨λ_=>rfl,λ_=>rfl⟩,λ_ b hb=>(by cases hb)⟩,⟨ho,F.env,F.size,λb=>by rw[qB];simp,F.ro,F.next,F.nA,aam _,.inl ⟨hw,rfl,rfl⟩,λd hd=>by rw[<- F.size];exact hput d hd,λb hb=>(by cases hb),λb _=>rfl,λb o' hb=>(by cases hb)⟩,λb=>by simp,rfl,aam _,aam _,F.wf⟩
 |true=>
  rw[hw]at he;simp only[aaC]at he;split at he
  ·
   rename_i f args ts xe;split at he
   case h_2=>cases he
   rename_i g fa fc vs hf hargs;split at he
   ·
    rename_i hk
    have hlt:∀b,b∈(((recs.flatMap λx=>cond (mask.testBit x.r.j) [] (x.NC++x.rdl))++pB s ((o::os).filterMap (·.dst)) os (i+1) (1 <<< i)).filter λb=>Nat.blt b h.next)->b<h.next:=λb hb=>by
     simpa [aa7] using(ach.1 hb).2
    generalize (((recs.flatMap λx=>cond (mask.testBit x.r.j) [] (x.NC++x.rdl))++pB s ((o::os).filterMap (·.dst)) os (i+1) (1 <<< i)).filter λb=>Nat.blt b h.next)=hid at *
    split at he
    case h_2=>cases he
    rename_i v h' hrec;simp only[aab,aaj]at he;obtain⟨rfl,rfl⟩:=he;have af:=hF _ _ _ _ hrec
    have hwfh:WF (h.Jq hid):=λb o' hb=>by
     rw[Xy]at hb;split at hb
     ·cases hb
     ·exact F.wf b o' hb
    have hwf:=hwfh.af af;have hn:h.next<=h'.next:=af.next
    have hgone:∀b,b∈hid->h'.get b=none:=by
     intro b hb;cases hh:h'.get b with
     |none=>rfl
     |some o'=>
      rcases af.alive b o' hh with h2|⟨h2,_⟩
      ·rw[Xy,aai hb]at h2;exact absurd rfl h2
      ·have:h.next<=b:=h2;have:=hlt b hb;omega
    have hbeyond:∀b,¬b<h'.next->h'.get b=none/\h.get b=none:=by
     intro b hb;refine⟨?_,?_⟩
     ·cases hh:h'.get b with|none=>rfl|some o'=>exact absurd (hwf b o' hh) hb
     ·cases hh:h.get b with|none=>rfl|some o'=>exact absurd (aao (F.wf b o' hh) hn) hb
    refine⟨rfl,rfl,⟨λha=>(by cases ha),λ_ _ _=>trivial,λhl=>(by cases hl),λhl=>(by cases hl)⟩,⟨ho,F.env,F.size,λb=>?_,F.ro,F.next,F.nA,hn,.inr ⟨hw,.inr (.inl ⟨f,args,ts,g,fa,fc,vs,xe,hf,hargs,YP hC hk,S.call _ _ _ _ _ hrec⟩)⟩,λd hd=>by rw[<- F.size];exact hput d hd,λb hb=>?_,λb hb=>?_,λb o' _ hlt2 hb=>?_⟩,λb=>?_,af.ro,hn,aam _,?_⟩
    ·rw[Xy];simp only[aag,aa7,aaA,aaN,aaJ];by_cases hm:b∈hid
     ·rw[aai hm,aac (λhc=>hc.2 hm)]
     ·rw[aac hm];by_cases hb:b<h.next
      ·rw[aai ⟨hb,hm⟩];exact F.heap b
      ·rw[aac (λhc=>hb hc.1)];cases hh:h.get b with
       |none=>rfl
       |some o'=>exact absurd (F.wf b o' hh) hb
    ·simp only[aag,aa7,aaA,aaN,aaJ]at hb ⊢;by_cases hb2:b<h.next
     ·exact .inl ⟨hb2,hb.2⟩
     ·exact .inr ⟨acG hb2,hb.1⟩
    ·show h'.get b=(h.Jq hid).get b;rw[Xy];by_cases hm:b∈hid
     ·rw[aai hm,hgone b hm]
     ·rw[aac hm]
      have hb':¬b<h'.next:=by
       intro hc;have h3:(Nat.blt b h'.next && !hid.contains b)=true:=by simpa [aa7] using⟨hc,hm⟩
       exact acM ((show(Nat.blt b h'.next && !hid.contains b)=false from hb).symm.trans h3)
      rw[(hbeyond b hb').1,(hbeyond b hb').2]
    ·rcases af.alive b o' hb with h2|⟨h2,_⟩
     ·exact h2
     ·exact absurd hlt2 (by show ¬b<(h.Jq hid).next;omega)
    ·rw[nK];simp only[aag,aa7,aaA,aaN,aaJ];by_cases hm:b∈hid
     ·rw[aai hm,aac (λhc=>hc.2 hm)]
     ·rw[aac hm];by_cases hb:b<h'.next
      ·rw[aai ⟨hb,hm⟩]
      ·rw[aac (λhc=>hb hc.1),(hbeyond b hb).1,(hbeyond b hb).2]
    ·intro b o' hb;rw[nK]at hb;show b<h'.next;split at hb
     ·exact aao (F.wf b o' hb) hn
     ·exact hwf b o' hb
   ·
    rename_i hk;split at he
    case h_2=>cases he
    rename_i v h2 hrec;obtain⟨hsc,he⟩:=zE he;simp only[aab,aaj]at he;obtain⟨rfl,rfl⟩:=he;generalize (recs.flatMap λx=>cond (mask.testBit x.r.j) [] x.NC)=hid at *
    have hq:TC P g (fa.toList++vs++fc.toList) (h.Jq hid) (λv1 h1=>v1=v/\h1=h.Jq hid) :=
     ((S.call _ _ _ _ _ hrec).quiet (λv2 h2 q=>by rw[q.1];exact hsc)).mono (by rintro v2 h3 ⟨⟨h4,q1,q2⟩,rfl⟩;exact⟨q1,rfl⟩)
    refine⟨rfl,rfl,⟨λ_ b=>by simp,λ_ _ _=>trivial,λhl=>(by cases hl),λhl=>(by cases hl)⟩,⟨ho,F.env,F.size,λb=>?_,F.ro,F.next,F.nA,aam _,.inr ⟨hw,.inr (.inl ⟨f,args,ts,g,fa,fc,vs,xe,hf,hargs,YP hC hk,hq⟩)⟩,λd hd=>by rw[<- F.size];exact hput d hd,λb hb=>(by cases hb),λb _=>rfl,λb o' hb=>(by cases hb)⟩,λb=>by simp,rfl,aam _,aam _,F.wf⟩;rw[Xy];simp only[aag,aa7,aaA,aaN,aaJ];by_cases hm:b∈hid
    ·rw[aai hm,aac (λhc=>hc.2 hm)]
    ·rw[aac hm];by_cases hb:b<h.next
     ·rw[aai ⟨hb,hm⟩];exact F.heap b
     ·rw[aac (λhc=>hb hc.1)];cases hh:h.get b with
      |none=>rfl
      |some o'=>exact absurd (F.wf b o' hh) hb
   ·
    rename_i hk;split at he
    case h_2=>cases he
    rename_i v h2 hrec;simp only[aab,aaj]at he;obtain⟨rfl,rfl⟩:=he;generalize (recs.flatMap λx=>cond (mask.testBit x.r.j) [] x.NC)=hid at *
    have af:=(hF _ _ _ _ hrec).lock;have hn:h.next<=h2.next:=af.1;refine⟨rfl,rfl,⟨λ_ b=>by simp,λ_ _ _=>trivial,λhl=>(by cases hl),λhl=>(by cases hl)⟩,⟨ho,F.env,F.size,λb=>?_,F.ro,F.next,F.nA,hn,.inr ⟨hw,.inr (.inl ⟨f,args,ts,g,fa,fc,vs,xe,hf,hargs,YP hC hk,(S.call _ _ _ _ _ hrec).fresh⟩)⟩,λd hd=>by rw[<- F.size];exact hput d hd,λb hb=>?_,λb hb=>?_,λb o' hb hlt _=>?_⟩,λb=>?_,rfl,hn,aam _,F.wf.af (.vB hn)⟩
    ·rw[Xy];simp only[aag,aa7,aaA,aaN,aaJ];by_cases hm:b∈hid
     ·rw[aai hm,aac (λhc=>hc.2 hm)]
     ·rw[aac hm];by_cases hb:b<h.next
      ·rw[aai ⟨hb,hm⟩];exact F.heap b
      ·rw[aac (λhc=>hb hc.1)];cases hh:h.get b with
       |none=>rfl
       |some o'=>exact absurd (F.wf b o' hh) hb
    ·simp only[aaN,aaR,Yh]at hb;exact .inr hb
    ·simp only[aaN,aaJ,Yh]at hb;simp only[uy];rw[aac (show ¬((h.Jq hid).next<=b/\b<h2.next) from hb)]
    ·simp only[aaN,aaR,Yh]at hb;exact absurd hlt (by show ¬b<h.next;omega)
    ·simp only[aaN,aaR,Yh,uy];by_cases hb:h.next<=b/\b<h2.next
     ·rw[aai hb,aai hb,aai (show(h.Jq hid).next<=b/\b<h2.next from hb)]
     ·rw[aac hb,aac hb]
   ·
    split at he
    case h_2=>cases he
    rename_i v g' hop2;simp only[aab,aaj]at he;obtain⟨rfl,rfl⟩:=he;have still:=VA hop2;have af:=still.af;have hn:h.next<=g'.next:=af.next;have hro:g'.ro=h.ro:=af.ro;refine⟨rfl,rfl,⟨λ_ b=>by simp,λ_ _ _=>trivial,λhl=>?_,λ_ b hb=>(by cases hb)⟩,⟨ho,F.env,F.size,λb=>by rw[qB];simp,F.ro,F.next,F.nA,hn,.inr ⟨hw,.inr (.inr ⟨f,args,ts,g,fa,fc,vs,xe,hf,hargs,hop2⟩)⟩,λd hd=>by rw[<- F.size];exact hput d hd,λb hb=>?_,λb hb=>?_,λb o' hb hlt hg=>?_⟩,λb=>?_,rfl,hn,aam _,?_⟩
    ·simp only[List.isEmpty_iff]at hl;refine⟨λb=>rfl,λb=>?_⟩;show(List.range' h.next (g'.next-h.next)).contains b=false;rw[hl];rfl
    ·simp only[aaN,aaR,Yh]at hb;exact .inr hb
    ·simp only[aaN,aaJ,Yh]at hb;rcases still with e|⟨ob,e⟩
     ·rw[e]
     ·rw[e,za.vA];split
      ·rename_i eb;exact absurd ⟨by rw[eb];exact aam _,by rw[eb,e];exact aaH _⟩ hb
      ·rfl
    ·simp only[aaN,aaR,Yh]at hb;exact absurd hlt (by show ¬b<h.next;omega)
    ·rw[iA];simp only[aaN,aaR]
    ·intro b o' hb;rw[iA]at hb;split at hb
     ·rename_i hm;exact(Yh.1 hm).2
     ·exact aao (F.wf b o' hb) hn
  ·
   rename_i hnc;split at he
   case h_2=>cases he
   rename_i v g' xe;simp only[aab,aaj]at he;obtain⟨rfl,rfl⟩:=he;obtain⟨af,still⟩:=Wp xe;generalize hbs:zdt s o h=bs at *
   have hn:h.next<=g'.next:=af.next
   have hmemtc:∀b,b∈(cond (VY o.op) (bs++List.range' h.next (g'.next-h.next)) (List.range' h.next (g'.next-h.next))) ↔ (VY o.op=true/\b∈bs)\/(h.next<=b/\b<g'.next):=by
    intro b;cases VY o.op with
    |true=>simp only[aaC,aaQ,Yh,abQ]
    |false=>simp only[aaK,Yh,abo,false_and,false_or]
   generalize htcl:(cond (VY o.op) (bs++List.range' h.next (g'.next-h.next)) (List.range' h.next (g'.next-h.next)))=NC at *
   have hnew:∀b,¬(h.next<=b/\b<g'.next)->b∉bs\/VY o.op=false->g'.get b=(h.pick bs).get b:=by
    intro b hb hor;cases hwr:VY o.op with
    |false=>
     rcases still hwr with e|⟨ob,e⟩
     ·rw[e]
     ·rw[e,za.vA];split
      ·rename_i eb;exact absurd ⟨by rw[eb];exact aam _,by rw[eb,e];exact aaH _⟩ hb
      ·rfl
    |true=>
     rcases hor with hor|hor
     ·have e0:(h.pick bs).get b=none:=(by rw[qB,aac hor]);rw[e0];cases hh:g'.get b with
      |none=>rfl
      |some o'=>
       rcases af.alive b o' hh with h2|h2
       ·exact absurd e0 h2
       ·exact absurd h2 hb
     ·rw[hwr]at hor;cases hor
   have hro:g'.ro=h.ro:=af.ro;refine⟨rfl,rfl,⟨λ_ b=>by simp,λ_ _ _=>trivial,λhl=>?_,λ_ b hb=>by simpa using hb⟩,⟨ho,F.env,F.size,λb=>?_,F.ro,F.next,F.nA,hn,.inr ⟨hw,.inl xe⟩,λd hd=>by rw[<- F.size];exact hput d hd,λb hb=>?_,λb hb=>?_,λb o' hb hlt hg=>?_⟩,λb=>?_,rfl,hn,aam _,?_⟩
   ·simp only[aag,List.isEmpty_iff]at hl;obtain⟨e1,e2⟩:=hl;subst e1 e2;exact⟨λb=>rfl,λb=>rfl⟩
   ·rw[qB];simp only[aaN,aaR];split
    ·exact F.heap b
    ·rfl
   ·simp only[aaN,aaR]at hb ⊢;rcases (hmemtc b).1 hb with h2|h2
    ·exact .inl h2.2
    ·exact .inr h2
   ·simp only[aaN,aaJ]at hb;have hb2:=λhc=>hb ((hmemtc b).2 hc);refine hnew b (λhc=>hb2 (.inr hc)) ?_;cases hwr:VY o.op with
    |false=>exact .inr rfl
    |true=>exact .inl (λhc=>hb2 (.inl ⟨hwr,hc⟩))
   ·rcases af.alive b o' hg with h2|⟨h2,_⟩
    ·exact h2
    ·exact absurd hlt (by show ¬b<(h.pick bs).next;omega)
   ·rw[iA];simp only[aaN,aaR]
   ·intro b o' hb;rw[iA]at hb;split at hb
    ·rcases af.alive b o' hb with h2|⟨_,h2⟩
     ·rw[qB]at h2;split at h2
      ·obtain⟨o2,ho2⟩:∃o,h.get b=some o:=by cases hh:h.get b with|none=>exact absurd hh h2|some o=>exact⟨o,rfl⟩
       exact aao (F.wf b o2 ho2) hn
      ·exact absurd rfl h2
     ·exact h2
    ·exact aao (F.wf b o' hb) hn
end
noncomputable section
variable {P:Program}{cls:List Nat}
theorem qk{α:Type}{A A1 A2:List α}{y r:α}(e:A++[y]=A1++r::A2):(A2=[]/\A1=A/\r=y) \/ ∃A3,A2=A3++[y]/\A=A1++r::A3:=by
 rcases abF A2 with h|⟨A3,z,h⟩
 ·subst h;have:=List.append_inj' e rfl;simp at this;exact .inl ⟨rfl,this.1.symm,this.2.symm⟩
 ·subst h;rw[abM]at *
  have e2:A++[y]=(A1++r::A3)++[z]:=by rw[e];simp
  have:=List.append_inj' e2 rfl;simp at this;exact .inr ⟨A3,by rw[this.2],this.1⟩
theorem Ge{rec:W5}(S:Sound P rec)(hF:Frames rec)(hC:XA P cls=true){ops:Array Oper}{s0:Env}{h0:za}:∀(l:List Oper) (i:Nat) (ms:List Nat) (recs:List AT) (s:Env) (h:za) {s':Env} {h':za},
  ops.toList.drop i=l->i<=ops.size->mO ops ms->ms.length=i->qm P ops s0 h0 (recs.map (·.r)).reverse i s h->(∀x,x∈recs->FOk x)->WS ops l i ms (recs.map λx=>(x.r.j,x.r.o))=true->dS P cls rec ops l i ms recs s h=some (s',h') ->
  ∃A,qm P ops s0 h0 A ops.size s' h'
 |[],i,ms,recs,s,h,s',h',hl,hle,hm,hml,F,hok,hst,he=>by
  simp only[dS,aab,aaj]at he;obtain⟨rfl,rfl⟩:=he
  have:i=ops.size:=by
   have:=congrArg List.length hl;simp at this;omega
  subst this;exact⟨_,F⟩
 |o::os,i,ms,recs,s,h,s',h',hl,hle,hm,hml,F,hok,hst,he=>by
  have ho:ops[i]? = some o:=by
   have:=congrArg (λl=>l[0]?) hl;simp only[aa1,aak]at this;simpa using this
  have hlt:i<ops.size:=by
   rcases aar i ops.size with h|h
   ·exact h
   ·rw[aaO h]at ho;cases ho
  have hl':ops.toList.drop (i+1)=os:=by rw[<- acV,hl];rfl
  simp only[dS]at he;simp only[WS,aag]at hst;obtain⟨⟨hedge,hslots⟩,hst⟩:=hst;split at he
  case h_2=>cases he
  rename_i y h1 xe;obtain⟨hind,he⟩:=zE he;split at he
  case h_2=>cases he
  rename_i s1 hp
  have hput:∀d,o.dst=some d->d<s.size:=by
   intro d hd;rw[hd]at hp;simp only[Env.put]at hp;obtain⟨hb,_⟩:=zE hp;simpa [aa7] using hb
  obtain⟨hj,hyo,hfok,htold,hheap,hro,hnx,hyn,hwf⟩:=zag S hF hC F ho hput xe
  have hs1:∀t,s1.get t=if o.dst=some t then y.r.v else s.get t:=by
   intro t;cases hd:o.dst with
   |none=>rw[hd]at hp;simp only[Env.put,aab]at hp;subst hp;simp
   |some d=>
    rw[hd]at hp;simp only[Env.put]at hp;obtain⟨_,hp⟩:=zE hp;simp only[aab]at hp;subst hp;rw[Env.yI];by_cases e:t=d
    ·subst e;simp
    ·rw[aac e,aac (by simp only[aab];exact λh=>e h.symm)]
  have hs1s:s1.size=s.size:=by
   cases hd:o.dst with
   |none=>rw[hd]at hp;simp only[Env.put,aab]at hp;subst hp;rfl
   |some d=>
    rw[hd]at hp;simp only[Env.put]at hp;obtain⟨_,hp⟩:=zE hp;simp only[aab]at hp;subst hp;rfl
  have hrev:(List.map (·.r) (y::recs)).reverse=(recs.map (·.r)).reverse++[y.r]:=by simp
  refine Ge S hF hC os (i+1) (ms++[xf ms o]) (y::recs) s1 h1 hl' hlt (K5 hm hml ho) (by simp[hml]) ?_ (λx hx=>?_) (by simpa [hj,hyo] using hst) he
  ·rw[hrev];refine⟨?_,?_,hs1s.trans F.size,?_,hro.trans F.ro,aaS F.next hnx,?_,hwf,?_,?_,?_⟩
   ·rw[abp,F.js,List.range_succ];simp[hj]
   ·intro t;rw[hs1,lS,hyo,F.env]
   ·intro b;rw[hheap,rf,F.heap]
   ·intro x hx;rcases aaQ.1 hx with hx|hx
    ·exact aaS (F.nA x hx) hnx
    ·simp only[aaV]at hx;subst hx;exact hyn
   ·intro A1 r A2 e;rcases qk e with⟨_,rfl,rfl⟩|⟨A3,_,e3⟩
    ·exact htold
    ·exact F.told A1 r A3 e3
   ·intro A1 r A2 e ed hed hb;rcases qk e with⟨_,rfl,rfl⟩|⟨A3,_,e3⟩
    ·rw[hyo]at hed;simp only[aaD,abf,aaA,aa7]at hedge;rcases hedge ed (by simpa using hed) with h2|h2
     ·rw[hb]at h2;cases h2
     ·have:ed.on∈(recs.map (·.r)).reverse.map (·.j):=(by rw[F.js];exact abz.2 h2);obtain⟨x,hx,hxj⟩:=abm.1 this;exact⟨x,hx,hxj⟩
    ·exact F.aY A1 r A3 e3 ed hed hb
   ·intro A1 x A2 z A3 e;have e':(recs.map (·.r)).reverse++[y.r]=(A1++x::A2)++z::A3:=by rw[e];simp
    rcases qk e' with⟨_,e1,rfl⟩|⟨A4,_,e3⟩
    ·have hxm:x∈(recs.map (·.r)).reverse:=(by rw[<- e1];simp);rw[List.mem_reverse,abm]at hxm;obtain⟨fx,hfx,rfl⟩:=hxm;simp only[aaD,abf]at hind hslots;rcases hslots (fx.r.j,fx.r.o) (abm.2 ⟨fx,hfx,rfl⟩) with h2|h2
     ·rw[hj];exact .inl (ji hm ho h2)
     ·rw[<- hyo]at h2;rcases hind with h3|h3
      ·exact .inr (SA (hok fx hfx) hfok h2 (.inl h3))
      ·rcases h3 fx hfx with h4|h4
       ·exact .inr (SA (hok fx hfx) hfok h2 (.inr h4))
       ·rw[hj];exact .inl (ji hm ho h4)
    ·exact F.apart A1 x A2 z A4 (by rw[e3];simp)
  ·rcases abt.1 hx with rfl|hx
   ·exact hfok
   ·exact hok x hx
theorem OI{rec:W5}(S:Sound P rec)(hF:Frames rec)(hC:XA P cls=true)(hmix:P.follows .mixedOrders=true){rd:Option Nat}{id:Nat}{ops:Array Oper}{s s':Env}{h h':za}
  (hst:WS ops ops.toList 0 [] []=true) (he:dS P cls rec ops ops.toList 0 [] [] s h=some (s',h')):T P rd (.region id ops true) s h (λe1 s1 h1=>e1=.normal/\s1=s'/\h1=h'):=by
 intro ρ w tm ds hr
 have F0:qm P ops s h ([]:List yW) 0 s h:=⟨rfl,λt=>rfl,rfl,λb=>rfl,rfl,aam _,λx hx=>(by cases hx),λb o hb=>hr.eU b o hb,
  λA1 r A2 e=>by simp at e,λA1 r A2 e=>by simp at e,λA1 x A2 y A3 e=>by simp at e⟩
 obtain⟨A,F⟩:=Ge S hF hC ops.toList 0 [] [] s h rfl (aba _) (λk q hq=>by simp at hq) rfl F0 (λx hx=>(by cases hx)) hst he
 have V:Valid P ops s h A:=⟨by rw[F.js];exact List.nodup_range,λi hi=>by
   have:i∈A.map (·.j):=by rw[F.js];exact abz.2 hi
   obtain⟨r,hr,hj⟩:=abm.1 this;exact⟨r,hr,hj⟩,F.told,F.aY,F.apart⟩
 exact bU hmix V F.env F.size F.heap F.ro F.next F.nA ⟨rfl,rfl,rfl⟩ ρ w tm ds hr
theorem zcn{rec:W5}(hF:Frames rec){g:FuncId}{args:List aaa}{h h':za}{v:aaa}(he:Mr cls rec g args h=some (v,h')):AF h h':=by
 unfold Mr at he;split at he
 ·split at he
  ·rename_i hrec;simp only[aab,aaj]at he;obtain⟨_,rfl⟩:=he;exact hF _ _ _ _ hrec
  ·cases he
 ·split at he
  ·obtain⟨_,he⟩:=zE he;simp only[aab,aaj]at he;obtain⟨_,rfl⟩:=he;exact .refl _
  ·cases he
 ·split at he
  ·rename_i hrec;simp only[aab,aaj]at he;obtain⟨_,rfl⟩:=he;exact .vB (hF _ _ _ _ hrec).lock.1
  ·cases he
 ·cases he
theorem zaN{rec:W5}(hF:Frames rec){L:Nat}{args:List aaa}{h h':za}{v:aaa}(he:D3 rec L args h=some (v,h')):AF h h':=by
 unfold D3 at he;split at he
 case h_2=>cases he
 rename_i A hg;split at he
 case h_2=>cases he
 split at he
 case h_2=>cases he
 rename_i s1 h1 hrec;split at he
 case h_2=>cases he
 rename_i A1 g1;obtain⟨_,he⟩:=zE he;split at he
 case h_2=>cases he
 rename_i e s2 h2 hrec2;split at he
 case h_2=>cases he
 rename_i A2 g2;obtain⟨_,he⟩:=zE he;simp only[aab,aaj]at he;obtain⟨rfl,rfl⟩:=he;exact(((hF _ _ _ _ hrec).trans (.nV g1 _)).trans (hF _ _ _ _ hrec2)).trans (.nV g2 _)
theorem zaL{rec:W5}(hF:Frames rec){rd:Option Nat}{f:Option aaa}{params:Array Tmp}{as bd:Code}{s:Env}{h h':za}{e:Ex}(he:DX cls rec rd f params as bd s h=some (e,h')):AF h h':=by
 unfold DX at he;split at he
 case h_2=>cases he
 obtain⟨_,he⟩:=zE he;split at he
 case h_2=>cases he
 rename_i v h1 hrec;split at he
 case h_2=>cases he
 rename_i A hA;obtain⟨_,he⟩:=zE he;split at he
 case h_2=>cases he
 simp only[aab,aaj]at he;obtain⟨_,rfl⟩:=he;exact((AF.push _ _).trans (hF _ _ _ _ hrec)).trans (.nV hA _)
theorem zai{rec:W5}(hF:Frames rec){s:Env}{o:Oper}{h h':za}{v:aaa}(he:evalOp P cls rec s o h=some (v,h')):AF h h':=by
 unfold evalOp at he;split at he
 ·split at he
  ·rename_i g fa fc vs _ _;cases hk:Nat.beq (cls.getD g 0) 0 with
   |true=>
    rw[hk]at he;simp only[aaC]at he;exact(VA he).af
   |false=>
    rw[hk]at he;simp only[aaK]at he;exact zcn hF he
  ·obtain⟨_,he⟩:=zE he;exact zaN hF he
  ·cases he
 ·exact(Wp he).1
theorem tQ{rec:W5}(hF:Frames rec){ops:Array Oper}:∀(l:List Oper) {s s':Env} {h h':za},eK P cls rec ops l s h=some (s',h')->AF h h'
 |[],s,s',h,h',he=>by
  simp only[eK,aab,aaj]at he;obtain⟨_,rfl⟩:=he;exact .refl _
 |o::os,s,s',h,h',he=>by
  simp only[eK]at he;cases hw:yP ops s o with
  |false=>
   rw[hw]at he;simp only[aaK]at he;split at he
   ·exact tQ hF os he
   ·cases he
  |true=>
   rw[hw]at he;simp only[aaC]at he;split at he
   ·rename_i hev;split at he
    ·exact(zai hF hev).trans (tQ hF os he)
    ·cases he
   ·cases he
theorem RU{h g:za}{l:List Nat}(hn:h.next<=g.next)(hl:∀b,b∈l->∀o,g.get b=some o->h.get b≠none\/(h.next<=b/\b<g.next)):AF h (h.zeW g l):=⟨hn,rfl,λb o hb=>by
 rw[iA]at hb;split at hb
 ·rename_i hm;exact hl b hm o hb
 ·exact .inl (by rw[hb];simp)⟩
theorem zaf{rec:W5}(hF:Frames rec){ops:Array Oper}{recs:List AT}{mask i:Nat}{o:Oper}{os:List Oper}{s:Env}{h h1:za}{y:AT}(he:Dc P cls rec ops recs mask i os o s h=some (y,h1)):AF h h1:=by
 unfold Dc at he;cases hw:yP ops s o with
 |false=>
  rw[hw]at he;simp only[aaK,aab,aaj]at he;obtain⟨_,rfl⟩:=he;exact .refl _
 |true=>
  rw[hw]at he;simp only[aaC]at he;split at he
  ·split at he
   case h_2=>cases he
   split at he
   ·split at he
    case h_2=>cases he
    rename_i hrec;simp only[aab,aaj]at he;obtain⟨_,rfl⟩:=he;have af:=hF _ _ _ _ hrec;refine⟨af.next,af.ro,λb o' hb=>?_⟩;rw[nK]at hb;split at hb
    ·exact .inl (by rw[hb];simp)
    ·rcases af.alive b o' hb with h2|h2
     ·rw[Xy]at h2;split at h2
      ·exact absurd rfl h2
      ·exact .inl h2
     ·exact .inr h2
   ·split at he
    case h_2=>cases he
    obtain⟨_,he⟩:=zE he;simp only[aab,aaj]at he;obtain⟨_,rfl⟩:=he;exact .refl _
   ·split at he
    case h_2=>cases he
    rename_i hrec;simp only[aab,aaj]at he;obtain⟨_,rfl⟩:=he;have:=(hF _ _ _ _ hrec).lock.1;exact .vB this
   ·split at he
    case h_2=>cases he
    rename_i v g' xe;simp only[aab,aaj]at he;obtain⟨_,rfl⟩:=he;have af:=(VA xe).af;refine RU af.next (λb _ o' hb=>?_);rcases af.alive b o' hb with h2|h2
    ·rw[qB]at h2;split at h2
     ·exact .inl h2
     ·exact absurd rfl h2
    ·exact .inr h2
  ·split at he
   case h_2=>cases he
   rename_i v g' xe;simp only[aab,aaj]at he;obtain⟨_,rfl⟩:=he;have af:=(Wp xe).1;refine RU af.next (λb _ o' hb=>?_);rcases af.alive b o' hb with h2|h2
   ·rw[qB]at h2;split at h2
    ·exact .inl h2
    ·exact absurd rfl h2
   ·exact .inr h2
theorem Gd{rec:W5}(hF:Frames rec){ops:Array Oper}:∀(l:List Oper) (i:Nat) (ms:List Nat) (recs:List AT) {s s':Env} {h h':za},dS P cls rec ops l i ms recs s h=some (s',h')->AF h h'
 |[],i,ms,recs,s,s',h,h',he=>by
  simp only[dS,aab,aaj]at he;obtain⟨_,rfl⟩:=he;exact .refl _
 |o::os,i,ms,recs,s,s',h,h',he=>by
  simp only[dS]at he;split at he
  case h_2=>cases he
  rename_i y h1 xe;obtain⟨_,he⟩:=zE he;split at he
  case h_2=>cases he
  exact(zaf hF xe).trans (Gd hF os _ _ _ he)
theorem Mn{rec:W5}(hF:Frames rec):Frames (body P cls rec):=by
 intro t h o h' he;cases t with
 |call f args=>
  simp only[body]at he;split at he
  case h_1=>cases he
  split at he
  case h_1=>cases he
  split at he
  ·rename_i hrec;split at he
   ·simp only[aab,aaj]at he;obtain⟨_,rfl⟩:=he;exact hF _ _ _ _ hrec
   ·cases he
  ·rename_i hrec;split at he
   ·simp only[aab,aaj]at he;obtain⟨_,rfl⟩:=he;exact hF _ _ _ _ hrec
   ·cases he
  ·cases he
 |code rd c s=>
  cases c <;> simp only[body]at he
  case skip=>simp only[aab,aaj]at he;obtain⟨_,rfl⟩:=he;exact .refl _
  case label=>simp only[aab,aaj]at he;obtain⟨_,rfl⟩:=he;exact .refl _
  case exit=>simp only[aab,aaj]at he;obtain⟨_,rfl⟩:=he;exact .refl _
  case ret=>simp only[aab,aaj]at he;obtain⟨_,rfl⟩:=he;exact .refl _
  case region id ops draw=>
   cases draw with
   |true=>
    simp only[aaC]at he;obtain⟨_,he⟩:=zE he;split at he
    ·rename_i hd;simp only[aab,aaj]at he;obtain⟨_,rfl⟩:=he;exact Gd hF _ _ _ _ hd
    ·cases he
   |false=>
    simp only[aaK]at he;split at he
    ·rename_i hd;simp only[aab,aaj]at he;obtain⟨_,rfl⟩:=he;exact tQ hF _ hd
    ·cases he
  case seq a b=>
   split at he
   ·rename_i hrec;exact(hF _ _ _ _ hrec).trans (hF _ _ _ _ he)
   ·exact hF _ _ _ _ he
  case cond x a b=>
   split at he
   ·exact hF _ _ _ _ he
   ·exact hF _ _ _ _ he
   ·cases he
  case block id a=>
   split at he
   ·rename_i id' s1 h1 hrec;cases hb:Nat.beq id' id with
    |true=>rw[hb]at he;simp only[aaC,aab,aaj]at he;obtain⟨_,rfl⟩:=he;exact hF _ _ _ _ hrec
    |false=>rw[hb]at he;simp only[aaK,aab,aaj]at he;obtain⟨_,rfl⟩:=he;exact hF _ _ _ _ hrec
   ·exact hF _ _ _ _ he
  case scope a=>exact hF _ _ _ _ he
  case loop a=>
   split at he
   ·rename_i hrec;exact(hF _ _ _ _ hrec).trans (hF _ _ _ _ he)
   ·exact hF _ _ _ _ he
  case rangeFunc f params as bd=>
   split at he
   ·rename_i hr;simp only[aab,aaj]at he;obtain⟨_,rfl⟩:=he;exact zaL hF hr
   ·cases he
  all_goals cases he
theorem OA{rec:W5}(S:Sound P rec)(hF:Frames rec)(hC:XA P cls=true)(hmix:P.follows .mixedOrders=true):Sound P (body P cls rec):=by
 refine⟨?_,?_,?_,?_⟩
 ·intro rd c s h e s' h' he;cases c <;> simp only[body]at he
  case skip=>simp only[aab,aaj,Out.ex.injEq]at he;obtain⟨⟨rfl,rfl⟩,rfl⟩:=he;exact zba ⟨rfl,rfl,rfl⟩
  case label=>simp only[aab,aaj,Out.ex.injEq]at he;obtain⟨⟨rfl,rfl⟩,rfl⟩:=he;exact PV ⟨rfl,rfl,rfl⟩
  case exit=>simp only[aab,aaj,Out.ex.injEq]at he;obtain⟨⟨rfl,rfl⟩,rfl⟩:=he;exact za9 ⟨rfl,rfl,rfl⟩
  case ret=>simp only[aab,aaj,Out.ex.injEq]at he;obtain⟨⟨rfl,rfl⟩,rfl⟩:=he;exact zfq ⟨rfl,rfl,rfl⟩
  case region id ops draw=>
   cases draw with
   |true=>
    simp only[aaC]at he;obtain⟨hst,he⟩:=zE he;split at he
    ·rename_i hd;simp only[aab,aaj,Out.ex.injEq]at he;obtain⟨⟨rfl,rfl⟩,rfl⟩:=he;exact OI S hF hC hmix hst hd
    ·cases he
   |false=>
    simp only[aaK]at he;split at he
    ·rename_i hd;simp only[aab,aaj,Out.ex.injEq]at he;obtain⟨⟨rfl,rfl⟩,rfl⟩:=he;refine IB ?_;have:=eN S hC ops.toList 0 rfl hd;rw[abP,<- List.range_eq_range']at this;intro ρ w tm ds hr hs b k cs;obtain⟨s1,h1,ρ1,w1,tm1,⟨q1,q2⟩,r⟩:=this ρ w tm ds hr hs b k cs;exact⟨s1,h1,ρ1,w1,tm1,⟨rfl,q1,q2⟩,r⟩
    ·cases he
  case seq a b=>
   refine PX ?_;split at he
   ·rename_i s1 h1 hrec;refine(S.code _ _ _ _ _ _ _ hrec).mono ?_;rintro e1 s2 h2 ⟨rfl,rfl,rfl⟩;exact S.code _ _ _ _ _ _ _ he
   ·rename_i hne;refine(S.code _ _ _ _ _ _ _ he).mono ?_;rintro e1 s2 h2 ⟨rfl,rfl,rfl⟩;cases e1 with
    |normal=>exact(hne _ _ he).elim
    |exit id=>exact⟨rfl,rfl,rfl⟩
    |ret=>exact⟨rfl,rfl,rfl⟩
  case cond x a b=>
   split at he
   ·rename_i hx;exact GW hx (by rw[aai rfl];exact S.code _ _ _ _ _ _ _ he)
   ·rename_i hx;exact GW hx (by rw[aac (by decide)];exact S.code _ _ _ _ _ _ _ he)
   ·cases he
  case block id a=>
   refine ov ?_;split at he
   ·rename_i id' s1 h1 hrec;refine(S.code _ _ _ _ _ _ _ hrec).mono ?_;rintro e1 s2 h2 ⟨rfl,rfl,rfl⟩;cases hb:Nat.beq id' id with
    |true=>
     rw[hb]at he;simp only[aaC,aab,aaj,Out.ex.injEq]at he;obtain⟨⟨rfl,rfl⟩,rfl⟩:=he;rw[aav hb,aai rfl];exact⟨rfl,rfl,rfl⟩
    |false=>
     rw[hb]at he;simp only[aaK,aab,aaj,Out.ex.injEq]at he;obtain⟨⟨rfl,rfl⟩,rfl⟩:=he
     rw[aac (by
      intro hc;cases hc;rw[acy]at hb;cases hb)]
     exact⟨rfl,rfl,rfl⟩
   ·rename_i hne;refine(S.code _ _ _ _ _ _ _ he).mono ?_;rintro e1 s2 h2 ⟨rfl,rfl,rfl⟩;cases e1 with
    |normal=>rw[aac (by simp)];exact⟨rfl,rfl,rfl⟩
    |exit id'=>exact(hne _ _ _ he).elim
    |ret=>rw[aac (by simp)];exact⟨rfl,rfl,rfl⟩
  case scope a=>exact PW (S.code _ _ _ _ _ _ _ he)
  case loop a=>
   refine Kc ?_;split at he
   ·rename_i s1 h1 hrec;refine(S.code _ _ _ _ _ _ _ hrec).mono ?_;rintro e1 s2 h2 ⟨rfl,rfl,rfl⟩;exact S.code _ _ _ _ _ _ _ he
   ·rename_i hne;refine(S.code _ _ _ _ _ _ _ he).mono ?_;rintro e1 s2 h2 ⟨rfl,rfl,rfl⟩;cases e1 with
    |normal=>exact(hne _ _ he).elim
    |exit id=>exact⟨rfl,rfl,rfl⟩
    |ret=>exact⟨rfl,rfl,rfl⟩
  case rangeFunc f params as bd=>
   split at he
   ·rename_i hr;simp only[aab,aaj,Out.ex.injEq]at he;obtain⟨⟨rfl,rfl⟩,rfl⟩:=he;exact Ib S hC hr
   ·cases he
  all_goals cases he
 ·intro f args h v h' he;simp only[body]at he;split at he
  case h_1=>cases he
  rename_i fn hfn;split at he
  case h_1=>cases he
  rename_i c hc
  have fin:∀e s1 h1,(e=.normal\/e=.ret)->rec (.code none c (Env.enter args fn.ntmps)) h=some (.ex e s1,h1)->(match kL P s1 h1 fn.results.toList with|some vs=>some (Out.val (ZI vs),h1)|none=>none)=some (.val v,h') ->
    TC P f args h (λv1 h1=>v1=v/\h1=h'):=by
   intro e s1 h1 hee hrec hres;split at hres
   ·rename_i vs hvs;simp only[aab,aaj,Out.val.injEq]at hres;obtain⟨rfl,rfl⟩:=hres;refine PR hfn hc ((S.code _ _ _ _ _ _ _ hrec).mono ?_);rintro e1 s2 h2 ⟨rfl,rfl,rfl⟩;exact⟨hee,vs,hvs,rfl,rfl⟩
   ·cases hres
  split at he
  ·rename_i s1 h1 hrec;exact fin _ s1 h1 (.inl rfl) hrec he
  ·rename_i s1 h1 hrec;exact fin _ s1 h1 (.inr rfl) hrec he
  ·cases he
 ·intro rd c s h o h' he;cases c <;> simp only[body]at he
  case skip=>simp only[aab,aaj]at he;obtain⟨rfl,_⟩:=he;exact⟨_,_,rfl⟩
  case label=>simp only[aab,aaj]at he;obtain⟨rfl,_⟩:=he;exact⟨_,_,rfl⟩
  case exit=>simp only[aab,aaj]at he;obtain⟨rfl,_⟩:=he;exact⟨_,_,rfl⟩
  case ret=>simp only[aab,aaj]at he;obtain⟨rfl,_⟩:=he;exact⟨_,_,rfl⟩
  case region id ops draw=>
   cases draw with
   |true=>
    simp only[aaC]at he;obtain⟨_,he⟩:=zE he;split at he
    ·simp only[aab,aaj]at he;obtain⟨rfl,_⟩:=he;exact⟨_,_,rfl⟩
    ·cases he
   |false=>
    simp only[aaK]at he;split at he
    ·simp only[aab,aaj]at he;obtain⟨rfl,_⟩:=he;exact⟨_,_,rfl⟩
    ·cases he
  case seq a b=>
   split at he
   ·exact S.kind _ _ _ _ _ _ he
   ·exact S.kind _ _ _ _ _ _ he
  case cond x a b=>
   split at he
   ·exact S.kind _ _ _ _ _ _ he
   ·exact S.kind _ _ _ _ _ _ he
   ·cases he
  case block id a=>
   split at he
   ·rename_i id' s1 h1 hrec;cases hb:Nat.beq id' id with
    |true=>rw[hb]at he;simp only[aaC,aab,aaj]at he;obtain⟨rfl,_⟩:=he;exact⟨_,_,rfl⟩
    |false=>rw[hb]at he;simp only[aaK,aab,aaj]at he;obtain⟨rfl,_⟩:=he;exact⟨_,_,rfl⟩
   ·exact S.kind _ _ _ _ _ _ he
  case scope a=>exact S.kind _ _ _ _ _ _ he
  case loop a=>
   split at he
   ·exact S.kind _ _ _ _ _ _ he
   ·exact S.kind _ _ _ _ _ _ he
  case rangeFunc f params as bd=>
   split at he
   ·simp only[aab,aaj]at he;obtain⟨rfl,_⟩:=he;exact⟨_,_,rfl⟩
   ·cases he
  all_goals cases he
 ·intro f args h o h' he;simp only[body]at he;split at he
  case h_1=>cases he
  split at he
  case h_1=>cases he
  split at he
  ·split at he
   ·simp only[aab,aaj]at he;obtain⟨rfl,_⟩:=he;exact⟨_,rfl⟩
   ·cases he
  ·split at he
   ·simp only[aab,aaj]at he;obtain⟨rfl,_⟩:=he;exact⟨_,rfl⟩
   ·cases he
  ·cases he
theorem No(hC:XA P cls=true)(hmix:P.follows .mixedOrders=true):∀n,Sound P (run P cls n)/\Frames (run P cls n)
 |0=>⟨⟨λrd c s h e s' h' he=>(by cases he),λf args h v h' he=>(by cases he),λrd c s h o h' he=>(by cases he),λf args h o h' he=>(by cases he)⟩,λt h o h' he=>(by cases he)⟩
 |n+1=>by
  obtain⟨S,F⟩:=No hC hmix n;exact⟨OA S F hC hmix,Mn F⟩
theorem Tw(hC:XA P cls=true)(hmix:P.follows .mixedOrders=true){n:Nat}{f:FuncId}{args:List aaa}{h h':za}{v:aaa}(he:run P cls n (.call f args) h=some (.val v,h')):TC P f args h (λv1 h1=>v1=v/\h1=h') :=
 (No hC hmix n).1.call _ _ _ _ _ he
def ze0(n:Nat):za:=⟨.e,n,n⟩
def PD(n:Nat)(tabs:List (Nat×List aaa)):za:=⟨tabs.foldl (λt x=>t.set x.1 (some (.tab x.2))) .e,n,n⟩
theorem nJ{n:Nat}{tabs:List (Nat×List aaa)}{b:Nat}{o:wA}(h:(PD n tabs).get b=some o):∃c,(b,c)∈tabs/\o=.tab c:=by
 have key:∀(l:List (Nat×List aaa)) (t:Tr wA),(l.foldl (λt x=>t.set x.1 (some (.tab x.2))) t).get b=some o->(∃c,(b,c)∈l/\o=.tab c)\/t.get b=some o:=by
  intro l
  induction l with
  |nil=>intro t h;exact .inr h
  |cons x l ih=>
   intro t h;rw[List.foldl_cons]at h;rcases ih _ h with⟨c,h1,h2⟩|h1
   ·exact .inl ⟨c,by simp[h1],h2⟩
   ·rw[Tr.yI]at h1;split at h1
    ·rename_i e;simp only[aab]at h1;subst e;exact .inl ⟨x.2,by simp,h1.symm⟩
    ·exact .inr h1
 rcases key tabs .e h with h1|h1
 ·exact h1
 ·cases h1
def Ix(w:World)(g:Nat)(c:List aaa):Prop := ∃cs t fz,w.heap[g]? = some (.cells cs t fz) /\ ∀(i:Nat) x,c[i]? = some x->cs[i]? = some x
theorem Pq(P:Program)(w:World)(n:Nat)(tabs:List (Nat×List aaa))(hn:P.globals.size<=n)(hg:∀x,x∈tabs->x.1<n/\x.2.all flat=true/\Ix w x.1 x.2) :
  Rel P ⟨n,λg=>some ⟨g,0,(match w.heap[g]? with|some (.cells cs _ _)=>cs.size|_=>0),0⟩⟩ (PD n tabs) w:=by
 refine⟨rfl,aam _,λb o h=>?_,λb o h=>?_,λb1 b2 o1 o2 p1 p2 h1 h2 m1 m2 e=>?_,hn,λb pl _ h=>?_⟩
 ·obtain⟨c,h1,_⟩:=nJ h;exact(hg _ h1).1
 ·obtain⟨c,h1,rfl⟩:=nJ h;obtain⟨_,h2,cs,t,fz,h3,h4⟩:=hg _ h1;refine⟨_,rfl,t,cs,fz,h3,by simp only[h3],⟨rfl,Nat.zero_mod _⟩,?_,λe=>(by cases e),λi x hx=>⟨x,by simpa using h4 i x hx,?_⟩⟩
  ·show 0+c.length<=cs.size;rcases aar cs.size c.length with hl|hl
   ·have h5:=h4 cs.size _ (aae hl);simp at h5
   ·omega
  ·simp only[aaD]at h2;exact .of_flat _ (h2 x (aau hx))
 ·simp only[aab]at m1 m2;subst m1 m2;exact e
 ·simp only[aab]at h;subst h;exact⟨rfl,rfl⟩
theorem zaS{ρ:xt}{v v':aaa}(hv:tS v=true)(hvr:zS ρ v v'):v'=v:=by
 cases v with
 |tuple a=>
  cases hvr with
  |tuple ha hr=>
   simp only[tS,aaD]at hv
   congr 1
   apply acv;refine DE (by simpa using ha) (λi x y hx hy=>?_);exact Yg (hr i x y (by simpa using hx) (by simpa using hy)) (hv x (aau hx))
 |_=>exact Yg hvr hv
end
noncomputable section
variable {P:Program}{cls:List Nat}
structure Sub (h H:za):Prop where
 next:H.next=h.next
 ro:H.ro=h.ro
 get:∀b o,H.get b=some o->h.get b=some o
theorem Rel.sub{ρ:xt}{h H:za}{w:World}(hr:Rel P ρ h w)(s:Sub h H):Rel P ρ H w :=
 ⟨hr.next.trans s.next.symm,by rw[s.ro,s.next];exact hr.ro,λb o hb=>by rw[s.next];exact hr.eU b o (s.get b o hb),λb o hb=>by rw[s.ro];exact hr.ok b o (s.get b o hb),
  λb1 b2 o1 o2 p1 p2 h1 h2=>hr.inj b1 b2 o1 o2 p1 p2 (s.get _ _ h1) (s.get _ _ h2),by rw[s.ro];exact hr.tB,hr.XR⟩
theorem ot.sub{ρ:xt}{h H:za}(s:Sub h H){c:Nat}(hm:ot ρ H c):ot ρ h c:=by
 obtain⟨b,o,pl,hg,hro,hm,e⟩:=hm;exact⟨b,o,pl,s.get b o hg,by rw[<- s.ro];exact hro,hm,e⟩
theorem Step.sub{ρ ρ':xt}{h H h':za}{w w':World}(s:Sub h H)(st:Step P ρ H w ρ' h' w'):Step P ρ h w ρ' h' w' :=
 ⟨st.le,st.rel,st.ro.trans s.ro,st.os,st.tape,st.output,st.size,λc hc hn=>st.frame c hc (λhm=>hn (hm.sub s)),λc hc hm=>(st.A6 c hc hm).sub s⟩
def seen(k:Nat)(bs:List Nat):Option (Out×za)->Option (List aaa×List (Option wA)×Nat×Nat×Nat)
 |some (.ex .normal s,h)=>some ((List.range k).map s.get,bs.map h.get,s.size,h.next,h.ro)
 |_=>none
theorem Tv{f:FuncId}{v:aaa}{m:Nat}{tabs:List (Nat×List aaa)}(hv:tS v=true)(hn:P.globals.size<=m)(hfl:∀x,x∈tabs->x.1<m/\x.1<P.globals.size/\x.2.all flat=true)(ht:TC P f [] (PD m tabs) (λv1 _=>v1=v)){h:za}
  (hh:∀x,x∈tabs->h.get x.1=some (.tab x.2)):TC P f [] h (λv1 h1=>v1=v/\h1=h):=by
 intro ρ w cargs hr hvl
 have hT:∀x,x∈tabs->x.1<m/\x.2.all flat=true/\Ix w x.1 x.2:=by
  intro x hx;obtain⟨f1,f2,f3⟩:=hfl x hx;refine⟨f1,f3,?_⟩;obtain⟨pl,hm,t,cs,fz,h1,h2,h3,h4,h5,h6⟩:=hr.ok x.1 _ (hh x hx);obtain⟨g1,g2⟩:=hr.XR x.1 pl f2 hm;refine⟨cs,t,fz,by rw[<- g1];exact h1,λi y hy=>?_⟩;obtain⟨z,hz,hzz⟩:=h6 i y hy;simp only[g2,aay]at hz;rw[hz];simp only[aaD]at f3;rw[Yg hzz (f3 y (aau hy))]
 refine(ht _ w cargs (Pq P w m tabs hn hT) ?_).mono λe w'=>?_
 ·cases hvl.uW;exact .nil _
 rintro⟨v1,v',h1,ρ',rfl,rfl,st,hvr⟩
 have hsame:∀c,c<w.heap.size->w'.heap[c]? = w.heap[c]?:=λc hc=>st.frame c hc (by
  rintro⟨b,o,pl,hb,hro,_⟩;obtain⟨c',hc',_⟩:=nJ hb;have h1:=(hfl _ hc').1;have h2:m<=b:=hro;omega)
 exact⟨v1,v',h,ρ,rfl,⟨rfl,rfl⟩,⟨xt.le_refl _,hr.grow hsame,rfl,st.os,st.tape,st.output,st.size,λc hc _=>hsame c hc,λc _ hm=>hm⟩,S8 hvr hv ρ⟩
end
noncomputable section
variable {P:Program}{cls:List Nat}
end
end Go.Ai
