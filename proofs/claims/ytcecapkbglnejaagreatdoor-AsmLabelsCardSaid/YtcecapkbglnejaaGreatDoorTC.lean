/- A part of the proof. -/
import Derived.Test.YtcecapkbglnejaaGreatDoorTB
set_option linter.unusedVariables false
set_option linter.unusedSimpArgs false
set_option maxRecDepth 100000
namespace Go.Ai
noncomputable section
variable {P:Program}
def xr.cut(ρ:xr)(n:Nat):xr:={ρ with next:=n}
theorem zI.ext{ρ ρ':xr}(hn:ρ.next<=ρ'.next)(hm:∀b pl,b<ρ.next->ρ.m b=some pl->ρ'.m b=some pl){v v':Value}(h:zI ρ v v'):zI ρ' v v':=by
 induction h with
 |sP h=>exact .sP h
 |bool b=>exact .bool b
 |int k n=>exact .int k n
 |float k n=>exact .float k n
 |string s=>exact .string s
 |ptrNil=>exact .ptrNil
 |ptr hb hm0=>exact .ptr (aan hb hn) (hm _ _ hb hm0)
 |Yt=>exact .Yt
 |sliceNil c=>exact .sliceNil c
 |slice hb hm0 hl hc=>exact .slice (aan hb hn) (hm _ _ hb hm0) hl hc
 |sliceOut hb hc=>exact .sliceOut (aan hb hn) hc
 |nilFunc=>exact .nilFunc
 |nilIface=>exact .nilIface
 |mapNil=>exact .mapNil
 |map hb hm0=>exact .map (aan hb hn) (hm _ _ hb hm0)
 |yield hb hm0=>exact .yield (aan hb hn) (hm _ _ hb hm0)
 |iface _ ih=>exact .iface ih
 |func ha hc _ _ ih ih'=>exact .func ha hc ih ih'
 |agg ha _ ih=>exact .agg ha ih
 |tuple ha _ ih=>exact .tuple ha ih
theorem zI.down{ρ ρ2:xr}(hm:∀b,b<ρ.next->ρ2.m b=ρ.m b){v v':Value}(h:zI ρ v v'):∀{u:Value},zI ρ2 v u->zI ρ v u:=by
 induction h with
 |sP h=>intro u hu;cases hu with|sP h2=>exact .sP h2
 |bool b=>intro u hu;cases hu;exact .bool b
 |int k n=>intro u hu;cases hu;exact .int k n
 |float k n=>intro u hu;cases hu;exact .float k n
 |string s=>intro u hu;cases hu;exact .string s
 |ptrNil=>intro u hu;cases hu;exact .ptrNil
 |ptr hb hm0=>intro u hu;cases hu with|ptr hb2 hm2=>exact .ptr hb ((hm _ hb).symm.trans hm2)
 |Yt=>intro u hu;cases hu;exact .Yt
 |sliceNil c=>intro u hu;cases hu;exact .sliceNil c
 |slice hb hm0 hl hc=>
  intro u hu;cases hu with
  |slice hb2 hm2 hl2 hc2=>exact .slice hb ((hm _ hb).symm.trans hm2) hl2 hc2
  |sliceOut hb2 hc2=>exact .sliceOut hb hc2
 |sliceOut hb hc=>
  intro u hu;cases hu with
  |slice hb2 hm2 hl2 hc2=>exact .slice hb ((hm _ hb).symm.trans hm2) hl2 hc2
  |sliceOut hb2 hc2=>exact .sliceOut hb hc2
 |nilFunc=>intro u hu;cases hu;exact .nilFunc
 |nilIface=>intro u hu;cases hu;exact .nilIface
 |mapNil=>intro u hu;cases hu;exact .mapNil
 |map hb hm0=>intro u hu;cases hu with|map hb2 hm2=>exact .map hb ((hm _ hb).symm.trans hm2)
 |yield hb hm0=>intro u hu;cases hu with|yield hb2 hm2=>exact .yield hb ((hm _ hb).symm.trans hm2)
 |iface _ ih=>intro u hu;cases hu with|iface h2=>exact .iface (ih h2)
 |func ha hc h1 h2 ih ih'=>
  rename_i f a c a' c';intro u hu;cases hu with
  |func ha2 hc2 k1 k2=>
   refine .func ha2 hc2 (λi x y hx hy=>?_) (λi x y hx hy=>?_)
   ·obtain⟨z,hz⟩:∃z,a'[i]? = some z:=by
     have hlt:i<a.size:=by
      rcases aaA i a.size with h|h
      ·exact h
      ·rw[aaM h]at hx;cases hx
     exact⟨_,aaN (ha ▸ hlt)⟩
    exact ih i x z hx hz (k1 i x y hx hy)
   ·obtain⟨z,hz⟩:∃z,c'[i]? = some z:=by
     have hlt:i<c.size:=by
      rcases aaA i c.size with h|h
      ·exact h
      ·rw[aaM h]at hx;cases hx
     exact⟨_,aaN (hc ▸ hlt)⟩
    exact ih' i x z hx hz (k2 i x y hx hy)
 |agg ha h1 ih=>
  rename_i a a';intro u hu;cases hu with
  |agg ha2 k1=>
   refine .agg ha2 (λi x y hx hy=>?_)
   obtain⟨z,hz⟩:∃z,a'[i]? = some z:=by
    have hlt:i<a.size:=by
     rcases aaA i a.size with h|h
     ·exact h
     ·rw[aaM h]at hx;cases hx
    exact⟨_,aaN (ha ▸ hlt)⟩
   exact ih i x z hx hz (k1 i x y hx hy)
 |tuple ha h1 ih=>
  rename_i a a';intro u hu;cases hu with
  |tuple ha2 k1=>
   refine .tuple ha2 (λi x y hx hy=>?_)
   obtain⟨z,hz⟩:∃z,a'[i]? = some z:=by
    have hlt:i<a.size:=by
     rcases aaA i a.size with h|h
     ·exact h
     ·rw[aaM h]at hx;cases hx
    exact⟨_,aaN (ha ▸ hlt)⟩
   exact ih i x z hx hz (k1 i x y hx hy)
theorem xw.ext{ρ ρ':xr}(hn:ρ.next<=ρ'.next)(hm:∀b pl,b<ρ.next->ρ.m b=some pl->ρ'.m b=some pl){wr:Bool}{c:List Value}{t:TypeId}{pl:Place}{w:World}(hc:xw P ρ wr c t pl w):xw P ρ' wr c t pl w:=by
 obtain⟨cs,fz,h1,h2,h3,h4,h5,h6⟩:=hc;exact⟨cs,fz,h1,h2,h3,h4,h5,λi x hx=>by obtain⟨y,hy,hv⟩:=h6 i x hx;exact⟨y,hy,hv.ext hn hm⟩⟩
theorem xw.down{ρ ρ2:xr}(hm:∀b,b<ρ.next->ρ2.m b=ρ.m b){wr wr2:Bool}{c:List Value}{t:TypeId}{pl:Place}{w w2:World}(h:xw P ρ wr c t pl w)(h2:xw P ρ2 wr2 c t pl w2):xw P ρ wr2 c t pl w2:=by
 obtain⟨cs,fz,a1,a2,a3,a4,a5,a6⟩:=h;obtain⟨cs2,fz2,b1,b2,b3,b4,b5,b6⟩:=h2
 exact⟨cs2,fz2,b1,b2,b3,b4,b5,λi x hx=>by
  obtain⟨y,hy,hv⟩:=a6 i x hx;obtain⟨y2,hy2,hv2⟩:=b6 i x hx;exact⟨y2,hy2,hv.down hm hv2⟩⟩
theorem ue.ext{ρ ρ':xr}(hn:ρ.next<=ρ'.next)(hm:∀b pl,b<ρ.next->ρ.m b=some pl->ρ'.m b=some pl){wr:Bool}{o:vg}{pl:Place}{w:World}(hc:ue P ρ wr o pl w):ue P ρ' wr o pl w:=by
 cases o with
 |cells c t=>exact xw.ext hn hm hc
 |map es q=>obtain⟨ms,h1,h2,h3⟩:=hc;exact⟨ms,h1,h2,λi x m hx hm0=>⟨(h3 i x m hx hm0).1.ext hn hm,(h3 i x m hx hm0).2.1.ext hn hm,(h3 i x m hx hm0).2.2⟩⟩
 |iter m a b c=>obtain⟨m',h1,h0,h2⟩:=hc;exact⟨m',h1,h0,h2.ext hn hm⟩
 |tab c=>obtain⟨t,h1⟩:=hc;exact⟨t,xw.ext hn hm h1⟩
 |siter s pos=>exact hc
 |loop l=>obtain⟨tm,d,fn,h1,h2⟩:=hc;exact⟨tm,d,fn,h1,h2.size,λi=>(h2.get i).ext hn hm⟩
theorem ue.down{ρ ρ2:xr}(hm:∀b,b<ρ.next->ρ2.m b=ρ.m b){wr wr2:Bool}{o:vg}{pl:Place}{w w2:World}(h:ue P ρ wr o pl w)(h2:ue P ρ2 wr2 o pl w2):ue P ρ wr2 o pl w2:=by
 cases o with
 |cells c t=>exact xw.down hm h h2
 |iter m a b c=>
  obtain⟨m1,a1,_,a2⟩:=h;obtain⟨m2,b1,b0,b2⟩:=h2;exact⟨m2,b1,b0,a2.down hm b2⟩
 |siter s pos=>exact h2
 |tab c=>
  obtain⟨t,cs,fz,a1,a2,a3,a4,a5,a6⟩:=h;obtain⟨t2,cs2,fz2,b1,b2,b3,b4,b5,b6⟩:=h2
  exact⟨t2,cs2,fz2,b1,b2,b3,b4,b5,λi x hx=>by
   obtain⟨y,hy,hv⟩:=a6 i x hx;obtain⟨y2,hy2,hv2⟩:=b6 i x hx;exact⟨y2,hy2,hv.down hm hv2⟩⟩
 |map es q=>
  obtain⟨ms,a1,a2,a3⟩:=h;obtain⟨ms2,b1,b2,b3⟩:=h2;refine⟨ms2,b1,b2,λi x m hx hm0=>?_⟩
  obtain⟨z,hz⟩:∃z,ms[i]? = some z:=by
   have hlt:i<ms.size:=by
    rcases aaA i es.length with h|h
    ·omega
    ·rw[aao h]at hx;cases hx
   exact⟨_,aaN hlt⟩
  exact⟨(a3 i x z hx hz).1.down hm (b3 i x m hx hm0).1,(a3 i x z hx hz).2.1.down hm (b3 i x m hx hm0).2.1,(b3 i x m hx hm0).2.2⟩
 |loop l=>
  obtain⟨tm,d,fn,a1,a2⟩:=h;obtain⟨tm2,d2,fn2,b1,b2⟩:=h2;exact⟨tm2,d2,fn2,b1,b2.size,λi=>(a2.get i).down hm (b2.get i)⟩
theorem ue.QW{ρ:xr}{n m:Nat}(h:n<=m){wr:Bool}{o:vg}{pl:Place}{w:World}(hc:ue P (ρ.cut n) wr o pl w):ue P (ρ.cut m) wr o pl w:=ue.ext (ρ:=ρ.cut n) (ρ':=ρ.cut m) h (λ_ _ _ h=>h) hc
theorem ue.iL{ρ ρ':xr}{n:Nat}(hm:∀b pl,ρ.m b=some pl->ρ'.m b=some pl){wr:Bool}{o:vg}{pl:Place}{w:World}(hc:ue P (ρ.cut n) wr o pl w):ue P (ρ'.cut n) wr o pl w:=ue.ext (ρ:=ρ.cut n) (ρ':=ρ'.cut n) (aal _) (λb pl _ h=>hm b pl h) hc
theorem zI.QW{ρ:xr}{n m:Nat}(h:n<=m){v v':Value}(hv:zI (ρ.cut n) v v'):zI (ρ.cut m) v v':=zI.ext (ρ:=ρ.cut n) (ρ':=ρ.cut m) h (λ_ _ _ h=>h) hv
theorem zI.iL{ρ ρ':xr}{n:Nat}(hm:∀b pl,ρ.m b=some pl->ρ'.m b=some pl){v v':Value}(hv:zI (ρ.cut n) v v'):zI (ρ'.cut n) v v':=zI.ext (ρ:=ρ.cut n) (ρ':=ρ'.cut n) (aal _) (λb pl _ h=>hm b pl h) hv
structure yI where
 j:Nat
 o:Oper
 v:Value
 s:Env
 g:za
 g':za
 rd:Nat->Bool
 tc:Nat->Bool
def vG(T:List yI)(p:yI->Bool):Option yI:=(T.filter p).getLast?
def Uf(t:Nat)(r:yI):Bool:=decide (r.o.dst=some t)
def V7(T:List yI)(s0:Env)(t:Nat):Value:=match vG T (Uf t) with|some r=>r.v|none=>s0.get t
def aR(T:List yI)(n0:Nat)(t:Nat):Nat:=match vG T (Uf t) with|some r=>r.g'.next|none=>n0
def Xg(T:List yI)(h0:za)(b:Nat):Option vg:=match vG T (λr=>r.tc b) with|some r=>r.g'.get b|none=>h0.get b
def dR(T:List yI)(n0:Nat)(b:Nat):Nat:=match vG T (λr=>r.tc b) with|some r=>r.g'.next|none=>n0
inductive Prec (ops:Array Oper):Nat->Nat->Prop
 |one {j:Nat} {o:Oper} {e:Edge} (ho:ops[j]? = some o) (he:e∈o.after) (hb:Region.binds .any e=true):Prec ops e.on j
 |more {i j:Nat} {o:Oper} {e:Edge} (ho:ops[j]? = some o) (he:e∈o.after) (hb:Region.binds .any e=true) (h:Prec ops i e.on):Prec ops i j
structure fW (ops:Array Oper) (x y:yI):Prop where
 d1:∀d,x.o.dst=some d->d∉y.o.looksAt ops/\y.o.dst≠some d
 d2:∀d,y.o.dst=some d->d∉x.o.looksAt ops
 b1:∀b,x.tc b=true->y.rd b=false/\y.tc b=false
 b2:∀b,y.tc b=true->x.rd b=false
structure Told (P:Program) (ops:Array Oper) (s0:Env) (h0:za) (A:List yI) (r:yI):Prop where
 op:ops[r.j]? = some r.o
 env:∀t,r.s.get t=V7 A s0 t
 size:r.s.size=s0.size
 heap:∀b,r.g.get b=if r.rd b=true then Xg A h0 b else none
 ro:r.g.ro=h0.ro
 n0:h0.next<=r.g.next
 nA:∀x,x∈A->x.g'.next<=r.g.next
 n1:r.g.next<=r.g'.next
 SD:Zt P ops r.s r.o r.g r.v r.g'
 put:∀d,r.o.dst=some d->d<s0.size
 tc1:∀b,r.tc b=true->r.rd b=true\/(r.g.next<=b/\b<r.g'.next)
 SV:∀b,r.tc b=false->r.g'.get b=r.g.get b
 SW:∀b o,r.tc b=true->b<r.g.next->r.g'.get b=some o->r.g.get b≠none
structure Valid (P:Program) (ops:Array Oper) (s0:Env) (h0:za) (tr:List yI):Prop where
 nodup:(tr.map (·.j)).Nodup
 all:∀i,i<ops.size->∃r,r∈tr/\r.j=i
 told:∀A r B,tr=A++r::B->Told P ops s0 h0 A r
 Ur:∀A r B,tr=A++r::B->∀e,e∈r.o.after->Region.binds .any e=true->∃x,x∈A/\x.j=e.on
 apart:∀A x B y C,tr=A++x::(B++y::C)->Prec ops x.j y.j\/fW ops x y
theorem WO{tr A B:List yI}{r x:yI}(hn:(tr.map (·.j)).Nodup)(e:tr=A++r::B)(hx:x∈A\/x∈B):x.j≠r.j:=by
 subst e;rw[abN,abz]at hn;have h1:=List.nodup_append.1 hn;intro ej;rcases hx with hx|hx
 ·exact h1.2.2 x.j (List.mem_map_of_mem hx) r.j (by simp) ej
 ·have:=(List.nodup_cons.1 h1.2.1).1;exact this (ej ▸ List.mem_map_of_mem hx)
theorem Ii{ops:Array Oper}{s0:Env}{h0:za}{tr:List yI}(V:Valid P ops s0 h0 tr){S:Nat->Bool}(hdown:∀i j,Prec ops i j->S j=true->S i=true){A B:List yI}{r:yI}(e:tr=A++r::B)
  (hready:∀i,Prec ops i r.j->S i=true) (hnot:S r.j=false) {p:yI->Bool} (hp:∀x,(x∈A->p x=true->Prec ops x.j r.j)/\(x∈B->p x=true->Prec ops r.j x.j)) :
  (A.filter (λx=>S x.j)).filter p=A.filter p/\(B.filter (λx=>S x.j)).filter p=[]:=by
 constructor
 ·rw[abW];apply abJ;intro x hx;cases hpx:p x with
  |false=>simp
  |true=>rw[hready _ ((hp x).1 hx hpx)];rfl
 ·rw[abW,acs];intro x hx hc;simp only[aah]at hc;have:=hdown _ _ ((hp x).2 hx hc.1) hc.2;rw[hnot]at this;cases this
theorem Valid.order{ops:Array Oper}{s0:Env}{h0:za}{tr A B:List yI}{r:yI}(V:Valid P ops s0 h0 tr)(e:tr=A++r::B){p:yI->Bool}(hA:∀x,fW ops x r->p x=false)(hB:∀x,fW ops r x->p x=false) :
  ∀x,(x∈A->p x=true->Prec ops x.j r.j)/\(x∈B->p x=true->Prec ops r.j x.j):=by
 intro x
 constructor
 ·intro hx hpx;obtain⟨A1,A2,rfl⟩:=aaV hx;rcases V.apart A1 x A2 r B (by simp[e]) with h|h
  ·exact h
  ·rw[hA x h]at hpx;cases hpx
 ·intro hx hpx;obtain⟨B1,B2,rfl⟩:=aaV hx;rcases V.apart A r B1 x B2 e with h|h
  ·exact h
  ·rw[hB x h]at hpx;cases hpx
end
noncomputable section
variable {P:Program}
structure KY (P:Program) (tr:List yI) (s0:Env) (h0:za) (N:Nat) (ρ0:xr) (w0:World) (S:Nat->Bool) (ρ:xr) (w:World) (tm:Array Value):Prop where
 next:ρ.next=N
 old:∀b,b<h0.next->ρ.m b=ρ0.m b
 size:s0.size=tm.size
 env:∀t,zI (ρ.cut (aR (tr.filter λr=>S r.j) h0.next t)) (V7 (tr.filter λr=>S r.j) s0 t) (tm.getD t undef)
 heap:∀b o,Xg (tr.filter λr=>S r.j) h0 b=some o->b<dR (tr.filter λr=>S r.j) h0.next b /\
  ∃pl,ρ.m b=some pl/\ue P (ρ.cut (dR (tr.filter λr=>S r.j) h0.next b)) (decide (h0.ro<=b)) o pl w
 inj:∀b1 b2 o1 o2 p1 p2,Xg (tr.filter λr=>S r.j) h0 b1=some o1->Xg (tr.filter λr=>S r.j) h0 b2=some o2->ρ.m b1=some p1->ρ.m b2=some p2->p1.c=p2.c->b1=b2
 fresh:∀x,x∈tr->S x.j=false->∀b,x.g.next<=b->b<x.g'.next->ρ.m b=none
 os:w.os=w0.os
 tape:w.tape=w0.tape
 output:w.output=w0.output
 Jh:w0.heap.size<=w.heap.size
 frame:∀c,c<w0.heap.size->¬J0 ρ0 h0 c->w.heap[c]? = w0.heap[c]?
 fy:∀b o pl,Xg (tr.filter λr=>S r.j) h0 b=some o->h0.ro<=b->ρ.m b=some pl->pl.c<w0.heap.size->J0 ρ0 h0 pl.c
 dQ:P.globals.size<=h0.ro
 gl:∀b pl,b<P.globals.size->ρ.m b=some pl->pl.c=b/\pl.base=0
def km(S:Nat->Bool)(j:Nat):Nat->Bool:=λi=>S i||decide (i=j)
section
variable {ops:Array Oper}{s0:Env}{h0:za}{tr A B:List yI}{r:yI}{S:Nat->Bool}
theorem bC(e:tr=A++r::B)(hnot:S r.j=false):tr.filter (λx=>S x.j)=A.filter (λx=>S x.j)++B.filter (λx=>S x.j):=by
 subst e;simp[hnot]
theorem iY(V:Valid P ops s0 h0 tr)(e:tr=A++r::B):tr.filter (λx=>km S r.j x.j)=A.filter (λx=>S x.j)++r::B.filter (λx=>S x.j):=by
 have hA:A.filter (λx=>km S r.j x.j)=A.filter (λx=>S x.j):=abJ λx hx=>by simp[km,WO V.nodup e (.inl hx)]
 have hB:B.filter (λx=>km S r.j x.j)=B.filter (λx=>S x.j):=abJ λx hx=>by simp[km,WO V.nodup e (.inr hx)]
 rw[e,aaS,abF,hA,hB,aam (by simp[km])]
theorem eX(V:Valid P ops s0 h0 tr)(hdown:∀i j,Prec ops i j->S j=true->S i=true)(e:tr=A++r::B)(hready:∀i,Prec ops i r.j->S i=true)(hnot:S r.j=false){p:yI->Bool}
  (hA:∀x,fW ops x r->p x=false) (hB:∀x,fW ops r x->p x=false):vG (tr.filter λx=>S x.j) p=vG A p:=by
 obtain⟨h1,h2⟩:=Ii V hdown e hready hnot (V.order e hA hB);rw[vG,bC e hnot,aaS,h1,h2,List.append_nil];rfl
theorem JM(V:Valid P ops s0 h0 tr)(hdown:∀i j,Prec ops i j->S j=true->S i=true)(e:tr=A++r::B)(hready:∀i,Prec ops i r.j->S i=true)(hnot:S r.j=false){p:yI->Bool}(hr:p r=true)
  (hA:∀x,fW ops x r->p x=false) (hB:∀x,fW ops r x->p x=false):vG (tr.filter λx=>km S r.j x.j) p=some r:=by
 obtain⟨h1,h2⟩:=Ii V hdown e hready hnot (V.order e hA hB);rw[vG,iY V e,aaS,abF,aam hr,h1,h2];simp
theorem JN(V:Valid P ops s0 h0 tr)(e:tr=A++r::B)(hnot:S r.j=false){p:yI->Bool}(hr:p r=false):vG (tr.filter λx=>km S r.j x.j) p=vG (tr.filter λx=>S x.j) p:=by
 rw[vG,vG,iY V e,bC e hnot,aaS,abF,hr,aak (by simp),aaS]
theorem XJ{T:List yI}{p:yI->Bool}{x:yI}(h:vG T p=some x):x∈T/\p x=true:=by
 have:=List.mem_of_getLast? h;exact abU.1 this
theorem Gn(hro0:h0.ro<=h0.next)(V:Valid P ops s0 h0 tr)(hdown:∀i j,Prec ops i j->S j=true->S i=true)(e:tr=A++r::B)(hready:∀i,Prec ops i r.j->S i=true)(hnot:S r.j=false)
  {N:Nat} (hN:∀x,x∈tr->x.g'.next<=N) {ρ0 ρ:xr} {w0 w:World} {tm:Array Value} (I:KY P tr s0 h0 N ρ0 w0 S ρ w tm) (ds:List Deferred) (rest:List Nat) (b:Frame) (k:List Item) (cs:List Frame) :
  ∃ρ' w' tm',KY P tr s0 h0 N ρ0 w0 (km S r.j) ρ' w' tm'/\Steps P (lone (vN b tm ds (.inRegion ops (r.j::rest)::k)) cs w) (lone (vN b tm' ds (.inRegion ops rest::k)) cs w'):=by
 have D:=V.told A r B e;have hrm:r∈tr:=by rw[e];simp
 have lookEnv:∀t,t∈r.o.looksAt ops->vG (tr.filter λx=>S x.j) (Uf t)=vG A (Uf t):=λt ht=>
  eX V hdown e hready hnot (λx hx=>by
   cases hw:Uf t x with
   |false=>rfl
   |true=>exact absurd ht (hx.d1 t (abd hw)).1) (λx hx=>by
   cases hw:Uf t x with
   |false=>rfl
   |true=>exact absurd ht (hx.d2 t (abd hw)))
 have lookHeap:∀bb,r.rd bb=true->vG (tr.filter λx=>S x.j) (λx=>x.tc bb)=vG A (λx=>x.tc bb):=λbb hb=>
  eX V hdown e hready hnot (λx hx=>by
   cases hw:x.tc bb with
   |false=>rfl
   |true=>have:=(hx.b1 bb hw).1;rw[hb]at this;cases this) (λx hx=>by
   cases hw:x.tc bb with
   |false=>rfl
   |true=>have:=hx.b2 bb hw;rw[hb]at this;cases this)
 have hpVeq:∀bb,r.rd bb=true->Xg (tr.filter λx=>S x.j) h0 bb=r.g.get bb:=λbb hb=>by
  rw[D.heap,aam hb];simp only[Xg,lookHeap bb hb]
 have hpNle:∀bb,r.rd bb=true->dR (tr.filter λx=>S x.j) h0.next bb<=r.g.next:=λbb hb=>by
  simp only[dR,lookHeap bb hb];split
  ·rename_i x hx;exact D.nA x (XJ hx).1
  ·exact D.n0
 have galive:∀bb o,r.g.get bb=some o->r.rd bb=true/\Xg (tr.filter λx=>S x.j) h0 bb=some o:=λbb o hg=>by
  rw[D.heap]at hg;cases hb:r.rd bb with
  |false=>rw[hb]at hg;simp at hg
  |true=>exact⟨rfl,by rw[hpVeq bb hb,D.heap];exact hg⟩
 let ρr:=ρ.cut r.g.next
 have hrel:Rel P ρr r.g w:=by
  refine⟨rfl,?_,?_,?_,?_,by rw[D.ro];exact I.dQ,I.gl⟩
  ·have h1:=D.ro;have h2:=D.n0;show r.g.ro<=r.g.next;omega
  ·intro bb o hg;obtain⟨h1,h2⟩:=galive bb o hg;exact aan (I.heap bb o h2).1 (hpNle bb h1)
  ·intro bb o hg;obtain⟨h1,h2⟩:=galive bb _ hg;obtain⟨_,pl,hp,hc⟩:=I.heap bb o h2;refine⟨pl,hp,?_⟩;rw[D.ro];exact hc.QW (hpNle bb h1)
  ·intro b1 b2 o1 o2 p1 p2 g1 g2;exact I.inj b1 b2 o1 o2 p1 p2 (galive b1 o1 g1).2 (galive b2 o2 g2).2
 have hlook:∀t,t∈r.o.looksAt ops->zI ρr (r.s.get t) (tm.getD t undef):=by
  intro t ht;have h1:=I.env t;have e1:V7 (tr.filter λx=>S x.j) s0 t=r.s.get t:=by rw[D.env t];simp only[V7,lookEnv t ht]
  have e2:aR (tr.filter λx=>S x.j) h0.next t<=r.g.next:=by
   simp only[aR,lookEnv t ht];split
   ·rename_i x hx;exact D.nA x (XJ hx).1
   ·exact D.n0
  rw[e1]at h1;exact h1.QW e2
 obtain⟨v',w',ρq,st,hv,sx⟩:=Q8 D.op D.SD hrel (D.size.trans I.size) hlook ds rest b k cs
 let ρ':xr:={next:=N,m:=λbb=>if r.g.next<=bb/\bb<r.g'.next then ρq.m bb else ρ.m bb}
 have qnext:ρq.next=r.g'.next:=st.rel.next;have qlow:∀bb,bb<r.g.next->ρq.m bb=ρ.m bb:=λbb hb=>st.le.2 bb hb
 have pq:∀bb,bb<r.g'.next->ρ'.m bb=ρq.m bb:=by
  intro bb hb;by_cases hl:r.g.next<=bb
  ·exact aam ⟨hl,hb⟩
  ·rw[show ρ'.m bb=ρ.m bb from aak (by omega),qlow bb (by omega)]
 have rfresh:=I.fresh r hrm hnot
 have pext:∀bb pl,ρ.m bb=some pl->ρ'.m bb=some pl:=by
  intro bb pl hm
  rw[show ρ'.m bb=ρ.m bb from aak (by
   rintro⟨h1,h2⟩;rw[rfresh bb h1 h2]at hm;cases hm)]
  exact hm
 have hn1N:r.g'.next<=N:=hN r hrm
 have notMine:∀bb o pl,Xg (tr.filter λx=>S x.j) h0 bb=some o->ρ.m bb=some pl->r.rd bb=false->¬J0 ρr r.g pl.c:=by
  rintro bb o pl hg hm hb ⟨b1,o1,p1,g1,_,m1,e1⟩;obtain⟨k1,k2⟩:=galive b1 o1 g1;have:=I.inj b1 bb o1 o p1 pl k2 hg m1 hm e1;subst this;rw[hb]at k1;cases k1
 have hpVnew:∀bb,Xg (tr.filter λx=>km S r.j x.j) h0 bb=if r.tc bb=true then r.g'.get bb else Xg (tr.filter λx=>S x.j) h0 bb:=by
  intro bb;cases ht:r.tc bb with
  |true=>
   rw[aam rfl];simp only[Xg]
   rw[JM V hdown e hready hnot ht (λx hx=>by
    cases hw:x.tc bb with
    |false=>rfl
    |true=>have:=(hx.b1 bb hw).2;rw[ht]at this;cases this) (λx hx=>by
    cases hw:x.tc bb with
    |false=>rfl
    |true=>have:=(hx.b1 bb ht).2;rw[hw]at this;cases this)]
  |false=>
   rw[aak (by simp)];simp only[Xg];rw[JN V e hnot (p:=λx=>x.tc bb) ht]
 have hpNnew:∀bb,dR (tr.filter λx=>km S r.j x.j) h0.next bb=if r.tc bb=true then r.g'.next else dR (tr.filter λx=>S x.j) h0.next bb:=by
  intro bb;cases ht:r.tc bb with
  |true=>
   rw[aam rfl];simp only[dR]
   rw[JM V hdown e hready hnot ht (λx hx=>by
    cases hw:x.tc bb with
    |false=>rfl
    |true=>have:=(hx.b1 bb hw).2;rw[ht]at this;cases this) (λx hx=>by
    cases hw:x.tc bb with
    |false=>rfl
    |true=>have:=(hx.b1 bb ht).2;rw[hw]at this;cases this)]
  |false=>
   rw[aak (by simp)];simp only[dR];rw[JN V e hnot (p:=λx=>x.tc bb) ht]
 have cases':∀bb o,Xg (tr.filter λx=>km S r.j x.j) h0 bb=some o->(r.tc bb=true/\r.g'.get bb=some o)\/(r.tc bb=false/\Xg (tr.filter λx=>S x.j) h0 bb=some o):=by
  intro bb o h;rw[hpVnew]at h;cases ht:r.tc bb with
  |true=>rw[ht,aam rfl]at h;exact .inl ⟨rfl,h⟩
  |false=>rw[ht,aak (by simp)]at h;exact .inr ⟨rfl,h⟩
 refine⟨ρ',w',qH tm r.o.dst v',⟨rfl,?_,?_,?_,?_,?_,?_,st.os.trans I.os,st.tape.trans I.tape,st.output.trans I.output,aaY I.Jh st.size,?_,?_,I.dQ,λb pl hb hm=>I.gl b pl hb (by
  rw[show ρ'.m b=ρ.m b from aak (by have:=D.n0;have:=I.dQ;omega)]at hm;exact hm)⟩,sx⟩
 ·intro bb hb;rw[show ρ'.m bb=ρ.m bb from aak (by have:=D.n0;omega)];exact I.old bb hb
 ·cases r.o.dst with
  |none=>exact I.size
  |some d=>simp only[qH,Array.size_setIfInBounds];exact I.size
 ·
  intro t;by_cases ht:r.o.dst=some t
  ·have e1:vG (tr.filter λx=>km S r.j x.j) (Uf t)=some r:=JM V hdown e hready hnot (p:=Uf t) (by simp[Uf,ht]) (λx hx=>by
    cases hw:Uf t x with
    |false=>rfl
    |true=>exact absurd ht (hx.d1 t (abd hw)).2) (λx hx=>by
    cases hw:Uf t x with
    |false=>rfl
    |true=>exact absurd (abd hw) (hx.d1 t ht).2)
   simp only[V7,aR,e1]
   have e2:(qH tm r.o.dst v').getD t undef=v':=by
    have hlt:t<tm.size:=(by rw[<- I.size];exact D.put t ht);rw[ht];simp[qH,aay,hlt]
   rw[e2];refine hv.ext (by show ρq.next<=r.g'.next;rw[qnext];exact aal _) (λbb pl hb hm=>?_);show ρ'.m bb=some pl;rw[pq bb (by rw[<- qnext];exact hb)];exact hm
  ·have e1:vG (tr.filter λx=>km S r.j x.j) (Uf t)=vG (tr.filter λx=>S x.j) (Uf t):=JN V e hnot (p:=Uf t) (by simp[Uf,ht])
   have e2:(qH tm r.o.dst v').getD t undef=tm.getD t undef:=by
    cases hd:r.o.dst with
    |none=>rfl
    |some d=>
     have:d≠t:=λh=>ht (by rw[hd,h]);simp[qH,aay,this]
   have h1:=I.env t;simp only[V7,aR]at h1 ⊢;rw[e1,e2];exact h1.iL (ρ':=ρ') pext
 ·
  intro bb o hg;rcases cases' bb _ hg with⟨ht,hg'⟩|⟨ht,hg'⟩
  ·rw[hpNnew,aam ht];obtain⟨pl,hp,hc⟩:=st.rel.ok bb o hg';have hlt:=st.rel.Qv bb _ hg';refine⟨hlt,pl,by rw[pq bb hlt];exact hp,?_⟩;have hro:r.g'.ro=h0.ro:=st.ro.trans D.ro;rw[hro]at hc;exact hc.ext (by show ρq.next<=r.g'.next;rw[qnext];exact aal _) (λb2 p2 hb hm=>by show ρ'.m b2=some p2;rw[pq b2 (by rw[<- qnext];exact hb)];exact hm)
  ·rw[hpNnew,ht,aak (by simp)];obtain⟨hlt,pl,hp,hc⟩:=I.heap bb o hg';refine⟨hlt,pl,pext bb pl hp,?_⟩
   have hdone:ue P (ρ.cut (dR (tr.filter λx=>S x.j) h0.next bb)) (decide (h0.ro<=bb)) o pl w':=by
    cases hb:r.rd bb with
    |true=>
     have hgg:r.g'.get bb=some o:=(by rw[D.SV bb ht,<- hpVeq bb hb];exact hg');obtain⟨p2,hp2,hc2⟩:=st.rel.ok bb o hgg;have hbl:bb<r.g.next:=aan hlt (hpNle bb hb);rw[qlow bb hbl,hp]at hp2;cases hp2;have hro:r.g'.ro=h0.ro:=st.ro.trans D.ro;rw[hro]at hc2;exact ue.down (ρ:=ρ.cut (dR (tr.filter λx=>S x.j) h0.next bb)) (ρ2:=ρq) (λb2 hb2=>qlow b2 (aan hb2 (hpNle bb hb))) hc hc2
    |false=>exact hc.other (st.frame pl.c hc.lt (notMine bb _ pl hg' hp hb))
   exact hdone.iL (ρ':=ρ') pext
 ·
  have key:∀b1 b2 o1 o2 p1 p2,r.tc b1=true->r.g'.get b1=some o1->r.tc b2=false->Xg (tr.filter λx=>S x.j) h0 b2=some o2->ρ'.m b1=some p1->ρ'.m b2=some p2->p1.c=p2.c->b1=b2:=by
   intro b1 b2 o1 o2 p1 p2 t1 g1 t2 g2 m1 m2 ec;obtain⟨hlt2,q2,hq2,hc2⟩:=I.heap b2 o2 g2;rw[pext b2 q2 hq2]at m2;cases m2;have hl1:=st.rel.Qv b1 o1 g1;rw[pq b1 hl1]at m1;cases hb2:r.rd b2 with
   |true=>
    have hgg:r.g'.get b2=some o2:=(by rw[D.SV b2 t2,<- hpVeq b2 hb2];exact g2);have hbl:b2<r.g.next:=aan hlt2 (hpNle b2 hb2);exact st.rel.inj b1 b2 o1 _ p1 p2 g1 hgg m1 (by rw[qlow b2 hbl];exact hq2) ec
   |false=>
    by_cases hw:h0.ro<=b1
    ·have hM:J0 ρq r.g' p1.c:=⟨b1,o1,p1,g1,by rw[st.ro,D.ro];exact hw,m1,rfl⟩;have hlt:p1.c<w.heap.size:=by rw[ec];exact hc2.lt
     have:=st.fy p1.c hlt hM;rw[ec]at this;exact absurd this (notMine b2 _ p2 g2 hq2 hb2)
    ·have hb1:b1<r.g.next:=(by have:=D.n0;omega);have hne:=D.SW b1 o1 t1 hb1 g1;obtain⟨o1',ho1'⟩:∃o,r.g.get b1=some o:=by cases hh:r.g.get b1 with|none=>exact absurd hh hne|some o=>exact⟨o,rfl⟩
     rw[qlow b1 hb1]at m1;exact I.inj b1 b2 o1' _ p1 p2 (galive b1 o1' ho1').2 g2 m1 hq2 ec
  intro b1 b2 o1 o2 p1 p2 g1 g2 m1 m2 ec;rcases cases' b1 o1 g1 with⟨t1,k1⟩|⟨t1,k1⟩ <;> rcases cases' b2 o2 g2 with⟨t2,k2⟩|⟨t2,k2⟩
  ·have l1:=st.rel.Qv b1 o1 k1;have l2:=st.rel.Qv b2 o2 k2;rw[pq b1 l1]at m1;rw[pq b2 l2]at m2;exact st.rel.inj b1 b2 o1 o2 p1 p2 k1 k2 m1 m2 ec
  ·exact key b1 b2 o1 o2 p1 p2 t1 k1 t2 k2 m1 m2 ec
  ·exact(key b2 b1 o2 o1 p2 p1 t2 k2 t1 k1 m2 m1 ec.symm).symm
  ·obtain⟨_,q1,hq1,_⟩:=I.heap b1 o1 k1;obtain⟨_,q2,hq2,_⟩:=I.heap b2 o2 k2;rw[pext b1 q1 hq1]at m1;rw[pext b2 q2 hq2]at m2;cases m1;cases m2;exact I.inj b1 b2 _ _ p1 p2 k1 k2 hq1 hq2 ec
 ·
  intro x hx hS bb h1 h2;simp only[km,abY,aaI]at hS;have h3:=I.fresh x hx hS.1 bb h1 h2;have hne:x≠r:=λh=>hS.2 (by rw[h])
  have hdis:¬(r.g.next<=bb/\bb<r.g'.next):=by
   rw[e]at hx;rcases aa2.1 hx with hxA|hxB
   ·have:=D.nA x hxA;omega
   ·rcases abm.1 hxB with hxr|hxB
    ·exact absurd hxr hne
    ·obtain⟨B1,B2,rfl⟩:=aaV hxB;have:=(V.told (A++r::B1) x B2 (by simp[e])).nA r (by simp);omega
  rw[show ρ'.m bb=ρ.m bb from aak hdis];exact h3
 ·intro c hc hn
  rw[st.frame c (aan hc I.Jh) (by
   rintro⟨b1,o1,p1,g1,hro1,m1,rfl⟩;exact hn (I.fy b1 o1 p1 (galive b1 o1 g1).2 (by rw[<- D.ro];exact hro1) m1 hc))]
  exact I.frame c hc hn
 ·intro bb o pl hg hro hm hc;rcases cases' bb o hg with⟨ht,hg'⟩|⟨ht,hg'⟩
  ·rw[pq bb (st.rel.Qv bb o hg')]at hm;obtain⟨b1,o1,p1,g1,hro1,m1,e1⟩:=st.fy pl.c (aan hc I.Jh) ⟨bb,o,pl,hg',by rw[st.ro,D.ro];exact hro,hm,rfl⟩;rw[<- e1];exact I.fy b1 o1 p1 (galive b1 o1 g1).2 (by rw[<- D.ro];exact hro1) m1 (by rw[e1];exact hc)
  ·obtain⟨_,q,hq,_⟩:=I.heap bb o hg';rw[pext bb q hq]at hm;cases hm;exact I.fy bb _ pl hg' hro hq hc
end
end
noncomputable section
variable {P:Program}
section
variable {ops:Array Oper}{s0:Env}{h0:za}{tr:List yI}
theorem KU{listed:Array Bool}{i:Nat}(h:i∈Region.ready .any ops listed):i<ops.size/\listed.getD i true=false /\ ∀o,ops[i]? = some o->∀e,e∈o.after->Region.binds .any e=true->listed.getD e.on false=true:=by
 simp only[Region.ready,abU,abD,aah,aav]at h;refine⟨h.1,h.2.1,λo ho e he hb=>?_⟩;have:=h.2.2;rw[ho]at this;simp only[abq,ab7,Array.all_eq_true_iff_forall_mem,aa6,aav]at this;rcases this e he with h1|h1
 ·rw[hb]at h1;cases h1
 ·exact h1
theorem BH{listed:Array Bool}{i:Nat}(hi:i<ops.size)(hl:listed.getD i true=false)(h:∀o,ops[i]? = some o->∀e,e∈o.after->Region.binds .any e=true->listed.getD e.on false=true):i∈Region.ready .any ops listed:=by
 simp only[Region.ready,abU,abD,aah,aav];refine⟨hi,hl,?_⟩;rw[aaN hi];simp only[abq,ab7,Array.all_eq_true_iff_forall_mem,aa6,aav];intro e he;cases hb:Region.binds .any e with
 |false=>exact .inl rfl
 |true=>exact .inr (h _ (aaN hi) e he hb)
theorem My(hro0:h0.ro<=h0.next)(V:Valid P ops s0 h0 tr){N:Nat}(hN:∀x,x∈tr->x.g'.next<=N){ρ0:xr}{w0:World}(ds:List Deferred)(b:Frame)(k:List Item)(cs:List Frame) :
  ∀(fuel t:Nat) (listed:Array Bool) (ρ:xr) (w:World) (tm:Array Value),listed.size=ops.size->((List.range ops.size).filter λi => !listed.getD i false).length<=fuel ->
   (∀i j,Prec ops i j->listed.getD j false=true->listed.getD i false=true)->KY P tr s0 h0 N ρ0 w0 (λj=>listed.getD j false) ρ w tm ->
   ∃S ρ' w' tm',(∀r,r∈tr->S r.j=true)/\KY P tr s0 h0 N ρ0 w0 S ρ' w' tm' /\
    Steps P (lone (vN b tm ds (.inRegion ops (Region.linearise.go .any ops fuel t listed [])::k)) cs w) (lone (vN b tm' ds (.inRegion ops []::k)) cs w'):=by
 intro fuel
 induction fuel with
 |zero=>
  intro t listed ρ w tm hsz hcount hdown I;refine⟨_,ρ,w,tm,?_,I,.refl P _⟩;intro r hr;have hnil:=abv (Nat.le_zero.1 hcount);obtain⟨A,B,e⟩:=aaV hr;have yV:=(V.told A r B e).op
  have hlt:r.j<ops.size:=by
   rcases aaA r.j ops.size with h|h
   ·exact h
   ·rw[aaM h]at yV;cases yV
  cases hl:listed.getD r.j false with
  |true=>rfl
  |false=>
   have:r.j∈(List.range ops.size).filter λi => !listed.getD i false:=abU.2 ⟨abD.2 hlt,by rw[hl];rfl⟩;rw[hnil]at this;cases this
 |succ fuel ih=>
  intro t listed ρ w tm hsz hcount hdown I;simp only[Region.linearise.go]
  change ∃S ρ' w' tm',(∀r,r∈tr->S r.j=true)/\KY P tr s0 h0 N ρ0 w0 S ρ' w' tm'/\Steps P (lone (vN b tm ds (.inRegion ops (match (Region.ready .any ops listed)[t%(Region.ready .any ops listed).length]? with
   |some i=>Region.linearise.go .any ops fuel (t/(Region.ready .any ops listed).length) (listed.setIfInBounds i true) [i]
   |none=>[].reverse)::k)) cs w) _
  have getTF:∀i,i<ops.size->listed.getD i true=listed.getD i false:=by
   intro i hi;simp[aay,aaN (hsz ▸ hi)]
  by_cases hall:∀r,r∈tr->listed.getD r.j false=true
  ·
   have hnone:Region.ready .any ops listed=[]:=by
    rw[List.eq_nil_iff_forall_not_mem];intro i hi;obtain⟨h1,h2,_⟩:=KU hi;obtain⟨r,hr,hrj⟩:=V.all i h1;have:=hall r hr;rw[hrj,<- getTF i h1,h2]at this;cases this
   rw[hnone];exact⟨_,ρ,w,tm,hall,I,.refl P _⟩
  ·
   have hex:∃i,i∈Region.ready .any ops listed:=by
    have:∃A r B,tr=A++r::B/\listed.getD r.j false=false /\ ∀x,x∈A->listed.getD x.j false=true:=by
     clear ih I hN V
     induction tr with
     |nil=>exact absurd (λr hr=>by cases hr) hall
     |cons x tr iht=>
      cases hx:listed.getD x.j false with
      |false=>exact⟨[],x,tr,rfl,hx,λy hy=>by cases hy⟩
      |true=>
       obtain⟨A,r,B,e,h1,h2⟩:=iht (λh=>hall (λr hr=>by rcases abm.1 hr with rfl|hr;exact hx;exact h r hr));exact⟨x::A,r,B,by rw[e];rfl,h1,λy hy=>by rcases abm.1 hy with rfl|hy;exact hx;exact h2 y hy⟩
    obtain⟨A,r,B,e,h1,h2⟩:=this;have yV:=(V.told A r B e).op
    have hlt:r.j<ops.size:=by
     rcases aaA r.j ops.size with h|h
     ·exact h
     ·rw[aaM h]at yV;cases yV
    refine⟨r.j,BH hlt (by rw[getTF _ hlt];exact h1) (λo ho ed hed hb=>?_)⟩;rw[yV]at ho;cases ho;obtain⟨x,hx,hxe⟩:=V.Ur A r B e ed hed hb;rw[<- hxe];exact h2 x hx
   cases hi:(Region.ready .any ops listed)[t%(Region.ready .any ops listed).length]? with
   |none=>
    obtain⟨i,hmem⟩:=hex;have hpos:0<(Region.ready .any ops listed).length:=List.length_pos_of_mem hmem;rw[aae (Nat.mod_lt _ hpos)]at hi;cases hi
   |some i=>
    simp only[];rw[linearise_go_acc,List.reverse_singleton,List.singleton_append];obtain⟨hlt,hl,hed⟩:=KU (aaG hi);obtain⟨r,hr,hrj⟩:=V.all i hlt;obtain⟨A,B,e⟩:=aaV hr;subst hrj;have yV:=(V.told A r B e).op
    have hready:∀q,Prec ops q r.j->listed.getD q false=true:=by
     intro q hq;cases hq with
     |one ho he hb=>exact hed _ ho _ he hb
     |more ho he hb hp=>exact hdown _ _ hp (hed _ ho _ he hb)
    have hnot:listed.getD r.j false=false:=(by rw[<- getTF _ hlt];exact hl);obtain⟨ρ1,w1,tm1,I1,sx⟩:=Gn hro0 V hdown e hready hnot hN I ds (Region.linearise.go .any ops fuel (t/(Region.ready .any ops listed).length) (listed.setIfInBounds r.j true) []) b k cs
    have hadd:(λj=>(listed.setIfInBounds r.j true).getD j false)=km (λj=>listed.getD j false) r.j:=by
     funext j
     simp only[km,aay,aa7];by_cases ej:r.j=j
     ·subst ej;rw[aam rfl,aam (by omega)];simp
     ·rw[aak ej];have:decide (j=r.j)=false:=abQ (λh=>ej h.symm);rw[this,Bool.or_false]
    rw[<- hadd]at I1
    have hcnt:((List.range ops.size).filter λi => !(listed.setIfInBounds r.j true).getD i false).length<=fuel:=by
     have hmem:r.j∈(List.range ops.size).filter λi => !listed.getD i false:=abU.2 ⟨abD.2 hlt,by rw[hnot];rfl⟩
     have hsub:(List.range ops.size).filter (λi => !(listed.setIfInBounds r.j true).getD i false)=((List.range ops.size).filter λi => !listed.getD i false).filter (λi=>decide (i≠r.j)):=by
      rw[abW];apply abJ;intro i _;have:=congrFun hadd i;simp only[km]at this;rw[this];by_cases ei:i=r.j <;> simp[ei]
     rw[hsub]
     have hlen:∀(l:List Nat),r.j∈l->(l.filter λi=>decide (i≠r.j)).length<l.length:=by
      intro l hl;apply List.length_filter_lt_length_iff_exists.2;exact⟨r.j,hl,by simp⟩
     have:=hlen _ hmem;omega
    have hdn:∀q j,Prec ops q j->(listed.setIfInBounds r.j true).getD j false=true->(listed.setIfInBounds r.j true).getD q false=true:=by
     intro q j hq hj;have h1:=congrFun hadd j;have h2:=congrFun hadd q;rw[h1]at hj;rw[h2];simp only[km,aa6,aaU]at hj ⊢;rcases hj with hj|rfl
     ·exact .inl (hdown q j hq hj)
     ·exact .inl (hready q hq)
    obtain⟨S,ρ2,w2,tm2,hS,I2,sx2⟩:=ih (t/(Region.ready .any ops listed).length) (listed.setIfInBounds r.j true) ρ1 w1 tm1 (by simpa using hsz) hcnt hdn I1;exact⟨S,ρ2,w2,tm2,hS,I2,sx.trans sx2⟩
theorem UH(hmix:P.follows .mixedOrders=true){id:Nat}{rd:Option Nat}{Q:Ex->Env->za->Prop}(V:Valid P ops s0 h0 tr){sf:Env}{hf:za}(hs:∀t,sf.get t=V7 tr s0 t)(hsz:sf.size=s0.size)
  (hh:∀b,hf.get b=Xg tr h0 b) (hro:hf.ro=h0.ro) (hn:h0.next<=hf.next) (hN:∀x,x∈tr->x.g'.next<=hf.next) (hq:Q .normal sf hf):T P rd (.region id ops true) s0 h0 Q:=by
 intro ρ w tm ds hr hse b hb k cs
 let w1:World:={w with drawn:=w.drawn+1}
 let ρ1:xr:={next:=hf.next,m:=λbb=>if bb<h0.next then ρ.m bb else none}
 have hm1:∀bb pl,bb<ρ.next->ρ.m bb=some pl->ρ1.m bb=some pl:=λbb pl hb hm=>by
  rw[show ρ1.m bb=ρ.m bb from aam (by rw[<- hr.next];exact hb)];exact hm
 have hnil:tr.filter (λr=>(Array.replicate ops.size false).getD r.j false)=[]:=by
  rw[acs];intro r _ h;simp only[aay,abV]at h;split at h <;> simp at h
 have I:KY P tr s0 h0 hf.next ρ w (λj=>(Array.replicate ops.size false).getD j false) ρ1 w1 tm:=by
  refine⟨rfl,λbb hb=>aam hb,hse.size,?_,?_,?_,?_,rfl,rfl,rfl,aal _,λ_ _ _=>rfl,?_,hr.dQ,λbb pl hb hm=>hr.Yt bb pl hb (by
   rw[show ρ1.m bb=ρ.m bb from aam (aan hb (aaY hr.dQ hr.ro))]at hm;exact hm)⟩
  ·intro t;rw[hnil];exact(hse.get t).ext (ρ':=ρ1.cut h0.next) (by rw[hr.next];exact aal _) hm1
  ·intro bb o hg;rw[hnil]at hg ⊢;have hb:=hr.Qv bb _ hg;obtain⟨pl,hp,hc⟩:=hr.ok bb o hg;refine⟨hb,pl,hm1 bb pl (by rw[hr.next];exact hb) hp,?_⟩;exact ue.other (ue.ext (ρ:=ρ) (ρ':=ρ1.cut h0.next) (by rw[hr.next];exact aal _) hm1 hc) rfl
  ·intro b1 b2 o1 o2 p1 p2 g1 g2 m1 m2 e;rw[hnil]at g1 g2;have l1:=hr.Qv b1 o1 g1;have l2:=hr.Qv b2 o2 g2;rw[show ρ1.m b1=ρ.m b1 from aam l1]at m1;rw[show ρ1.m b2=ρ.m b2 from aam l2]at m2;exact hr.inj b1 b2 o1 o2 p1 p2 g1 g2 m1 m2 e
  ·intro x hx _ bb h1 h2;obtain⟨A,B,e⟩:=aaV hx;have:=(V.told A x B e).n0;exact aak (by omega)
  ·intro bb o pl hg hro' hm hc;rw[hnil]at hg;have l:=hr.Qv bb o hg;rw[show ρ1.m bb=ρ.m bb from aam l]at hm;exact⟨bb,o,pl,hg,hro',hm,rfl⟩
 have hcount:((List.range ops.size).filter λi => !(Array.replicate ops.size false).getD i false).length<=ops.size:=by
  have:=List.length_filter_le (λi => !(Array.replicate ops.size false).getD i false) (List.range ops.size);simpa using this
 obtain⟨S,ρ2,w2,tm2,hS,I2,sx⟩:=My hr.ro V hN ds b k cs ops.size (w.tape w.drawn (.order b.fn id)) (Array.replicate ops.size false) ρ1 w1 tm (by simp) hcount (λi j _ hj=>by
  simp only[aay,abV]at hj;split at hj <;> simp at hj) I
 have hfull:tr.filter (λr=>S r.j)=tr:=List.filter_eq_self.2 hS;have lastn:∀(p:yI->Bool) x,vG tr p=some x->x.g'.next<=hf.next:=λp x hx=>hN x (XJ hx).1;have hcut:ρ2=ρ2.cut hf.next:=by have:=I2.next;cases ρ2;simp only at this;subst this;rfl
 have hrel:Rel P ρ2 hf w2:=by
  refine⟨I2.next,by rw[hro];exact aaY hr.ro hn,?_,?_,?_,by rw[hro];exact hr.dQ,I2.gl⟩
  ·intro bb o hg;rw[hh]at hg;have:=(I2.heap bb o (by rw[hfull];exact hg)).1;rw[hfull]at this;refine aan this ?_;simp only[dR];split
   ·rename_i x hx;exact lastn _ x hx
   ·exact hn
  ·intro bb o hg;rw[hh]at hg;obtain⟨_,pl,hp,hc⟩:=I2.heap bb o (by rw[hfull];exact hg);refine⟨pl,hp,?_⟩;rw[hro];rw[hfull]at hc;rw[hcut];refine ue.QW ?_ hc;simp only[dR];split
   ·rename_i x hx;exact lastn _ x hx
   ·exact hn
  ·intro b1 b2 o1 o2 p1 p2 g1 g2;rw[hh]at g1 g2;exact I2.inj b1 b2 o1 o2 p1 p2 (by rw[hfull];exact g1) (by rw[hfull];exact g2)
 refine⟨.normal,sf,hf,ρ2,w2,tm2,ds,hq,⟨⟨by rw[I2.next,hr.next];exact hn,λbb hb=>I2.old bb (by rw[<- hr.next];exact hb)⟩,hrel,hro,I2.os,I2.tape,I2.output,I2.Jh,I2.frame,?_⟩,⟨hsz.trans I2.size,λt=>?_⟩,.refl _ _ _,?_⟩
 ·rintro c hc ⟨bb,o,pl,hg,hrb,hm,rfl⟩;rw[hh]at hg;exact I2.fy bb o pl (by rw[hfull];exact hg) (by rw[<- hro];exact hrb) hm hc
 ·have:=I2.env t;rw[hfull]at this;rw[hs t];rw[hcut];refine zI.QW ?_ this;simp only[aR];split
  ·rename_i x hx;exact lastn _ x hx
  ·exact hn
 ·refine .head VT ?_
  have:Region.schedule (P.follows .mixedOrders) ops (w.tape w.drawn (.order b.fn id))=Region.linearise .any ops (w.tape w.drawn (.order b.fn id)):=by
   simp only[Region.schedule,hmix,Bool.true_or,aac]
  rw[this];exact sx.trans (.one XF)
end
end
noncomputable section
variable {P:Program}
def Wh:List Tmp->List Value->Env->Option Env
 |[],[],s=>some s
 |t::ts,v::vs,s=>(match s.put (some t) v with
  |some s1=>Wh ts vs s1
  |none=>none)
 |_,_,_=>none
theorem Kc{ρ:xr}:∀{ts:List Tmp} {vs vs':List Value} {s s':Env} {tm:Array Value},Wh ts vs s=some s'->vV ρ s tm->wC ρ vs vs' ->
  ts.length=vs'.length/\vV ρ s' ((ts.zip vs').foldl (λtm x=>tm.setIfInBounds x.1 x.2) tm)
 |[],[],vs',s,s',tm,he,hs,hv=>by
  cases hv.uT;simp only[Wh,aab]at he;subst he;exact⟨rfl,hs⟩
 |t::ts,v::vs,vs',s,s',tm,he,hs,hv=>by
  obtain⟨y,ys,rfl,h1,h2⟩:=hv.cons_inv;simp only[Wh]at he;split at he
  ·rename_i s1 hp;have:=Kc he (hs.put h1 hp) h2;exact⟨by simp[this.1],by simpa [qH] using this.2⟩
  ·cases he
 |[],_::_,_,_,_,_,he,_,_=>by simp[Wh]at he
 |_::_,[],_,_,_,_,he,_,_=>by simp[Wh]at he
def Ub(l:K1)(tm:Array Value)(d:Nat)(fn:FuncId):Loop:={state:=l.state,pending:=l.pending,fn:=fn,tmps:=tm,params:=l.params,assign:=l.assign,body:=l.body,defers:=d}
theorem Rel.loop{ρ:xr}{h:za}{w:World}(hr:Rel P ρ h w){b:Nat}{A:K1}{pl:Place}(hg:h.get b=some (.loop A))(hm:ρ.m b=some pl) :
  ∃tm d fn,w.heap[pl.c]? = some (.loop (Ub A tm d fn))/\vV ρ A.s tm:=hr.Lp hg hm
theorem Bm(w:World)(l k:Nat)(o:Obj)(hk:k≠l):(w.heap.setIfInBounds l o)[k]? = w.heap[k]?:=by rw[aa7,aak (Ne.symm hk)]
theorem Bl(w:World)(l:Nat)(o:Obj)(hl:l<w.heap.size):(w.heap.setIfInBounds l o)[l]? = some o:=by rw[aa7,aam rfl,aam hl]
theorem Step.Px{ρ:xr}{h:za}{w:World}(hr:Rel P ρ h w){b:Nat}{A A':K1}{pl:Place}(hg:h.get b=some (.loop A))(hm:ρ.m b=some pl)(hro:h.ro<=b){tm:Array Value}{d fn:Nat}
  (ho:w.heap[pl.c]? = some (.loop (Ub A tm d fn))) (hs:vV ρ A'.s tm) :
  Step P ρ h w ρ (h.set b (some (.loop A'))) {w with heap:=w.heap.setIfInBounds pl.c (.loop (Ub A' tm d fn))} :=
 Step.DK hr hg hm hro (ob' := .loop A') ⟨tm,d,fn,Bl w pl.c _ (YV ho),hs⟩ rfl rfl rfl (by simp) (λk hk=>Bm w pl.c k _ hk)
theorem Wi{w:World}{l:Nat}{r:Loop}(h:w.heap[l]? = some (.loop r)):(Instr.getLoop l).run P w=.ok r w:=by
 simp only[Instr.getLoop,getObj,aai];simp only[Sem.run,h,aad];rfl
theorem Kd{w:World}{l:Nat}{r:Loop}(h:w.heap[l]? = some (.loop r))(o:Obj):(setObj l o).run P w=.ok () {w with heap:=w.heap.setIfInBounds l o}:=by
 simp only[setObj,Sem.run,h]
theorem GZ{w:World}{l:Nat}{r:Loop}{args:Array Value}(h:w.heap[l]? = some (.loop r))(hn:args.size=r.params.size) :
  (Instr.yield l args).run P w=.ok (.round l r.fn ((r.params.toList.zip args.toList).foldl (λtm x=>tm.setIfInBounds x.1 x.2) r.tmps) r.assign r.body) w:=by
 simp only[Instr.yield,aai,Wi h,aad];rw[aak (by simp[hn])];simp only[aap];rw[<- Array.foldl_toList,Array.toList_zip]
theorem l7{w:World}{l:Nat}{r:Loop}(h:w.heap[l]? = some (.loop r))(hr:r.state=.ready) :
  (Instr.beginRound l).run P w=.ok () {w with heap:=w.heap.setIfInBounds l (.loop {r with state := .busy})}:=by
 simp only[Instr.beginRound,aai,Wi h,aad,Kd h,hr,aap]
theorem Qn{w:World}{l:Nat}{r:Loop}(h:w.heap[l]? = some (.loop r))(jump:Option Code) :
  (Instr.endRound l jump).run P w=.ok (.bool jump.isNone) {w with heap:=w.heap.setIfInBounds l (.loop {r with state:=if jump.isNone then .ready else .done,pending:=jump})}:=by
 simp only[Instr.endRound,aai,Wi h,aad,Kd h,aap]
theorem BO{w:World}{l:Nat}{r:Loop}(h:w.heap[l]? = some (.loop r))(hb:(r.state == .busy)=false) :
  (Instr.endLoop l).run P w=.ok r.pending {w with heap:=w.heap.setIfInBounds l (.loop {r with state := .exhausted})}:=by
 simp only[Instr.endLoop,aai,Wi h,aad,hb,abc,aat,Kd h,aap]
section moves
variable {b:Frame}{tm:Array Value}{ds:List Deferred}{k:List Item}{cs:List Frame}{w w':World}
theorem dN{l:Nat}(hb:b.roundOf=some l)(hrun:(Instr.beginRound l).run P w=.ok () w'):step P (lone (vN b tm ds (.beginRound::k)) cs w)=.next (lone (vN b tm ds k) cs w') :=
 step_lone_go (by
  simp only[stepG,vN,stepG.exec,hb,stepG.apply];simp[hrun,Frame.finish])
def XI:Ex->Option Code
 | .normal=>none
 | .ret=>some .ret
 | .exit id=>some (.exit id)
theorem QY{l:Nat}{fr:Frame}(hb:b.roundOf=some l)(hk:b.kind=.normal){e:Ex}(todo:List Item)
  (htodo:match e with | .normal=>todo=[] | .ret=>∃t,todo=.code .ret::t | .exit id=>∃t,todo=.code (.exit id)::t/\exitTo id t=none) {v:Value}
  (hrun:(Instr.endRound l (XI e)).run P w=.ok v w') :
  step P (lone (vN b tm ds todo) (fr::cs) w)=.next (lone (fr.finish v) cs w') :=
 step_lone_go (by
  cases e with
  |normal=>subst htodo;simp only[XI]at hrun;simp[stepG,vN,stepG.exec,hb,hrun,doReturn,hk]
  |ret=>obtain⟨t,rfl⟩:=htodo;simp only[XI]at hrun;simp[stepG,vN,stepG.exec,hb,hrun,doReturn,hk]
  |exit id=>obtain⟨t,rfl,ht⟩:=htodo;simp only[XI]at hrun;simp[stepG,vN,stepG.exec,hb,ht,hrun,doReturn,hk])
theorem la{ops:Array Oper}{i:Nat}{rest:List Nat}{o:Oper}(ho:ops[i]? = some o)(hw:Region.wanted o (yielded ops tm)=true)(hd:XO o.op=false){l:Nat}{f:FuncId}{tm':Array Value}{as bd:Code}{w':World}
  (hr:(execOp (Act.eval ⟨tm,ds⟩) o).run P w=.ok (.round l f tm' as bd) w') :
  step P (lone (vN b tm ds (.inRegion ops (i::rest)::k)) cs w)=.next (lone (Frame.round l f tm' as bd .normal) (vN b tm ds (.inRegion ops (i::rest)::k)::cs) w') :=
 step_lone_go (by rw[KX ho hw hd];simp[stepG.apply,hr,vN])
theorem JJ{l:Nat}{jump:Option Code}(hrun:(Instr.endLoop l).run P w=.ok jump w') :
  step P (lone (vN b tm ds (.endRangeFunc l::k)) cs w)=.next (lone (vN b tm ds ((jump.map Item.code).toList++k)) cs w') :=
 step_lone_go (by simp[stepG,vN,stepG.exec,hrun])
theorem fu{f:Operand}{params:Array Tmp}{as bd:Code}{l:Nat}{mark:List Deferred}{w1 w2:World}{g:FuncId}{args:Array Value}
  (hrun:(Instr.enterLoop b.fn tm params as bd b.roundOf).run P w=.ok (l,mark) w1)
  (hcall:(do let d <- resolve (Act.eval ⟨tm,ds⟩) {callee := .value f,args := #[.const (.func (.yield l) #[] #[])],argTypes := #[]} 0;invoke d.target d.args:Sem Next).run P w1=.ok (.enter g args) w2) :
  step P (lone (vN b tm ds (.code (.rangeFunc f params as bd)::k)) cs w)=.next (lone (Frame.enter P g args .normal) (vN b tm (mark++ds) (.inRangeFunc l::k)::cs) w2) :=
 step_lone_go (by
  have he:=iW b tm (mark++ds) (.inRangeFunc l::k);have he':(Act.eval ⟨tm,mark++ds⟩)=(Act.eval ⟨tm,ds⟩):=by funext x;cases x <;> rfl
  rw[he']at he;simp only[vN]at he;simp only[stepG,vN,stepG.exec];simp only[Sem.runT_eq,hrun,GStep.bare_after];simp only[stepG.apply,he,Sem.runT_eq,hcall];simp[GStep.bare,GStep.after])
end moves
def TY(P:Program)(L:Nat)(args:List Value)(h:za)(R:Value->za->Prop):Prop :=
 ∀(ρ:xr) (w:World) (cargs:List Value) (pl:Place),Rel P ρ h w->wC ρ args cargs->L<ρ.next->ρ.m L=some pl ->
  ∃f tm as bd,(Instr.yield pl.c cargs.toArray).run P w=.ok (.round pl.c f tm as bd) w /\
   ∀(fr:Frame) (cs:List Frame),∃v v' h' ρ' w',R v h'/\Step P ρ h w ρ' h' w'/\zI ρ' v v'/\Steps P (lone (Frame.round pl.c f tm as bd .normal) (fr::cs) w) (lone (fr.finish v') cs w')
def K1.left(A:K1)(e:Ex):K1:={A with state:=if (XI e).isNone then .ready else .done,pending:=XI e}
theorem Mb{L:Nat}{A:K1}{args:List Value}{h:za}{s0:Env}{R:Value->za->Prop}(hg:h.get L=some (.loop A))(he:Wh A.params.toList args A.s=some s0)
  (ht:T P (some L) A.assign s0 h (λe s1 h1=>e=.normal /\ ∃A1,h1.get L=some (.loop A1)/\A1.state=.ready/\h1.ro<=L /\
   T P (some L) A.body s1 (h1.set L (some (.loop {A1 with state := .busy}))) (λe s2 h2=>∃A2,h2.get L=some (.loop A2)/\h2.ro<=L /\
     R (.bool (XI e).isNone) (h2.set L (some (.loop (A2.left e))))))):TY P L args h R:=by
 intro ρ w cargs pl hr hv hL hm;obtain⟨tm,d,fn,ho,hs⟩:=hr.loop hg hm;obtain⟨hlen,hs0⟩:=Kc he hs hv;refine⟨fn,_,A.assign,A.body,GZ ho (by simpa [Ub] using hlen.symm),λfr cs=>?_⟩
 let b:Frame:={ (default:Frame) with fn:=fn,kind := .normal,roundOf:=some pl.c}
 have hrd:Rd ρ (some L) b:=⟨hL,pl,hm,rfl⟩;obtain⟨e,s1,h1,ρ1,w1,tm1,ds1,⟨rfl,A1,g1,a1,ro1,q⟩,st1,hs1,_,ha⟩:=ht ρ w _ [] hr hs0 b hrd [.beginRound,.code A.body] (fr::cs);have hm1:ρ1.m L=some pl:=(st1.le.2 L hL).trans hm;obtain⟨tmA,dA,fnA,hoA,hsA⟩:=st1.rel.loop g1 hm1;have sb:=Step.Px st1.rel g1 hm1 ro1 (A':={A1 with state := .busy}) hoA hsA;obtain⟨e,s2,h2,ρ2,w2,tm2,ds2,⟨A2,g2,ro2,hR⟩,st2,hs2,_,ha2⟩:=q ρ1 _ tm1 ds1 sb.rel hs1 b (hrd.mono st1.le) [] (fr::cs);have hm2:ρ2.m L=some pl:=(st2.le.2 L (aan hL st1.le.1)).trans hm1;obtain⟨tmB,dB,mz,hoB,hsB⟩:=st2.rel.loop g2 hm2;have se:=Step.Px st2.rel g2 hm2 ro2 (A':=A2.left e) hoB hsB;refine⟨_,.bool (XI e).isNone,_,ρ2,_,hR,((st1.trans sb).trans st2).trans se,.bool _,?_⟩;refine ab1 ha (.head (dN rfl (l7 hoA a1)) ?_);cases e with
 |normal=>exact ab1 ha2 (.one (QY (e := .normal) rfl rfl [] rfl (Qn hoB _)))
 |ret=>obtain⟨t,sx⟩:=ha2;exact sx.trans (.one (QY (e := .ret) rfl rfl _ ⟨t,rfl⟩ (Qn hoB _)))
 |exit id=>obtain⟨t,et,sx⟩:=ha2;exact sx.trans (.one (QY (e := .exit id) rfl rfl _ ⟨t,rfl,et.trans rfl⟩ (Qn hoB _)))
theorem sY{s:Env}{h:za}{Q:Env->za->Prop}{ops:Array Oper}{i:Nat}{rest:List Nat}{o:Oper}{f:Operand}{cargs:Array Operand}{ts:Array TypeId}{L:Nat}{vs:List Value}{R:Value->za->Prop}
  (ho:ops[i]? = some o) (hw:yx ops s o=true) (yV:o.op=.call {callee := .value f,args:=cargs,argTypes:=ts}) (hf:jk s f=some (.func (.yield L) #[] #[])) (hargs:Um s cargs.toList=some vs)
  (hc:TY P L vs h R) (ht:∀v h1,R v h1->∃s1,s.put o.dst v=some s1/\TO P ops rest s1 h1 Q):TO P ops (i::rest) s h Q:=by
 intro ρ w tm ds hr hs b k cs;have hw':Region.wanted o (yielded ops tm)=true:=(XD hs ops o).trans hw;have e1:=zX (a:=⟨tm,ds⟩) hs hf;have e2:=j2 (a:=⟨tm,ds⟩) hs hargs;generalize hfv:Act.eval ⟨tm,ds⟩ f=fv at e1;cases e1 with
 |yield hb hm=>
  rename_i pl;obtain⟨fn,tmr,as,bd,hy,hgo⟩:=hc ρ w _ pl hr e2 hb hm
  have hrun:(execOp (Act.eval ⟨tm,ds⟩) o).run P w=.ok (.round pl.c fn tmr as bd) w:=by
   have hargs':(#[]:Array Value)++cargs.map (Act.eval ⟨tm,ds⟩)=(cargs.toList.map (Act.eval ⟨tm,ds⟩)).toArray:=by apply ab8;simp
   simp only[execOp,yV,resolve,hfv,Deferred.ofValue,aai,aap,aad,invoke,hargs',hy]
  obtain⟨v,v',h',ρ',w1,hR,st,hv,hgo⟩:=hgo (vN b tm ds (.inRegion ops (i::rest)::k)) cs;obtain⟨s1,hp,hrest⟩:=ht v h' hR;have hs1:vV ρ' s1 (qH tm o.dst v'):=(hs.mono st.le).put hv hp;obtain⟨s2,h2,ρ2,w2,tm2,q,st2,hs2,sx⟩:=hrest ρ' w1 _ ds st.rel hs1 b k cs;have hd:XO o.op=false:=by rw[yV];rfl
  refine⟨s2,h2,ρ2,w2,tm2,q,st.trans st2,hs2,.head (la ho hw' hd hrun) (ab1 hgo ?_)⟩;rw[j5,ho];exact sx
theorem Step.more{ρ:xr}{h:za}{w w':World}(hr:Rel P ρ h w){o:Obj}(hw:w' = {w with heap:=w.heap.push o}):Step P ρ h w ρ h w':=by
 subst hw;have hold:∀k,k<w.heap.size->(w.heap.push o)[k]? = w.heap[k]?:=λk hk=>by rw[Array.getElem?_push,aak (by omega)]
 exact⟨xr.le_refl _,hr.grow hold,rfl,rfl,rfl,rfl,by simp,λk hk _=>hold k hk,λ_ _ h=>h⟩
theorem run_newObj(w:World)(o:Obj):(newObj o).run P w=.ok w.heap.size {w with heap:=w.heap.push o}:=rfl
theorem eI{rd:Option Nat}{f:Operand}{params:Array Tmp}{as bd:Code}{s:Env}{h:za}{g:FuncId}{fa fc:Array Value}{Q:Ex->Env->za->Prop}
  (hf:jk s f=some (.func (.func g) fa fc)) (hcall:uG P g=true) (hrd:∀L,rd=some L->∃A,h.get L=some (.loop A))
  (hc:TC P g (fa.toList++[.func (.yield h.next) #[] #[]]++fc.toList) (h.push (.loop {state := .ready,pending:=none,s:=s,params:=params,assign:=as,body:=bd}))
   (λ_ h1=>∃A,h1.get h.next=some (.loop A)/\(A.state == .busy)=false/\h1.ro<=h.next /\ ∃e,XI e=A.pending/\Q e s (h1.set h.next none))):T P rd (.rangeFunc f params as bd) s h Q:=by
 intro ρ w tm ds hr hs b hb k cs
 let A0:K1:={state := .ready,pending:=none,s:=s,params:=params,assign:=as,body:=bd}
 obtain⟨mark,d,w1,hrun,st1,hd1⟩:∃mark d w1,(Instr.enterLoop b.fn tm params as bd b.roundOf).run P w=.ok (w1.heap.size,mark) {w1 with heap:=w1.heap.push (.loop (Ub A0 tm d b.fn))} /\ Step P ρ h w ρ h w1/\QD w ds w1 (mark++ds):=by
  cases rd with
  |none=>
   have hb:b.roundOf=none:=hb;refine⟨[Bs w.heap.size],w.heap.size,{w with heap:=w.heap.push (.deferred (some []))},?_,Step.more hr rfl,[w.heap.size],rfl,by simp,λr hr'=>?_⟩
   ·simp only[Instr.enterLoop,hb,aai,run_newObj,aad,aap];rfl
   ·simp only[abn]at hr';subst hr';exact⟨aal _,by simp⟩
  |some L0=>
   obtain⟨hL,pl,hm,hb⟩:=hb;obtain⟨A,gA⟩:=hrd L0 rfl;obtain⟨tmA,dA,fnA,hoA,_⟩:=hr.loop gA hm;refine⟨[],dA,w,?_,.refl hr,.refl _ _ _⟩;simp only[Instr.enterLoop,hb,aai,Wi hoA,run_newObj,aad,aap];rfl
 let pl:Place:=⟨w1.heap.size,0,0,0⟩
 have SF:Step P ρ h w1 (ρ.ext pl) (h.push (.loop A0)) {w1 with heap:=w1.heap.push (.loop (Ub A0 tm d b.fn))} :=
  Step.KT st1.rel (ob := .loop A0) (pl:=pl) rfl rfl ⟨tm,d,b.fn,by simp[pl,Ub],hs.mono (ρ.dU pl)⟩ rfl rfl rfl
 have hnew:(ρ.ext pl).m h.next=some pl:=by rw[<- hr.next];exact ρ.kP pl
 have hlt:h.next<(ρ.ext pl).next:=by show h.next<ρ.next+1;rw[hr.next];omega
 have e1:=zX (a:=⟨tm,ds⟩) (hs.mono (ρ.dU pl)) hf;generalize hfv:Act.eval ⟨tm,ds⟩ f=fv at e1;cases e1 with
 |func ha hcs k1 k2=>
  rename_i fa' fc'
  let yl:Value := .func (.yield w1.heap.size) #[] #[]
  let full:=fa'.toList++[yl]++fc'.toList
  have hyl:zI (ρ.ext pl) (.func (.yield h.next) #[] #[]) yl := .yield (pl:=pl) hlt hnew
  have hfull:wC (ρ.ext pl) (fa.toList++[.func (.yield h.next) #[] #[]]++fc.toList) full :=
   (wC.append ⟨by simpa using ha,λi x y hx hy=>k1 i x y (by simpa using hx) (by simpa using hy)⟩ (.cons hyl (.nil _))).append ⟨by simpa using hcs,λi x y hx hy=>k2 i x y (by simpa using hx) (by simpa using hy)⟩
  have hrun2:(do let d <- resolve (Act.eval ⟨tm,ds⟩) {callee := .value f,args := #[.const yl],argTypes := #[]} 0;invoke d.target d.args:Sem Next).run P {w1 with heap:=w1.heap.push (.loop (Ub A0 tm d b.fn))} = .ok (.enter g full.toArray) {w1 with heap:=w1.heap.push (.loop (Ub A0 tm d b.fn))}:=by
   have hargs':fa'++(#[.const yl]:Array Operand).map (Act.eval ⟨tm,ds⟩)++fc'=full.toArray:=by apply ab8;simp[full];rfl
   simp only[resolve,hfv,Deferred.ofValue,aai,aap,aad,invoke,callFunc,run_program,hargs'];unfold uG at hcall;cases hfn:P.funcs[g]? with
   |none=>rw[hfn]at hcall;cases hcall
   |some fn=>
    rw[hfn]at hcall;simp only[aah,aav]at hcall;simp only[hcall.2,abc,aat];rw[aak (by cases hb:fn.body <;> simp_all)];rfl
  obtain⟨e,w3,fr,⟨v,v',h',ρ',rfl,⟨A,gA,nb,roA,ex,hj,q⟩,st,hv⟩,hcomes,_,hleave⟩:=hc (ρ.ext pl) _ full SF.rel hfull (vN b tm (mark++ds) (.inRangeFunc w1.heap.size::k)::cs);have hm':ρ'.m h.next=some pl:=(st.le.2 _ hlt).trans hnew;obtain⟨tmA,dA,fnA,hoA,hsA⟩:=st.rel.loop gA hm';have stt:=Step.Px st.rel gA hm' roA (A':={A with state := .exhausted}) hoA hsA;have std:=Step.DG stt.rel h.next;have sta:=(((SF.trans st).trans stt).trans std).same (h'':=h'.set h.next none) ⟨rfl,rfl,λx=>by rw[za.set_set]⟩;refine⟨ex,s,h'.set h.next none,ρ',_,tm,mark++ds,q,st1.trans sta,hs.mono (st1.trans sta).le,hd1.trans (.refl _ _ _) st1.size st1.rel sta,?_⟩
  have harr:Steps P (lone (vN b tm ds (.code (.rangeFunc f params as bd)::k)) cs w) (lone (vN b tm (mark++ds) ((A.pending.map Item.code).toList++k)) cs {w3 with heap:=w3.heap.setIfInBounds pl.c (.loop (Ub {A with state := .exhausted} tmA dA fnA))}) :=
   .head (fu hrun hrun2) (ab1 hcomes (.head (step_leave_returned hleave) (.one (JJ (BO hoA nb)))))
  have hp:(A.pending.map Item.code).toList=((XI ex).map Item.code).toList:=by rw[hj]
  rw[hp]at harr;cases ex with
  |normal=>exact harr
  |ret=>exact⟨k,harr⟩
  |exit id=>exact⟨k,rfl,harr⟩
end
noncomputable section
inductive Task where
 |code (rd:Option Nat) (c:Code) (s:Env)
 |call (f:FuncId) (args:List Value)
inductive Out where
 |ex (e:Ex) (s:Env)
 |val (v:Value)
abbrev Xq:=Task->za->Option (Out×za)
def uS(h h2:za):za := @za.rec (λ_=>za) (λt n r=>@za.rec (λ_=>za) (λt2 n2 _=>⟨(List.range' n (n2-n)).foldl (λt b=>t.set b (t2.get b)) t,n2,r⟩) h2) h
def AP(cls:List Nat)(rec:Xq)(g:FuncId)(args:List Value)(h:za):Option (Value×za) :=
 match cls.getD g 0 with
 |1=>(match rec (.call g args) h with
  |some (.val v,h')=>some (v,h')
  |_=>none)
 |2=>(match rec (.call g args) h.lock with
  |some (.val v,_)=>cond (eE v) (some (v,h)) none
  |_=>none)
 |3=>(match rec (.call g args) h.lock with
  |some (.val v,h2)=>some (v,uS h h2)
  |_=>none)
 |_=>none
def OR:Ex->Bool
 | .normal=>true
 |_=>false
def isReady:LoopState->Bool
 | .ready=>true
 |_=>false
def M0:LoopState->Bool
 | .busy=>false
 |_=>true
def l5(rec:Xq)(L:Nat)(args:List Value)(h:za):Option (Value×za) :=
 match h.get L with
 |some (.loop A)=>(match Wh A.params.toList args A.s with
  |some s0=>(match rec (.code (some L) A.assign s0) h with
   |some (.ex .normal s1,h1)=>(match h1.get L with
    |some (.loop A1)=>cond (isReady A1.state&&Nat.ble h1.ro L)
      (match rec (.code (some L) A.body s1) (h1.set L (some (.loop {A1 with state := .busy}))) with
       |some (.ex e _,h2)=>(match h2.get L with
        |some (.loop A2)=>cond (Nat.ble h2.ro L) (some (.bool (OR e),h2.set L (some (.loop (A2.left e))))) none
        |_=>none)
       |_=>none) none
    |_=>none)
   |_=>none)
  |none=>none)
 |_=>none
def OM:Option Code->Option Ex
 |none=>some .normal
 |some .ret=>some .ret
 |some (.exit id)=>some (.exit id)
 |_=>none
def lW(cls:List Nat)(rec:Xq)(rd:Option Nat)(f:Option Value)(params:Array Tmp)(as bd:Code)(s:Env)(h:za):Option (Ex×za) :=
 match f with
 |some (.func (.func g) fa fc)=>cond (Nat.beq (cls.getD g 0) 1&&(match rd with
   |none=>true
   |some L0=>(match h.get L0 with
    |some (.loop _)=>true
    |_=>false)))
   (match rec (.call g (fa.toList++[.func (.yield h.next) #[] #[]]++fc.toList)) (h.push (.loop {state := .ready,pending:=none,s:=s,params:=params,assign:=as,body:=bd})) with
    |some (.val _,h1)=>(match h1.get h.next with
     |some (.loop A)=>cond (M0 A.state&&Nat.ble h1.ro h.next)
       (match OM A.pending with
        |some e=>some (e,h1.set h.next none)
        |none=>none) none
     |_=>none)
    |_=>none) none
 |_=>none
def evalOp(P:Program)(cls:List Nat)(rec:Xq)(s:Env)(o:Oper)(h:za):Option (Value×za) :=
 match o.op with
 | .call {callee := .value f,args,argTypes}=>(match jk s f,Um s args.toList with
   |some (.func (.func g) fa fc),some vs=>cond (Nat.beq (cls.getD g 0) 0) (rC P g (fa.toList++vs++fc.toList) h) (AP cls rec g (fa.toList++vs++fc.toList) h)
   |some (.func (.yield L) fa fc),some vs=>cond (Nat.beq fa.size 0&&Nat.beq fc.size 0) (l5 rec L vs h) none
   |_,_=>none)
 |_=>K9 P s o h
def Ql(P:Program)(cls:List Nat)(rec:Xq)(ops:Array Oper):List Oper->Env->za->Option (Env×za)
 |[],s,h=>some (s,h)
 |o::os,s,h=>
  cond (yx ops s o)
   (match evalOp P cls rec s o h with
    |some (v,h1)=>(match s.put o.dst v with
     |some s1=>Ql P cls rec ops os s1 h1
     |none=>none)
    |none=>none)
   (match s.put o.dst undef with
    |some s1=>Ql P cls rec ops os s1 h
    |none=>none)
structure fk where
 r:yI
 BU:List Nat
 all:Bool
 Jg:Bool
 PK:List Nat
 ex:Bool
def xc(ms:List Nat)(o:Oper):Nat:=o.after.toList.foldl (λm e=>cond (Region.binds .any e) (m ||| (1 <<< e.on) ||| ms.getD e.on 0) m) 0
def Z1(ops:Array Oper)(x y:Oper):Bool :=
 (match x.dst with
  |none=>true
  |some d => !(y.looksAt ops).contains d && !(decide (y.dst=some d))) &&
 (match y.dst with
  |none=>true
  |some d => !(x.looksAt ops).contains d)
def lx(x y:fk):Bool :=
 cond x.all (y.Jg||(y.ex && !y.all&&y.PK.all (λb => !x.r.tc b)&&y.BU.all (λb => !x.r.tc b))) (x.BU.all λb => !y.r.rd b && !y.r.tc b) &&
 cond y.all (x.Jg||(x.ex&&x.PK.all λb => !y.r.tc b)) (y.BU.all λb => !x.r.rd b)
def Xj(ops:Array Oper):List Oper->Nat->List Nat->List (Nat×Oper)->Bool
 |[],_,_,_=>true
 |o::os,i,ms,prev=>
  (o.after.toList.all λe => !(Region.binds .any e)||Nat.blt e.on i)&&(prev.all λx=>(xc ms o).testBit x.1||Z1 ops x.2 o)&&Xj ops os (i+1) (ms++[xc ms o]) ((i,o)::prev)
def NH:Value->List Nat
 | .pointer (some a)=>[a.block]
 | .slice (some a) _ _=>[a.block]
 | .map (some b)=>[b]
 |_=>[]
def pj:Op->Bool
 | .call {callee := .builtin .cap,.. } | .call {callee := .builtin .min,.. } | .call {callee := .builtin .max,.. } | .call {callee := .builtin .unsafeSliceData,.. }=>false
 | .move _ | .assign _ | .pick _ _ _ | .alloc _ | .box _ _ | .build _ _ | .nilCheck _ | .binOp _ _ _ _ _ | .unOp _ _ _ | .makeInterface _ _ | .makeFunc _ _ _ | .fieldAddr _ _ _ | .field _ _ _ | .indexAddr _ _ _ | .index _ _ _ | .extract _ _=>false
 |_=>true
def C5(h:za)(b:Nat):List Nat :=
 match h.get b with
 |some (.iter (some m) _ _ _)=>[b,m]
 |_=>[b]
def Ls(s:Env)(o:Oper)(h:za):List Nat:=cond (pj o.op) ((o.op.operands.toList.flatMap λx=>(match jk s x with|some v=>NH v|none=>[])).flatMap (C5 h)) []
def za.pick(h:za)(l:List Nat):za := @za.rec (λ_=>za) (λt0 n r=>⟨l.foldl (λt b=>t.set b (t0.get b)) .e,n,r⟩) h
def za.QA(h:za)(l:List Nat):za := @za.rec (λ_=>za) (λt0 n r=>⟨l.foldl (λt b=>t.set b none) t0,n,r⟩) h
def za.MX(h g:za)(l:List Nat):za := @za.rec (λ_=>za) (λt0 _ r=>@za.rec (λ_=>za) (λt1 n _=>⟨l.foldl (λt b=>t.set b (t1.get b)) t0,n,r⟩) g) h
def za.LW(h' h:za)(l:List Nat):za := @za.rec (λ_=>za) (λt0 n r=>⟨l.foldl (λt b=>t.set b (h.get b)) t0,n,r⟩) h'
def aL(s:Env)(dsts:List Nat):List Oper->Nat->Nat->List Nat
 |[],_,_=>[]
 |o::os,j,desc=>cond (o.after.toList.any λe=>Region.binds .any e&&desc.testBit e.on)
  (aL s dsts os (j+1) (desc ||| (1 <<< j)))
  ((cond (pj o.op) (o.op.operands.toList.flatMap λx=>(match x with
    | .tmp t=>cond (dsts.contains t) [] (NH (s.get t))
    |_=>[])) [])++aL s dsts os (j+1) desc)
def Wt:Builtin->Bool
 | .len | .cap | .min | .max | .unsafeSliceData=>true
 |_=>false
def XP:Op->Bool
 | .call {callee := .builtin b,.. } => !Wt b
 | .store _ _ _=>true
 | .mapUpdate _ _ _ _=>true
 | .next _ _=>true
 | .call _=>true
 |_=>false
def iP(P:Program)(cls:List Nat)(rec:Xq)(ops:Array Oper)(recs:List fk)(mask i:Nat)(os:List Oper)(o:Oper)(s:Env)(h:za):Option (fk×za) :=
 cond (yx ops s o)
  (match o.op with
   | .call {callee := .value f,args,argTypes}=>(match jk s f,Um s args.toList with
     |some (.func (.func g) fa fc),some vs=>
      (match cls.getD g 0 with
       |1=>
        let hid:=((recs.flatMap λx=>cond (mask.testBit x.r.j) [] (x.BU++x.PK))++aL s ((o::os).filterMap (·.dst)) os (i+1) (1 <<< i)).filter λb=>Nat.blt b h.next
        (match rec (.call g (fa.toList++vs++fc.toList)) (h.QA hid) with
         |some (.val v,h')=>some (⟨⟨i,o,v,s,h.QA hid,h',λb=>Nat.blt b h.next && !hid.contains b,λb=>Nat.blt b h'.next && !hid.contains b⟩,[],true,false,[],false⟩,h'.LW h hid)
         |_=>none)
       |2=>
        let hid:=recs.flatMap λx=>cond (mask.testBit x.r.j) [] x.BU
        (match rec (.call g (fa.toList++vs++fc.toList)) (h.QA hid).lock with
         |some (.val v,_)=>cond (eE v) (some (⟨⟨i,o,v,s,h.QA hid,h.QA hid,λb=>Nat.blt b h.next && !hid.contains b,λ_=>false⟩,[],false,false,[],false⟩,h)) none
         |_=>none)
       |3=>
        let hid:=recs.flatMap λx=>cond (mask.testBit x.r.j) [] x.BU
        (match rec (.call g (fa.toList++vs++fc.toList)) (h.QA hid).lock with
         |some (.val v,h2)=>
          let new:=List.range' h.next (h2.next-h.next)
          some (⟨⟨i,o,v,s,h.QA hid,uS (h.QA hid) h2,λb=>Nat.blt b h.next && !hid.contains b,λb=>new.contains b⟩,new,false,false,[],false⟩,uS h h2)
         |_=>none)
       |_=>(match rC P g (fa.toList++vs++fc.toList) (h.pick []) with
        |some (v,g')=>
         let new:=List.range' h.next (g'.next-h.next)
         some (⟨⟨i,o,v,s,h.pick [],g',λ_=>false,λb=>new.contains b⟩,new,false,new.isEmpty,[],true⟩,h.MX g' new)
        |none=>none))
     |_,_=>none)
   |_=>
    let bs:=Ls s o h
    (match K9 P s o (h.pick bs) with
     |some (v,g')=>
      let new:=List.range' h.next (g'.next-h.next)
      let BU:=cond (XP o.op) (bs++new) new
      some (⟨⟨i,o,v,s,h.pick bs,g',λb=>bs.contains b,λb=>BU.contains b⟩,BU,false,bs.isEmpty&&BU.isEmpty,bs,true⟩,h.MX g' BU)
     |none=>none))
  (some (⟨⟨i,o,undef,s,h.pick [],h.pick [],λ_=>false,λ_=>false⟩,[],false,true,[],true⟩,h))
def U7(P:Program)(cls:List Nat)(rec:Xq)(ops:Array Oper):List Oper->Nat->List Nat->List fk->Env->za->Option (Env×za)
 |[],_,_,_,s,h=>some (s,h)
 |o::os,i,ms,recs,s,h=>
  (match iP P cls rec ops recs (xc ms o) i os o s h with
   |some (y,h1)=>cond (y.Jg||recs.all λx=>lx x y||(xc ms o).testBit x.r.j)
     (match s.put o.dst y.r.v with
      |some s1=>U7 P cls rec ops os (i+1) (ms++[xc ms o]) (y::recs) s1 h1
      |none=>none) none
   |none=>none)
def body(P:Program)(cls:List Nat)(rec:Xq):Task->za->Option (Out×za)
 | .call f args,h=>(match P.funcs[f]? with
   |none=>none
   |some fn=>(match fn.body with
    |none=>none
    |some c=>(match rec (.code none c (Env.enter args fn.ntmps)) h with
     |some (.ex .normal s1,h1)=>(match q8 P s1 h1 fn.results.toList with
      |some vs=>some (.val (j3 vs),h1)
      |none=>none)
     |some (.ex .ret s1,h1)=>(match q8 P s1 h1 fn.results.toList with
      |some vs=>some (.val (j3 vs),h1)
      |none=>none)
     |_=>none)))
 | .code rd c s,h=>(match c with
   | .skip=>some (.ex .normal s,h)
   | .label _=>some (.ex .normal s,h)
   | .exit id=>some (.ex (.exit id) s,h)
   | .ret=>some (.ex .ret s,h)
   | .seq a b=>(match rec (.code rd a s) h with
     |some (.ex .normal s1,h1)=>rec (.code rd b s1) h1
     |r=>r)
   | .cond x a b=>(match jk s x with
     |some (.bool true)=>rec (.code rd a s) h
     |some (.bool false)=>rec (.code rd b s) h
     |_=>none)
   | .block id a=>(match rec (.code rd a s) h with
     |some (.ex (.exit id') s1,h1)=>cond (Nat.beq id' id) (some (.ex .normal s1,h1)) (some (.ex (.exit id') s1,h1))
     |r=>r)
   | .scope a=>rec (.code rd a s) h
   | .loop a=>(match rec (.code rd a s) h with
     |some (.ex .normal s1,h1)=>rec (.code rd (.loop a) s1) h1
     |r=>r)
   | .region _ ops draw=>cond draw
     (cond (Xj ops ops.toList 0 [] []) (match U7 P cls rec ops ops.toList 0 [] [] s h with
      |some (s1,h1)=>some (.ex .normal s1,h1)
      |none=>none) none)
     (match Ql P cls rec ops ops.toList s h with
      |some (s1,h1)=>some (.ex .normal s1,h1)
      |none=>none)
   | .rangeFunc f params as bd=>(match lW cls rec rd (jk s f) params as bd s h with
     |some (e,h1)=>some (.ex e s,h1)
     |none=>none)
   |_=>none)
def run(P:Program)(cls:List Nat)(n:Nat):Xq:=Nat.rec (λ_ _=>none) (λ_ rec=>body P cls rec) n
end
noncomputable section
variable {P:Program}{cls:List Nat}
theorem Zj{α:Type}(f:Nat->Option α)(j:Nat):∀(l:List Nat) (t:Tr α),(l.foldl (λt b=>t.set b (f b)) t).get j=if j∈l then f j else t.get j
 |[],t=>by simp
 |b::l,t=>by
  rw[List.foldl_cons,Zj f j l,Tr.yD];by_cases h:j∈l
  ·simp[h]
  ·by_cases e:j=b
   ·subst e;simp[h]
   ·simp[h,e]
theorem qy(h:za)(l:List Nat)(b:Nat):(h.pick l).get b=if b∈l then h.get b else none:=by
 show(l.foldl (λt b=>t.set b (h.get b)) Tr.e).get b=_;rw[Zj];rfl
theorem Xe(h:za)(l:List Nat)(b:Nat):(h.QA l).get b=if b∈l then none else h.get b:=by
 show(l.foldl (λt b=>t.set b none) h.t).get b=_;rw[Zj (λ_=>none)];rfl
theorem Q1(h g:za)(l:List Nat)(b:Nat):(h.MX g l).get b=if b∈l then g.get b else h.get b:=by
 show(l.foldl (λt b=>t.set b (g.get b)) h.t).get b=_;rw[Zj];rfl
theorem JL(h' h:za)(l:List Nat)(b:Nat):(h'.LW h l).get b=if b∈l then h.get b else h'.get b:=by
 show(l.foldl (λt b=>t.set b (h.get b)) h'.t).get b=_;rw[Zj];rfl
theorem Zs{a c b:Nat}:b∈List.range' a (c-a) ↔ a<=b/\b<c:=by
 rw[List.mem_range'_1];omega
theorem qg(h h2:za)(b:Nat):(uS h h2).get b=if h.next<=b/\b<h2.next then h2.get b else h.get b:=by
 show((List.range' h.next (h2.next-h.next)).foldl (λt b=>t.set b (h2.get b)) h.t).get b=_;rw[Zj];by_cases hb:h.next<=b/\b<h2.next
 ·rw[aam (Zs.2 hb),aam hb]
 ·rw[aak (λhm=>hb (Zs.1 hm)),aak hb];rfl
theorem TC.fresh{f:FuncId}{args:List Value}{h h2:za}{v:Value}(ht:TC P f args h.lock (λv1 h1=>v1=v/\h1=h2)):TC P f args h (λv1 h1=>v1=v/\h1=uS h h2):=by
 intro ρ w cargs hr hv;refine(ht ρ w cargs hr.lock hv).mono λe w'=>?_;rintro⟨v1,v',h',ρ',e1,⟨rfl,rfl⟩,st,hvv⟩
 have nomine:∀c,¬J0 ρ h.lock c:=by
  rintro c ⟨b,o,pl,hg,hro,_⟩;have h1:h.next<=b:=hro;have h2:=hr.Qv b o hg;omega
 have hsame:∀c,c<w.heap.size->w'.heap[c]? = w.heap[c]?:=λc hc=>st.frame c hc (nomine c);have hn:h.next<=h'.next:=by have:=st.le.1;rw[hr.next,st.rel.next]at this;exact this
 have hold:∀b,b<h.next->ρ'.m b=ρ.m b:=λb hb=>st.le.2 b (by rw[hr.next];exact hb)
 have cases':∀b o,(uS h h').get b=some o->(h.next<=b/\b<h'.next/\h'.get b=some o)\/(b<h.next/\h.get b=some o):=by
  intro b o hg;rw[qg]at hg;split at hg
  ·rename_i hb;exact .inl ⟨hb.1,hb.2,hg⟩
  ·exact .inr ⟨hr.Qv b o hg,hg⟩
 refine⟨v1,v',uS h h',ρ',e1,⟨rfl,rfl⟩,⟨st.le,⟨st.rel.next,aaY hr.ro hn,?_,?_,?_,hr.dQ,st.rel.Yt⟩,rfl,st.os,st.tape,st.output,st.size,λc hc _=>hsame c hc,?_⟩,hvv⟩
 ·intro b o hg;rcases cases' b o hg with⟨_,h2,_⟩|⟨h1,_⟩
  ·exact h2
  ·exact aan h1 hn
 ·intro b o hg;rcases cases' b _ hg with⟨h1,h2,h3⟩|⟨h1,h3⟩
  ·obtain⟨pl,hp,hc⟩:=st.rel.ok b o h3;refine⟨pl,hp,hc.Ha (λ_=>?_)⟩;rw[st.ro];exact ach h1
  ·obtain⟨pl,hp,hc⟩:=hr.ok b o h3;exact⟨pl,(hold b h1).trans hp,(hc.mono st.le).other (hsame _ hc.lt)⟩
 ·have key:∀b1 b2 o1 o2 p1 p2,h.next<=b1->h'.get b1=some o1->b2<h.next->h.get b2=some o2->ρ'.m b1=some p1->ρ'.m b2=some p2->p1.c=p2.c->False:=by
   intro b1 b2 o1 o2 p1 p2 l1 g1 l2 g2 m1 m2 ec;obtain⟨pl,hp,hc⟩:=hr.ok b2 o2 g2;rw[hold b2 l2,hp]at m2;cases m2;have:=st.fy p1.c (by rw[ec];exact hc.lt) ⟨b1,o1,p1,g1,by rw[st.ro];exact l1,m1,rfl⟩;exact nomine _ this
  intro b1 b2 o1 o2 p1 p2 g1 g2 m1 m2 ec;rcases cases' b1 o1 g1 with⟨l1,_,k1⟩|⟨l1,k1⟩ <;> rcases cases' b2 o2 g2 with⟨l2,_,k2⟩|⟨l2,k2⟩
  ·exact st.rel.inj b1 b2 o1 o2 p1 p2 k1 k2 m1 m2 ec
  ·exact(key b1 b2 o1 o2 p1 p2 l1 k1 l2 k2 m1 m2 ec).elim
  ·exact(key b2 b1 o2 o1 p2 p1 l2 k2 l1 k1 m2 m1 ec.symm).elim
  ·rw[hold b1 l1]at m1;rw[hold b2 l2]at m2;exact hr.inj b1 b2 o1 o2 p1 p2 k1 k2 m1 m2 ec
 ·rintro c hc ⟨b,o,pl,hg,hro,hm,rfl⟩;rcases cases' b o hg with⟨l1,_,k1⟩|⟨l1,k1⟩
  ·exact(nomine _ (st.fy pl.c hc ⟨b,o,pl,k1,by rw[st.ro];exact l1,hm,rfl⟩)).elim
  ·rw[hold b l1]at hm;exact⟨b,o,pl,k1,hro,hm,rfl⟩
def Yn(P:Program)(cls:List Nat):Bool:=(List.range cls.length).all λg=>Nat.beq (cls.getD g 0) 0||uG P g
theorem ZL{g:FuncId}{k:Nat}(hC:Yn P cls=true)(h:cls.getD g 0=k+1):uG P g=true:=by
 simp only[Yn,aaJ,abD,aa6]at hC
 have hg:g<cls.length:=by
  rcases aaA g cls.length with h1|h1
  ·exact h1
  ·rw[aaR,aao h1]at h;cases h
 rcases hC g hg with h1|h1
 ·rw[h]at h1;cases h1
 ·exact h1
structure Sound (P:Program) (rec:Xq):Prop where
 code:∀rd c s h e s' h',rec (.code rd c s) h=some (.ex e s',h')->T P rd c s h (λe1 s1 h1=>e1=e/\s1=s'/\h1=h')
 call:∀f args h v h',rec (.call f args) h=some (.val v,h')->TC P f args h (λv1 h1=>v1=v/\h1=h')
 kind:∀rd c s h o h',rec (.code rd c s) h=some (o,h')->∃e s',o=.ex e s'
 T1:∀f args h o h',rec (.call f args) h=some (o,h')->∃v,o=.val v
theorem AQ{rec:Xq}(S:Sound P rec)(hC:Yn P cls=true){g:FuncId}{args:List Value}{h h':za}{v:Value}(he:AP cls rec g args h=some (v,h')) :
  uG P g=true/\TC P g args h (λv1 h1=>v1=v/\h1=h'):=by
 unfold AP at he;split at he
 ·rename_i hk;refine⟨ZL hC hk,?_⟩;split at he
  ·rename_i v1 h1 hrec;simp only[aab,aag]at he;obtain⟨rfl,rfl⟩:=he;exact S.call _ _ _ _ _ hrec
  ·cases he
 ·rename_i hk;refine⟨ZL hC hk,?_⟩;split at he
  ·rename_i v1 h1 hrec;obtain⟨hsc,he⟩:=zv he;simp only[aab,aag]at he;obtain⟨rfl,rfl⟩:=he;refine((S.call _ _ _ _ _ hrec).quiet (λv2 h2 q=>by rw[q.1];exact hsc)).mono ?_;rintro v2 h2 ⟨⟨h3,q1,q2⟩,rfl⟩;exact⟨q1,rfl⟩
  ·cases he
 ·rename_i hk;refine⟨ZL hC hk,?_⟩;split at he
  ·rename_i v1 h2 hrec;simp only[aab,aag]at he;obtain⟨rfl,rfl⟩:=he;exact(S.call _ _ _ _ _ hrec).fresh
  ·cases he
 ·cases he
theorem sF{rec:Xq}(S:Sound P rec){L:Nat}{args:List Value}{h h':za}{v:Value}(he:l5 rec L args h=some (v,h')):TY P L args h (λv1 h1=>v1=v/\h1=h'):=by
 unfold l5 at he;split at he
 case h_2=>cases he
 rename_i A hg;split at he
 case h_2=>cases he
 rename_i s0 hs0;split at he
 case h_2=>cases he
 rename_i s1 h1 hrec;split at he
 case h_2=>cases he
 rename_i A1 g1;obtain⟨hc,he⟩:=zv he;simp only[aah]at hc;split at he
 case h_2=>cases he
 rename_i e s2 h2 hrec2;split at he
 case h_2=>cases he
 rename_i A2 g2;obtain⟨hro,he⟩:=zv he;simp only[aab,aag]at he;obtain⟨rfl,rfl⟩:=he;refine Mb hg hs0 ((S.code _ _ _ _ _ _ _ hrec).mono ?_);rintro e1 s3 h3 ⟨rfl,rfl,rfl⟩;refine⟨rfl,A1,g1,?_,aaH hc.2,(S.code _ _ _ _ _ _ _ hrec2).mono ?_⟩
 ·cases hst:A1.state <;> first|rfl|(rw[hst]at hc;cases hc.1)
 ·rintro e1 s3 h3 ⟨rfl,rfl,rfl⟩;refine⟨A2,g2,aaH hro,?_,rfl⟩;cases e1 <;> rfl
theorem Bp{p:Option Code}{e:Ex}(h:OM p=some e):XI e=p:=by
 unfold OM at h;split at h <;> first|(simp only[aab]at h;subst h;rfl)|cases h
theorem sB{rec:Xq}(S:Sound P rec)(hC:Yn P cls=true){rd:Option Nat}{f:Operand}{params:Array Tmp}{as bd:Code}{s:Env}{h h':za}{e:Ex}(he:lW cls rec rd (jk s f) params as bd s h=some (e,h')) :
  T P rd (.rangeFunc f params as bd) s h (λe1 s1 h1=>e1=e/\s1=s/\h1=h'):=by
 unfold lW at he;split at he
 case h_2=>cases he
 rename_i g fa fc hf;obtain⟨hc,he⟩:=zv he;simp only[aah]at hc;split at he
 case h_2=>cases he
 rename_i v h1 hrec;split at he
 case h_2=>cases he
 rename_i A hA;obtain⟨hb,he⟩:=zv he;simp only[aah]at hb;split at he
 case h_2=>cases he
 rename_i e1 hex;simp only[aab,aag]at he;obtain⟨rfl,rfl⟩:=he;refine eI hf (ZL (k:=0) hC (aar hc.1)) ?_ ((S.call _ _ _ _ _ hrec).mono ?_)
 ·rintro L rfl;have:=hc.2;simp only at this;split at this
  ·rename_i A0 g0;exact⟨A0,g0⟩
  ·cases this
 ·rintro v1 h2 ⟨rfl,rfl⟩;refine⟨A,hA,?_,aaH hb.2,e1,Bp hex,rfl,rfl,rfl⟩;cases hst:A.state <;> first|rfl|(rw[hst]at hb;cases hb.1)
theorem Qm{rec:Xq}(S:Sound P rec)(hC:Yn P cls=true){ops:Array Oper}:∀(l:List Oper) (i:Nat) {s s':Env} {h h':za},ops.toList.drop i=l->Ql P cls rec ops l s h=some (s',h') ->
  TO P ops (List.range' i l.length) s h (λs1 h1=>s1=s'/\h1=h')
 |[],i,s,s',h,h',hl,he=>by
  simp only[Ql,aab,aag]at he;exact Hh ⟨he.1,he.2⟩
 |o::os,i,s,s',h,h',hl,he=>by
  have ho:ops[i]? = some o:=by
   have:=congrArg (λl=>l[0]?) hl;simp only[aaW,aaf]at this;simpa using this
  have hl':ops.toList.drop (i+1)=os:=by rw[<- acA,hl];rfl
  rw[aaB,List.range'_succ];simp only[Ql]at he;cases hw:yx ops s o with
  |false=>
   rw[hw]at he;simp only[aaK]at he;split at he
   ·rename_i s1 hp;exact D8 ho hw hp (Qm S hC os (i+1) hl' he)
   ·cases he
  |true=>
   rw[hw]at he;simp only[aax]at he;split at he
   ·rename_i v h1 hev;split at he
    ·rename_i s1 hp;have hrest:=Qm S hC os (i+1) hl' he;unfold evalOp at hev;split at hev
     ·rename_i f args ts yV;split at hev
      ·rename_i g fa fc vs hf hargs;cases hk:Nat.beq (cls.getD g 0) 0 with
       |true=>
        rw[hk]at hev;simp only[aax]at hev;exact Nw ho hw (by rw[yV];rfl) (λρ w a hr hs=>rD yV hf hargs hev hr hs) hp hrest
       |false=>
        rw[hk]at hev;simp only[aaK]at hev;obtain⟨h1c,h2c⟩:=AQ S hC hev;exact D7 ho hw yV hf hargs h1c h2c (by rintro v2 h2 ⟨rfl,rfl⟩;exact⟨s1,hp,hrest⟩)
      ·rename_i L fa fc vs hf hargs;obtain⟨hz,hev⟩:=zv hev;simp only[aah]at hz;obtain rfl:=VO hz.1;obtain rfl:=VO hz.2;exact sY ho hw yV hf hargs (sF S hev) (by rintro v2 h2 ⟨rfl,rfl⟩;exact⟨s1,hp,hrest⟩)
      ·cases hev
     ·exact Nx ho hw hev hp hrest
    ·cases he
   ·cases he
end
noncomputable section
variable {P:Program}{cls:List Nat}
structure AF (h h':za):Prop where
 next:h.next<=h'.next
 ro:h'.ro=h.ro
 alive:∀b o,h'.get b=some o->h.get b≠none\/(h.next<=b/\b<h'.next)
theorem AF.refl(h:za):AF h h:=⟨aal _,rfl,λb o hb => .inl (by rw[hb];simp)⟩
theorem AF.trans{a b c:za}(h:AF a b)(k:AF b c):AF a c:=by
 refine⟨aaY h.next k.next,k.ro.trans h.ro,λx o hx=>?_⟩;rcases k.alive x o hx with h1|⟨h1,h2⟩
 ·obtain⟨o',ho'⟩:∃o,b.get x=some o:=by cases hh:b.get x with|none=>exact absurd hh h1|some o=>exact⟨o,rfl⟩
  rcases h.alive x o' ho' with h2|⟨h2,h3⟩
  ·exact .inl h2
  ·exact .inr ⟨h2,aan h3 k.next⟩
 ·exact .inr ⟨aaY h.next h1,h2⟩
theorem AF.push(h:za)(o:vg):AF h (h.push o):=⟨abC _,rfl,λb o' hb=>by
 rw[za.vK]at hb;split at hb
 ·rename_i e;subst e;exact .inr ⟨aal _,aa4 _⟩
 ·exact .inl (by rw[hb];simp)⟩
theorem AF.Qq{h:za}{b:Nat}{o:vg}(hb:h.get b=some o)(x:Option vg):AF h (h.set b x):=⟨aal _,rfl,λc o' hc=>by
 rw[za.yD]at hc;split at hc
 ·rename_i e;subst e;exact .inl (by rw[hb];simp)
 ·exact .inl (by rw[hc];simp)⟩
theorem C1{h h':za}{b off:Nat}{new:List Value}(he:KK h b off new=some h'):AF h h':=by
 unfold KK at he;cases hz:Nat.beq new.length 0 with
 |true=>rw[hz]at he;simp only[aax,aab]at he;subst he;exact .refl _
 |false=>
  rw[hz]at he;simp only[aaK]at he;split at he
  ·rename_i hg;obtain⟨_,he⟩:=zv he;simp only[aab]at he;subst he;exact .Qq hg _
  ·cases he
theorem oJ{t:TypeId}{a v:Value}{h h':za}(he:zn P t a v h=some h'):AF h h':=by
 unfold zn at he;split at he
 ·split at he
  ·cases he
  ·rename_i hg;split at he
   ·cases he
   ·obtain⟨_,he⟩:=zv he;simp only[aab]at he;subst he;exact .Qq hg _
  ·cases he
 ·cases he
theorem CO{sT xT:TypeId}{s x v:Value}{h h':za}(he:VJ P sT xT s x h=some (v,h')):AF h h':=by
 unfold VJ at he;split at he
 case h_2=>cases he
 rename_i elem xd n _ _ _;split at he
 case h_2=>cases he
 split at he
 case h_2=>cases he
 obtain⟨_,he⟩:=zv he;unfold Uk at he;split at he
 ·cases hz:Nat.beq n 0 with
  |true=>rw[hz]at he;simp only[aax,aab,aag]at he;obtain⟨_,rfl⟩:=he;exact .refl _
  |false=>
   rw[hz]at he;obtain⟨_,he⟩:=zv (show cond _ _ none=_ from he);simp only[aab,aag]at he;obtain⟨_,rfl⟩:=he;exact .push _ _
 ·cases hz:Nat.beq n 0 with
  |true=>rw[hz]at he;simp only[aax,aab,aag]at he;obtain⟨_,rfl⟩:=he;exact .refl _
  |false=>
   rw[hz]at he;simp only[aaK]at he;split at he
   ·rename_i hg;obtain⟨_,he⟩:=zv he;simp only[aab,aag]at he;obtain⟨_,rfl⟩:=he;exact(AF.Qq hg none).trans (.push _ _)
   ·cases he
 ·cases he
theorem H2{t:TypeId}{d x v:Value}{h h':za}(he:Av P t d x h=some (v,h')):AF h h':=by
 unfold Av at he;split at he
 case h_2=>cases he
 split at he
 case h_1=>cases he
 split at he
 case h_1=>cases he
 split at he
 ·simp only[aab,aag]at he;obtain⟨_,rfl⟩:=he;exact .refl _
 ·simp only[aas,aag]at he;obtain⟨h2,hs,_,rfl⟩:=he;exact C1 hs
 ·cases he
theorem FU{t:TypeId}{x:Value}{h h':za}(he:iu P t x h=some h'):AF h h':=by
 unfold iu at he;cases he
theorem mM{t:TypeId}{x k v:Value}{h h':za}(he:jj P t x k v h=some h'):AF h h':=by
 unfold jj at he;split at he
 case h_2=>cases he
 split at he
 case h_2=>cases he
 rename_i hg;split at he
 case h_2=>cases he
 obtain⟨_,he⟩:=zv he;split at he
 ·split at he
  ·obtain⟨_,he⟩:=zv he;simp only[aab]at he;subst he;exact .Qq hg _
  ·cases he
 ·simp only[aab]at he;subst he;exact .Qq hg _
 ·cases he
theorem mL{t:TypeId}{x k:Value}{h h':za}(he:Vd P t x k h=some h'):AF h h':=by
 unfold Vd at he;cases he
theorem Ib{x v:Value}{str:Bool}{h h':za}(he:oE P x str h=some (v,h')):AF h h':=by
 unfold oE at he;cases he
def Still(h h':za):Prop:=h'=h \/ ∃o,h'=h.push o
theorem Still.af{h h':za}(s:Still h h'):AF h h':=by
 rcases s with rfl|⟨o,rfl⟩
 ·exact .refl _
 ·exact .push _ _
theorem AB{t:TypeId}{l c v:Value}{h h':za}(he:VN P t l c h=some (v,h')):Still h h':=by
 unfold VN at he;split at he
 case h_2=>cases he
 split at he
 case h_1=>cases he
 split at he
 case h_1=>cases he
 obtain⟨_,he⟩:=zv he;simp only[aab,aag]at he;obtain⟨_,rfl⟩:=he;exact .inr ⟨_,rfl⟩
theorem rn{src dst:TypeId}{x v:Value}{h h':za}(he:iw P src dst x h=some (v,h')):Still h h':=by
 unfold iw at he;split at he
 ·simp only[aab,aag]at he;obtain⟨_,rfl⟩:=he;exact .inl rfl
 ·split at he
  ·split at he
   ·simp only[aab,aag]at he;obtain⟨_,rfl⟩:=he;exact .inr ⟨_,rfl⟩
   ·cases he
  ·split at he
   ·simp only[aas,aag]at he;obtain⟨_,_,_,rfl⟩:=he;exact .inl rfl
   ·cases he
  ·cases he
theorem Au{src dst:TypeId}{x v:Value}{h h':za}(he:qE P src dst x h=some (v,h')):Still h h':=by
 unfold qE at he;split at he
 ·rename_i r hc;simp only[aab]at he;subst he;exact rn hc
 ·simp only[aas,aag]at he;obtain⟨_,_,_,rfl⟩:=he;exact .inl rfl
theorem Ov{pt:TypeId}{p v:Value}{n:Int}{h h':za}(he:Ra P pt p n h=some (v,h')):AF h h':=by
 unfold Ra at he;split at he
 ·obtain⟨_,he⟩:=zv he;simp only[aab,aag]at he;obtain⟨_,rfl⟩:=he;exact .refl _
 ·cases hn:decide (n=0) with
  |true=>rw[hn]at he;simp only[aax,aab,aag]at he;obtain⟨_,rfl⟩:=he;exact .refl _
  |false=>
   rw[hn]at he;simp only[aaK]at he;split at he
   case h_2=>cases he
   rename_i hg;split at he
   case h_2=>cases he
   obtain⟨_,he⟩:=zv he;simp only[aab,aag]at he;obtain⟨_,rfl⟩:=he;exact .Qq hg _
 ·cases he
theorem aK{t:TypeId}{n:Nat}{ps:List (Nat×Value)}{v:Value}{h h':za}(he:yC P t n ps h=some (v,h')):Still h h':=by
 unfold yC at he;split at he
 case h_2=>cases he
 split at he
 case h_2=>cases he
 obtain⟨_,he⟩:=zv he;split at he
 case h_2=>cases he
 obtain⟨_,he⟩:=zv he;simp only[aab,aag]at he;obtain⟨_,rfl⟩:=he;exact .inr ⟨_,rfl⟩
theorem u1{x:Option Value}{v:Value}{h h':za}(he:one h x=some (v,h')):Still h h' := .inl (vU he).2
theorem Ap{b:Builtin}{ts:List TypeId}{r:TypeId}{vs:List Value}{v:Value}{h h':za}(he:zk P b ts r vs h=some (v,h')):AF h h':=by
 unfold zk at he;split at he
 ·exact CO he
 ·exact H2 he
 ·simp only[aas,aag]at he;obtain⟨_,_,_,rfl⟩:=he;exact .refl _
 ·simp only[aas,aag]at he;obtain⟨_,hc,_,rfl⟩:=he;exact FU hc
 ·obtain⟨_,he⟩:=zv he;simp only[aas,aag]at he;obtain⟨_,_,_,rfl⟩:=he;exact .refl _
 ·obtain⟨_,he⟩:=zv he;simp only[aas,aag]at he;obtain⟨_,_,_,rfl⟩:=he;exact .refl _
 ·simp only[aas,aag]at he;obtain⟨_,hc,_,rfl⟩:=he;exact mL hc
 ·simp only[aas,aag]at he;obtain⟨_,_,_,rfl⟩:=he;exact .refl _
 ·simp only[aas,aag]at he;obtain⟨_,_,_,rfl⟩:=he;exact .refl _
 ·exact Ov he
 ·cases he
theorem rK{t:TypeId}{x v:Value}{h h':za}(he:dF P t x h=some (v,h')):Still h h':=by
 unfold dF at he;cases he
theorem QP{b:Builtin}{ts:List TypeId}{r:TypeId}{vs:List Value}{v:Value}{h h':za}(hq:Wt b=true)(he:zk P b ts r vs h=some (v,h')):h'=h:=by
 unfold zk at he
 split at he <;> first
  |(simp[Wt]at hq;done)
  |(simp only[aas,aag]at he;obtain⟨_,_,_,rfl⟩:=he;rfl)
  |(obtain⟨_,he⟩:=zv he;simp only[aas,aag]at he;obtain⟨_,_,_,rfl⟩:=he;rfl)
  |cases he
theorem XA{g:FuncId}{args:List Value}{v:Value}{h h':za}(he:rC P g args h=some (v,h')):Still h h':=by
 unfold rC at he;split at he
 ·rename_i r hn;simp only[aab]at he;subst he;unfold ES at hn;split at hn
  case h_2=>cases hn
  obtain⟨_,hn⟩:=zv hn;split at hn
  case h_2=>cases hn
  simp only[aab,aag]at hn;obtain⟨_,rfl⟩:=hn;exact .inl rfl
 ·unfold lL at he;split at he
  case h_2=>cases he
  obtain⟨_,he⟩:=zv he;split at he
  case h_2=>cases he
  split at he
  case h_2=>cases he
  obtain⟨_,he⟩:=zv he;simp only[aab,aag]at he;obtain⟨_,rfl⟩:=he;exact .inr ⟨_,rfl⟩
theorem YQ{s:Env}{o:Oper}{v:Value}{h h':za}(he:K9 P s o h=some (v,h')):AF h h'/\(XP o.op=false->Still h h'):=by
 unfold K9 at he;split at he <;> rename_i yV
 ·have:=u1 he;exact⟨this.af,λ_=>this⟩
 ·have:=u1 he;exact⟨this.af,λ_=>this⟩
 ·split at he
  ·have:=u1 he;exact⟨this.af,λ_=>this⟩
  ·have:=u1 he;exact⟨this.af,λ_=>this⟩
  ·cases he
 ·split at he
  ·simp only[aab,mU,aag]at he;obtain⟨_,rfl⟩:=he;exact⟨.push _ _,λ_ => .inr ⟨_,rfl⟩⟩
  ·cases he
 ·split at he
  ·simp only[aab,mU,aag]at he;obtain⟨_,rfl⟩:=he;exact⟨.push _ _,λ_ => .inr ⟨_,rfl⟩⟩
  ·cases he
 ·split at he
  ·have:=u1 he;exact⟨this.af,λ_=>this⟩
  ·cases he
 ·split at he
  ·have:=aK he;exact⟨this.af,λ_=>this⟩
  ·cases he
 ·split at he
  ·have:=u1 he;exact⟨this.af,λ_=>this⟩
  ·cases he
 ·split at he
  ·split at he
   ·rename_i hs;simp only[aab,aag]at he;obtain⟨_,rfl⟩:=he;exact⟨oJ hs,λhw=>by rw[yV]at hw;cases hw⟩
   ·cases he
  ·cases he
 ·split at he
  ·simp only[aab,aag]at he;obtain⟨_,rfl⟩:=he;exact⟨.refl _,λ_ => .inl rfl⟩
  ·simp only[aab,aag]at he;obtain⟨_,rfl⟩:=he;exact⟨.refl _,λ_ => .inl rfl⟩
  ·cases he
 ·split at he
  ·have:=u1 he;exact⟨this.af,λ_=>this⟩
  ·cases he
 ·split at he
  ·obtain⟨_,he⟩:=zv he;have:=u1 he;exact⟨this.af,λ_=>this⟩
  ·cases he
 ·split at he
  ·have:=Au he;exact⟨this.af,λ_=>this⟩
  ·cases he
 ·split at he
  ·split at he
   ·simp only[aab,aag]at he;obtain⟨_,rfl⟩:=he;exact⟨.refl _,λ_ => .inl rfl⟩
   ·cases he
  ·cases he
 ·split at he
  ·simp only[aab,aag]at he;obtain⟨_,rfl⟩:=he;exact⟨.refl _,λ_ => .inl rfl⟩
  ·cases he
 ·split at he
  ·have:=AB he;exact⟨this.af,λ_=>this⟩
  ·cases he
 ·split at he
  ·split at he
   ·simp only[aab,aag]at he;obtain⟨_,rfl⟩:=he;exact⟨.refl _,λ_ => .inl rfl⟩
   ·cases he
  ·have:=u1 he;exact⟨this.af,λ_=>this⟩
  ·cases he
 ·split at he
  ·have:=u1 he;exact⟨this.af,λ_=>this⟩
  ·cases he
 ·split at he
  ·split at he
   ·split at he
    ·have:=u1 he;exact⟨this.af,λ_=>this⟩
    ·cases he
   ·cases he
  ·cases he
 ·split at he
  ·have:=u1 he;exact⟨this.af,λ_=>this⟩
  ·cases he
 ·split at he
  ·obtain⟨_,he⟩:=zv he;have:=u1 he;exact⟨this.af,λ_=>this⟩
  ·cases he
 ·split at he
  ·have:=u1 he;exact⟨this.af,λ_=>this⟩
  ·cases he
 ·split at he
  ·refine⟨Ap he,λhw=>?_⟩;rw[yV]at hw;simp only[XP,Bool.not_eq_false']at hw;exact .inl (QP hw he)
  ·cases he
 ·simp only[aab,vS,aag]at he;obtain⟨_,rfl⟩:=he;exact⟨.push _ _,λ_ => .inr ⟨_,rfl⟩⟩
 ·split at he
  ·have:=u1 he;exact⟨this.af,λ_=>this⟩
  ·cases he
 ·split at he
  ·split at he
   ·rename_i hu;simp only[aab,aag]at he;obtain⟨_,rfl⟩:=he;exact⟨mM hu,λhw=>by rw[yV]at hw;cases hw⟩
   ·cases he
  ·cases he
 ·split at he
  ·have:=rK he;exact⟨this.af,λ_=>this⟩
  ·cases he
 ·split at he
  ·exact⟨Ib he,λhw=>by rw[yV]at hw;cases hw⟩
  ·cases he
 ·split at he
  ·have:=u1 he;exact⟨this.af,λ_=>this⟩
  ·cases he
 ·cases he
end
noncomputable section
variable {P:Program}{cls:List Nat}
def Frames(rec:Xq):Prop := ∀t h o h',rec t h=some (o,h')->AF h h'
def WF(h:za):Prop := ∀b o,h.get b=some o->b<h.next
theorem WF.af{h h':za}(w:WF h)(a:AF h h'):WF h':=by
 intro b o hb;rcases a.alive b o hb with h1|⟨_,h2⟩
 ·obtain⟨o',ho'⟩:∃o,h.get b=some o:=by cases hh:h.get b with|none=>exact absurd hh h1|some o=>exact⟨o,rfl⟩
  exact aan (w b o' ho') a.next
 ·exact h2
theorem AF.lock{h h':za}(a:AF h.lock h'):h.next<=h'.next /\ ∀b o,h'.get b=some o->h.get b≠none\/(h.next<=b/\b<h'.next):=⟨a.next,a.alive⟩
theorem AF.uS{h h2:za}(hn:h.next<=h2.next):AF h (uS h h2):=⟨hn,rfl,λb o hb=>by
 rw[qg]at hb;split at hb
 ·rename_i hc;exact .inr hc
 ·exact .inl (by rw[hb];simp)⟩
def Jj(ops:Array Oper)(ms:List Nat):Prop := ∀k q,(ms.getD k 0).testBit q=true->Prec ops q k
theorem ku{ops:Array Oper}{ms:List Nat}(hm:Jj ops ms){i:Nat}{o:Oper}(ho:ops[i]? = some o){q:Nat}(h:(xc ms o).testBit q=true):Prec ops q i:=by
 have key:∀(l:List Edge) (m:Nat),(∀e,e∈l->e∈o.after)->(l.foldl (λm e=>cond (Region.binds .any e) (m ||| (1 <<< e.on) ||| ms.getD e.on 0) m) m).testBit q=true->m.testBit q=true\/Prec ops q i:=by
  intro l
  induction l with
  |nil=>intro m _ h;exact .inl h
  |cons e l ih=>
   intro m hl h;rw[List.foldl_cons]at h;rcases ih _ (λx hx=>hl x (by simp[hx])) h with h1|h1
   ·cases hb:Region.binds .any e with
    |false=>rw[hb]at h1;exact .inl h1
    |true=>
     rw[hb]at h1;simp only[aax,Nat.testBit_or,aa6]at h1;rcases h1 with(h1|h1)|h1
     ·exact .inl h1
     ·rw[Nat.testBit_shiftLeft]at h1;simp only[aah,aaU,Nat.testBit_one_eq_true_iff_self_eq_zero]at h1;have:q=e.on:=by omega
      subst this;exact .inr (.one ho (hl e (by simp)) hb)
     ·exact .inr (.more ho (hl e (by simp)) hb (hm _ _ h1))
   ·exact .inr h1
 rcases key o.after.toList 0 (λe he=>by simpa using he) h with h1|h1
 ·simp at h1
 ·exact h1
theorem V0{ops:Array Oper}{ms:List Nat}(hm:Jj ops ms){i:Nat}(hl:ms.length=i){o:Oper}(ho:ops[i]? = some o):Jj ops (ms++[xc ms o]):=by
 intro k q h;rcases Nat.lt_trichotomy k i with hk|hk|hk
 ·rw[aaR,abh (by omega),<- aaR]at h;exact hm k q h
 ·subst hk;rw[aaR,abl (by omega),hl]at h;simp at h;exact ku hm ho h
 ·rw[aaR,aao (by simp;omega)]at h;simp at h
theorem lD(A:List yI)(r:yI)(p:yI->Bool):vG (A++[r]) p=if p r=true then some r else vG A p:=by
 simp only[vG,aaS,abF,List.filter_nil];by_cases h:p r=true
 ·simp[h]
 ·simp[h]
theorem KN(A:List yI)(r:yI)(s0:Env)(t:Nat):V7 (A++[r]) s0 t=if r.o.dst=some t then r.v else V7 A s0 t:=by
 simp only[V7,lD,Uf,aaU];by_cases h:r.o.dst=some t <;> simp[h]
theorem bJ(A:List yI)(r:yI)(h0:za)(b:Nat):Xg (A++[r]) h0 b=if r.tc b=true then r.g'.get b else Xg A h0 b:=by
 simp only[Xg,lD];by_cases h:r.tc b=true <;> simp[h]
structure SL (y:fk):Prop where
 tc:y.all=false->∀b,y.r.tc b=true ↔ b∈y.BU
 lt:∀b,y.all=true->y.r.tc b=true->True
 Jg:y.Jg=true->(∀b,y.r.rd b=false) /\ ∀b,y.r.tc b=false
 ex:y.ex=true->∀b,y.r.rd b=true->b∈y.PK
theorem EK{ops:Array Oper}{x y:fk}(hx:SL x)(hy:SL y)(hs:Z1 ops x.r.o y.r.o=true)(h:y.Jg=true\/lx x y=true):fW ops x.r y.r:=by
 simp only[Z1,aah]at hs;obtain⟨h1,h2⟩:=hs
 have hd1:∀d,x.r.o.dst=some d->d∉y.r.o.looksAt ops/\y.r.o.dst≠some d:=by
  intro d hd;rw[hd]at h1;simp only[aah,aav,aaI,aaL]at h1;exact⟨h1.1,h1.2⟩
 have hd2:∀d,y.r.o.dst=some d->d∉x.r.o.looksAt ops:=by
  intro d hd;rw[hd]at h2;simp only[aav,aaI,aaL]at h2;exact h2
 rcases h with hl|h
 ·obtain⟨l1,l2⟩:=hy.Jg hl;exact⟨hd1,hd2,λb _=>⟨l1 b,l2 b⟩,λb hb=>by rw[l2 b]at hb;cases hb⟩
 simp only[lx,aah]at h;obtain⟨h3,h4⟩:=h;refine⟨hd1,hd2,?_,?_⟩
 ·intro b hb;cases ha:x.all with
  |true=>
   rw[ha]at h3;simp only[aax,aa6,aah,aav,aaJ]at h3;rcases h3 with h3|⟨⟨⟨h3,h5⟩,h6⟩,h7⟩
   ·exact⟨(hy.Jg h3).1 b,(hy.Jg h3).2 b⟩
   ·refine⟨?_,?_⟩
    ·cases hr:y.r.rd b with
     |false=>rfl
     |true=>have:=h6 b (hy.ex h3 b hr);rw[hb]at this;cases this
    ·cases hr:y.r.tc b with
     |false=>rfl
     |true=>have:=h7 b ((hy.tc h5 b).1 hr);rw[hb]at this;cases this
  |false=>
   rw[ha]at h3;simp only[aaK,aaJ,aah,aav]at h3;exact h3 b ((hx.tc ha b).1 hb)
 ·intro b hb;cases ha:y.all with
  |true=>
   rw[ha]at h4;simp only[aax,aa6,aah,aav,aaJ]at h4;rcases h4 with h4|⟨h4,h5⟩
   ·exact(hx.Jg h4).1 b
   ·cases hr:x.r.rd b with
    |false=>rfl
    |true=>have:=h5 b (hx.ex h4 b hr);rw[hb]at this;cases this
  |false=>
   rw[ha]at h4;simp only[aaK,aaJ,aav]at h4;exact h4 b ((hy.tc ha b).1 hb)
structure qj (P:Program) (ops:Array Oper) (s0:Env) (h0:za) (A:List yI) (i:Nat) (s:Env) (h:za):Prop where
 js:A.map (·.j)=List.range i
 env:∀t,s.get t=V7 A s0 t
 size:s.size=s0.size
 heap:∀b,h.get b=Xg A h0 b
 ro:h.ro=h0.ro
 next:h0.next<=h.next
 nA:∀x,x∈A->x.g'.next<=h.next
 wf:WF h
 told:∀A1 r A2,A=A1++r::A2->Told P ops s0 h0 A1 r
 Ur:∀A1 r A2,A=A1++r::A2->∀e,e∈r.o.after->Region.binds .any e=true->∃x,x∈A1/\x.j=e.on
 apart:∀A1 x A2 y A3,A=A1++x::(A2++y::A3)->Prec ops x.j y.j\/fW ops x y
theorem Gm{rec:Xq}(S:Sound P rec)(hF:Frames rec)(hC:Yn P cls=true){ops:Array Oper}{s0:Env}{h0:za}{A:List yI}{recs:List fk}{i mask:Nat}{o:Oper}{os:List Oper}{s:Env}{h h1:za}{y:fk}
  (F:qj P ops s0 h0 A i s h) (ho:ops[i]? = some o) (hput:∀d,o.dst=some d->d<s.size) (he:iP P cls rec ops recs mask i os o s h=some (y,h1)) :
  y.r.j=i/\y.r.o=o/\SL y/\Told P ops s0 h0 A y.r/\(∀b,h1.get b=if y.r.tc b=true then y.r.g'.get b else h.get b)/\h1.ro=h.ro/\h.next<=h1.next/\y.r.g'.next<=h1.next/\WF h1:=by
 unfold iP at he;cases hw:yx ops s o with
 |false=>
  rw[hw]at he;simp only[aaK,aab,aag]at he;obtain⟨rfl,rfl⟩:=he;refine⟨rfl,rfl,⟨λ_ b=>by simp,λ_ _ _=>trivial,λ_=>⟨λ_=>rfl,λ_=>rfl⟩,λ_ b hb=>(by cases hb)⟩,⟨ho,F.env,F.size,λb=>by rw[qy];simp,F.ro,F.next,F.nA,aal _,.inl ⟨hw,rfl,rfl⟩,λd hd=>by rw[<- F.size];exact hput d hd,λb hb=>(by cases hb),λb _=>rfl,λb o' hb=>(by cases hb)⟩,λb=>by simp,rfl,aal _,aal _,F.wf⟩
 |true=>
  rw[hw]at he;simp only[aax]at he;split at he
  ·
   rename_i f args ts yV;split at he
   case h_2=>cases he
   rename_i g fa fc vs hf hargs;split at he
   ·
    rename_i hk
    have hlt:∀b,b∈(((recs.flatMap λx=>cond (mask.testBit x.r.j) [] (x.BU++x.PK))++aL s ((o::os).filterMap (·.dst)) os (i+1) (1 <<< i)).filter λb=>Nat.blt b h.next)->b<h.next:=λb hb=>by
     simpa [aa0] using(abU.1 hb).2
    generalize (((recs.flatMap λx=>cond (mask.testBit x.r.j) [] (x.BU++x.PK))++aL s ((o::os).filterMap (·.dst)) os (i+1) (1 <<< i)).filter λb=>Nat.blt b h.next)=hid at *
    split at he
    case h_2=>cases he
    rename_i v h' hrec;simp only[aab,aag]at he;obtain⟨rfl,rfl⟩:=he;have af:=hF _ _ _ _ hrec
    have hwfh:WF (h.QA hid):=λb o' hb=>by
     rw[Xe]at hb;split at hb
     ·cases hb
     ·exact F.wf b o' hb
    have hwf:=hwfh.af af;have hn:h.next<=h'.next:=af.next
    have hgone:∀b,b∈hid->h'.get b=none:=by
     intro b hb;cases hh:h'.get b with
     |none=>rfl
     |some o'=>
      rcases af.alive b o' hh with h2|⟨h2,_⟩
      ·rw[Xe,aam hb]at h2;exact absurd rfl h2
      ·have:h.next<=b:=h2;have:=hlt b hb;omega
    have hbeyond:∀b,¬b<h'.next->h'.get b=none/\h.get b=none:=by
     intro b hb;refine⟨?_,?_⟩
     ·cases hh:h'.get b with|none=>rfl|some o'=>exact absurd (hwf b o' hh) hb
     ·cases hh:h.get b with|none=>rfl|some o'=>exact absurd (aan (F.wf b o' hh) hn) hb
    refine⟨rfl,rfl,⟨λha=>(by cases ha),λ_ _ _=>trivial,λhl=>(by cases hl),λhl=>(by cases hl)⟩,⟨ho,F.env,F.size,λb=>?_,F.ro,F.next,F.nA,hn,.inr ⟨hw,.inr (.inl ⟨f,args,ts,g,fa,fc,vs,yV,hf,hargs,ZL hC hk,S.call _ _ _ _ _ hrec⟩)⟩,λd hd=>by rw[<- F.size];exact hput d hd,λb hb=>?_,λb hb=>?_,λb o' _ hlt2 hb=>?_⟩,λb=>?_,af.ro,hn,aal _,?_⟩
    ·rw[Xe];simp only[aah,aa0,aav,aaL,aaI];by_cases hm:b∈hid
     ·rw[aam hm,aak (λhc=>hc.2 hm)]
     ·rw[aak hm];by_cases hb:b<h.next
      ·rw[aam ⟨hb,hm⟩];exact F.heap b
      ·rw[aak (λhc=>hb hc.1)];cases hh:h.get b with
       |none=>rfl
       |some o'=>exact absurd (F.wf b o' hh) hb
    ·simp only[aah,aa0,aav,aaL,aaI]at hb ⊢;by_cases hb2:b<h.next
     ·exact .inl ⟨hb2,hb.2⟩
     ·exact .inr ⟨aco hb2,hb.1⟩
    ·show h'.get b=(h.QA hid).get b;rw[Xe];by_cases hm:b∈hid
     ·rw[aam hm,hgone b hm]
     ·rw[aak hm]
      have hb':¬b<h'.next:=by
       intro hc;have h3:(Nat.blt b h'.next && !hid.contains b)=true:=by simpa [aa0] using⟨hc,hm⟩
       exact acv ((show(Nat.blt b h'.next && !hid.contains b)=false from hb).symm.trans h3)
      rw[(hbeyond b hb').1,(hbeyond b hb').2]
    ·rcases af.alive b o' hb with h2|⟨h2,_⟩
     ·exact h2
     ·exact absurd hlt2 (by show ¬b<(h.QA hid).next;omega)
    ·rw[JL];simp only[aah,aa0,aav,aaL,aaI];by_cases hm:b∈hid
     ·rw[aam hm,aak (λhc=>hc.2 hm)]
     ·rw[aak hm];by_cases hb:b<h'.next
      ·rw[aam ⟨hb,hm⟩]
      ·rw[aak (λhc=>hb hc.1),(hbeyond b hb).1,(hbeyond b hb).2]
    ·intro b o' hb;rw[JL]at hb;show b<h'.next;split at hb
     ·exact aan (F.wf b o' hb) hn
     ·exact hwf b o' hb
   ·
    rename_i hk;split at he
    case h_2=>cases he
    rename_i v h2 hrec;obtain⟨hsc,he⟩:=zv he;simp only[aab,aag]at he;obtain⟨rfl,rfl⟩:=he;generalize (recs.flatMap λx=>cond (mask.testBit x.r.j) [] x.BU)=hid at *
    have hq:TC P g (fa.toList++vs++fc.toList) (h.QA hid) (λv1 h1=>v1=v/\h1=h.QA hid) :=
     ((S.call _ _ _ _ _ hrec).quiet (λv2 h2 q=>by rw[q.1];exact hsc)).mono (by rintro v2 h3 ⟨⟨h4,q1,q2⟩,rfl⟩;exact⟨q1,rfl⟩)
    refine⟨rfl,rfl,⟨λ_ b=>by simp,λ_ _ _=>trivial,λhl=>(by cases hl),λhl=>(by cases hl)⟩,⟨ho,F.env,F.size,λb=>?_,F.ro,F.next,F.nA,aal _,.inr ⟨hw,.inr (.inl ⟨f,args,ts,g,fa,fc,vs,yV,hf,hargs,ZL hC hk,hq⟩)⟩,λd hd=>by rw[<- F.size];exact hput d hd,λb hb=>(by cases hb),λb _=>rfl,λb o' hb=>(by cases hb)⟩,λb=>by simp,rfl,aal _,aal _,F.wf⟩;rw[Xe];simp only[aah,aa0,aav,aaL,aaI];by_cases hm:b∈hid
    ·rw[aam hm,aak (λhc=>hc.2 hm)]
    ·rw[aak hm];by_cases hb:b<h.next
     ·rw[aam ⟨hb,hm⟩];exact F.heap b
     ·rw[aak (λhc=>hb hc.1)];cases hh:h.get b with
      |none=>rfl
      |some o'=>exact absurd (F.wf b o' hh) hb
   ·
    rename_i hk;split at he
    case h_2=>cases he
    rename_i v h2 hrec;simp only[aab,aag]at he;obtain⟨rfl,rfl⟩:=he;generalize (recs.flatMap λx=>cond (mask.testBit x.r.j) [] x.BU)=hid at *
    have af:=(hF _ _ _ _ hrec).lock;have hn:h.next<=h2.next:=af.1;refine⟨rfl,rfl,⟨λ_ b=>by simp,λ_ _ _=>trivial,λhl=>(by cases hl),λhl=>(by cases hl)⟩,⟨ho,F.env,F.size,λb=>?_,F.ro,F.next,F.nA,hn,.inr ⟨hw,.inr (.inl ⟨f,args,ts,g,fa,fc,vs,yV,hf,hargs,ZL hC hk,(S.call _ _ _ _ _ hrec).fresh⟩)⟩,λd hd=>by rw[<- F.size];exact hput d hd,λb hb=>?_,λb hb=>?_,λb o' hb hlt _=>?_⟩,λb=>?_,rfl,hn,aal _,F.wf.af (.uS hn)⟩
    ·rw[Xe];simp only[aah,aa0,aav,aaL,aaI];by_cases hm:b∈hid
     ·rw[aam hm,aak (λhc=>hc.2 hm)]
     ·rw[aak hm];by_cases hb:b<h.next
      ·rw[aam ⟨hb,hm⟩];exact F.heap b
      ·rw[aak (λhc=>hb hc.1)];cases hh:h.get b with
       |none=>rfl
       |some o'=>exact absurd (F.wf b o' hh) hb
    ·simp only[aaL,aaU,Zs]at hb;exact .inr hb
    ·simp only[aaL,aaI,Zs]at hb;simp only[qg];rw[aak (show ¬((h.QA hid).next<=b/\b<h2.next) from hb)]
    ·simp only[aaL,aaU,Zs]at hb;exact absurd hlt (by show ¬b<h.next;omega)
    ·simp only[aaL,aaU,Zs,qg];by_cases hb:h.next<=b/\b<h2.next
     ·rw[aam hb,aam hb,aam (show(h.QA hid).next<=b/\b<h2.next from hb)]
     ·rw[aak hb,aak hb]
   ·
    split at he
    case h_2=>cases he
    rename_i v g' hop2;simp only[aab,aag]at he;obtain⟨rfl,rfl⟩:=he;have still:=XA hop2;have af:=still.af;have hn:h.next<=g'.next:=af.next;have hro:g'.ro=h.ro:=af.ro;refine⟨rfl,rfl,⟨λ_ b=>by simp,λ_ _ _=>trivial,λhl=>?_,λ_ b hb=>(by cases hb)⟩,⟨ho,F.env,F.size,λb=>by rw[qy];simp,F.ro,F.next,F.nA,hn,.inr ⟨hw,.inr (.inr ⟨f,args,ts,g,fa,fc,vs,yV,hf,hargs,hop2⟩)⟩,λd hd=>by rw[<- F.size];exact hput d hd,λb hb=>?_,λb hb=>?_,λb o' hb hlt hg=>?_⟩,λb=>?_,rfl,hn,aal _,?_⟩
    ·simp only[List.isEmpty_iff]at hl;refine⟨λb=>rfl,λb=>?_⟩;show(List.range' h.next (g'.next-h.next)).contains b=false;rw[hl];rfl
    ·simp only[aaL,aaU,Zs]at hb;exact .inr hb
    ·simp only[aaL,aaI,Zs]at hb;rcases still with e|⟨ob,e⟩
     ·rw[e]
     ·rw[e,za.vK];split
      ·rename_i eb;exact absurd ⟨by rw[eb];exact aal _,by rw[eb,e];exact aa4 _⟩ hb
      ·rfl
    ·simp only[aaL,aaU,Zs]at hb;exact absurd hlt (by show ¬b<h.next;omega)
    ·rw[Q1];simp only[aaL,aaU]
    ·intro b o' hb;rw[Q1]at hb;split at hb
     ·rename_i hm;exact(Zs.1 hm).2
     ·exact aan (F.wf b o' hb) hn
  ·
   rename_i hnc;split at he
   case h_2=>cases he
   rename_i v g' yV;simp only[aab,aag]at he;obtain⟨rfl,rfl⟩:=he;obtain⟨af,still⟩:=YQ yV;generalize hbs:Ls s o h=bs at *
   have hn:h.next<=g'.next:=af.next
   have hmemtc:∀b,b∈(cond (XP o.op) (bs++List.range' h.next (g'.next-h.next)) (List.range' h.next (g'.next-h.next))) ↔ (XP o.op=true/\b∈bs)\/(h.next<=b/\b<g'.next):=by
    intro b;cases XP o.op with
    |true=>simp only[aax,aa2,Zs,ace]
    |false=>simp only[aaK,Zs,abc,false_and,false_or]
   generalize htcl:(cond (XP o.op) (bs++List.range' h.next (g'.next-h.next)) (List.range' h.next (g'.next-h.next)))=BU at *
   have hnew:∀b,¬(h.next<=b/\b<g'.next)->b∉bs\/XP o.op=false->g'.get b=(h.pick bs).get b:=by
    intro b hb hor;cases hwr:XP o.op with
    |false=>
     rcases still hwr with e|⟨ob,e⟩
     ·rw[e]
     ·rw[e,za.vK];split
      ·rename_i eb;exact absurd ⟨by rw[eb];exact aal _,by rw[eb,e];exact aa4 _⟩ hb
      ·rfl
    |true=>
     rcases hor with hor|hor
     ·have e0:(h.pick bs).get b=none:=(by rw[qy,aak hor]);rw[e0];cases hh:g'.get b with
      |none=>rfl
      |some o'=>
       rcases af.alive b o' hh with h2|h2
       ·exact absurd e0 h2
       ·exact absurd h2 hb
     ·rw[hwr]at hor;cases hor
   have hro:g'.ro=h.ro:=af.ro;refine⟨rfl,rfl,⟨λ_ b=>by simp,λ_ _ _=>trivial,λhl=>?_,λ_ b hb=>by simpa using hb⟩,⟨ho,F.env,F.size,λb=>?_,F.ro,F.next,F.nA,hn,.inr ⟨hw,.inl yV⟩,λd hd=>by rw[<- F.size];exact hput d hd,λb hb=>?_,λb hb=>?_,λb o' hb hlt hg=>?_⟩,λb=>?_,rfl,hn,aal _,?_⟩
   ·simp only[aah,List.isEmpty_iff]at hl;obtain⟨e1,e2⟩:=hl;subst e1 e2;exact⟨λb=>rfl,λb=>rfl⟩
   ·rw[qy];simp only[aaL,aaU];split
    ·exact F.heap b
    ·rfl
   ·simp only[aaL,aaU]at hb ⊢;rcases (hmemtc b).1 hb with h2|h2
    ·exact .inl h2.2
    ·exact .inr h2
   ·simp only[aaL,aaI]at hb;have hb2:=λhc=>hb ((hmemtc b).2 hc);refine hnew b (λhc=>hb2 (.inr hc)) ?_;cases hwr:XP o.op with
    |false=>exact .inr rfl
    |true=>exact .inl (λhc=>hb2 (.inl ⟨hwr,hc⟩))
   ·rcases af.alive b o' hg with h2|⟨h2,_⟩
    ·exact h2
    ·exact absurd hlt (by show ¬b<(h.pick bs).next;omega)
   ·rw[Q1];simp only[aaL,aaU]
   ·intro b o' hb;rw[Q1]at hb;split at hb
    ·rcases af.alive b o' hb with h2|⟨_,h2⟩
     ·rw[qy]at h2;split at h2
      ·obtain⟨o2,ho2⟩:∃o,h.get b=some o:=by cases hh:h.get b with|none=>exact absurd hh h2|some o=>exact⟨o,rfl⟩
       exact aan (F.wf b o2 ho2) hn
      ·exact absurd rfl h2
     ·exact h2
    ·exact aan (F.wf b o' hb) hn
end
end Go.Ai
