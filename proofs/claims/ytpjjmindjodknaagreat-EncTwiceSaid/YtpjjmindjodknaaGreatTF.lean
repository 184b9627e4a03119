import Derived.Test.YtpjjmindjodknaaGreatTD
set_option linter.unusedVariables false
set_option linter.unusedSimpArgs false
set_option maxRecDepth 100000
namespace Go.Ai
noncomputable section
variable {P:Program}
@[congr] theorem zaC {f:aaa} {f':Unit->aaa} {l l':List aaa} {h h':za} {K:aaa->za->Prop} (e1:∀u:Unit,(f,u).1=f' u) (e2:l=l') (e3:h=h'):zL P f l h K=zL P (f' ()) l' h' K:=by rw[<- e1,e2,e3]
@[congr] theorem zaB {g:FuncId} {l l':List aaa} {h:za} {h':Unit->za} {K:aaa->Prop} (e2:l=l') (e3:∀u:Unit,(h,u).1=h' u):U8 P g l h K=U8 P g l' (h' ()) K:=by rw[e2,<- e3]
@[congr] theorem zaD {g:FuncId} {l l':List aaa} {h:za} {h':Unit->za} {K:aaa->za->Prop} (e2:l=l') (e3:∀u:Unit,(h,u).1=h' u):Ue P g l h K=Ue P g l' (h' ()) K:=by rw[e2,<- e3]
@[congr] theorem zaA {g:FuncId} {l l':List aaa} {h:za} {h':Unit->za} {K:aaa->za->Prop} (e2:l=l') (e3:∀u:Unit,(h,u).1=h' u):bB P g l h K=bB P g l' (h' ()) K:=by rw[e2,<- e3]
@[congr] theorem zdb {step:List aaa->za->(List aaa->za->Prop)->Prop} {vs vs':List aaa} {h:za} {h':Unit->za} (e1:vs=vs') (e2:∀u:Unit,(h,u).1=h' u):LP step vs h=LP step vs' (h' ()):=by rw[e1,<- e2]
@[congr] theorem zcW {α:Type} {x:Option α} {y:Unit->Option α} {K:α->Prop} (h:∀u:Unit,(x,u).1=y u):opt x K=opt (y ()) K:=by rw[<- h]
@[congr] theorem zbQ {x:Option (aaa×za)} {y:Unit->Option (aaa×za)} {K:aaa->za->Prop} (h:∀u:Unit,(x,u).1=y u):zP x K=zP (y ()) K:=by rw[<- h]
@[congr] theorem zda {g:aaa} {g':Unit->aaa} {want:Bool} {A:(aaa->za->Prop)->Prop} {K:aaa->za->Prop} {h:za} (e:∀u:Unit,(g,u).1=g' u):GD g want A K h=GD (g' ()) want A K h:=by rw[<- e]
@[congr] theorem zc9 {g:aaa} {g':Unit->aaa} {A B:(List aaa->za->Prop)->Prop} {J:List aaa->za->Prop} (e:∀u:Unit,(g,u).1=g' u):CD g A B J=CD (g' ()) A B J:=by rw[<- e]
end
noncomputable section
variable {P:Program}
def Fin(L:Nat)(K:aaa->za->Prop)(e:Ex)(h2:za):Prop := ∃A2,h2.get L=some (.loop A2)/\h2.ro<=L/\K (.bool (XF e).isNone) (h2.set L (some (.loop (A2.left e))))
def RA(L:Nat)(h1:za)(K:za->Prop):Prop := ∃A1,h1.get L=some (.loop A1)/\A1.state=.ready/\h1.ro<=L/\K (h1.set L (some (.loop {A1 with state := .busy})))
def aN(n:Nat):List (Nat×aaa)->Env
 |[]=>Env.enter [] n
 |(k,v)::l=>(aN n l).set k v
def zao(P:Program)(D:Array Oper->Env->za->(Env->za->Prop)->Prop)(n lv lv' L:Nat)(as bd:Code)(r0:Env)(h:za)(K:aaa->za->Prop):Prop :=
 wp P D n lv as r0 h ⟨λr1 h1=>RA L h1 λhb=>
  wp P D n lv' bd r1 hb ⟨λ_ h2=>Fin L K .normal h2,λ_ h2=>Fin L K .ret h2,λi _ h2=>Fin L K (.exit i) h2⟩,λ_ _=>False,λ_ _ _=>False⟩
theorem N4{h:za}{b:Nat}{o o':wS}(hb:h.get b=some o'):AF h (h.set b (some o)) :=
 ⟨aaj _,rfl,λx y hx=>by
  rw[za.yq]at hx;split at hx
  ·rename_i e;subst e;exact .inl (by rw[hb];simp)
  ·exact .inl (by rw[hx];simp)⟩
theorem Tq{D:Array Oper->Env->za->(Env->za->Prop)->Prop}(hD:Uv P D){n lv lv' L:Nat}{args:List aaa}{h:za}{A:VQ}{s0 r0:Env}{K:aaa->za->Prop}
  (hg:h.get L=some (.loop A)) (he:ZP A.params.toList args A.s=some s0) (hl:Le r0 s0) (nb:yk args=true) (hk:zao P D n lv lv' L A.assign A.body r0 h K):Rt P L args h K:=by
 refine⟨nb,λwf=>?_⟩;obtain⟨e1,r1,s1,h1,l1,k1,_,a1,t1⟩:=CE hD (rd:=some L) n _ _ _ _ _ _ hl wf hk;cases e1 with
 |ret=>exact k1.elim
 |exit i=>exact k1.elim
 |normal=>
  obtain⟨A1,g1,st,ro1,hk2⟩:=k1;have a2:AF h1 (h1.set L (some (.loop {A1 with state := .busy}))):=N4 g1;obtain⟨e2,r2,s2,h2,l2,k2,_,a3,t2⟩:=CE hD (rd:=some L) n _ _ _ _ _ _ l1 ((wf.af a1).af a2) hk2;have hfin:Fin L K e2 h2:=by cases e2 <;> exact k2
  obtain⟨A2,g2,ro2,hK⟩:=hfin;refine⟨_,_,hK,((a1.trans a2).trans a3).trans (N4 g2),Hw hg he (t1.mono ?_)⟩;rintro e s h' ⟨rfl,rfl,rfl⟩;refine⟨rfl,A1,g1,st,ro1,t2.mono ?_⟩;rintro e s h' ⟨rfl,rfl,rfl⟩;exact⟨A2,g2,ro2,rfl,rfl⟩
def JB:Code->List (Operand×Array Tmp×Code×Code)
 | .seq a b=>JB a++JB b
 | .cond _ a b=>JB a++JB b
 | .block _ a=>JB a
 | .scope a=>JB a
 | .loop a=>JB a
 | .rangeFunc f ps a b=>[(f,ps,a,b)]
 |_=>[]
def wR(P:Program)(f k:Nat):Array Tmp×Code×Code:=match P.funcs[f]? with
 |some fn=>(match fn.body with
  |some c=>(match (JB c)[k]? with
   |some x=>x.2
   |none=>(#[],.skip,.skip))
  |none=>(#[],.skip,.skip))
 |none=>(#[],.skip,.skip)
end
noncomputable section
variable {P:Program}
def fX(o:Option wS)(off n:Nat):Option (List aaa):=match o with
 |some (.cells c _)=>if off+n<=c.length then some ((c.drop off).take n) else none
 |_=>none
abbrev Lk:=yz->Option (Nat×Nat×Nat)
structure Va (lk:Lk) (ops:Array Oper) (x y:yz):Prop where
 d1:∀d,x.o.dst=some d->d∉y.o.looksAt ops/\y.o.dst≠some d
 d2:∀d,y.o.dst=some d->d∉x.o.looksAt ops
 b1:∀b,x.tc b=true->y.tc b=false/\(y.rd b=false \/ ∃off n,lk y=some (b,off,n)/\x.rd b=true/\fX (x.g'.get b) off n=fX (x.g.get b) off n)
 b2:∀b,y.tc b=true->x.rd b=false \/ ∃off n,lk x=some (b,off,n)/\y.rd b=true/\fX (y.g'.get b) off n=fX (y.g.get b) off n
structure Ns (lk:Lk) (P:Program) (ops:Array Oper) (s0:Env) (h0:za) (A:List yz) (r:yz):Prop extends Told P ops s0 h0 A r where
 still:r.g.next=h0.next/\r.g'.next=h0.next
 look:∀b0 off n,lk r=some (b0,off,n)->r.rd b0=true/\(∀b,r.rd b=true->b=b0)/\(∀b,r.tc b=false) /\ ∀g:za,fX (g.get b0) off n=fX (r.g.get b0) off n->ja P ops r.s r.o g r.v g
structure Y5 (lk:Lk) (P:Program) (ops:Array Oper) (s0:Env) (h0:za) (tr:List yz):Prop where
 nodup:(tr.map (·.j)).Nodup
 all:∀i,i<ops.size->∃r,r∈tr/\r.j=i
 told:∀A r B,tr=A++r::B->Ns lk P ops s0 h0 A r
 Vr:∀A r B,tr=A++r::B->∀e,e∈r.o.after->Region.binds .any e=true->∃x,x∈A/\x.j=e.on
 apart:∀A x B y C,tr=A++x::(B++y::C)->Prec ops x.j y.j\/Va lk ops x y
section
variable {lk:Lk}
theorem Ia{ops:Array Oper}{s0:Env}{h0:za}{tr:List yz}(V:Y5 lk P ops s0 h0 tr){S:Nat->Bool}(hdown:∀i j,Prec ops i j->S j=true->S i=true){A B:List yz}{r:yz}(e:tr=A++r::B)
  (hready:∀i,Prec ops i r.j->S i=true) (hnot:S r.j=false) {p:yz->Bool} (hp:∀x,(x∈A->p x=true->Prec ops x.j r.j)/\(x∈B->p x=true->Prec ops r.j x.j)) :
  (A.filter (λx=>S x.j)).filter p=A.filter p/\(B.filter (λx=>S x.j)).filter p=[]:=by
 constructor
 ·rw[abR];apply aby;intro x hx;cases hpx:p x with
  |false=>simp
  |true=>rw[hready _ ((hp x).1 hx hpx)];rfl
 ·rw[abR,acn];intro x hx hc;simp only[aac]at hc;have:=hdown _ _ ((hp x).2 hx hc.1) hc.2;rw[hnot]at this;cases this
theorem Y5.order{ops:Array Oper}{s0:Env}{h0:za}{tr A B:List yz}{r:yz}(V:Y5 lk P ops s0 h0 tr)(e:tr=A++r::B){p:yz->Bool}(hA:∀x,Va lk ops x r->p x=false)(hB:∀x,Va lk ops r x->p x=false) :
  ∀x,(x∈A->p x=true->Prec ops x.j r.j)/\(x∈B->p x=true->Prec ops r.j x.j):=by
 intro x
 constructor
 ·intro hx hpx;obtain⟨A1,A2,rfl⟩:=aaP hx;rcases V.apart A1 x A2 r B (by simp[e]) with h|h
  ·exact h
  ·rw[hA x h]at hpx;cases hpx
 ·intro hx hpx;obtain⟨B1,B2,rfl⟩:=aaP hx;rcases V.apart A r B1 x B2 e with h|h
  ·exact h
  ·rw[hB x h]at hpx;cases hpx
section
variable {ops:Array Oper}{s0:Env}{h0:za}{tr A B:List yz}{r:yz}{S:Nat->Bool}
theorem UF(e:tr=A++r::B)(hnot:S r.j=false):tr.filter (λx=>S x.j)=A.filter (λx=>S x.j)++B.filter (λx=>S x.j):=by
 subst e;simp[hnot]
theorem lj(V:Y5 lk P ops s0 h0 tr)(e:tr=A++r::B):tr.filter (λx=>qT S r.j x.j)=A.filter (λx=>S x.j)++r::B.filter (λx=>S x.j):=by
 have hA:A.filter (λx=>qT S r.j x.j)=A.filter (λx=>S x.j):=aby λx hx=>by simp[qT,W1 V.nodup e (.inl hx)]
 have hB:B.filter (λx=>qT S r.j x.j)=B.filter (λx=>S x.j):=aby λx hx=>by simp[qT,W1 V.nodup e (.inr hx)]
 rw[e,aaO,abL,hA,hB,aah (by simp[qT])]
theorem Q8(V:Y5 lk P ops s0 h0 tr)(hdown:∀i j,Prec ops i j->S j=true->S i=true)(e:tr=A++r::B)(hready:∀i,Prec ops i r.j->S i=true)(hnot:S r.j=false){p:yz->Bool}
  (hA:∀x,Va lk ops x r->p x=false) (hB:∀x,Va lk ops r x->p x=false):vv (tr.filter λx=>S x.j) p=vv A p:=by
 obtain⟨h1,h2⟩:=Ia V hdown e hready hnot (V.order e hA hB);rw[vv,UF e hnot,aaO,h1,h2,abm];rfl
theorem Uo(V:Y5 lk P ops s0 h0 tr)(hdown:∀i j,Prec ops i j->S j=true->S i=true)(e:tr=A++r::B)(hready:∀i,Prec ops i r.j->S i=true)(hnot:S r.j=false){p:yz->Bool}(hr:p r=true)
  (hA:∀x,Va lk ops x r->p x=false) (hB:∀x,Va lk ops r x->p x=false):vv (tr.filter λx=>qT S r.j x.j) p=some r:=by
 obtain⟨h1,h2⟩:=Ia V hdown e hready hnot (V.order e hA hB);rw[vv,lj V e,aaO,abL,aah hr,h1,h2];simp
theorem YW(V:Y5 lk P ops s0 h0 tr)(e:tr=A++r::B)(hnot:S r.j=false){p:yz->Bool}(hr:p r=false):vv (tr.filter λx=>qT S r.j x.j) p=vv (tr.filter λx=>S x.j) p:=by
 rw[vv,vv,lj V e,UF e hnot,aaO,abL,hr,aae (by simp),aaO]
theorem zaE(V:Y5 lk P ops s0 h0 tr)(hdown:∀i j,Prec ops i j->S j=true->S i=true)(e:tr=A++r::B)(hready:∀i,Prec ops i r.j->S i=true)(hnot:S r.j=false){b0 off n:Nat}(hlk:lk r=some (b0,off,n))(hrd:r.rd b0=true)(htc:r.tc b0=false) :
  fX (YV (tr.filter λx=>S x.j) h0 b0) off n=fX (YV A h0 b0) off n:=by
 have val:∀(l:List yz),YV l h0 b0=match (l.filter λx=>x.tc b0).getLast? with|some r=>r.g'.get b0|none=>h0.get b0:=λl=>rfl
 have one:∀A1 x A2,tr=A1++x::A2->x.tc b0=true->(Va lk ops x r\/Va lk ops r x)->fX (x.g'.get b0) off n=fX (YV A1 h0 b0) off n:=by
  intro A1 x A2 e1 hx hf;have D:=V.told A1 x A2 e1
  have key:x.rd b0=true/\fX (x.g'.get b0) off n=fX (x.g.get b0) off n:=by
   rcases hf with hf|hf
   ·rcases (hf.b1 b0 hx).2 with h1|⟨o1,n1,h1,h2,h3⟩
    ·rw[hrd]at h1;cases h1
    ·rw[hlk]at h1;cases h1;exact⟨h2,h3⟩
   ·rcases hf.b2 b0 hx with h1|⟨o1,n1,h1,h2,h3⟩
    ·rw[hrd]at h1;cases h1
    ·rw[hlk]at h1;cases h1;exact⟨h2,h3⟩
  rw[key.2,D.heap,aah key.1]
 let p:yz->Bool:=λx=>x.tc b0
 have ord:∀A1 x A2,tr=A1++x::A2->p x=true->∀A3 y A4,A1=A3++y::A4->p y=true->Prec ops y.j x.j:=by
  intro A1 x A2 e1 hx A3 y A4 e2 hy;subst e2;rcases V.apart A3 y A4 x A2 (by simpa using e1) with h|h
  ·exact h
  ·have:=(h.b1 b0 hy).1;rw[show x.tc b0=true from hx]at this;cases this
 have go:∀(C D:List yz),tr=C++D->(∀x,x∈C->p x=true->S x.j=false->Va lk ops x r)->fX (YV (C.filter λx=>S x.j) h0 b0) off n=fX (YV C h0 b0) off n:=by
  intro C
  induction hC:C.length generalizing C with
  |zero=>intro D _ _;rw[aa9.1 hC];rfl
  |succ m ih=>
   intro D e1 hfree;rcases List.eq_nil_or_concat C with rfl|⟨C',x,rfl⟩
   ·cases hC
   simp only[List.concat_eq_append]at *
   have e2:tr=C'++x::D:=by rw[e1];simp
   have ih':=ih C' (by simpa using hC) (x::D) e2 λy hy=>hfree y (by simp[hy]);cases hp:p x with
   |false=>
    have h1:(C'++[x]).filter p=C'.filter p:=by rw[aaO];simp[hp]
    have h2:((C'++[x]).filter λy=>S y.j).filter p=(C'.filter λy=>S y.j).filter p:=by
     rw[aaO,aaO];cases hs:S x.j <;> simp[hs,hp]
    rw[val,val,show((C'++[x]).filter λx=>x.tc b0)=C'.filter p from h1,show(((C'++[x]).filter λy=>S y.j).filter λx=>x.tc b0)=(C'.filter λy=>S y.j).filter p from h2];rw[val,val]at ih';exact ih'
   |true=>
    have h1:(C'++[x]).filter p=C'.filter p++[x]:=(by rw[aaO];simp[hp]);cases hs:S x.j with
    |true=>
     have h2:((C'++[x]).filter λy=>S y.j).filter p=(C'.filter λy=>S y.j).filter p++[x]:=by
      rw[aaO,aaO];simp[hs,hp]
     rw[val,val,show((C'++[x]).filter λx=>x.tc b0)=C'.filter p++[x] from h1,show(((C'++[x]).filter λy=>S y.j).filter λx=>x.tc b0)=(C'.filter λy=>S y.j).filter p++[x] from h2];simp
    |false=>
     have h2:((C'++[x]).filter λy=>S y.j).filter p=(C'.filter λy=>S y.j).filter p:=by
      rw[aaO,aaO];simp[hs]
     have hx:=one C' x D e2 hp (.inl (hfree x (by simp) hp hs));rw[val ((C'++[x]).filter _),val (C'++[x]),show((C'++[x]).filter λx=>x.tc b0)=C'.filter p++[x] from h1,show(((C'++[x]).filter λy=>S y.j).filter λx=>x.tc b0)=(C'.filter λy=>S y.j).filter p from h2];rw[val]at ih';simp only[List.getLast?_append,List.getLast?_singleton,Option.some_or];rw[hx];exact ih'
 have back:∀(C D:List yz),B=C++D->fX (YV (A.filter (λx=>S x.j)++C.filter (λx=>S x.j)) h0 b0) off n=fX (YV (A.filter λx=>S x.j) h0 b0) off n:=by
  intro C
  induction hC:C.length generalizing C with
  |zero=>intro D _;rw[aa9.1 hC];simp
  |succ m ih=>
   intro D e1;rcases List.eq_nil_or_concat C with rfl|⟨C',x,rfl⟩
   ·cases hC
   simp only[List.concat_eq_append]at *
   have e2:B=C'++x::D:=by rw[e1];simp
   have ih':=ih C' (by simpa using hC) (x::D) e2;cases hs:S x.j with
   |false=>rw[aaO];simpa [hs] using ih'
   |true=>
    cases hp:p x with
    |false=>
     have h2:((A.filter (λx=>S x.j)++(C'++[x]).filter λy=>S y.j).filter p)=(A.filter (λx=>S x.j)++C'.filter λy=>S y.j).filter p:=by
      rw[aaO C' [x]];simp[hs,hp]
     rw[val,show((A.filter (λx=>S x.j)++(C'++[x]).filter λy=>S y.j).filter λx=>x.tc b0)=_ from h2];rw[val]at ih';exact ih'
    |true=>
     have e3:tr=(A++r::C')++x::D:=by rw[e,e2];simp
     have hfr:Va lk ops r x:=by
      rcases V.apart A r C' x D (by rw[e,e2]) with h|h
      ·have:=hdown _ _ h hs;rw[hnot]at this;cases this
      ·exact h
     have hx:=one (A++r::C') x D e3 hp (.inr hfr)
     have h2:((A.filter (λx=>S x.j)++(C'++[x]).filter λy=>S y.j).filter p)=(A.filter (λx=>S x.j)++C'.filter λy=>S y.j).filter p++[x]:=by
      rw[aaO C' [x]];simp[hs,hp,aaO]
     rw[val,show((A.filter (λx=>S x.j)++(C'++[x]).filter λy=>S y.j).filter λx=>x.tc b0)=_ from h2];simp only[List.getLast?_append,List.getLast?_singleton,Option.some_or];rw[hx,<- ih']
     have h4:(A++r::C').filter p=(A.filter (λx=>S x.j)++C'.filter λy=>S y.j).filter p:=by
      have all:∀y,y∈A++r::C'->p y=true->S y.j=true:=by
       intro y hy hpy;obtain⟨Y1,Y2,hY⟩:=aaP hy;exact hdown _ _ (ord (A++r::C') x D e3 hp Y1 y Y2 hY hpy) hs
      rw[<- aaO,abR,aaO,aaO,abL,show p r=false from htc];simp only[abh,ab1]
      congr 1
      ·apply aby;intro y hy;cases hpy:p y with
       |false=>simp
       |true=>rw[all y (by simp[hy]) hpy];rfl
      ·apply aby;intro y hy;cases hpy:p y with
       |false=>simp
       |true=>rw[all y (by simp[hy]) hpy];rfl
     rw[val,val,show((A++r::C').filter λx=>x.tc b0)=_ from h4]
 have hA:=go A (r::B) e λx hx hpx hsx=>by
  obtain⟨A1,A2,rfl⟩:=aaP hx;rcases V.apart A1 x A2 r B (by simp[e]) with h|h
  ·have:=hready _ h;rw[hsx]at this;cases this
  ·exact h
 rw[UF e hnot,back B [] (by simp),hA]
theorem GB(hro0:h0.ro<=h0.next)(V:Y5 lk P ops s0 h0 tr)(hdown:∀i j,Prec ops i j->S j=true->S i=true)(e:tr=A++r::B)(hready:∀i,Prec ops i r.j->S i=true)(hnot:S r.j=false)
  {N:Nat} (hN:∀x,x∈tr->x.g'.next<=N) (hlk:lk r=none) {ρ0 ρ:xA} {w0 w:World} {tm:Array aaa} (I:aL P tr s0 h0 N ρ0 w0 S ρ w tm) (ds:List Deferred) (rest:List Nat) (b:Frame) (k:List Item) (cs:List Frame) :
  ∃ρ' w' tm',aL P tr s0 h0 N ρ0 w0 (qT S r.j) ρ' w' tm'/\Steps P (lone (vD b tm ds (.inRegion ops (r.j::rest)::k)) cs w) (lone (vD b tm' ds (.inRegion ops rest::k)) cs w'):=by
 have D:=V.told A r B e;have hrm:r∈tr:=by rw[e];simp
 have rdA:∀x,Va lk ops x r->∀bb,x.tc bb=true->r.rd bb=true->False:=λx hx bb hw hb=>by
  rcases (hx.b1 bb hw).2 with h|⟨_,_,h,_⟩
  ·rw[hb]at h;cases h
  ·rw[hlk]at h;cases h
 have rdB:∀x,Va lk ops r x->∀bb,x.tc bb=true->r.rd bb=true->False:=λx hx bb hw hb=>by
  rcases hx.b2 bb hw with h|⟨_,_,h,_⟩
  ·rw[hb]at h;cases h
  ·rw[hlk]at h;cases h
 have lookEnv:∀t,t∈r.o.looksAt ops->vv (tr.filter λx=>S x.j) (UN t)=vv A (UN t):=λt ht=>
  Q8 V hdown e hready hnot (λx hx=>by
   cases hw:UN t x with
   |false=>rfl
   |true=>exact absurd ht (hx.d1 t (aa7 hw)).1) (λx hx=>by
   cases hw:UN t x with
   |false=>rfl
   |true=>exact absurd ht (hx.d2 t (aa7 hw)))
 have lookHeap:∀bb,r.rd bb=true->vv (tr.filter λx=>S x.j) (λx=>x.tc bb)=vv A (λx=>x.tc bb):=λbb hb=>
  Q8 V hdown e hready hnot (λx hx=>by
   cases hw:x.tc bb with
   |false=>rfl
   |true=>exact(rdA x hx bb hw hb).elim) (λx hx=>by
   cases hw:x.tc bb with
   |false=>rfl
   |true=>exact(rdB x hx bb hw hb).elim)
 have hpVeq:∀bb,r.rd bb=true->YV (tr.filter λx=>S x.j) h0 bb=r.g.get bb:=λbb hb=>by
  rw[D.heap,aah hb];simp only[YV,lookHeap bb hb]
 have hpNle:∀bb,r.rd bb=true->ie (tr.filter λx=>S x.j) h0.next bb<=r.g.next:=λbb hb=>by
  simp only[ie,lookHeap bb hb];split
  ·rename_i x hx;exact D.nA x (XG hx).1
  ·exact D.n0
 have galive:∀bb o,r.g.get bb=some o->r.rd bb=true/\YV (tr.filter λx=>S x.j) h0 bb=some o:=λbb o hg=>by
  rw[D.heap]at hg;cases hb:r.rd bb with
  |false=>rw[hb]at hg;simp at hg
  |true=>exact⟨rfl,by rw[hpVeq bb hb,D.heap];exact hg⟩
 let ρr:=ρ.cut r.g.next
 have hrel:Rel P ρr r.g w:=by
  refine⟨rfl,?_,?_,?_,?_,by rw[D.ro];exact I.lq,I.gl⟩
  ·have h1:=D.ro;have h2:=D.n0;show r.g.ro<=r.g.next;omega
  ·intro bb o hg;obtain⟨h1,h2⟩:=galive bb o hg;exact aap (I.heap bb o h2).1 (hpNle bb h1)
  ·intro bb o hg;obtain⟨h1,h2⟩:=galive bb _ hg;obtain⟨_,pl,hp,hc⟩:=I.heap bb o h2;refine⟨pl,hp,?_⟩;rw[D.ro];exact hc.Jk (hpNle bb h1)
  ·intro b1 b2 o1 o2 p1 p2 g1 g2;exact I.inj b1 b2 o1 o2 p1 p2 (galive b1 o1 g1).2 (galive b2 o2 g2).2
 have hlook:∀t,t∈r.o.looksAt ops->zG ρr (r.s.get t) (tm.getD t undef):=by
  intro t ht;have h1:=I.env t;have e1:UD (tr.filter λx=>S x.j) s0 t=r.s.get t:=by rw[D.env t];simp only[UD,lookEnv t ht]
  have e2:eT (tr.filter λx=>S x.j) h0.next t<=r.g.next:=by
   simp only[eT,lookEnv t ht];split
   ·rename_i x hx;exact D.nA x (XG hx).1
   ·exact D.n0
  rw[e1]at h1;exact h1.Jk e2
 obtain⟨v',w',ρq,st,hv,sx⟩:=Jz D.op D.sem hrel (D.size.trans I.size) hlook ds rest b k cs
 let ρ':xA:={next:=N,m:=λbb=>if r.g.next<=bb/\bb<r.g'.next then ρq.m bb else ρ.m bb}
 have qnext:ρq.next=r.g'.next:=st.rel.next;have qlow:∀bb,bb<r.g.next->ρq.m bb=ρ.m bb:=λbb hb=>st.le.2 bb hb
 have pq:∀bb,bb<r.g'.next->ρ'.m bb=ρq.m bb:=by
  intro bb hb;by_cases hl:r.g.next<=bb
  ·exact aah ⟨hl,hb⟩
  ·rw[show ρ'.m bb=ρ.m bb from aae (by omega),qlow bb (by omega)]
 have rfresh:=I.fresh r hrm hnot
 have pext:∀bb pl,ρ.m bb=some pl->ρ'.m bb=some pl:=by
  intro bb pl hm
  rw[show ρ'.m bb=ρ.m bb from aae (by
   rintro⟨h1,h2⟩;rw[rfresh bb h1 h2]at hm;cases hm)]
  exact hm
 have hn1N:r.g'.next<=N:=hN r hrm
 have notMine:∀bb o pl,YV (tr.filter λx=>S x.j) h0 bb=some o->ρ.m bb=some pl->r.rd bb=false->¬mE ρr r.g pl.c:=by
  rintro bb o pl hg hm hb ⟨b1,o1,p1,g1,_,m1,e1⟩;obtain⟨k1,k2⟩:=galive b1 o1 g1;have:=I.inj b1 bb o1 o p1 pl k2 hg m1 hm e1;subst this;rw[hb]at k1;cases k1
 have hpVnew:∀bb,YV (tr.filter λx=>qT S r.j x.j) h0 bb=if r.tc bb=true then r.g'.get bb else YV (tr.filter λx=>S x.j) h0 bb:=by
  intro bb;cases ht:r.tc bb with
  |true=>
   rw[aah rfl];simp only[YV]
   rw[Uo V hdown e hready hnot ht (λx hx=>by
    cases hw:x.tc bb with
    |false=>rfl
    |true=>have:=(hx.b1 bb hw).1;rw[ht]at this;cases this) (λx hx=>by
    cases hw:x.tc bb with
    |false=>rfl
    |true=>have:=(hx.b1 bb ht).1;rw[hw]at this;cases this)]
  |false=>
   rw[aae (by simp)];simp only[YV];rw[YW V e hnot (p:=λx=>x.tc bb) ht]
 have hpNnew:∀bb,ie (tr.filter λx=>qT S r.j x.j) h0.next bb=if r.tc bb=true then r.g'.next else ie (tr.filter λx=>S x.j) h0.next bb:=by
  intro bb;cases ht:r.tc bb with
  |true=>
   rw[aah rfl];simp only[ie]
   rw[Uo V hdown e hready hnot ht (λx hx=>by
    cases hw:x.tc bb with
    |false=>rfl
    |true=>have:=(hx.b1 bb hw).1;rw[ht]at this;cases this) (λx hx=>by
    cases hw:x.tc bb with
    |false=>rfl
    |true=>have:=(hx.b1 bb ht).1;rw[hw]at this;cases this)]
  |false=>
   rw[aae (by simp)];simp only[ie];rw[YW V e hnot (p:=λx=>x.tc bb) ht]
 have cases':∀bb o,YV (tr.filter λx=>qT S r.j x.j) h0 bb=some o->(r.tc bb=true/\r.g'.get bb=some o)\/(r.tc bb=false/\YV (tr.filter λx=>S x.j) h0 bb=some o):=by
  intro bb o h;rw[hpVnew]at h;cases ht:r.tc bb with
  |true=>rw[ht,aah rfl]at h;exact .inl ⟨rfl,h⟩
  |false=>rw[ht,aae (by simp)]at h;exact .inr ⟨rfl,h⟩
 refine⟨ρ',w',qj tm r.o.dst v',⟨rfl,?_,?_,?_,?_,?_,?_,st.os.trans I.os,st.tape.trans I.tape,st.output.trans I.output,aaU I.bL st.size,?_,?_,I.lq,λb pl hb hm=>I.gl b pl hb (by
  rw[show ρ'.m b=ρ.m b from aae (by have:=D.n0;have:=I.lq;omega)]at hm;exact hm)⟩,sx⟩
 ·intro bb hb;rw[show ρ'.m bb=ρ.m bb from aae (by have:=D.n0;omega)];exact I.old bb hb
 ·cases r.o.dst with
  |none=>exact I.size
  |some d=>simp only[qj,Array.size_setIfInBounds];exact I.size
 ·
  intro t;by_cases ht:r.o.dst=some t
  ·have e1:vv (tr.filter λx=>qT S r.j x.j) (UN t)=some r:=Uo V hdown e hready hnot (p:=UN t) (by simp[UN,ht]) (λx hx=>by
    cases hw:UN t x with
    |false=>rfl
    |true=>exact absurd ht (hx.d1 t (aa7 hw)).2) (λx hx=>by
    cases hw:UN t x with
    |false=>rfl
    |true=>exact absurd (aa7 hw) (hx.d1 t ht).2)
   simp only[UD,eT,e1]
   have e2:(qj tm r.o.dst v').getD t undef=v':=by
    have hlt:t<tm.size:=(by rw[<- I.size];exact D.put t ht);rw[ht];simp[qj,aaA,hlt]
   rw[e2];refine hv.ext (by show ρq.next<=r.g'.next;rw[qnext];exact aaj _) (λbb pl hb hm=>?_);show ρ'.m bb=some pl;rw[pq bb (by rw[<- qnext];exact hb)];exact hm
  ·have e1:vv (tr.filter λx=>qT S r.j x.j) (UN t)=vv (tr.filter λx=>S x.j) (UN t):=YW V e hnot (p:=UN t) (by simp[UN,ht])
   have e2:(qj tm r.o.dst v').getD t undef=tm.getD t undef:=by
    cases hd:r.o.dst with
    |none=>rfl
    |some d=>
     have:d≠t:=λh=>ht (by rw[hd,h]);simp[qj,aaA,this]
   have h1:=I.env t;simp only[UD,eT]at h1 ⊢;rw[e1,e2];exact h1.pf (ρ':=ρ') pext
 ·
  intro bb o hg;rcases cases' bb _ hg with⟨ht,hg'⟩|⟨ht,hg'⟩
  ·rw[hpNnew,aah ht];obtain⟨pl,hp,hc⟩:=st.rel.ok bb o hg';have hlt:=st.rel.KJ bb _ hg';refine⟨hlt,pl,by rw[pq bb hlt];exact hp,?_⟩;have hro:r.g'.ro=h0.ro:=st.ro.trans D.ro;rw[hro]at hc;exact hc.ext (by show ρq.next<=r.g'.next;rw[qnext];exact aaj _) (λb2 p2 hb hm=>by show ρ'.m b2=some p2;rw[pq b2 (by rw[<- qnext];exact hb)];exact hm)
  ·rw[hpNnew,ht,aae (by simp)];obtain⟨hlt,pl,hp,hc⟩:=I.heap bb o hg';refine⟨hlt,pl,pext bb pl hp,?_⟩
   have hdone:vV P (ρ.cut (ie (tr.filter λx=>S x.j) h0.next bb)) (decide (h0.ro<=bb)) o pl w':=by
    cases hb:r.rd bb with
    |true=>
     have hgg:r.g'.get bb=some o:=(by rw[D.tc2 bb ht,<- hpVeq bb hb];exact hg');obtain⟨p2,hp2,hc2⟩:=st.rel.ok bb o hgg;have hbl:bb<r.g.next:=aap hlt (hpNle bb hb);rw[qlow bb hbl,hp]at hp2;cases hp2;have hro:r.g'.ro=h0.ro:=st.ro.trans D.ro;rw[hro]at hc2;exact vV.down (ρ:=ρ.cut (ie (tr.filter λx=>S x.j) h0.next bb)) (ρ2:=ρq) (λb2 hb2=>qlow b2 (aap hb2 (hpNle bb hb))) hc hc2
    |false=>exact hc.other (st.frame pl.c hc.lt (notMine bb _ pl hg' hp hb))
   exact hdone.pf (ρ':=ρ') pext
 ·
  have key:∀b1 b2 o1 o2 p1 p2,r.tc b1=true->r.g'.get b1=some o1->r.tc b2=false->YV (tr.filter λx=>S x.j) h0 b2=some o2->ρ'.m b1=some p1->ρ'.m b2=some p2->p1.c=p2.c->b1=b2:=by
   intro b1 b2 o1 o2 p1 p2 t1 g1 t2 g2 m1 m2 ec;obtain⟨hlt2,q2,hq2,hc2⟩:=I.heap b2 o2 g2;rw[pext b2 q2 hq2]at m2;cases m2;have hl1:=st.rel.KJ b1 o1 g1;rw[pq b1 hl1]at m1;cases hb2:r.rd b2 with
   |true=>
    have hgg:r.g'.get b2=some o2:=(by rw[D.tc2 b2 t2,<- hpVeq b2 hb2];exact g2);have hbl:b2<r.g.next:=aap hlt2 (hpNle b2 hb2);exact st.rel.inj b1 b2 o1 _ p1 p2 g1 hgg m1 (by rw[qlow b2 hbl];exact hq2) ec
   |false=>
    by_cases hw:h0.ro<=b1
    ·have hM:mE ρq r.g' p1.c:=⟨b1,o1,p1,g1,by rw[st.ro,D.ro];exact hw,m1,rfl⟩;have hlt:p1.c<w.heap.size:=by rw[ec];exact hc2.lt
     have:=st.mo p1.c hlt hM;rw[ec]at this;exact absurd this (notMine b2 _ p2 g2 hq2 hb2)
    ·have hb1:b1<r.g.next:=(by have:=D.n0;omega);have hne:=D.tc3 b1 o1 t1 hb1 g1;obtain⟨o1',ho1'⟩:∃o,r.g.get b1=some o:=by cases hh:r.g.get b1 with|none=>exact absurd hh hne|some o=>exact⟨o,rfl⟩
     rw[qlow b1 hb1]at m1;exact I.inj b1 b2 o1' _ p1 p2 (galive b1 o1' ho1').2 g2 m1 hq2 ec
  intro b1 b2 o1 o2 p1 p2 g1 g2 m1 m2 ec;rcases cases' b1 o1 g1 with⟨t1,k1⟩|⟨t1,k1⟩ <;> rcases cases' b2 o2 g2 with⟨t2,k2⟩|⟨t2,k2⟩
  ·have l1:=st.rel.KJ b1 o1 k1;have l2:=st.rel.KJ b2 o2 k2;rw[pq b1 l1]at m1;rw[pq b2 l2]at m2;exact st.rel.inj b1 b2 o1 o2 p1 p2 k1 k2 m1 m2 ec
  ·exact key b1 b2 o1 o2 p1 p2 t1 k1 t2 k2 m1 m2 ec
  ·exact(key b2 b1 o2 o1 p2 p1 t2 k2 t1 k1 m2 m1 ec.symm).symm
  ·obtain⟨_,q1,hq1,_⟩:=I.heap b1 o1 k1;obtain⟨_,q2,hq2,_⟩:=I.heap b2 o2 k2;rw[pext b1 q1 hq1]at m1;rw[pext b2 q2 hq2]at m2;cases m1;cases m2;exact I.inj b1 b2 _ _ p1 p2 k1 k2 hq1 hq2 ec
 ·
  intro x hx hS bb h1 h2;simp only[qT,aba,aam]at hS;have h3:=I.fresh x hx hS.1 bb h1 h2;have hne:x≠r:=λh=>hS.2 (by rw[h])
  have hdis:¬(r.g.next<=bb/\bb<r.g'.next):=by
   rw[e]at hx;rcases aaD.1 hx with hxA|hxB
   ·have:=D.nA x hxA;omega
   ·rcases aaz.1 hxB with hxr|hxB
    ·exact absurd hxr hne
    ·obtain⟨B1,B2,rfl⟩:=aaP hxB;have:=(V.told (A++r::B1) x B2 (by simp[e])).nA r (by simp);omega
  rw[show ρ'.m bb=ρ.m bb from aae hdis];exact h3
 ·intro c hc hn
  rw[st.frame c (aap hc I.bL) (by
   rintro⟨b1,o1,p1,g1,hro1,m1,rfl⟩;exact hn (I.mo b1 o1 p1 (galive b1 o1 g1).2 (by rw[<- D.ro];exact hro1) m1 hc))]
  exact I.frame c hc hn
 ·intro bb o pl hg hro hm hc;rcases cases' bb o hg with⟨ht,hg'⟩|⟨ht,hg'⟩
  ·rw[pq bb (st.rel.KJ bb o hg')]at hm;obtain⟨b1,o1,p1,g1,hro1,m1,e1⟩:=st.mo pl.c (aap hc I.bL) ⟨bb,o,pl,hg',by rw[st.ro,D.ro];exact hro,hm,rfl⟩;rw[<- e1];exact I.mo b1 o1 p1 (galive b1 o1 g1).2 (by rw[<- D.ro];exact hro1) m1 (by rw[e1];exact hc)
  ·obtain⟨_,q,hq,_⟩:=I.heap bb o hg';rw[pext bb q hq]at hm;cases hm;exact I.mo bb _ pl hg' hro hq hc
theorem GA(hro0:h0.ro<=h0.next)(V:Y5 lk P ops s0 h0 tr)(hdown:∀i j,Prec ops i j->S j=true->S i=true)(e:tr=A++r::B)(hready:∀i,Prec ops i r.j->S i=true)(hnot:S r.j=false)
  {N:Nat} (hN:∀x,x∈tr->x.g'.next<=N) (hNN:N=h0.next) {b0 off n:Nat} (hlk:lk r=some (b0,off,n)) {ρ0 ρ:xA} {w0 w:World} {tm:Array aaa} (I:aL P tr s0 h0 N ρ0 w0 S ρ w tm) (ds:List Deferred) (rest:List Nat) (b:Frame) (k:List Item) (cs:List Frame) :
  ∃ρ' w' tm',aL P tr s0 h0 N ρ0 w0 (qT S r.j) ρ' w' tm'/\Steps P (lone (vD b tm ds (.inRegion ops (r.j::rest)::k)) cs w) (lone (vD b tm' ds (.inRegion ops rest::k)) cs w'):=by
 have D:=V.told A r B e;have hrm:r∈tr:=by rw[e];simp
 obtain⟨l1,l2,l3,l4⟩:=D.look b0 off n hlk;have hNr:r.g.next=N:=by rw[D.still.1,hNN]
 have hNr':r.g'.next=N:=by rw[D.still.2,hNN]
 have hcut:ρ.cut N=ρ:=by have:=I.next;cases ρ;simp only at this;subst this;rfl
 have lookEnv:∀t,t∈r.o.looksAt ops->vv (tr.filter λx=>S x.j) (UN t)=vv A (UN t):=λt ht=>
  Q8 V hdown e hready hnot (λx hx=>by
   cases hw:UN t x with
   |false=>rfl
   |true=>exact absurd ht (hx.d1 t (aa7 hw)).1) (λx hx=>by
   cases hw:UN t x with
   |false=>rfl
   |true=>exact absurd ht (hx.d2 t (aa7 hw)))
 have lastn:∀(p:yz->Bool) x,vv (tr.filter λx=>S x.j) p=some x->x.g'.next<=N:=λp x hx=>hN x (abP.1 (XG hx).1).1
 have hpNle:∀bb,ie (tr.filter λx=>S x.j) h0.next bb<=N:=λbb=>by
  simp only[ie];split
  ·rename_i x hx;exact lastn _ x hx
  ·omega
 let g1:za:=r.g.set b0 (YV (tr.filter λx=>S x.j) h0 b0)
 have g1get:∀bb o,g1.get bb=some o->bb=b0/\YV (tr.filter λx=>S x.j) h0 b0=some o:=λbb o hg=>by
  show bb=b0/\_;have hg:(r.g.set b0 (YV (tr.filter λx=>S x.j) h0 b0)).get bb=some o:=hg;rw[za.yq]at hg;split at hg
  ·rename_i q;exact⟨q,hg⟩
  ·rw[D.heap]at hg;cases hb:r.rd bb with
   |false=>rw[hb]at hg;simp at hg
   |true=>rename_i q;exact absurd (l2 bb hb) q
 have hrel:Rel P ρ g1 w:=by
  refine⟨by rw[I.next];exact hNr.symm,by have h1:=D.ro;have h2:=D.n0;show r.g.ro<=r.g.next;omega,λbb o hg=>?_,λbb o hg=>?_,λb1 b2 o1 o2 p1 p2 q1 q2 _ _ _=>?_,by show _<=r.g.ro;rw[D.ro];exact I.lq,I.gl⟩
  ·obtain⟨rfl,h2⟩:=g1get bb o hg;have:=(I.heap bb o h2).1;have:=hpNle bb;show bb<r.g.next;omega
  ·obtain⟨rfl,h2⟩:=g1get bb o hg;obtain⟨_,pl,hp,hc⟩:=I.heap bb o h2;refine⟨pl,hp,?_⟩;have hc:=hc.Jk (hpNle bb);rw[hcut]at hc;show vV P ρ (decide (r.g.ro<=bb)) o pl w;rw[D.ro];exact hc
  ·rw[(g1get b1 o1 q1).1,(g1get b2 o2 q2).1]
 have hsem:ja P ops r.s r.o g1.lock r.v g1.lock:=l4 g1.lock (by
  show fX ((r.g.set b0 (YV (tr.filter λx=>S x.j) h0 b0)).get b0) off n=_;rw[za.yq,aah rfl,zaE V hdown e hready hnot hlk l1 (l3 b0),D.heap,aah l1])
 have hlook:∀t,t∈r.o.looksAt ops->zG ρ (r.s.get t) (tm.getD t undef):=by
  intro t ht;have h1:=I.env t;have e1:UD (tr.filter λx=>S x.j) s0 t=r.s.get t:=by rw[D.env t];simp only[UD,lookEnv t ht]
  rw[e1]at h1
  have h1:=h1.Jk (m:=N) (by
   simp only[eT];split
   ·rename_i x hx;exact lastn _ x hx
   ·omega)
  rw[hcut]at h1;exact h1
 obtain⟨v',w',ρq,st,hv,sx⟩:=Jz D.op hsem hrel.lock (D.size.trans I.size) hlook ds rest b k cs
 have hfr:∀c,c<w.heap.size->w'.heap[c]? = w.heap[c]?:=λc hc=>st.frame c hc (by
  rintro⟨bb,o,pl,hg,hro,_,_⟩;have h1:=hrel.lock.KJ bb o hg;have h2:g1.next<=bb:=hro;have h3:bb<g1.next:=h1;omega)
 have qn:ρq.next=N:=by
  have:ρq.next=g1.next:=st.rel.next;rw[this];exact hNr
 have hv2:zG ρ v' v'\/True := .inr trivial
 have hvr:zG ρ r.v v':=hv.ext (by rw[qn,I.next];exact aaj _) λbb pl hb hm=>by
  rw[<- st.le.2 bb (by rw[I.next,<- qn];exact hb)];exact hm
 have hpVnew:∀bb,YV (tr.filter λx=>qT S r.j x.j) h0 bb=YV (tr.filter λx=>S x.j) h0 bb:=λbb=>by
  simp only[YV];rw[YW V e hnot (p:=λx=>x.tc bb) (l3 bb)]
 have hpNnew:∀bb,ie (tr.filter λx=>qT S r.j x.j) h0.next bb=ie (tr.filter λx=>S x.j) h0.next bb:=λbb=>by
  simp only[ie];rw[YW V e hnot (p:=λx=>x.tc bb) (l3 bb)]
 refine⟨ρ,w',qj tm r.o.dst v',⟨I.next,I.old,?_,?_,?_,?_,?_,st.os.trans I.os,st.tape.trans I.tape,st.output.trans I.output,aaU I.bL st.size,?_,?_,I.lq,I.gl⟩,sx⟩
 ·cases r.o.dst with
  |none=>exact I.size
  |some d=>simp only[qj,Array.size_setIfInBounds];exact I.size
 ·intro t;by_cases ht:r.o.dst=some t
  ·have e1:vv (tr.filter λx=>qT S r.j x.j) (UN t)=some r:=Uo V hdown e hready hnot (p:=UN t) (by simp[UN,ht]) (λx hx=>by
    cases hw:UN t x with
    |false=>rfl
    |true=>exact absurd ht (hx.d1 t (aa7 hw)).2) (λx hx=>by
    cases hw:UN t x with
    |false=>rfl
    |true=>exact absurd (aa7 hw) (hx.d1 t ht).2)
   simp only[UD,eT,e1]
   have e2:(qj tm r.o.dst v').getD t undef=v':=by
    have hlt:t<tm.size:=(by rw[<- I.size];exact D.put t ht);rw[ht];simp[qj,aaA,hlt]
   rw[e2,hNr',hcut];exact hvr
  ·have e1:vv (tr.filter λx=>qT S r.j x.j) (UN t)=vv (tr.filter λx=>S x.j) (UN t):=YW V e hnot (p:=UN t) (by simp[UN,ht])
   have e2:(qj tm r.o.dst v').getD t undef=tm.getD t undef:=by
    cases hd:r.o.dst with
    |none=>rfl
    |some d=>
     have:d≠t:=λh=>ht (by rw[hd,h]);simp[qj,aaA,this]
   have h1:=I.env t;simp only[UD,eT]at h1 ⊢;rw[e1,e2];exact h1
 ·intro bb o hg;rw[hpVnew]at hg;rw[hpNnew];obtain⟨h1,pl,hp,hc⟩:=I.heap bb o hg;exact⟨h1,pl,hp,hc.other (hfr pl.c hc.lt)⟩
 ·intro b1 b2 o1 o2 p1 p2 g1 g2;rw[hpVnew]at g1 g2;exact I.inj b1 b2 o1 o2 p1 p2 g1 g2
 ·intro x hx hS;simp only[qT,aba,aam]at hS;exact I.fresh x hx hS.1
 ·intro c hc hn;rw[hfr c (aap hc I.bL)];exact I.frame c hc hn
 ·intro bb o pl hg;rw[hpVnew]at hg;exact I.mo bb o pl hg
theorem GC(hro0:h0.ro<=h0.next)(V:Y5 lk P ops s0 h0 tr)(hdown:∀i j,Prec ops i j->S j=true->S i=true)(e:tr=A++r::B)(hready:∀i,Prec ops i r.j->S i=true)(hnot:S r.j=false)
  {N:Nat} (hN:∀x,x∈tr->x.g'.next<=N) (hNN:N=h0.next) {ρ0 ρ:xA} {w0 w:World} {tm:Array aaa} (I:aL P tr s0 h0 N ρ0 w0 S ρ w tm) (ds:List Deferred) (rest:List Nat) (b:Frame) (k:List Item) (cs:List Frame) :
  ∃ρ' w' tm',aL P tr s0 h0 N ρ0 w0 (qT S r.j) ρ' w' tm'/\Steps P (lone (vD b tm ds (.inRegion ops (r.j::rest)::k)) cs w) (lone (vD b tm' ds (.inRegion ops rest::k)) cs w'):=by
 cases hlk:lk r with
 |none=>exact GB hro0 V hdown e hready hnot hN hlk I ds rest b k cs
 |some x=>obtain⟨b0,off,n⟩:=x;exact GA hro0 V hdown e hready hnot hN hNN hlk I ds rest b k cs
end
section
variable {ops:Array Oper}{s0:Env}{h0:za}{tr:List yz}
theorem OI(hro0:h0.ro<=h0.next)(V:Y5 lk P ops s0 h0 tr){N:Nat}(hN:∀x,x∈tr->x.g'.next<=N)(hNN:N=h0.next){ρ0:xA}{w0:World}(ds:List Deferred)(b:Frame)(k:List Item)(cs:List Frame) :
  ∀(fuel t:Nat) (listed:Array Bool) (ρ:xA) (w:World) (tm:Array aaa),listed.size=ops.size->((List.range ops.size).filter λi => !listed.getD i false).length<=fuel ->
   (∀i j,Prec ops i j->listed.getD j false=true->listed.getD i false=true)->aL P tr s0 h0 N ρ0 w0 (λj=>listed.getD j false) ρ w tm ->
   ∃S ρ' w' tm',(∀r,r∈tr->S r.j=true)/\aL P tr s0 h0 N ρ0 w0 S ρ' w' tm' /\
    Steps P (lone (vD b tm ds (.inRegion ops (Region.linearise.go .any ops fuel t listed [])::k)) cs w) (lone (vD b tm' ds (.inRegion ops []::k)) cs w'):=by
 intro fuel
 induction fuel with
 |zero=>
  intro t listed ρ w tm hsz hcount hdown I;refine⟨_,ρ,w,tm,?_,I,.refl P _⟩;intro r hr;have hnil:=abu (Nat.le_zero.1 hcount);obtain⟨A,B,e⟩:=aaP hr;have yj:=(V.told A r B e).op
  have hlt:r.j<ops.size:=by
   rcases aaI r.j ops.size with h|h
   ·exact h
   ·rw[aaJ h]at yj;cases yj
  cases hl:listed.getD r.j false with
  |true=>rfl
  |false=>
   have:r.j∈(List.range ops.size).filter λi => !listed.getD i false:=abP.2 ⟨abj.2 hlt,by rw[hl];rfl⟩;rw[hnil]at this;cases this
 |succ fuel ih=>
  intro t listed ρ w tm hsz hcount hdown I;simp only[Region.linearise.go]
  change ∃S ρ' w' tm',(∀r,r∈tr->S r.j=true)/\aL P tr s0 h0 N ρ0 w0 S ρ' w' tm'/\Steps P (lone (vD b tm ds (.inRegion ops (match (Region.ready .any ops listed)[t%(Region.ready .any ops listed).length]? with
   |some i=>Region.linearise.go .any ops fuel (t/(Region.ready .any ops listed).length) (listed.setIfInBounds i true) [i]
   |none=>[].reverse)::k)) cs w) _
  have getTF:∀i,i<ops.size->listed.getD i true=listed.getD i false:=by
   intro i hi;simp[aaA,aaL (hsz ▸ hi)]
  by_cases hall:∀r,r∈tr->listed.getD r.j false=true
  ·
   have hnone:Region.ready .any ops listed=[]:=by
    rw[List.eq_nil_iff_forall_not_mem];intro i hi;obtain⟨h1,h2,_⟩:=aH hi;obtain⟨r,hr,hrj⟩:=V.all i h1;have:=hall r hr;rw[hrj,<- getTF i h1,h2]at this;cases this
   rw[hnone];exact⟨_,ρ,w,tm,hall,I,.refl P _⟩
  ·
   have hex:∃i,i∈Region.ready .any ops listed:=by
    have:∃A r B,tr=A++r::B/\listed.getD r.j false=false /\ ∀x,x∈A->listed.getD x.j false=true:=by
     clear ih I hN V
     induction tr with
     |nil=>exact absurd (λr hr=>by cases hr) hall
     |cons x tr iht=>
      cases hx:listed.getD x.j false with
      |false=>exact⟨[],x,tr,rfl,hx,λy hy=>by cases hy⟩
      |true=>
       obtain⟨A,r,B,e,h1,h2⟩:=iht (λh=>hall (λr hr=>by rcases aaz.1 hr with rfl|hr;exact hx;exact h r hr));exact⟨x::A,r,B,by rw[e];rfl,h1,λy hy=>by rcases aaz.1 hy with rfl|hy;exact hx;exact h2 y hy⟩
    obtain⟨A,r,B,e,h1,h2⟩:=this;have yj:=(V.told A r B e).op
    have hlt:r.j<ops.size:=by
     rcases aaI r.j ops.size with h|h
     ·exact h
     ·rw[aaJ h]at yj;cases yj
    refine⟨r.j,Fq hlt (by rw[getTF _ hlt];exact h1) (λo ho ed hed hb=>?_)⟩;rw[yj]at ho;cases ho;obtain⟨x,hx,hxe⟩:=V.Vr A r B e ed hed hb;rw[<- hxe];exact h2 x hx
   cases hi:(Region.ready .any ops listed)[t%(Region.ready .any ops listed).length]? with
   |none=>
    obtain⟨i,hmem⟩:=hex;have hpos:0<(Region.ready .any ops listed).length:=List.length_pos_of_mem hmem;rw[aag (Nat.mod_lt _ hpos)]at hi;cases hi
   |some i=>
    simp only[];rw[linearise_go_acc,List.reverse_singleton,List.singleton_append];obtain⟨hlt,hl,hed⟩:=aH (aax hi);obtain⟨r,hr,hrj⟩:=V.all i hlt;obtain⟨A,B,e⟩:=aaP hr;subst hrj;have yj:=(V.told A r B e).op
    have hready:∀q,Prec ops q r.j->listed.getD q false=true:=by
     intro q hq;cases hq with
     |one ho he hb=>exact hed _ ho _ he hb
     |more ho he hb hp=>exact hdown _ _ hp (hed _ ho _ he hb)
    have hnot:listed.getD r.j false=false:=(by rw[<- getTF _ hlt];exact hl);obtain⟨ρ1,w1,tm1,I1,sx⟩:=GC hro0 V hdown e hready hnot hN hNN I ds (Region.linearise.go .any ops fuel (t/(Region.ready .any ops listed).length) (listed.setIfInBounds r.j true) []) b k cs
    have hadd:(λj=>(listed.setIfInBounds r.j true).getD j false)=qT (λj=>listed.getD j false) r.j:=by
     funext j
     simp only[qT,aaA,aa5];by_cases ej:r.j=j
     ·subst ej;rw[aah rfl,aah (by omega)];simp
     ·rw[aae ej];have:decide (j=r.j)=false:=aaT (λh=>ej h.symm);rw[this,Bool.or_false]
    rw[<- hadd]at I1
    have hcnt:((List.range ops.size).filter λi => !(listed.setIfInBounds r.j true).getD i false).length<=fuel:=by
     have hmem:r.j∈(List.range ops.size).filter λi => !listed.getD i false:=abP.2 ⟨abj.2 hlt,by rw[hnot];rfl⟩
     have hsub:(List.range ops.size).filter (λi => !(listed.setIfInBounds r.j true).getD i false)=((List.range ops.size).filter λi => !listed.getD i false).filter (λi=>decide (i≠r.j)):=by
      rw[abR];apply aby;intro i _;have:=congrFun hadd i;simp only[qT]at this;rw[this];by_cases ei:i=r.j <;> simp[ei]
     rw[hsub]
     have hlen:∀(l:List Nat),r.j∈l->(l.filter λi=>decide (i≠r.j)).length<l.length:=by
      intro l hl;apply List.length_filter_lt_length_iff_exists.2;exact⟨r.j,hl,by simp⟩
     have:=hlen _ hmem;omega
    have hdn:∀q j,Prec ops q j->(listed.setIfInBounds r.j true).getD j false=true->(listed.setIfInBounds r.j true).getD q false=true:=by
     intro q j hq hj;have h1:=congrFun hadd j;have h2:=congrFun hadd q;rw[h1]at hj;rw[h2];simp only[qT,aaV,aaG]at hj ⊢;rcases hj with hj|rfl
     ·exact .inl (hdown q j hq hj)
     ·exact .inl (hready q hq)
    obtain⟨S,ρ2,w2,tm2,hS,I2,sx2⟩:=ih (t/(Region.ready .any ops listed).length) (listed.setIfInBounds r.j true) ρ1 w1 tm1 (by simpa using hsz) hcnt hdn I1;exact⟨S,ρ2,w2,tm2,hS,I2,sx.trans sx2⟩
theorem r9(hmix:P.follows .mixedOrders=true){id:Nat}{rd:Option Nat}{Q:Ex->Env->za->Prop}(V:Y5 lk P ops s0 h0 tr){sf:Env}{hf:za}(hs:∀t,sf.get t=UD tr s0 t)(hsz:sf.size=s0.size)
  (hh:∀b,hf.get b=YV tr h0 b) (hro:hf.ro=h0.ro) (hn:h0.next<=hf.next) (hN:∀x,x∈tr->x.g'.next<=hf.next) (hNN:hf.next=h0.next) (hq:Q .normal sf hf):T P rd (.region id ops true) s0 h0 Q:=by
 intro ρ w tm ds hr hse b hb k cs
 let w1:World:={w with drawn:=w.drawn+1}
 let ρ1:xA:={next:=hf.next,m:=λbb=>if bb<h0.next then ρ.m bb else none}
 have hm1:∀bb pl,bb<ρ.next->ρ.m bb=some pl->ρ1.m bb=some pl:=λbb pl hb hm=>by
  rw[show ρ1.m bb=ρ.m bb from aah (by rw[<- hr.next];exact hb)];exact hm
 have hnil:tr.filter (λr=>(Array.replicate ops.size false).getD r.j false)=[]:=by
  rw[acn];intro r _ h;simp only[aaA,abQ]at h;split at h <;> simp at h
 have I:aL P tr s0 h0 hf.next ρ w (λj=>(Array.replicate ops.size false).getD j false) ρ1 w1 tm:=by
  refine⟨rfl,λbb hb=>aah hb,hse.size,?_,?_,?_,?_,rfl,rfl,rfl,aaj _,λ_ _ _=>rfl,?_,hr.lq,λbb pl hb hm=>hr.Y0 bb pl hb (by
   rw[show ρ1.m bb=ρ.m bb from aah (aap hb (aaU hr.lq hr.ro))]at hm;exact hm)⟩
  ·intro t;rw[hnil];exact(hse.get t).ext (ρ':=ρ1.cut h0.next) (by rw[hr.next];exact aaj _) hm1
  ·intro bb o hg;rw[hnil]at hg ⊢;have hb:=hr.KJ bb _ hg;obtain⟨pl,hp,hc⟩:=hr.ok bb o hg;refine⟨hb,pl,hm1 bb pl (by rw[hr.next];exact hb) hp,?_⟩;exact vV.other (vV.ext (ρ:=ρ) (ρ':=ρ1.cut h0.next) (by rw[hr.next];exact aaj _) hm1 hc) rfl
  ·intro b1 b2 o1 o2 p1 p2 g1 g2 m1 m2 e;rw[hnil]at g1 g2;have l1:=hr.KJ b1 o1 g1;have l2:=hr.KJ b2 o2 g2;rw[show ρ1.m b1=ρ.m b1 from aah l1]at m1;rw[show ρ1.m b2=ρ.m b2 from aah l2]at m2;exact hr.inj b1 b2 o1 o2 p1 p2 g1 g2 m1 m2 e
  ·intro x hx _ bb h1 h2;obtain⟨A,B,e⟩:=aaP hx;have:=(V.told A x B e).n0;exact aae (by omega)
  ·intro bb o pl hg hro' hm hc;rw[hnil]at hg;have l:=hr.KJ bb o hg;rw[show ρ1.m bb=ρ.m bb from aah l]at hm;exact⟨bb,o,pl,hg,hro',hm,rfl⟩
 have hcount:((List.range ops.size).filter λi => !(Array.replicate ops.size false).getD i false).length<=ops.size:=by
  have:=List.length_filter_le (λi => !(Array.replicate ops.size false).getD i false) (List.range ops.size);simpa using this
 obtain⟨S,ρ2,w2,tm2,hS,I2,sx⟩:=OI hr.ro V hN hNN ds b k cs ops.size (w.tape w.drawn (.order b.fn id)) (Array.replicate ops.size false) ρ1 w1 tm (by simp) hcount (λi j _ hj=>by
  simp only[aaA,abQ]at hj;split at hj <;> simp at hj) I
 have hfull:tr.filter (λr=>S r.j)=tr:=List.filter_eq_self.2 hS;have lastn:∀(p:yz->Bool) x,vv tr p=some x->x.g'.next<=hf.next:=λp x hx=>hN x (XG hx).1;have hcut:ρ2=ρ2.cut hf.next:=by have:=I2.next;cases ρ2;simp only at this;subst this;rfl
 have hrel:Rel P ρ2 hf w2:=by
  refine⟨I2.next,by rw[hro];exact aaU hr.ro hn,?_,?_,?_,by rw[hro];exact hr.lq,I2.gl⟩
  ·intro bb o hg;rw[hh]at hg;have:=(I2.heap bb o (by rw[hfull];exact hg)).1;rw[hfull]at this;refine aap this ?_;simp only[ie];split
   ·rename_i x hx;exact lastn _ x hx
   ·exact hn
  ·intro bb o hg;rw[hh]at hg;obtain⟨_,pl,hp,hc⟩:=I2.heap bb o (by rw[hfull];exact hg);refine⟨pl,hp,?_⟩;rw[hro];rw[hfull]at hc;rw[hcut];refine vV.Jk ?_ hc;simp only[ie];split
   ·rename_i x hx;exact lastn _ x hx
   ·exact hn
  ·intro b1 b2 o1 o2 p1 p2 g1 g2;rw[hh]at g1 g2;exact I2.inj b1 b2 o1 o2 p1 p2 (by rw[hfull];exact g1) (by rw[hfull];exact g2)
 refine⟨.normal,sf,hf,ρ2,w2,tm2,ds,hq,⟨⟨by rw[I2.next,hr.next];exact hn,λbb hb=>I2.old bb (by rw[<- hr.next];exact hb)⟩,hrel,hro,I2.os,I2.tape,I2.output,I2.bL,I2.frame,?_⟩,⟨hsz.trans I2.size,λt=>?_⟩,.refl _ _ _,?_⟩
 ·rintro c hc ⟨bb,o,pl,hg,hrb,hm,rfl⟩;rw[hh]at hg;exact I2.mo bb o pl (by rw[hfull];exact hg) (by rw[<- hro];exact hrb) hm hc
 ·have:=I2.env t;rw[hfull]at this;rw[hs t];rw[hcut];refine zG.Jk ?_ this;simp only[eT];split
  ·rename_i x hx;exact lastn _ x hx
  ·exact hn
 ·refine .head Ui ?_
  have:Region.schedule (P.follows .mixedOrders) ops (w.tape w.drawn (.order b.fn id))=Region.linearise .any ops (w.tape w.drawn (.order b.fn id)):=by
   simp only[Region.schedule,hmix,Bool.true_or,abZ]
  rw[this];exact sx.trans (.one XE)
end
end
end
noncomputable section
variable {P:Program}
def pS:Nat->Nat
 |2=>1
 |3=>6
 |4=>2
 |_=>3
def Cm(d:Nat):List Oper->Nat->Option Nat
 |[],_=>none
 |o::os,i=>(match o.op with
  | .buildSlice _ _ _=>(match o.dst with
    |some e=>cond (Nat.beq e d) (some i) (Cm d os (i+1))
    |none=>Cm d os (i+1))
  |_=>Cm d os (i+1))
def Hq(ops:Array Oper)(o:Oper):Option Nat:=match o.op with
 | .call {callee := .builtin .append,args,.. }=>(match args.toList with
   | .tmp d::_=>Cm d ops.toList 0
   |_=>none)
 |_=>none
def Li(o:Oper):Option Nat:=match o.op with
 | .call {callee := .builtin .append,args,.. }=>(match args.toList with
   | .tmp d::_=>some d
   |_=>none)
 |_=>none
def Xi(s:Env)(o:Oper):aaa:=match Li o with
 |some d=>s.get d
 |none=>bot
def gV(v:aaa):Nat:=match v with
 | .slice (some a) _ _=>a.block
 |_=>0
def gW(v:aaa):Nat:=match v with
 | .slice (some a) _ _=>a.block+1
 |_=>0
theorem Ic(v:aaa)(b:Nat):(gV v<=b/\b<gW v) ↔ ∃a n c,v=.slice (some a) n c/\b=a.block:=by
 unfold gV gW;split
 ·rename_i a n c
  constructor
  ·intro e;exact⟨a,n,c,rfl,by omega⟩
  ·rintro⟨a',n',c',e1,e2⟩;cases e1;omega
 ·rename_i hn
  constructor
  ·intro e;omega
  ·rintro⟨a',n',c',e1,e2⟩;exact absurd e1 (hn a' n' c')
def sQ(P:Program)(s d:TypeId):Bool:=(match yd P (underlying s),yd P (underlying d) with|some (.int _),some (.int _)=>true|_,_=>false)&&(match P.underlying s,P.underlying d with|some (.int _),some (.int _)=>true|_,_=>false)
def bI(P:Program)(d:TypeId):Bool:=(match yd P (underlying d) with|some .string=>true|_=>false)&&(match P.underlying d with|some .string=>true|_=>false)
def z9(P:Program)(q:FuncId->Nat)(ops:Array Oper)(o:Oper):Nat:=match o.op with
 | .call {callee := .value (.func g),.. }=>pS (q g)
 | .call {callee := .value _,.. }=>3
 | .call {callee := .builtin .append,.. }=>(match Hq ops o with|some _=>4|none=>(match Li o,o.guard with|some _,none=>7|_,_=>3))
 | .call {callee := .builtin b,.. }=>cond (XL b) 1 3
 | .move _ | .assign _ | .pick _ _ _ | .build _ _ | .nilCheck _ | .binOp _ _ _ _ _ | .unOp _ _ _ | .makeInterface _ _ | .makeFunc _ _ _ | .fieldAddr _ _ _ | .field _ _ _ | .indexAddr _ _ _ | .index _ _ _ | .extract _ _=>0
 | .load _ _ | .lookup _ _ _ _ | .slice _ _ _ _ _ | .entry _=>1
 | .box _ _ | .alloc _ | .buildSlice _ _ _ | .makeSlice _ _ _ | .makeMap _ _=>5
 | .convert a b _=>cond (sQ P a b) 0 (cond (bI P b) 1 2)
 | .range _ _=>2
 |_=>3
def Cb(k:Nat):Bool:=Nat.beq k 1||Nat.beq k 4||Nat.beq k 6
def WD(k:Nat):Bool:=Nat.beq k 2||Nat.beq k 4||Nat.beq k 5||Nat.beq k 6||Nat.beq k 7
def pU(k i n n':Nat)(v:aaa):List (Nat×Nat×Nat):=cond (WD k) (cond (Nat.beq k 7) [(i,n,n'),(i,gV v,gW v)] [(i,n,n')]) []
def PH(x:Nat×Nat×Option Nat×Nat)(ky:Nat)(zy:Option Nat)(my:Nat):Bool :=
 Nat.beq x.2.1 0||Nat.beq ky 0||(Nat.beq x.2.1 3&&Nat.beq ky 5)||(Nat.beq x.2.1 7&&(Nat.beq ky 1||Nat.beq ky 5)) ||
 (!(Nat.beq x.2.1 3) && !(Nat.beq ky 3) && !(Nat.beq x.2.1 7) && !(Nat.beq ky 7)&&(!(Nat.beq ky 2)||Nat.beq x.2.1 1) &&
  (!(Nat.beq x.2.1 4)||Nat.beq ky 5||(match x.2.2.1 with|some z => !(my.testBit z)&&(match zy with|some w => !(Nat.beq z w)|none=>true)|none=>false)) &&
  (!(Nat.beq ky 4)||Nat.beq x.2.1 5||(Cb x.2.1&&(match zy with|some w => !(x.2.2.2.testBit w)|none=>false))))
def mu(P:Program)(q:FuncId->Nat)(ops:Array Oper):List Oper->List Nat->List (Nat×Nat×Option Nat×Nat)->Bool
 |[],_,_=>true
 |o::os,ms,prev=>(prev.all λx=>(yC ms o).testBit x.1||PH x (z9 P q ops o) (Hq ops o) (yC ms o))&&(match Hq ops o with|some z=>(yC ms o).testBit z|none=>true) &&
  mu P q ops os (ms++[yC ms o]) ((ms.length,z9 P q ops o,Hq ops o,yC ms o)::prev)
def Aq(P:Program)(q:FuncId->Nat)(ops:Array Oper):Bool:=ZQ ops ops.toList 0 [] []&&mu P q ops ops.toList [] []
def cut(h:za)(n m:Nat):za:=h.Xe (List.range' n (m-n))
@[simp] theorem zcR (h:za) (n m:Nat):(cut h n m).next=h.next:=rfl
@[simp] theorem zdA (h:za) (n m:Nat):(cut h n m).ro=h.ro:=rfl
theorem mi(h:za)(n m b:Nat):(cut h n m).get b=if n<=b/\b<m then none else h.get b:=by
 unfold cut;rw[uT];simp only[Zk]
theorem qt{h:za}{n m b:Nat}(hb:b<n):(cut h n m).get b=h.get b:=by rw[mi,aae (by omega)]
def qB(m:Nat):List (Nat×Nat×Nat)->za->za
 |[],h=>h
 |x::l,h=>cond (m.testBit x.1) (qB m l h) (qB m l (cut h x.2.1 x.2.2))
def A6(m:Nat)(al:List (Nat×Nat×Nat))(b:Nat):Bool:=al.all λx=>m.testBit x.1 || !(Nat.ble x.2.1 b&&Nat.blt b x.2.2)
theorem ZR(m:Nat):∀(al:List (Nat×Nat×Nat)) (h:za),(qB m al h).next=h.next/\(qB m al h).ro=h.ro /\ ∀b,(qB m al h).get b=if A6 m al b=true then h.get b else none
 |[],h=>⟨rfl,rfl,λb=>rfl⟩
 |x::l,h=>by
  unfold qB;cases hb:m.testBit x.1 with
  |true=>
   obtain⟨a1,a2,a3⟩:=ZR m l h;refine⟨a1,a2,λb=>?_⟩;rw[aaw,a3];unfold A6;rw[acd,hb,Bool.true_or,abr]
  |false=>
   obtain⟨a1,a2,a3⟩:=ZR m l (cut h x.2.1 x.2.2);refine⟨a1,a2,λb=>?_⟩;rw[aaH,a3];unfold A6;rw[acd,hb,acA,mi];by_cases hc:x.2.1<=b/\b<x.2.2
   ·have e:(Nat.ble x.2.1 b&&Nat.blt b x.2.2)=true:=by
     rw[aac,abS,aaN];exact hc
    rw[e,Bool.not_true,Bool.false_and,aah hc];split <;> simp
   ·have e:(Nat.ble x.2.1 b&&Nat.blt b x.2.2)=false:=by
     cases he:(Nat.ble x.2.1 b&&Nat.blt b x.2.2) with
     |false=>rfl
     |true=>rw[aac,abS,aaN]at he;exact absurd he hc
    rw[e,acj,abr,aae hc]
def Jm(z:Nat):List (Nat×Nat×Nat)->Option (Nat×Nat)
 |[]=>none
 |x::l=>cond (Nat.beq x.1 z) (some x.2) (Jm z l)
def Vp(P:Program)(g:FuncId)(args:List aaa)(hv h:za)(K:aaa->za->Prop):Prop :=
 xW P g=true/\yk args=true /\ ∃v h2,TC P g args hv.lock (λv1 h1=>v1=v/\h1=h2)/\AF hv.lock h2/\K v (vE h h2)
def zcY(s:aaa)(f t:Nat)(hv:za):Prop:=match s with
 | .slice (some a) _ _=>f<=a.block/\a.block<t/\hv.get a.block≠none
 |_=>True
def Qr(h:za)(s:aaa)(h':za):za:=match s with
 | .slice (some a) _ _=>h.set a.block (h'.get a.block)
 |_=>h
def oI(P:Program)(ts:List TypeId)(r:TypeId)(vs:List aaa)(zr:Option (Nat×Nat))(hv h:za)(K:aaa->za->Prop):Prop:=match zr,vs with
 |some x,s::_=>zcY s x.1 x.2 hv/\zP (nb vs (zF P .append ts r vs hv)) λv h'=>K v (vE (Qr h s h') h')
 |_,_=>False
def MJ(P:Program)(q:FuncId->Nat)(ops:Array Oper)(s:Env)(o:Oper)(al:List (Nat×Nat×Nat))(hv h:za)(K:aaa->za->Prop):Prop:=match o.op with
 | .call {callee := .value (.func g),args,argTypes}=>(match q g with
   |2=>U8 P g (dm s args.toList) hv λv=>K v h
   |3=>Vp P g (dm s args.toList) hv h K
   |4=>T7 P g (dm s args.toList) h K
   |_=>bB P g (dm s args.toList) h K)
 | .call {callee := .value f,args,argTypes}=>gY P (ev s f) (dm s args.toList) h K
 | .call {callee := .builtin .append,args,argTypes}=>(match Hq ops o with
   |some z=>oI P argTypes.toList o.type (dm s args.toList) (Jm z al) hv h K
   |none=>MH P s o h K)
 |_=>Nh (Nat.beq (z9 P q ops o) 1) (MH P s o hv λv _=>K v h) (MH P s o h K)
def FT(P:Program)(q:FuncId->Nat)(ops:Array Oper):List Oper->Nat->List Nat->List (Nat×Nat×Nat)->Env->za->(Env->za->Prop)->Prop
 |[],_,_,_,s,h,K=>K s h
 |o::os,i,ms,al,s,h,K=>(match o.guard with
  |none=>MJ P q ops s o al (qB (yC ms o) al h) h λv h1=>(match s.put o.dst v with
   |some s1=>FT P q ops os (i+1) (ms++[yC ms o]) (al++pU (z9 P q ops o) i h.next h1.next (Xi s o)) s1 h1 K
   |none=>False)
  |some (j,want)=>(match (ops[j]?).bind (·.dst) with
   |none=>False
   |some d=>GD (s.get d) want (MJ P q ops s o al (qB (yC ms o) al h) h) (λv h1=>(match s.put o.dst v with
    |some s1=>FT P q ops os (i+1) (ms++[yC ms o]) (al++pU (z9 P q ops o) i h.next h1.next (Xi s o)) s1 h1 K
    |none=>False)) h))
def Iz(P:Program)(q:FuncId->Nat)(ops:Array Oper)(s:Env)(h:za)(K:Env->za->Prop):Prop:=Nh (Aq P q ops) (FT P q ops ops.toList 0 [] [] s h K) False
end
noncomputable section
variable {P:Program}
structure RV (P:Program) (q:FuncId->Nat) (ops:Array Oper) (A:List yz) (m:Nat) (x:yz):Prop where
 rd:∀b,x.rd b=true->b<x.g.next
 k0:z9 P q ops x.o=0\/z9 P q ops x.o=5->∀b,x.rd b=false
 k1:z9 P q ops x.o<=1->∀b,x.tc b=false
 lk:Cb (z9 P q ops x.o)=true->∀b,x.rd b=true->∀z,z∈A->WD (z9 P q ops z.o)=true->m.testBit z.j=false->¬(z.g.next<=b/\b<z.g'.next)
 tc:z9 P q ops x.o≠3->∀b,x.tc b=true->(x.g.next<=b/\b<x.g'.next)\/(z9 P q ops x.o=4 /\ ∃z,z∈A/\WD (z9 P q ops z.o)=true/\Hq ops x.o=some z.j/\z.g.next<=b/\b<z.g'.next)\/(z9 P q ops x.o=7/\b<x.g.next/\gV (Xi x.s x.o)<=b/\b<gW (Xi x.s x.o))
 lb:Cb (z9 P q ops x.o)=true->∀b,x.rd b=true->∀z,z∈A->z9 P q ops z.o=7->m.testBit z.j=false->¬(gV (Xi z.s z.o)<=b/\b<gW (Xi z.s z.o))
 t3:z9 P q ops x.o=3->∀b,x.tc b=true->b<x.g'.next
structure KM (P:Program) (q:FuncId->Nat) (ops:Array Oper) (s0:Env) (h0:za) (A:List yz) (i:Nat) (o:Oper) (s:Env) (h:za) (u:aaa) (h1:za) (m:Nat) (y:yz):Prop where
 hj:y.j=i
 yj:y.o=o
 Mq:y.s=s
 sK:y.v=u
 gn:y.g.next=h.next
 told:Told P ops s0 h0 A y
 rv:RV P q ops A m y
 heap:∀b,h1.get b=if y.tc b=true then y.g'.get b else h.get b
 ro:h1.ro=h.ro
 next:h.next<=h1.next
 EO:y.g'.next<=h1.next
 geq:WD (z9 P q ops o)=true->y.g'.next=h1.next
 wf:WF h1
def XA(P:Program)(q:FuncId->Nat)(ops:Array Oper):List yz->List (Nat×Nat×Nat)
 |[]=>[]
 |x::l=>pU (z9 P q ops x.o) x.j x.g.next x.g'.next (Xi x.s x.o)++XA P q ops l
theorem N6(P:Program)(q:FuncId->Nat)(ops:Array Oper)(A:List yz)(y:yz):XA P q ops (A++[y])=XA P q ops A++pU (z9 P q ops y.o) y.j y.g.next y.g'.next (Xi y.s y.o):=by
 induction A with
 |nil=>simp only[abv,XA,abm]
 |cons x A ih=>simp only[ach,XA,ih,aa4]
theorem pV{k i n n':Nat}{v:aaa}:(WD k=false/\pU k i n n' v=[])\/(WD k=true/\(pU k i n n' v=[(i,n,n')]\/(k=7/\pU k i n n' v=[(i,n,n'),(i,gV v,gW v)]))):=by
 unfold pU;cases WD k with
 |false=>exact .inl ⟨rfl,rfl⟩
 |true=>
  refine .inr ⟨rfl,?_⟩;cases h7:Nat.beq k 7 with
  |false=>exact .inl rfl
  |true=>exact .inr ⟨aal h7,rfl⟩
theorem ON{q:FuncId->Nat}{ops:Array Oper}{A:List yz}{z f t:Nat}(h:Jm z (XA P q ops A)=some (f,t)):∃x,x∈A/\WD (z9 P q ops x.o)=true/\(z,f,t)=(x.j,x.g.next,x.g'.next):=by
 induction A with
 |nil=>cases h
 |cons x A ih=>
  simp only[XA]at h
  have rest:Jm z (XA P q ops A)=some (f,t)->∃y,y∈x::A/\WD (z9 P q ops y.o)=true/\(z,f,t)=(y.j,y.g.next,y.g'.next):=λh=>by
   obtain⟨x',h1,h2⟩:=ih h;exact⟨x',by simp[h1],h2⟩
  rcases pV (k:=z9 P q ops x.o) (i:=x.j) (n:=x.g.next) (n':=x.g'.next) (v:=Xi x.s x.o) with⟨hl,e⟩|⟨hl,e|⟨_,e⟩⟩
  ·rw[e]at h;exact rest h
  ·rw[e]at h;cases hb:Nat.beq x.j z with
   |true=>
    simp only[List.singleton_append,Jm,hb,aaw,aab,aaf]at h;exact⟨x,by simp,hl,by rw[<- aal hb,h.1,h.2]⟩
   |false=>simp only[List.singleton_append,Jm,hb,aaH]at h;exact rest h
  ·rw[e]at h;cases hb:Nat.beq x.j z with
   |true=>
    simp only[ach,abv,Jm,hb,aaw,aab,aaf]at h;exact⟨x,by simp,hl,by rw[<- aal hb,h.1,h.2]⟩
   |false=>simp only[ach,abv,Jm,hb,aaH]at h;exact rest h
theorem RI{q:FuncId->Nat}{ops:Array Oper}{A:List yz}{x:yz}(h:x∈A)(hl:WD (z9 P q ops x.o)=true):(x.j,x.g.next,x.g'.next)∈XA P q ops A:=by
 induction A with
 |nil=>cases h
 |cons z A ih=>
  simp only[XA];rcases aaz.1 h with rfl|h
  ·refine aaK _ ?_;rcases pV (k:=z9 P q ops x.o) (i:=x.j) (n:=x.g.next) (n':=x.g'.next) (v:=Xi x.s x.o) with⟨hl',e⟩|⟨_,e|⟨_,e⟩⟩
   ·rw[hl]at hl';cases hl'
   ·rw[e];simp
   ·rw[e];simp
  ·exact aaX _ (ih h)
theorem N5{q:FuncId->Nat}{ops:Array Oper}{A:List yz}{x:yz}(h:x∈A)(h7:z9 P q ops x.o=7):(x.j,gV (Xi x.s x.o),gW (Xi x.s x.o))∈XA P q ops A:=by
 induction A with
 |nil=>cases h
 |cons z A ih=>
  simp only[XA];rcases aaz.1 h with rfl|h
  ·refine aaK _ ?_;rw[h7];show _∈[_,_];simp
  ·exact aaX _ (ih h)
section
variable {q:FuncId->Nat}{ops:Array Oper}{s0:Env}{h0:za}{A:List yz}{i:Nat}{o:Oper}{s:Env}{h:za}
theorem UL{h:za}(w:WF h){b:Nat}(hb:¬b<h.next):h.get b=none:=by
 cases hh:h.get b with|none=>rfl|some o'=>exact absurd (w b o' hh) hb
def eU(m:Nat)(al:List (Nat×Nat×Nat))(h:za)(b:Nat):Bool:=Nat.blt b h.next&&A6 m al b
theorem BP{m:Nat}{al:List (Nat×Nat×Nat)}{b:Nat}(hb:eU m al h b=true):b<h.next:=by
 unfold eU at hb;rw[aac,aaN]at hb;exact hb.1
theorem px{m:Nat}{b:Nat}(hb:eU m (XA P q ops A) h b=true){z:yz}(hz:z∈A)(hl:WD (z9 P q ops z.o)=true)(hm:m.testBit z.j=false):¬(z.g.next<=b/\b<z.g'.next):=by
 unfold eU A6 at hb;rw[aac,aav]at hb;have:=hb.2 _ (RI hz hl);simp only[hm,acA,aao]at this;intro e;have t:(Nat.ble z.g.next b&&Nat.blt b z.g'.next)=true:=by rw[aac,abS,aaN];exact e
 rw[t]at this;cases this
theorem hO{m:Nat}{b:Nat}(hb:eU m (XA P q ops A) h b=true){z:yz}(hz:z∈A)(h7:z9 P q ops z.o=7)(hm:m.testBit z.j=false):¬(gV (Xi z.s z.o)<=b/\b<gW (Xi z.s z.o)):=by
 unfold eU A6 at hb;rw[aac,aav]at hb;have:=hb.2 _ (N5 hz h7);simp only[hm,acA,aao]at this;intro e;have t:(Nat.ble (gV (Xi z.s z.o)) b&&Nat.blt b (gW (Xi z.s z.o)))=true:=by rw[aac,abS,aaN];exact e
 rw[t]at this;cases this
theorem iE{m:Nat}(F:vB P ops s0 h0 A i s h)(b:Nat):(qB m (XA P q ops A) h).get b=if eU m (XA P q ops A) h b=true then YV A h0 b else none:=by
 rw[(ZR m (XA P q ops A) h).2.2 b];unfold eU;by_cases hb:b<h.next
 ·rw[show Nat.blt b h.next=true by rw[aaN];exact hb,abr,F.heap]
 ·have e:Nat.blt b h.next=false:=by
   cases e:Nat.blt b h.next with
   |false=>rfl
   |true=>rw[aaN]at e;exact absurd e hb
  rw[e,Bool.false_and,UL F.wf hb];simp
theorem cT(F:vB P ops s0 h0 A i s h)(ho:ops[i]? = some o)(hput:∀d,o.dst=some d->d<s.size){u:aaa}(hs:ja P ops s o (h.pick []) u (h.pick []))(m:Nat):∃y,KM P q ops s0 h0 A i o s h u h m y:=by
 refine⟨⟨i,o,u,s,h.pick [],h.pick [],λ_=>false,λ_=>false⟩,rfl,rfl,rfl,rfl,rfl,
  ⟨ho,F.env,F.size,λb=>by rw[ux];simp,F.ro,F.next,F.nA,aaj _,hs,λd hd=>by rw[<- F.size];exact hput d hd,λb hb=>(by cases hb),λb _=>rfl,λb o' hb=>(by cases hb)⟩,
  ⟨λb hb=>(by cases hb),λ_ _=>rfl,λ_ _=>rfl,λ_ b hb=>(by cases hb),λ_ b hb=>(by cases hb),λ_ b hb=>(by cases hb),λ_ b hb=>(by cases hb)⟩,λb=>by simp,rfl,aaj _,aaj _,λ_=>rfl,F.wf⟩
theorem MF(F:vB P ops s0 h0 A i s h)(ho:ops[i]? = some o)(hput:∀d,o.dst=some d->d<s.size)(hk:z9 P q ops o=5){u:aaa}{ob:wS}(hs:ja P ops s o (h.pick []) u ((h.pick []).push ob))(m:Nat):∃y,KM P q ops s0 h0 A i o s h u (h.push ob) m y:=by
 have hp:(h.pick []).next=h.next:=rfl;have htc:∀b,(decide (b=h.next)=true) ↔ b=h.next:=λb=>by simp
 refine⟨⟨i,o,u,s,h.pick [],(h.pick []).push ob,λ_=>false,λb=>decide (b=h.next)⟩,rfl,rfl,rfl,rfl,rfl,
  ⟨ho,F.env,F.size,λb=>by rw[ux];simp,F.ro,F.next,F.nA,abx _,hs,λd hd=>by rw[<- F.size];exact hput d hd,λb hb=>?_,λb hb=>?_,λb o' hb hlt=>?_⟩,
  ⟨λb hb=>(by cases hb),λ_ _=>rfl,λh=>?_,λ_ b hb=>(by cases hb),λ_ b hb=>?_,λ_ b hb=>(by cases hb),λe=>absurd (hk.symm.trans e) (by decide)⟩,λb=>?_,rfl,abx _,aaj _,λ_=>rfl,λb o' hb=>?_⟩
 ·refine .inr ?_;have:=(htc b).1 hb;show h.next<=b/\b<h.next+1;omega
 ·have hb:decide (b=h.next)=false:=hb;have hne:b≠h.next:=λe=>by rw[(htc b).2 e]at hb;cases hb
  rw[za.vJ,aae (by rw[hp];exact hne)]
 ·have e1:=(htc b).1 hb;have e2:b<h.next:=hlt;omega
 ·simp only at h;omega
 ·have:=(htc b).1 hb;refine .inl ?_;show h.next<=b/\b<h.next+1;omega
 ·show(h.push ob).get b=if decide (b=h.next)=true then ((h.pick []).push ob).get b else h.get b;rw[za.vJ,za.vJ,hp];by_cases e:b=h.next
  ·rw[aah e,aah ((htc b).2 e),aah e]
  ·rw[aae e,aae (λt=>e ((htc b).1 t))]
 ·rw[za.vJ]at hb;rw[za.ay];split at hb
  ·rename_i e;omega
  ·exact abF (F.wf b o' hb)
theorem ra(F:vB P ops s0 h0 A i s h)(ho:ops[i]? = some o)(hput:∀d,o.dst=some d->d<s.size)(hk:z9 P q ops o=1){m:Nat}{u:aaa}(hs:ja P ops s o (qB m (XA P q ops A) h) u (qB m (XA P q ops A) h)):∃y,KM P q ops s0 h0 A i o s h u h m y:=by
 obtain⟨v1,v2,v3⟩:=ZR m (XA P q ops A) h
 refine⟨⟨i,o,u,s,qB m (XA P q ops A) h,qB m (XA P q ops A) h,eU m (XA P q ops A) h,λ_=>false⟩,rfl,rfl,rfl,rfl,v1,
  ⟨ho,F.env,F.size,iE F,v2.trans F.ro,by rw[v1];exact F.next,λx hx=>by rw[v1];exact F.nA x hx,aaj _,hs,λd hd=>by rw[<- F.size];exact hput d hd,λb hb=>(by cases hb),λb _=>rfl,λb o' hb=>(by cases hb)⟩,
  ⟨λb hb=>by show b<(qB m (XA P q ops A) h).next;rw[v1];exact BP hb,λe=>by simp only at e;omega,λ_ _=>rfl,λ_ b hb z hz hl hm=>px hb hz hl hm,λ_ b hb=>(by cases hb),λ_ b hb z hz hl hm=>hO hb hz hl hm,λ_ b hb=>(by cases hb)⟩,λb=>by simp,rfl,aaj _,by rw[v1];exact aaj _,λe=>(by rw[hk]at e;cases e),F.wf⟩
theorem G1(F:vB P ops s0 h0 A i s h)(ho:ops[i]? = some o)(hput:∀d,o.dst=some d->d<s.size)(hk:z9 P q ops o=6){m:Nat}{h2:za}(hn:h.next<=h2.next){u:aaa}(hs:ja P ops s o (qB m (XA P q ops A) h) u (vE (qB m (XA P q ops A) h) h2)):∃y,KM P q ops s0 h0 A i o s h u (vE h h2) m y:=by
 obtain⟨v1,v2,v3⟩:=ZR m (XA P q ops A) h;have htc:∀b,(decide (h.next<=b/\b<h2.next)=true) ↔ (h.next<=b/\b<h2.next):=λb=>by simp
 refine⟨⟨i,o,u,s,qB m (XA P q ops A) h,vE (qB m (XA P q ops A) h) h2,eU m (XA P q ops A) h,λb=>decide (h.next<=b/\b<h2.next)⟩,rfl,rfl,rfl,rfl,v1,
  ⟨ho,F.env,F.size,iE F,v2.trans F.ro,by rw[v1];exact F.next,λx hx=>by rw[v1];exact F.nA x hx,by show(qB m (XA P q ops A) h).next<=h2.next;rw[v1];exact hn,hs,λd hd=>by rw[<- F.size];exact hput d hd,λb hb=>?_,λb hb=>?_,λb o' hb hlt=>?_⟩,
  ⟨λb hb=>by show b<(qB m (XA P q ops A) h).next;rw[v1];exact BP hb,λe=>by simp only at e;omega,λe=>by simp only at e;omega,λ_ b hb z hz hl hm=>px hb hz hl hm,λ_ b hb=>?_,λ_ b hb z hz hl hm=>hO hb hz hl hm,λe=>absurd (hk.symm.trans e) (by decide)⟩,λb=>?_,rfl,hn,aaj _,λ_=>rfl,λb o' hb=>?_⟩
 ·refine .inr ?_;have:=(htc b).1 hb;show(qB m (XA P q ops A) h).next<=b/\b<h2.next;rw[v1];exact this
 ·have hb:decide (h.next<=b/\b<h2.next)=false:=hb;rw[wU,v1,aae (λe=>by rw[(htc b).2 e]at hb;cases hb)]
 ·have:=(htc b).1 hb;have hlt:b<(qB m (XA P q ops A) h).next:=hlt;rw[v1]at hlt;omega
 ·refine .inl ?_;show(qB m (XA P q ops A) h).next<=b/\b<h2.next;rw[v1];exact(htc b).1 hb
 ·show(vE h h2).get b=if decide (h.next<=b/\b<h2.next)=true then (vE (qB m (XA P q ops A) h) h2).get b else h.get b;rw[wU,wU,v1];by_cases e:h.next<=b/\b<h2.next
  ·rw[aah e,aah ((htc b).2 e),aah e]
  ·rw[aae e,aae (λt=>e ((htc b).1 t))]
 ·show b<h2.next;rw[wU]at hb;split at hb
  ·rename_i e;exact e.2
  ·exact aap (F.wf b o' hb) hn
theorem lC(F:vB P ops s0 h0 A i s h)(ho:ops[i]? = some o)(hput:∀d,o.dst=some d->d<s.size)(hk:z9 P q ops o=2){h1:za}(hn:h.next<=h1.next)(hro:h1.ro=h.ro)(hold:∀b,¬(h.next<=b/\b<h1.next)->h1.get b=h.get b)
  {u:aaa} (hs:ja P ops s o h u h1) (m:Nat):∃y,KM P q ops s0 h0 A i o s h u h1 m y:=by
 have hrd:∀b,(Nat.blt b h.next=true) ↔ b<h.next:=λb=>by rw[aaN]
 have htc:∀b,(decide (h.next<=b/\b<h1.next)=true) ↔ (h.next<=b/\b<h1.next):=λb=>by simp
 refine⟨⟨i,o,u,s,h,h1,λb=>Nat.blt b h.next,λb=>decide (h.next<=b/\b<h1.next)⟩,rfl,rfl,rfl,rfl,rfl,
  ⟨ho,F.env,F.size,λb=>?_,F.ro,F.next,F.nA,hn,hs,λd hd=>by rw[<- F.size];exact hput d hd,λb hb => .inr ((htc b).1 hb),λb hb=>?_,λb o' hb hlt=>?_⟩,
  ⟨λb hb=>(hrd b).1 hb,λh=>by simp only at h;omega,λh=>by simp only at h;omega,λh=>(by simp only[hk]at h;cases h),λ_ b hb => .inl ((htc b).1 hb),λh=>(by simp only[hk]at h;cases h),λe=>absurd (hk.symm.trans e) (by decide)⟩,λb=>?_,hro,hn,aaj _,λ_=>rfl,λb o' hb=>?_⟩
 ·show h.get b=if Nat.blt b h.next=true then YV A h0 b else none;by_cases hb:b<h.next
  ·rw[aah ((hrd b).2 hb),F.heap]
  ·rw[aae (λe=>hb ((hrd b).1 e)),UL F.wf hb]
 ·refine hold b (λe=>?_);have:=(htc b).2 e;rw[show decide (h.next<=b/\b<h1.next)=false from hb]at this;cases this
 ·have:=((htc b).1 hb).1;have hlt:b<h.next:=hlt;omega
 ·show h1.get b=if decide (h.next<=b/\b<h1.next)=true then h1.get b else h.get b;by_cases hb:h.next<=b/\b<h1.next
  ·rw[aah ((htc b).2 hb)]
  ·rw[aae (λe=>hb ((htc b).1 e)),hold b hb]
 ·by_cases hc:h.next<=b/\b<h1.next
  ·exact hc.2
  ·rw[hold b hc]at hb;exact aap (F.wf b o' hb) hn
theorem Up(F:vB P ops s0 h0 A i s h)(ho:ops[i]? = some o)(hput:∀d,o.dst=some d->d<s.size)(hk:z9 P q ops o=3){h1:za}(af:AF h h1)
  {u:aaa} (hs:ja P ops s o h u h1) (m:Nat):∃y,KM P q ops s0 h0 A i o s h u h1 m y:=by
 have hrd:∀n b,(Nat.blt b n=true) ↔ b<n:=λn b=>by rw[aaN]
 have hn:h.next<=h1.next:=af.next;have hwf:WF h1:=F.wf.af af
 refine⟨⟨i,o,u,s,h,h1,λb=>Nat.blt b h.next,λb=>Nat.blt b h1.next⟩,rfl,rfl,rfl,rfl,rfl,
  ⟨ho,F.env,F.size,λb=>?_,F.ro,F.next,F.nA,hn,hs,λd hd=>by rw[<- F.size];exact hput d hd,λb hb=>?_,λb hb=>?_,λb o' hb hlt hg=>?_⟩,
  ⟨λb hb=>(hrd _ b).1 hb,λh=>by simp only at h;omega,λh=>by simp only at h;omega,λh=>(by simp only[hk]at h;cases h),λh=>by exact absurd hk h,λh=>(by simp only[hk]at h;cases h),λ_ b hb=>(hrd _ b).1 hb⟩,λb=>?_,af.ro,hn,aaj _,λ_=>rfl,hwf⟩
 ·show h.get b=if Nat.blt b h.next=true then YV A h0 b else none;by_cases hb:b<h.next
  ·rw[aah ((hrd _ b).2 hb),F.heap]
  ·rw[aae (λe=>hb ((hrd _ b).1 e)),UL F.wf hb]
 ·have hb:=(hrd _ b).1 hb;by_cases hlt:b<h.next
  ·exact .inl ((hrd _ b).2 hlt)
  ·exact .inr ⟨abT hlt,hb⟩
 ·have hb':¬b<h1.next:=λe=>by
   have:=(hrd h1.next b).2 e;rw[show Nat.blt b h1.next=false from hb]at this;cases this
  show h1.get b=h.get b;rw[UL hwf hb',UL F.wf (by omega)]
 ·rcases af.alive b o' hg with h2|⟨h2,_⟩
  ·exact h2
  ·have hlt:b<h.next:=hlt;omega
 ·show h1.get b=if Nat.blt b h1.next=true then h1.get b else h.get b;by_cases hb:b<h1.next
  ·rw[aah ((hrd _ b).2 hb)]
  ·rw[aae (λe=>hb ((hrd _ b).1 e)),UL hwf hb,UL F.wf (by omega)]
structure CG (g:za) (v:aaa) (g':za):Prop where
 next:g.next<=g'.next
 ro:g'.ro=g.ro
 same:∀b,¬(g.next<=b/\b<g'.next)->(∀a n c,v=.slice (some a) n c->b≠a.block)->g'.get b=g.get b
 gone:∀b o,b<g.next->g'.get b=some o->g.get b≠none
 wf:WF g->WF g'
theorem oH{g:za}{v:aaa}:CG g v g:=⟨aaj _,rfl,λ_ _ _=>rfl,λb o _ h=>by rw[h];simp,id⟩
theorem zar{elem:TypeId}{ti:TypeInfo}{n:Nat}{new:List aaa}{s u:aaa}{g g':za}(he:U0 g elem ti n new s=some (u,g')):CG g s g':=by
 unfold U0 at he;split at he
 ·cases h0:Nat.beq n 0 with
  |true=>rw[h0]at he;simp only[aaw,aab,aaf]at he;obtain⟨_,rfl⟩:=he;exact oH
  |false=>
   rw[h0]at he;obtain⟨_,he⟩:=zq he;simp only[aab,aaf]at he;obtain⟨_,rfl⟩:=he;refine⟨abx _,rfl,λb hb _=>?_,λb o hb hg=>?_,λw b o hb=>?_⟩
   ·rw[za.vJ,aae (λe=>hb ⟨by omega,by rw[za.ay];omega⟩)]
   ·rw[za.vJ,aae (by omega)]at hg;rw[hg];simp
   ·rw[za.vJ]at hb;rw[za.ay];split at hb
    ·omega
    ·exact abF (w b o hb)
 ·rename_i b0 off len c;cases h0:Nat.beq n 0 with
  |true=>rw[h0]at he;simp only[aaw,aab,aaf]at he;obtain⟨_,rfl⟩:=he;exact oH
  |false=>
   rw[h0]at he;simp only[aaH]at he;split at he
   ·rename_i cs t hg0;obtain⟨_,he⟩:=zq he;simp only[aab,aaf]at he;obtain⟨_,rfl⟩:=he
    have key:∀b o,((g.set b0 none).push o).get b=if b=g.next then some o else if b=b0 then none else g.get b:=λb o=>by
     rw[za.vJ,za.yq];rfl
    refine⟨abx _,rfl,λb hb hne=>?_,λb o hb hg=>?_,λw b o hb=>?_⟩
    ·rw[key,aae (λe=>hb ⟨by omega,by show b<g.next+1;omega⟩),aae (hne _ _ _ rfl)]
    ·rw[key,aae (by omega)]at hg;split at hg
     ·cases hg
     ·rw[hg];simp
    ·rw[key]at hb;show b<g.next+1;split at hb
     ·omega
     ·split at hb
      ·cases hb
      ·exact abF (w b o hb)
   ·cases he
 ·cases he
theorem Ea{ts:List TypeId}{r:TypeId}{s u:aaa}{vs':List aaa}{g g':za}(he:zF P .append ts r (s::vs') g=some (u,g')):CG g s g':=by
 match ts,vs',he with
 |[sT,xT],[x],he=>
  have he:V8 P sT xT s x g=some (u,g'):=he;unfold V8 at he;split at he
  ·split at he
   ·split at he
    ·obtain⟨_,he⟩:=zq he;exact zar he
    ·cases he
   ·cases he
  ·cases he
 |[],_,he=>cases he
 |[_],_,he=>cases he
 |_::_::_::_,_,he=>cases he
 |[_,_],[],he=>cases he
 |[_,_],_::_::_,he=>cases he
end
end
noncomputable section
variable {P:Program}
section
variable {q:FuncId->Nat}{ops:Array Oper}{s0:Env}{h0:za}{A:List yz}{i:Nat}{o:Oper}{s:Env}{h:za}
theorem fk(h:za)(v:aaa)(h':za)(b:Nat):(Qr h v h').get b=h.get b\/((∃a n c,v=.slice (some a) n c/\b=a.block)/\(Qr h v h').get b=h'.get b):=by
 unfold Qr;split
 ·rename_i a n c;rw[za.yq];by_cases e:b=a.block
  ·rw[aah e];exact .inr ⟨⟨a,n,c,rfl,e⟩,by rw[e]⟩
  ·rw[aae e];exact .inl rfl
 ·exact .inl rfl
theorem Qn(h:za)(v:aaa)(h':za):(Qr h v h').next=h.next:=by unfold Qr;split <;> rfl
theorem mC(h:za)(v:aaa)(h':za):(Qr h v h').ro=h.ro:=by unfold Qr;split <;> rfl
def Jg(v:aaa)(b:Nat):Bool:=match v with
 | .slice (some a) _ _=>Nat.beq a.block b
 |_=>false
theorem Ao{v:aaa}{b:Nat}:Jg v b=true ↔ ∃a n c,v=.slice (some a) n c/\b=a.block:=by
 unfold Jg;split
 ·rename_i a n c;rw[acs]
  constructor
  ·intro e;exact⟨a,n,c,rfl,e.symm⟩
  ·rintro⟨a',n',c',e1,e2⟩;cases e1;exact e2.symm
 ·rename_i hn
  constructor
  ·intro e;cases e
  ·rintro⟨a',n',c',e1,e2⟩;exact absurd e1 (hn a' n' c')
theorem ME(F:vB P ops s0 h0 A i s h)(ho:ops[i]? = some o)(hput:∀d,o.dst=some d->d<s.size)(hk:z9 P q ops o=4){m:Nat}{v u:aaa}{g':za}{z:yz}(hz:z∈A)(hzl:WD (z9 P q ops z.o)=true)(hzo:Hq ops o=some z.j)
  (hown:zcY v z.g.next z.g'.next (qB m (XA P q ops A) h)) (fx:CG (qB m (XA P q ops A) h) v g') (hs:ja P ops s o (qB m (XA P q ops A) h) u g'):∃y,KM P q ops s0 h0 A i o s h u (vE (Qr h v g') g') m y:=by
 obtain⟨v1,v2,v3⟩:=ZR m (XA P q ops A) h;generalize hG:qB m (XA P q ops A) h=g at *
 have hn:h.next<=g'.next:=by rw[<- v1];exact fx.next
 have hzn:z.g'.next<=h.next:=F.nA z hz;have hsee:∀b,g.get b=if eU m (XA P q ops A) h b=true then YV A h0 b else none:=λb=>by rw[<- hG];exact iE F b
 have htc:∀b,((decide (h.next<=b/\b<g'.next)||Jg v b)=true) ↔ ((h.next<=b/\b<g'.next) \/ ∃a n c,v=.slice (some a) n c/\b=a.block):=λb=>by rw[aaV,aaG,Ao]
 have hblk:∀b,(∃a n c,v=.slice (some a) n c/\b=a.block)->z.g.next<=b/\b<z.g'.next/\g.get b≠none:=by
  rintro b ⟨a,n,c,rfl,rfl⟩;exact hown
 refine⟨⟨i,o,u,s,g,g',eU m (XA P q ops A) h,λb=>decide (h.next<=b/\b<g'.next)||Jg v b⟩,rfl,rfl,rfl,rfl,v1,
  ⟨ho,F.env,F.size,hsee,v2.trans F.ro,by rw[v1];exact F.next,λx hx=>by rw[v1];exact F.nA x hx,fx.next,hs,λd hd=>by rw[<- F.size];exact hput d hd,λb hb=>?_,λb hb=>?_,λb o' hb hlt hg=>fx.gone b o' hlt hg⟩,
  ⟨λb hb=>by show b<g.next;rw[v1];exact BP hb,λe=>by simp only at e;omega,λe=>by simp only at e;omega,λ_ b hb z hz hl hm=>px hb hz hl hm,λ_ b hb=>?_,λ_ b hb z hz hl hm=>hO hb hz hl hm,λe=>absurd (hk.symm.trans e) (by decide)⟩,λb=>?_,?_,hn,aaj _,λ_=>rfl,λb o' hb=>?_⟩
 ·rcases (htc b).1 hb with e|e
  ·exact .inr (by show g.next<=b/\b<g'.next;rw[v1];exact e)
  ·refine .inl ?_;show eU m (XA P q ops A) h b=true;cases he:eU m (XA P q ops A) h b with
   |true=>rfl
   |false=>exact absurd (by rw[hsee,he];rfl) (hblk b e).2.2
 ·have hb:(decide (h.next<=b/\b<g'.next)||Jg v b)=false:=hb;refine fx.same b (λe=>?_) (λa n c e1 e2=>?_)
  ·rw[(htc b).2 (.inl (by rw[<- v1];exact e))]at hb;cases hb
  ·rw[(htc b).2 (.inr ⟨a,n,c,e1,e2⟩)]at hb;cases hb
 ·rcases (htc b).1 hb with e|e
  ·exact .inl (by show g.next<=b/\b<g'.next;rw[v1];exact e)
  ·exact .inr (.inl ⟨hk,z,hz,hzl,hzo,(hblk b e).1,(hblk b e).2.1⟩)
 ·show(vE (Qr h v g') g').get b=if (decide (h.next<=b/\b<g'.next)||Jg v b)=true then g'.get b else h.get b;rw[wU,Qn];by_cases e:h.next<=b/\b<g'.next
  ·rw[aah e,aah ((htc b).2 (.inl e))]
  ·rw[aae e];by_cases e2:∃a n c,v=.slice (some a) n c/\b=a.block
   ·rw[aah ((htc b).2 (.inr e2))];obtain⟨a,n,c,rfl,rfl⟩:=e2;unfold Qr;rw[za.yq,aah rfl]
   ·rw[aae (λt=>by rcases (htc b).1 t with t|t;exact e t;exact e2 t)];rcases fk h v g' b with t|⟨t,_⟩
    ·exact t
    ·exact absurd t e2
 ·show(Qr h v g').ro=h.ro;exact mC h v g'
 ·show b<g'.next;rw[wU,Qn]at hb;split at hb
  ·rename_i e;exact e.2
  ·rcases fk h v g' b with t|⟨t,_⟩
   ·rw[t]at hb;exact aap (F.wf b o' hb) hn
   ·have:=hblk b t;omega
theorem G0(F:vB P ops s0 h0 A i s h)(ho:ops[i]? = some o)(hput:∀d,o.dst=some d->d<s.size)(hk:z9 P q ops o=7)(m:Nat){v u:aaa}{h1:za}(hv:Xi s o=v)(fx:CG h v h1)(hs:ja P ops s o h u h1):∃y,KM P q ops s0 h0 A i o s h u h1 m y:=by
 have hn:=fx.next;have hwf:WF h1:=fx.wf F.wf;have htc:∀b,((decide (h.next<=b/\b<h1.next)||(Jg v b&&Nat.blt b h.next))=true) ↔ ((h.next<=b/\b<h1.next)\/((∃a n c,v=.slice (some a) n c/\b=a.block)/\b<h.next)):=λb=>by rw[aaV,aaG,aac,Ao,aaN]
 have hsame:∀b,¬(decide (h.next<=b/\b<h1.next)||(Jg v b&&Nat.blt b h.next))=true->h1.get b=h.get b:=λb hb=>by
  have hb1:¬(h.next<=b/\b<h1.next):=λe=>hb ((htc b).2 (.inl e));by_cases e2:∃a n c,v=.slice (some a) n c/\b=a.block
  ·have:¬b<h.next:=λe=>hb ((htc b).2 (.inr ⟨e2,e⟩));rw[UL F.wf this,UL hwf (by omega)]
  ·exact fx.same b hb1 (λa n c e1 e3=>e2 ⟨a,n,c,e1,e3⟩)
 refine⟨⟨i,o,u,s,h,h1,λb=>Nat.blt b h.next,λb=>decide (h.next<=b/\b<h1.next)||(Jg v b&&Nat.blt b h.next)⟩,rfl,rfl,rfl,rfl,rfl,
  ⟨ho,F.env,F.size,λb=>?_,F.ro,F.next,F.nA,hn,hs,λd hd=>by rw[<- F.size];exact hput d hd,λb hb=>?_,λb hb=>hsame b (λe=>by
   have hb:(decide (h.next<=b/\b<h1.next)||(Jg v b&&Nat.blt b h.next))=false:=hb;rw[hb]at e;cases e),λb o' hb hlt hg=>fx.gone b o' hlt hg⟩,
  ⟨λb hb=>by rwa [aaN]at hb,λe=>by simp only at e;omega,λe=>by simp only at e;omega,λe=>(by simp only[hk]at e;cases e),λ_ b hb=>?_,λe=>(by simp only[hk]at e;cases e),λe=>absurd (hk.symm.trans e) (by decide)⟩,λb=>?_,fx.ro,hn,aaj _,λ_=>rfl,hwf⟩
 ·show h.get b=if Nat.blt b h.next=true then YV A h0 b else none;by_cases hb:b<h.next
  ·rw[aah (by rw[aaN];exact hb),F.heap]
  ·rw[aae (λe=>hb (by rwa [aaN]at e)),UL F.wf hb]
 ·rcases (htc b).1 hb with e|⟨_,e⟩
  ·exact .inr e
  ·exact .inl (by show Nat.blt b h.next=true;rw[aaN];exact e)
 ·rcases (htc b).1 hb with e|⟨e,e2⟩
  ·exact .inl e
  ·refine .inr (.inr ⟨hk,e2,?_⟩);show gV (Xi s o)<=b/\b<gW (Xi s o);rw[hv];exact(Ic v b).2 e
 ·show h1.get b=if (decide (h.next<=b/\b<h1.next)||(Jg v b&&Nat.blt b h.next))=true then h1.get b else h.get b;split
  ·rfl
  ·rename_i e;exact hsame b e
theorem Sy{u:aaa}{h':za}(hk:z9 P q ops o=5)(he:UM P s o h=some (u,h')):∃ob,h'=h.push ob/\UM P s o (h.pick [])=some (u,(h.pick []).push ob):=by
 have hcv:∀a b x,o.op ≠ .convert a b x:=λa b x e=>by
  unfold z9 at hk;simp only[e]at hk;cases hn:sQ P a b <;> cases ht:bI P b <;> (rw[hn,ht]at hk;exact absurd hk (by decide))
 unfold z9 at hk;unfold UM at he ⊢
 split at he <;> rename_i yj <;> simp only[yj]at hk ⊢ <;> first
  |(cases hk;done)
  |(exact absurd yj (hcv _ _ _))
  |(cases he;done)
  |skip
 ·split at he
  ·simp only[aab,sO,aaf]at he;obtain⟨rfl,rfl⟩:=he;exact⟨_,rfl,rfl⟩
  ·cases he
 ·split at he
  ·simp only[aab,sO,aaf]at he;obtain⟨rfl,rfl⟩:=he;exact⟨_,rfl,rfl⟩
  ·cases he
 ·split at he
  ·unfold zj at he ⊢;split at he
   ·split at he
    ·obtain⟨hc,he⟩:=zq he;rw[hc];simp only[aaw];split at he
     ·obtain⟨hc2,he⟩:=zq he;rw[hc2];simp only[aaw,aab,aaf]at he ⊢;obtain⟨rfl,rfl⟩:=he;exact⟨_,rfl,rfl,rfl⟩
     ·cases he
    ·cases he
   ·cases he
  ·cases he
 ·split at he
  ·unfold V9 at he ⊢;split at he
   ·split at he
    ·cases he
    ·split at he
     ·cases he
     ·obtain⟨hc,he⟩:=zq he;rw[hc];simp only[aaw,aab,aaf]at he ⊢;obtain⟨rfl,rfl⟩:=he;exact⟨_,rfl,rfl,rfl⟩
   ·cases he
  ·cases he
 ·exfalso
  split at hk <;> rename_i heq <;> first
   |(cases heq;done)
   |skip
  ·(repeat' split at hk) <;> cases hk
  ·rename_i b _ _ _;cases hq:XL b <;> rw[hq]at hk <;> cases hk
  all_goals (cases hk;done)
 all_goals (cases he;exact⟨_,rfl,rfl⟩)
end
end
noncomputable section
variable {P:Program}
section
variable {q:FuncId->Nat}{ops:Array Oper}{s0:Env}{h0:za}{A:List yz}{i:Nat}{o:Oper}{s:Env}{h:za}
theorem Ox{a b:TypeId}(hn:sQ P a b=true){x u:aaa}{g g':za}(he:w9 P a b x g=some (u,g')):g'=g /\ ∀g2,w9 P a b x g2=some (u,g2):=by
 unfold sQ at hn;rw[aac]at hn;obtain⟨n1,n2⟩:=hn;split at n1
 case h_2=>cases n1
 rename_i _ _ _ _ e1 e2;split at n2
 case h_2=>cases n2
 rename_i _ _ _ _ e3 e4;unfold w9 QP Bw at he ⊢;simp only[e1,e2,e3,e4]at he ⊢;cases hf:cond (flat x) (fl (yd P (convert a b x))) none with
 |none=>rw[hf]at he;cases he
 |some v=>
  rw[hf]at he;simp only[aab,aaf]at he ⊢;obtain⟨rfl,rfl⟩:=he;exact⟨rfl,λ_=>⟨rfl,trivial⟩⟩
theorem Md{a b:TypeId}(hn:bI P b=true){x u:aaa}{g g':za}(he:w9 P a b x g=some (u,g')):g'=g:=by
 unfold bI at hn;rw[aac]at hn;obtain⟨n1,n2⟩:=hn;split at n1
 case h_2=>cases n1
 rename_i e1;split at n2
 case h_2=>cases n2
 rename_i e2;unfold w9 at he;cases h0:QP P a b x g with
 |some r=>
  rw[h0]at he;simp only[aab]at he;subst he;unfold QP at h0;split at h0
  ·simp only[aab,aaf]at h0;exact h0.2.symm
  ·split at h0
   ·rename_i k2 _;rw[e1]at k2;cases k2
   ·split at h0
    ·simp only[aau,aaf]at h0;obtain⟨_,_,_,q⟩:=h0;exact q.symm
    ·cases h0
   ·cases h0
 |none=>
  rw[h0]at he;simp only[aau,aaf]at he;obtain⟨_,_,_,q⟩:=he;exact q.symm
theorem IK{k:Nat}(hc:Xg o.op=false)(hk:z9 P q ops o=k)(h1:1<=k)(h5:k<=2)(hv:k=1->¬ ∃a b x,o.op=.convert a b x):wj q o=k:=by
 unfold z9 at hk;unfold wj;unfold Xg at hc
 split at hk <;> rename_i yj <;> simp only[yj]at hc ⊢ <;> first
  |(cases hc;done)
  |exact hk
  |(subst hk;omega)
  |(split at hk <;> (subst hk;omega))
  |((repeat' split at hk) <;> (subst hk;omega))
  |skip
 rename_i a b x;cases hn:sQ P a b with
 |true=>rw[hn]at hk;exact absurd (show(0:Nat)=k from hk) (by omega)
 |false=>
  rw[hn]at hk;cases ht:bI P b with
  |true=>rw[ht]at hk;exact absurd ⟨_,_,_,yj⟩ (hv (show 1=k from hk).symm)
  |false=>rw[ht]at hk;exact hk
theorem Cr{u:aaa}{h':za}(hk:z9 P q ops o=1)(hc:Xg o.op=false)(he:UM P s o h=some (u,h')):h'=h:=by
 by_cases hv:∃a b x,o.op=.convert a b x
 ·obtain⟨a,b,x,yj⟩:=hv;unfold z9 at hk;simp only[yj]at hk;cases hn:sQ P a b with
  |true=>rw[hn]at hk;cases hk
  |false=>
   cases ht:bI P b with
   |false=>rw[hn,ht]at hk;cases hk
   |true=>
    unfold UM at he;simp only[yj]at he;split at he
    ·exact Md ht he
    ·cases he
 ·exact JC (IK hc hk (by omega) (by omega) (λ_=>hv)) hc he
theorem MR{u:aaa}{h':za}(hk:z9 P q ops o=0)(hc:Xg o.op=false)(he:UM P s o h=some (u,h')):h'=h /\ ∀g,UM P s o g=some (u,g):=by
 by_cases hv:∃a b x,o.op=.convert a b x
 ·obtain⟨a,b,x,yj⟩:=hv;unfold z9 at hk;simp only[yj]at hk;cases hn:sQ P a b with
  |false=>rw[hn]at hk;cases ht:bI P b <;> (rw[ht]at hk;cases hk)
  |true=>
   unfold UM at he ⊢;simp only[yj]at he ⊢;split at he
   ·exact Ox hn he
   ·cases he
 ·refine fI (q:=q) ?_ hc he;unfold z9 at hk;unfold wj;unfold Xg at hc
  split at hk <;> rename_i yj <;> simp only[yj]at hc ⊢ <;> first
   |(cases hc;done)
   |exact hk
   |(exact absurd hk (by decide))
   |(exact(hv ⟨_,_,_,yj⟩).elim)
   |(exfalso;split at hk <;> simp at hk)
   |(exfalso; (repeat' split at hk) <;> simp at hk)
   |(split at hk <;> exact absurd hk (by decide))
   |(cases hz:Hq ops o <;> (rw[hz]at hk;simp at hk))
theorem Od(F:vB P ops s0 h0 A i s h){v:aaa}{h1:za}{y:yz}{u:aaa}{m:Nat}(N:KM P q ops s0 h0 A i o s h u h1 m y):AF h h1 :=
 ⟨N.next,N.ro,λb o hb=>by
  rw[N.heap]at hb;by_cases ht:y.tc b=true
  ·rw[aah ht]at hb;by_cases hl:b<y.g.next
   ·have h2:=N.told.tc3 b o ht hl hb;have h3:=N.told.heap b;rw[h3]at h2;by_cases hr:y.rd b=true
    ·rw[aah hr,<- F.heap]at h2;exact .inl h2
    ·rw[aae hr]at h2;exact absurd rfl h2
   ·have hb1:h1.get b=some o:=(by rw[N.heap,aah ht];exact hb);exact .inr ⟨by rw[<- N.gn];omega,N.wf b o hb1⟩
  ·rw[aae ht]at hb;exact .inl (by rw[hb];simp)⟩
theorem AV(F:vB P ops s0 h0 A i s h)(hron:h.ro<=h.next)(ho:ops[i]? = some o)(hput:∀d,o.dst=some d->d<s.size)(hw:yw ops s o=true){r:Env}(hl:Le r s){m:Nat}
  {K:aaa->za->Prop} (hk:MJ P q ops r o (XA P q ops A) (qB m (XA P q ops A) h) h K):∃v u h1 y,(zR v=true\/v=u)/\K v h1/\KM P q ops s0 h0 A i o s h u h1 m y/\(z9 P q ops o=7->Xi s o=Xi r o):=by
 obtain⟨w1,w2,w3⟩:=ZR m (XA P q ops A) h;have no7:∀{X:Prop},z9 P q ops o≠7->z9 P q ops o=7->X:=λh1 h2=>absurd h2 h1;unfold MJ at hk;split at hk
 ·rename_i g args ts yj;have ef:kT s (.func g)=some (.func (.func g) #[] #[]):=rfl;have hkind:z9 P q ops o=pS (q g):=by unfold z9;simp only[yj]
  split at hk
  ·rename_i hq;obtain⟨hc,hn,v,hsc,hT,hK⟩:=hk
   have hT2:TC P g (dm r args.toList) (qB m (XA P q ops A) h) (λv1 h1=>v1=v/\h1=qB m (XA P q ops A) h) :=
    (hT.quiet (λv1 _ e=>by rw[e];exact hsc)).mono (by rintro v1 h1 ⟨⟨_,e1⟩,e2⟩;exact⟨e1,e2⟩)
   obtain⟨y,hy⟩:=ra (q:=q) F ho hput (by rw[hkind,hq];rfl) (u:=v) (.inr ⟨hw,.inr (.inl ⟨.func g,args,ts,g,#[],#[],_,yj,ef,Q9 hl hn,hc,by simpa using hT2⟩)⟩);exact⟨v,v,h,y,.inr rfl,hK,hy,no7 (by rw[hkind,hq];decide)⟩
  ·rename_i hq;obtain⟨hc,hn,v,h2,hT,af,hK⟩:=hk;have hnx:h.next<=h2.next:=by have:=af.next;rw[<- w1];exact this
   obtain⟨y,hy⟩:=G1 (q:=q) F ho hput (by rw[hkind,hq];rfl) (m:=m) hnx (u:=v)
    (.inr ⟨hw,.inr (.inl ⟨.func g,args,ts,g,#[],#[],_,yj,ef,Q9 hl hn,hc,by simpa using hT.fresh⟩)⟩)
   exact⟨v,v,_,y,.inr rfl,hK,hy,no7 (by rw[hkind,hq];decide)⟩
  ·rename_i hq;obtain⟨hn,hk⟩:=hk;obtain⟨v,h2,he,hK⟩:=Zm hk;obtain⟨f1,f2,f3⟩:=Us (Xz he);obtain⟨y,hy⟩:=lC (q:=q) F ho hput (by rw[hkind,hq];rfl) f1 f2 f3 (u:=v) (.inr ⟨hw,.inr (.inr ⟨.func g,args,ts,g,#[],#[],_,yj,ef,Q9 hl hn,by simpa using he⟩)⟩) m;exact⟨v,v,_,y,.inr rfl,hK,hy,no7 (by rw[hkind,hq];decide)⟩
  ·rename_i n2 n3 n4;obtain⟨hc,hn,hd⟩:=hk;obtain⟨v,h2,hK,af,hT⟩:=hd ⟨F.wf,hron⟩;have hk3:z9 P q ops o=3:=by rw[hkind];unfold pS;split <;> first|rfl|(exfalso;simp_all)
   obtain⟨y,hy⟩:=Up (q:=q) F ho hput hk3 af (u:=v)
    (.inr ⟨hw,.inr (.inl ⟨.func g,args,ts,g,#[],#[],_,yj,ef,Q9 hl hn,hc,by simpa using hT⟩)⟩) m
   exact⟨v,v,_,y,.inr rfl,hK,hy,no7 (by rw[hk3];decide)⟩
 ·rename_i f args ts hnf yj;unfold gY at hk;split at hk
  ·rename_i g a c hf;have ef:kT s f=some (.func (.func g) a c):=by rw[Yg hl (x:=f) (by rw[hf];rfl),hf]
   obtain⟨hn0,hc,hn,hd⟩:=hk;obtain⟨v,h2,hK,af,hT⟩:=hd ⟨F.wf,hron⟩
   have hkind:z9 P q ops o=3:=by
    unfold z9;simp only[yj]
   obtain⟨y,hy⟩:=Up (q:=q) F ho hput hkind af (u:=v) (.inr ⟨hw,.inr (.inl ⟨f,args,ts,g,a,c,_,yj,ef,Q9 hl hn0,hc,hT⟩)⟩) m;exact⟨v,v,_,y,.inr rfl,hK,hy,no7 (by rw[hkind];decide)⟩
  ·exact hk.elim
 ·rename_i args ts yj;split at hk
  ·rename_i z hz;have hkind:z9 P q ops o=4:=by unfold z9;simp only[yj,hz]
   unfold oI at hk;split at hk
   case h_2=>exact hk.elim
   rename_i x sv vs' hx hvs;obtain⟨how,hk⟩:=hk;obtain⟨v,h2,he,hK⟩:=Zm hk;obtain⟨hn,he⟩:=u9 he;obtain⟨f,t⟩:=x;obtain⟨zr,hzm,hzl,hze⟩:=ON hx;simp only[aaf]at hze;obtain⟨rfl,rfl,rfl⟩:=hze
   have hop2:UM P s o (qB m (XA P q ops A) h)=some (v,h2):=by
    unfold UM;simp only[yj];rw[Q9 hl hn];exact he
   rw[hvs]at he;obtain⟨y,hy⟩:=ME (q:=q) F ho hput hkind (m:=m) hzm hzl hz how (Ea he) (.inr ⟨hw,.inl hop2⟩);exact⟨v,v,_,y,.inr rfl,hK,hy,no7 (by rw[hkind];decide)⟩
  ·rename_i hz;obtain⟨v,u,h',he,hv,hK⟩:=qX hl hk
   have hkk:z9 P q ops o=7\/z9 P q ops o=3:=by
    unfold z9;simp only[yj,hz];split
    ·exact .inl rfl
    ·exact .inr rfl
   rcases hkk with h7|h3
   ·have hs0:∃d xs,args.toList=.tmp d::xs/\Li o=some d:=by
     unfold z9 at h7;simp only[yj,hz]at h7;split at h7
     ·rename_i d hd _;have hd2:=hd;unfold Li at hd;simp only[yj]at hd;split at hd
      ·rename_i d2 xs hx;obtain rfl:d2=d:=by simpa using hd
       exact⟨_,xs,hx,hd2⟩
      ·cases hd
     ·cases h7
    obtain⟨d,xs,hx,Mq⟩:=hs0;have he0:=he;unfold UM at he;simp only[yj,hx]at he;simp only[VO,kT]at he;split at he
    ·rename_i vs hvs;split at hvs
     ·cases hvs
     ·cases hvs;have sK:Xi s o=s.get d:=by unfold Xi;rw[Mq]
      obtain⟨y,hy⟩:=G0 (q:=q) F ho hput h7 m sK (Ea he) (.inr ⟨hw,.inl he0⟩);refine⟨v,u,h',y,hv,hK,hy,λ_=>?_⟩;rw[sK];unfold Xi;rw[Mq];unfold MH at hk;simp only[yj,hx]at hk;obtain⟨v2,h2,he2,_⟩:=Zm hk;obtain⟨hnb,_⟩:=u9 he2;simp only[dm,ev,yk]at hnb
      have hd:zR (r.get d)=false:=by
       cases hb:zR (r.get d) with
       |false=>rfl
       |true=>rw[hb]at hnb;cases hnb
      rcases hl.get d with e|e
      ·rw[e]at hd;cases hd
      ·exact e.symm
    ·cases he
   ·obtain⟨y,hy⟩:=Up (q:=q) F ho hput h3 (Z2 he).1 (u:=u) (.inr ⟨hw,.inl he⟩) m;exact⟨v,u,h',y,hv,hK,hy,no7 (by rw[h3];decide)⟩
 ·rename_i hn1 hn2 hn3;cases h1:Nat.beq (z9 P q ops o) 1 with
  |true=>
   rw[h1]at hk;have h1:=aal h1;obtain⟨v,u,h',he,hv,hK⟩:=qX hl hk;have hnc:=XB he;obtain rfl:=Cr h1 hnc he;obtain⟨y,hy⟩:=ra (q:=q) F ho hput h1 (m:=m) (u:=u) (.inr ⟨hw,.inl he⟩);exact⟨v,u,h,y,hv,hK,hy,no7 (by rw[h1];decide)⟩
  |false=>
   rw[h1]at hk;obtain⟨v,u,h',he,hv,hK⟩:=qX hl hk;have hnc:=XB he
   have hkle:z9 P q ops o=0\/z9 P q ops o=1\/z9 P q ops o=2\/z9 P q ops o=3\/z9 P q ops o=5:=by
    unfold z9;split <;> (try simp)
    ·rename_i yj;rw[yj]at hnc;cases hnc
    ·rename_i yj;exact absurd yj (hn3 _ _)
    ·cases XL _ <;> simp
    ·cases sQ P _ _ <;> cases bI P _ <;> simp
   rcases hkle with h0'|h1'|h2'|h3'|h5'
   ·obtain⟨rfl,hany⟩:=MR h0' hnc he;obtain⟨y,hy⟩:=cT (q:=q) F ho hput (u:=u) (.inr ⟨hw,.inl (hany _)⟩) m;exact⟨v,u,h',y,hv,hK,hy,no7 (by rw[h0'];decide)⟩
   ·rw[h1']at h1;cases h1
   ·obtain⟨f1,f2,f3⟩:=Us (i5 (IK hnc h2' (by omega) (by omega) (λe=>absurd e (by decide))) hnc he);obtain⟨y,hy⟩:=lC (q:=q) F ho hput h2' f1 f2 f3 (u:=u) (.inr ⟨hw,.inl he⟩) m;exact⟨v,u,h',y,hv,hK,hy,no7 (by rw[h2'];decide)⟩
   ·obtain⟨y,hy⟩:=Up (q:=q) F ho hput h3' (Z2 he).1 (u:=u) (.inr ⟨hw,.inl he⟩) m;exact⟨v,u,h',y,hv,hK,hy,no7 (by rw[h3'];decide)⟩
   ·obtain⟨ob,rfl,he2⟩:=Sy h5' he;obtain⟨y,hy⟩:=MF (q:=q) F ho hput h5' (u:=u) (.inr ⟨hw,.inl he2⟩) m;exact⟨v,u,_,y,hv,hK,hy,no7 (by rw[h5'];decide)⟩
theorem rG{A1 A2:List yz}{x w:yz}(F:vB P ops s0 h0 (A1++x::A2) i s h)(hw:w∈A1):w.g'.next<=x.g.next:=(F.told A1 x A2 rfl).nA w hw
theorem AZ{A1 A2:List yz}{x w:yz}(F:vB P ops s0 h0 (A1++x::A2) i s h)(hw:w∈A2):x.g'.next<=w.g.next:=by
 obtain⟨B1,B2,rfl⟩:=aaP hw;exact(F.told (A1++x::B1) w B2 (by simp)).nA x (by simp)
theorem zbn{x:yz}(F:vB P ops s0 h0 A i s h)(hx:x∈A):x.g.next<=x.g'.next:=by
 obtain⟨B1,B2,rfl⟩:=aaP hx;exact(F.told B1 x B2 rfl).n1
theorem A5{u w:yz}(F:vB P ops s0 h0 A i s h)(hu:u∈A)(hw:w∈A)(hne:u.j≠w.j):u.g'.next<=w.g.next\/w.g'.next<=u.g.next:=by
 obtain⟨B1,B2,rfl⟩:=aaP hu;rcases aaD.1 hw with h1|h1
 ·exact .inr (rG F h1)
 ·rcases aaz.1 h1 with rfl|h1
  ·exact absurd rfl hne
  ·exact .inl (AZ F h1)
theorem GL{A1 A2:List yz}{x y:yz}{mx my:Nat}(F:vB P ops s0 h0 (A1++x::A2) i s h)(hx:RV P q ops A1 mx x)(hy:RV P q ops (A1++x::A2) my y)(hn:∀w,w∈A1++x::A2->w.g'.next<=y.g.next)
  (hs:ji ops x.o y.o=true) (hbit:my.testBit x.j=false) (hzy:∀z,Hq ops y.o=some z->my.testBit z=true) (hp:PH (x.j,z9 P q ops x.o,Hq ops x.o,mx) (z9 P q ops y.o) (Hq ops y.o) my=true):lI ops x y:=by
 simp only[ji,aac]at hs;obtain⟨h1,h2⟩:=hs
 have d1:∀d,x.o.dst=some d->d∉y.o.looksAt ops/\y.o.dst≠some d:=by
  intro d hd;rw[hd]at h1;simp only[aac,aao,aam,aaE]at h1;exact⟨h1.1,h1.2⟩
 have d2:∀d,y.o.dst=some d->d∉x.o.looksAt ops:=by
  intro d hd;rw[hd]at h2;simp only[aao,aam,aaE]at h2;exact h2
 have ff:∀{b:Bool},b≠true->b=false:=λh=>by simpa using h
 have xm:x∈A1++x::A2:=by simp
 have xu:=zbn F xm;have xy:=hn x xm;unfold PH at hp;simp only[aaV,aac,aao]at hp;rcases hp with(((hp|hp)|hp)|hp)|⟨⟨⟨⟨⟨⟨p1,p2⟩,p7⟩,q7⟩,p3⟩,p4⟩,p5⟩
 ·have e:=aal hp;have t:=hx.k1 (by omega);have r:=hx.k0 (.inl e);exact⟨d1,d2,λb hb=>(by rw[t b]at hb;cases hb),λb _=>r b⟩
 ·have e:=aal hp;have t:=hy.k1 (by omega);have r:=hy.k0 (.inl e);exact⟨d1,d2,λb _=>⟨r b,t b⟩,λb hb=>by rw[t b]at hb;cases hb⟩
 ·have e3:=aal hp.1;have e5:=aal hp.2
  have own:∀b,y.tc b=true->y.g.next<=b:=λb hb=>by
   rcases hy.tc (by omega) b hb with q|⟨q,_⟩|⟨q,_⟩
   ·exact q.1
   ·omega
   ·omega
  exact⟨d1,d2,λb hb=>⟨hy.k0 (.inr e5) b,ff λht=>by have:=hx.t3 e3 b hb;have:=own b ht;omega⟩,λb hb=>ff λhr=>by have:=hx.rd b hr;have:=own b hb;omega⟩
 ·have e7:=aal hp.1;have k15:z9 P q ops y.o=1\/z9 P q ops y.o=5:=hp.2.imp aal aal
  have own:∀b,y.tc b=true->y.g.next<=b:=λb hb=>by
   rcases hy.tc (by omega) b hb with q|⟨q,_⟩|⟨q,_⟩
   ·exact q.1
   ·omega
   ·omega
  have xl:WD (z9 P q ops x.o)=true:=by rw[e7];rfl
  refine⟨d1,d2,λb hb=>?_,λb hb=>ff λhr=>by have:=hx.rd b hr;have:=own b hb;omega⟩;rcases hx.tc (by omega) b hb with e|⟨q,_⟩|⟨_,q1,q2⟩
  ·refine⟨ff λhr=>?_,ff λht=>by have:=own b ht;omega⟩;rcases k15 with k|k
   ·exact hy.lk (by rw[k];rfl) b hr x xm xl hbit e
   ·rw[hy.k0 (.inr k) b]at hr;cases hr
  ·omega
  ·refine⟨ff λhr=>?_,ff λht=>by have:=own b ht;omega⟩;rcases k15 with k|k
   ·exact hy.lb (by rw[k];rfl) b hr x xm e7 hbit q2
   ·rw[hy.k0 (.inr k) b]at hr;cases hr
 have nb:∀{n m:Nat},Nat.beq n m=false->n≠m:=λh e=>by subst e;simp at h
 have x3:=nb p1;have y3:=nb p2;have x7:=nb p7;have y7:=nb q7;have xtc:=hx.tc x3;have ytc:=hy.tc y3
 have lay:∀{o:Oper},z9 P q ops o≠3->¬z9 P q ops o<=1->WD (z9 P q ops o)=true:=λ{o} h3 h1=>by
  have:z9 P q ops o=0\/z9 P q ops o=1\/z9 P q ops o=2\/z9 P q ops o=3\/z9 P q ops o=4\/z9 P q ops o=5\/z9 P q ops o=6\/z9 P q ops o=7:=by
   unfold z9;split <;> (try simp)
   ·unfold pS;split <;> simp
   ·split
    ·simp
    ·split <;> simp
   ·cases XL _ <;> simp
   ·cases sQ P _ _ <;> cases bI P _ <;> simp
  rcases this with e|e|e|e|e|e|e|e
  ·omega
  ·omega
  ·rw[e];rfl
  ·exact absurd e h3
  ·rw[e];rfl
  ·rw[e];rfl
  ·rw[e];rfl
  ·rw[e];rfl
 have CF:∀b,y.rd b=true->z9 P q ops x.o≠1->Cb (z9 P q ops y.o)=true/\z9 P q ops y.o≠5:=λb hr hk1=>by
  have k0:z9 P q ops y.o≠0:=λe=>by rw[hy.k0 (.inl e) b]at hr;cases hr
  have k5:z9 P q ops y.o≠5:=λe=>by rw[hy.k0 (.inr e) b]at hr;cases hr
  refine⟨?_,k5⟩;by_cases l1:z9 P q ops y.o<=1
  ·have:z9 P q ops y.o=1:=by omega
   rw[this];rfl
  ·have:=lay y3 l1
   have n2:z9 P q ops y.o≠2:=by
    rcases p3 with p3|p3
    ·exact nb p3
    ·exact absurd (aal p3) hk1
   unfold WD at this;simp only[aaV,acs]at this;rcases this with(((e|e)|e)|e)|e
   ·exact absurd e n2
   ·rw[e];rfl
   ·exact absurd e k5
   ·rw[e];rfl
   ·exact absurd e y7
 have xn1:∀b,x.tc b=true->¬z9 P q ops x.o<=1:=λb hb e=>by rw[hx.k1 e b]at hb;cases hb
 refine⟨d1,d2,λb hb=>?_,λb hb=>ff λhr=>?_⟩
 ·have x1:=xn1 b hb;have xne:z9 P q ops x.o≠1:=by omega
  rcases xtc b hb with hown|⟨k4,z,hz,hzl,hzo,hzb⟩|⟨q,_⟩
  rotate_left 2
  ·exact absurd q x7
  ·refine⟨ff λhr=>?_,ff λht=>?_⟩
   ·exact hy.lk (CF b hr xne).1 b hr x xm (lay x3 x1) hbit hown
   ·rcases ytc b ht with e|⟨_,w,hw,hwl,hwo,hwb⟩|⟨q,_⟩
    rotate_left 2
    ·exact absurd q y7
    ·omega
    ·have hne:x.j≠w.j:=λe=>by
      have:=hzy _ hwo;rw[<- e,hbit]at this;cases this
     have:=A5 F xm hw hne;omega
  ·have zm:z∈A1++x::A2:=by simp[hz]
   have zx:=rG F hz;rcases p4 with(p4|p4)|p4
   ·exact absurd k4 (nb p4)
   ·have k5:=aal p4;refine⟨hy.k0 (.inr k5) b,ff λht=>?_⟩;rcases ytc b ht with e|⟨ky4,_⟩|⟨q,_⟩
    ·omega
    ·omega
    ·omega
   ·rw[hzo]at p4;simp only[aac,aao]at p4;refine⟨ff λhr=>?_,ff λht=>?_⟩
    ·exact hy.lk (CF b hr xne).1 b hr z zm hzl p4.1 hzb
    ·rcases ytc b ht with e|⟨_,w,hw,hwl,hwo,hwb⟩|⟨q,_⟩
     rotate_left 2
     ·exact absurd q y7
     ·omega
     ·rw[hwo]at p4;simp only[aao]at p4;have:=A5 F zm hw (nb p4.2);omega
 ·have hlt:=hx.rd b hr;rcases ytc b hb with e|⟨ky4,w,hw,hwl,hwo,hwb⟩|⟨q,_⟩
  rotate_left 2
  ·exact absurd q y7
  ·omega
  ·rcases p5 with(p5|p5)|p5
   ·exact absurd ky4 (nb p5)
   ·have k5:=aal p5;rw[hx.k0 (.inr k5) b]at hr;cases hr
   ·rw[hwo]at p5;simp only[aao]at p5;rcases aaD.1 hw with h1|h1
    ·exact hx.lk p5.1 b hr w h1 hwl p5.2 hwb
    ·rcases aaz.1 h1 with rfl|h1
     ·omega
     ·have:=AZ F h1;omega
end
end
noncomputable section
variable {P:Program}
theorem lu{q:FuncId->Nat}{ops:Array Oper}{o:Oper}(h:z9 P q ops o=7):o.guard=none:=by
 unfold z9 at h;split at h
 ·unfold pS at h;split at h <;> cases h
 ·cases h
 ·split at h
  ·cases h
  ·split at h
   ·assumption
   ·cases h
 ·rename_i b _ _ _ _;cases hq:XL b <;> rw[hq]at h <;> cases h
 all_goals first
  |(cases h;done)
  |(rename_i a b _ _;cases hn:sQ P a b <;> cases ht:bI P b <;> (rw[hn]at h;try rw[ht]at h) <;> cases h)
theorem Lt{q:FuncId->Nat}{ops:Array Oper}{s0:Env}{h0:za}(hro0:h0.ro<=h0.next):∀(l:List Oper) (i:Nat) (ms:List Nat) (A:List yz) (prev:List (Nat×Nat×Option Nat×Nat)) (r s:Env) (h:za) {K:Env->za->Prop},
  ops.toList.drop i=l->i<=ops.size->KL ops ms->ms.length=i->vB P ops s0 h0 A i s h->(∀A1 x A2,A=A1++x::A2->∃m,(x.j,z9 P q ops x.o,Hq ops x.o,m)∈prev/\RV P q ops A1 m x)->ZQ ops l i ms (A.reverse.map λx=>(x.j,x.o))=true->mu P q ops l ms prev=true ->
  Le r s->FT P q ops l i ms (XA P q ops A) r h K->∃A' r' s' h',vB P ops s0 h0 A' ops.size s' h'/\Le r' s'/\K r' h'/\Fr (Vy l) s s'/\AF h h'
 |[],i,ms,A,prev,r,s,h,K,hl,hle,hm,hml,F,hrp,hst,hkd,hle1,hk=>by
  have:i=ops.size:=by
   have:=congrArg List.length hl;simp at this;omega
  subst this;exact⟨A,r,s,h,F,hle1,hk,.refl _ _,.refl _⟩
 |o::os,i,ms,A,prev,r,s,h,K,hl,hle,hm,hml,F,hrp,hst,hkd,hle1,hk=>by
  have ho:ops[i]? = some o:=by
   have:=congrArg (λl=>l[0]?) hl;simp only[aaQ,aaC]at this;simpa using this
  have hlt:i<ops.size:=by
   rcases aaI i ops.size with h|h
   ·exact h
   ·rw[aaJ h]at ho;cases ho
  have hl':ops.toList.drop (i+1)=os:=by rw[<- acm,hl];rfl
  simp only[ZQ,aac]at hst;obtain⟨⟨hedge,hslots⟩,hst⟩:=hst;simp only[mu,aac]at hkd;obtain⟨⟨hpair,hzz⟩,hkd⟩:=hkd;have hzz2:∀z,Hq ops o=some z->(yC ms o).testBit z=true:=λz hz=>by rw[hz]at hzz;exact hzz
  have go:∀(v u:aaa) (h1:za) (y:yz),(zR v=true\/v=u)->KM P q ops s0 h0 A i o s h u h1 (yC ms o) y->(z9 P q ops o=7->Xi s o=Xi r o) ->
    (match r.put o.dst v with|some s1=>FT P q ops os (i+1) (ms++[yC ms o]) (XA P q ops A++pU (z9 P q ops o) i h.next h1.next (Xi r o)) s1 h1 K|none=>False) ->
    ∃A' r' s' h',vB P ops s0 h0 A' ops.size s' h'/\Le r' s'/\K r' h'/\Fr (Vy (o::os)) s s'/\AF h h':=by
   intro v u h1 y hv N h7 hk;split at hk
   case h_2=>exact hk.elim
   rename_i r1 hp;obtain⟨s1,hp1,hl1⟩:=hle1.put hp hv
   have hs1:∀t,s1.get t=if o.dst=some t then u else s.get t:=by
    intro t;cases hd:o.dst with
    |none=>rw[hd]at hp1;simp only[Env.put,aab]at hp1;subst hp1;simp
    |some d=>
     rw[hd]at hp1;simp only[Env.put]at hp1;obtain⟨_,hp1⟩:=zq hp1;simp only[aab]at hp1;subst hp1;rw[Env.yq];by_cases e:t=d
     ·subst e;simp
     ·rw[aae e,aae (by simp only[aab];exact λh=>e h.symm)]
   have hs1s:s1.size=s.size:=(Fr.put hp1).size
   have hal2:(XA P q ops A++pU (z9 P q ops o) i h.next h1.next (Xi r o))=XA P q ops (A++[y]):=by
    rw[N6,N.yj,N.hj,N.gn,N.Mq];unfold pU;cases hla:WD (z9 P q ops o) with
    |true=>
     rw[N.geq hla];cases h7b:Nat.beq (z9 P q ops o) 7 with
     |true=>rw[h7 (aal h7b)]
     |false=>rfl
    |false=>rfl
   rw[hal2]at hk;have hny:∀w,w∈A->w.g'.next<=y.g.next:=λw hw=>by rw[N.gn];exact F.nA w hw
   have F1:vB P ops s0 h0 (A++[y]) (i+1) s1 h1:=by
    refine⟨?_,?_,hs1s.trans F.size,?_,N.ro.trans F.ro,aaU F.next N.next,?_,N.wf,?_,?_,?_⟩
    ·rw[aaY,F.js,aca];simp[N.hj]
    ·intro t;rw[hs1,Qd,N.yj,N.sK,F.env]
    ·intro b;rw[N.heap,Ju,F.heap]
    ·intro x hx;rcases aaD.1 hx with hx|hx
     ·exact aaU (F.nA x hx) N.next
     ·simp only[aat]at hx;subst hx;exact N.EO
    ·intro A1 r A2 e;rcases vN e with⟨_,rfl,rfl⟩|⟨A3,_,e3⟩
     ·exact N.told
     ·exact F.told A1 r A3 e3
    ·intro A1 r A2 e ed hed hb;rcases vN e with⟨_,rfl,rfl⟩|⟨A3,_,e3⟩
     ·rw[N.yj]at hed;simp only[aav,aaV,aao,aaN]at hedge;rcases hedge ed (by simpa using hed) with h2|h2
      ·rw[hb]at h2;cases h2
      ·have:ed.on∈A1.map (·.j):=(by rw[F.js];exact abj.2 h2);obtain⟨x,hx,hxj⟩:=aa0.1 this;exact⟨x,hx,hxj⟩
     ·exact F.Vr A1 r A3 e3 ed hed hb
    ·intro A1 x A2 z A3 e;have e':A++[y]=(A1++x::A2)++z::A3:=by rw[e];simp
     rcases vN e' with⟨_,e1,rfl⟩|⟨A4,_,e3⟩
     ·have e1:A=A1++x::A2:=e1.symm;have hxm:x∈A:=by rw[e1];simp
      obtain⟨mx,hpm,hrx⟩:=hrp A1 x A2 e1;simp only[aav,aaV]at hpair hslots;rcases hslots (x.j,x.o) (aa0.2 ⟨x,by simpa using hxm,rfl⟩) with h2|h2
      ·rw[N.hj];exact .inl (u0 hm ho h2)
      ·rcases hpair _ hpm with h3|h3
       ·rw[N.hj];exact .inl (u0 hm ho h3)
       ·by_cases hbit:(yC ms o).testBit x.j=true
        ·rw[N.hj];exact .inl (u0 hm ho hbit)
        ·simp only[ab4]at hbit;have F':=F;have nr:=N.rv;rw[e1]at F' nr;rw[e1]at hny;exact .inr (GL F' hrx nr hny (by rw[N.yj];exact h2) hbit (by rw[N.yj];exact hzz2) (by rw[N.yj];exact h3))
     ·exact F.apart A1 x A2 z A4 (by rw[e3];simp)
   have hrp1:∀A1 x A2,A++[y]=A1++x::A2->∃m,(x.j,z9 P q ops x.o,Hq ops x.o,m)∈(ms.length,z9 P q ops o,Hq ops o,yC ms o)::prev/\RV P q ops A1 m x:=by
    intro A1 x A2 e;rcases vN e with⟨_,e1,e2⟩|⟨A3,_,e3⟩
    ·subst e1 e2;exact⟨yC ms o,by rw[N.hj,N.yj,hml];simp,N.rv⟩
    ·obtain⟨m,h1,h2⟩:=hrp A1 x A3 e3;exact⟨m,aar _ h1,h2⟩
   obtain⟨A',r',s',h',F',l',k',f',a'⟩:=Lt hro0 os (i+1) (ms++[yC ms o]) (A++[y]) _ r1 s1 h1 hl' hlt (Wm hm hml ho) (by simp[hml]) F1 hrp1
    (by simpa [N.hj,N.yj] using hst) hkd hl1 hk
   exact⟨A',r',s',h',F',l',k',(Fr.put hp1).left.trans f'.right,(Od F (v:=v) N).trans a'⟩
  have slot:∀{v:aaa} {h1:za} {al':List (Nat×Nat×Nat)},(match r.put o.dst v with|some s1=>FT P q ops os (i+1) (ms++[yC ms o]) al' s1 h1 K|none=>False)->∀d,o.dst=some d->d<s.size:=by
   intro v h1 al' hk d hd;split at hk
   case h_2=>exact hk.elim
   rename_i r1 hp;rw[hd]at hp;simp only[Env.put]at hp;obtain⟨hb,_⟩:=zq hp;rw[<- hle1.size];simpa [aaN] using hb
  have hron:h.ro<=h.next:=by rw[F.ro];exact aaU hro0 F.next
  have dstok:∀{hv:za} {al:List (Nat×Nat×Nat)} {K':aaa->za->Prop},MJ P q ops r o al hv h K'->(∀v h1,K' v h1->∀d,o.dst=some d->d<s.size)->∀d,o.dst=some d->d<s.size:=by
   intro hv al K' hk hs
   have fromA:∀{g:za} {K2:aaa->za->Prop},MH P r o g K2->(∀v h1,K2 v h1->∀d,o.dst=some d->d<s.size)->∀d,o.dst=some d->d<s.size:=λhk hs=>by
    obtain⟨v,u,h',_,_,hK⟩:=qX hle1 hk;exact hs v h' hK
   unfold MJ at hk;split at hk
   ·split at hk
    ·obtain⟨_,_,v,_,_,hK⟩:=hk;exact hs _ _ hK
    ·obtain⟨_,_,v,h2,_,_,hK⟩:=hk;exact hs _ _ hK
    ·obtain⟨_,hk⟩:=hk;obtain⟨v,h2,_,hK⟩:=Zm hk;exact hs _ _ hK
    ·obtain⟨_,_,hd⟩:=hk;obtain⟨v,h2,hK,_⟩:=hd ⟨F.wf,hron⟩;exact hs _ _ hK
   ·unfold gY at hk;split at hk
    ·obtain⟨_,_,_,hd⟩:=hk;obtain⟨v,h2,hK,_⟩:=hd ⟨F.wf,hron⟩;exact hs _ _ hK
    ·exact hk.elim
   ·split at hk
    ·unfold oI at hk;split at hk
     ·obtain⟨_,hk⟩:=hk;obtain⟨v,h2,_,hK⟩:=Zm hk;exact hs _ _ hK
     ·exact hk.elim
    ·exact fromA hk hs
   ·cases h1:Nat.beq (z9 P q ops o) 1 with
    |true=>rw[h1]at hk;exact fromA hk (λv _ q=>hs v _ q)
    |false=>rw[h1]at hk;exact fromA hk hs
  simp only[FT]at hk;split at hk
  ·rename_i hg;obtain⟨v,u,h1,y,hv,hK,N,h7⟩:=AV F hron ho (dstok hk (λv h1 hK=>slot hK)) (by simp only[yw,hg]) hle1 hk;exact go v u h1 y hv N h7 hK
  ·rename_i j want hg;split at hk
   ·exact hk.elim
   ·rename_i d hdst;unfold GD at hk;split at hk
    ·rename_i b hb
     have hs:s.get d=.bool b:=by
      rcases hle1.get d with e|e
      ·rw[hb]at e;cases e
      ·rw[<- e,hb]
     have haw:yw ops s o=(b == want):=(by simp only[yw,hg,hdst,hs]);by_cases hbw:b=want
     ·have hk:=hk.1 hbw;obtain⟨v,u,h1,y,hv,hK,N,h7⟩:=AV F hron ho (dstok hk (λv h1 hK=>slot hK)) (by rw[haw,hbw];simp) hle1 hk;exact go v u h1 y hv N h7 hK
     ·have hk:=hk.2 hbw;obtain⟨y,N⟩:=cT (q:=q) F ho (slot hk) (u:=undef) (.inl ⟨by rw[haw];simpa using hbw,rfl,rfl⟩) (yC ms o);exact go undef undef h y (.inr rfl) N (λe=>by rw[lu e]at hg;cases hg) hk
    ·exact hk.elim
    ·rename_i n1 n2
     have hs:s.get d=r.get d:=by
      rcases hle1.get d with e|e
      ·obtain⟨k,p,q,e2⟩:=Xf e;exact absurd e2 (n2 k p q)
      ·exact e.symm
     have haw:yw ops s o=false:=by
      simp only[yw,hg,hdst,hs]
     obtain⟨y,N⟩:=cT (q:=q) F ho (slot hk) (u:=undef) (.inl ⟨haw,rfl,rfl⟩) (yC ms o);exact go undef undef h y (.inr rfl) N (λe=>by rw[lu e]at hg;cases hg) hk
theorem OG{q:FuncId->Nat}(hmix:P.follows .mixedOrders=true):Uv P (Iz P q):=by
 intro ops r s h K rd id hle wf hk;unfold Iz at hk;cases hc:Aq P q ops with
 |false=>rw[hc]at hk;exact hk.elim
 |true=>
  rw[hc]at hk;have hk:FT P q ops ops.toList 0 [] [] r h K:=hk;simp only[Aq,aac]at hc
  have F0:vB P ops s h ([]:List yz) 0 s h:=⟨rfl,λt=>rfl,rfl,λb=>rfl,rfl,aaj _,λx hx=>(by cases hx),wf.1,
   λA1 r A2 e=>by simp at e,λA1 r A2 e=>by simp at e,λA1 x A2 y A3 e=>by simp at e⟩
  obtain⟨A,r',s',h',F,hl',hK,hf,af⟩:=Lt wf.2 ops.toList 0 [] [] [] r s h rfl (aaS _) (λk q hq=>by simp at hq) rfl F0 (λA1 x A2 e=>by simp at e) hc.1 hc.2 hle hk
  have V:Valid P ops s h A:=⟨by rw[F.js];exact acv,λi hi=>by
    have:i∈A.map (·.j):=(by rw[F.js];exact abj.2 hi);obtain⟨r,hr,hj⟩:=aa0.1 this;exact⟨r,hr,hj⟩,F.told,F.Vr,F.apart⟩
  exact⟨r',s',h',hl',hK,hf,af,WE hmix V F.env F.size F.heap F.ro F.next F.nA (Q:=λe s1 h1=>e=.normal/\s1=s'/\h1=h') ⟨rfl,rfl,rfl⟩⟩
end
noncomputable section
variable {P:Program}
def Zj(q:FuncId->Nat)(o:Oper):Nat:=match o.op with
 | .load _ _=>1
 | .store _ _ _=>6
 | .call {callee := .value (.func g),.. }=>cond (Nat.ble (q g) 1) 5 9
 |_=>(match wj q o with
  |0=>0
  |_=>9)
def PG(x y:Nat):Bool:=Nat.beq x 0||Nat.beq y 0||(Nat.beq x 1&&(Nat.beq y 1||Nat.beq y 5))
def mr(q:FuncId->Nat):List Oper->List Nat->List (Nat×Nat)->Bool
 |[],_,_=>true
 |o::os,ms,prev=>Nat.ble (Zj q o) 6&&(prev.all λx=>(yC ms o).testBit x.1||PG x.2 (Zj q o))&&mr q os (ms++[yC ms o]) ((ms.length,Zj q o)::prev)
def Ov(q:FuncId->Nat)(ops:Array Oper):Bool:=ZQ ops ops.toList 0 [] []&&mr q ops.toList [] []
def BZ(m:Nat):List (Nat×aaa)->Option (List Nat)
 |[]=>some []
 |x::l=>cond (m.testBit x.1) (BZ m l) (match x.2 with
  | .pointer (some a)=>(match BZ m l with
    |some r=>some (a.block::r)
    |none=>none)
  |_=>none)
def zaz(P:Program)(g:FuncId)(args:List aaa)(hid:List Nat)(h:za)(K:aaa->za->Prop):Prop :=
 xW P g=true/\yk args=true/\DC P g args (h.Xe hid) λv h2=>K v (h2.dg h hid)
def Wu(P:Program)(g:FuncId)(args:List aaa)(m:Nat)(fl:List (Nat×aaa))(h:za)(K:aaa->za->Prop):Prop:=match BZ m fl with
 |some hid=>zaz P g args hid h K
 |none=>False
@[congr] theorem T6 {g:FuncId} {l l':List aaa} {m:Nat} {fl fl':List (Nat×aaa)} {h:za} {h':Unit->za} {K:aaa->za->Prop} (e2:l=l') (e4:fl=fl') (e3:∀u:Unit,(h,u).1=h' u):Wu P g l m fl h K=Wu P g l' m fl' (h' ()) K:=by rw[e2,e4,<- e3]
theorem Mb{g:FuncId}{args:List aaa}{m:Nat}{fl:List (Nat×aaa)}{hid:List Nat}{h:za}{K R:aaa->za->Prop}(hc:xW P g=true)(hn:yk args=true)(hh:BZ m fl=some hid)(d:DC P g args (h.Xe hid) R)(k:∀v h2,R v h2->K v (h2.dg h hid)):Wu P g args m fl h K:=by
 unfold Wu;rw[hh];exact⟨hc,hn,d.mono k⟩
def SP(P:Program)(s:Env)(o:Oper)(m:Nat)(fl:List (Nat×aaa))(h:za)(K:aaa->za->Prop):Prop:=match o.op with
 | .load t a=>opt (zd P t (ev s a) h) λv=>K v h
 | .call {callee := .value (.func g),args,argTypes}=>Wu P g (dm s args.toList) m fl h K
 |_=>MH P s o h K
def Rw(s:Env)(o:Oper)(i:Nat)(fl:List (Nat×aaa)):List (Nat×aaa):=match o.op with
 | .load t a=>fl++[(i,ev s a)]
 |_=>fl
def Ng(P:Program)(ops:Array Oper):List Oper->Nat->List Nat->List (Nat×aaa)->Env->za->(Env->za->Prop)->Prop
 |[],_,_,_,s,h,K=>K s h
 |o::os,i,ms,fl,s,h,K=>(match o.guard with
  |none=>SP P s o (yC ms o) fl h λv h1=>(match s.put o.dst v with
   |some s1=>Ng P ops os (i+1) (ms++[yC ms o]) (Rw s o i fl) s1 h1 K
   |none=>False)
  |some _=>False)
def Ez(P:Program)(q:FuncId->Nat)(ops:Array Oper)(s:Env)(h:za)(K:Env->za->Prop):Prop:=Nh (Ov q ops) (Ng P ops ops.toList 0 [] [] s h K) False
structure RL (q:FuncId->Nat) (fl:List (Nat×aaa)) (x:yz):Prop where
 k0:Zj q x.o=0->(∀b,x.rd b=false) /\ ∀b,x.tc b=false
 k1:Zj q x.o=1->(∀b,x.tc b=false) /\ ∃b off sp,(∀c,x.rd c=true->c=b)/\(x.j,Value.pointer (some ⟨b,off,sp⟩))∈fl
theorem RL.mono{q:FuncId->Nat}{fl fl':List (Nat×aaa)}{x:yz}(r:RL q fl x)(h:∀e,e∈fl->e∈fl'):RL q fl' x:=⟨r.k0,λe=>by
 obtain⟨h1,b,off,sp,h2,h3⟩:=r.k1 e;exact⟨h1,b,off,sp,h2,h _ h3⟩⟩
theorem pM{m:Nat}:∀{fl:List (Nat×aaa)} {hid:List Nat},BZ m fl=some hid->(∀j b off sp,(j,Value.pointer (some ⟨b,off,sp⟩))∈fl->m.testBit j=false->b∈hid)/\(∀b,b∈hid->∃j off sp,(j,Value.pointer (some ⟨b,off,sp⟩))∈fl)
 |[],hid,h=>by
  simp only[BZ,aab]at h;subst h;exact⟨λj b off sp h=>(by cases h),λb h=>(by cases h)⟩
 |x::l,hid,h=>by
  unfold BZ at h;cases hb:m.testBit x.1 with
  |true=>
   rw[hb]at h;obtain⟨h1,h2⟩:=pM (fl:=l) (hid:=hid) h;refine⟨λj b off sp hm hj=>?_,λb hb2=>?_⟩
   ·rcases aaz.1 hm with e|hm
    ·rw[<- e]at hb;rw[hb]at hj;cases hj
    ·exact h1 j b off sp hm hj
   ·obtain⟨j,off,sp,hm⟩:=h2 b hb2;exact⟨j,off,sp,aar _ hm⟩
  |false=>
   rw[hb]at h;simp only[aaH]at h;split at h
   ·rename_i a ha;split at h
    ·rename_i r hr;simp only[aab]at h;subst h;obtain⟨h1,h2⟩:=pM hr;refine⟨λj b off sp hm hj=>?_,λb hb2=>?_⟩
     ·rcases aaz.1 hm with e|hm
      ·rw[<- e]at ha;simp only[Value.pointer.injEq,aab]at ha;rw[<- ha];exact aak
      ·exact aar _ (h1 j b off sp hm hj)
     ·rcases aaz.1 hb2 with rfl|hb2
      ·obtain⟨k,v⟩:=x;simp only at ha;subst ha;obtain⟨ab,ao,asp⟩:=a;exact⟨k,ao,asp,aak⟩
      ·obtain⟨j,off,sp,hm⟩:=h2 b hb2;exact⟨j,off,sp,aar _ hm⟩
    ·cases h
   ·cases h
structure CL (P:Program) (q:FuncId->Nat) (ops:Array Oper) (s0:Env) (h0:za) (A:List yz) (i:Nat) (o:Oper) (s:Env) (h:za) (u:aaa) (h1:za) (m:Nat) (fl fl1:List (Nat×aaa)) (y:yz):Prop where
 hj:y.j=i
 yj:y.o=o
 sK:y.v=u
 told:Told P ops s0 h0 A y
 rl:RL q fl1 y
 heap:∀b,h1.get b=if y.tc b=true then y.g'.get b else h.get b
 ro:h1.ro=h.ro
 next:h.next<=h1.next
 EO:y.g'.next<=h1.next
 wf:WF h1
 af:AF h h1
 sep:Zj q o=5->∀j b off sp,(j,Value.pointer (some ⟨b,off,sp⟩))∈fl->m.testBit j=false->y.rd b=false/\y.tc b=false
 low:∀j b off sp,(j,Value.pointer (some ⟨b,off,sp⟩))∈fl1->(j,Value.pointer (some ⟨b,off,sp⟩))∈fl\/b<h1.next
section
variable {q:FuncId->Nat}{ops:Array Oper}{s0:Env}{h0:za}{A:List yz}{i:Nat}{o:Oper}{s:Env}{h:za}{m:Nat}{fl fl1:List (Nat×aaa)}
theorem GZ(F:vB P ops s0 h0 A i s h)(ho:ops[i]? = some o)(hput:∀d,o.dst=some d->d<s.size){u:aaa}(hs:ja P ops s o (h.pick []) u (h.pick []))(hk:Zj q o=0):∃y,CL P q ops s0 h0 A i o s h u h m fl fl y:=by
 refine⟨⟨i,o,u,s,h.pick [],h.pick [],λ_=>false,λ_=>false⟩,rfl,rfl,rfl,
  ⟨ho,F.env,F.size,λb=>by rw[ux];simp,F.ro,F.next,F.nA,aaj _,hs,λd hd=>by rw[<- F.size];exact hput d hd,λb hb=>(by cases hb),λb _=>rfl,λb o' hb=>(by cases hb)⟩,
  ⟨λ_=>⟨λ_=>rfl,λ_=>rfl⟩,λe=>by simp only at e;omega⟩,λb=>by simp,rfl,aaj _,aaj _,F.wf,.refl _,λe=>by omega,λj b off sp hm => .inl hm⟩
theorem GY(F:vB P ops s0 h0 A i s h)(ho:ops[i]? = some o)(hput:∀d,o.dst=some d->d<s.size)(hw:yw ops s o=true){t:TypeId}{a:Operand}(yj:o.op=.load t a){av u:aaa}(hav:kT s a=some av)(hl:zd P t av h=some u):∃y,CL P q ops s0 h0 A i o s h u h m fl (fl++[(i,av)]) y:=by
 have hk1:Zj q o=1:=by unfold Zj;rw[yj]
 obtain⟨b,off,sp,rfl,hne,hsp⟩:∃b off sp,av=.pointer (some ⟨b,off,sp⟩)/\h.get b≠none /\ ∀g:za,g.get b=h.get b->zd P t av g=some u:=by
  unfold zd at hl;split at hl
  ·rename_i b off;exact⟨b,off,none,rfl,(λe=>by rw[e]at hl;cases hl),λg hg=>by unfold zd;simp only;rw[hg];exact hl⟩
  ·rename_i b off;exact⟨b,off,some 0,rfl,(λe=>by rw[e]at hl;cases hb:b.blt P.globals.size <;> rw[hb]at hl <;> cases hl),λg hg=>by unfold zd;simp only;rw[hg];exact hl⟩
  ·cases hl
 have hlt:b<h.next:=by
  cases hg:h.get b with
  |none=>exact absurd hg hne
  |some o'=>exact F.wf b o' hg
 refine⟨⟨i,o,u,s,h.pick [b],h.pick [b],λc=>decide (c=b),λ_=>false⟩,rfl,rfl,rfl,
  ⟨ho,F.env,F.size,λc=>?_,F.ro,F.next,F.nA,aaj _,.inr ⟨hw,.inl (by unfold UM;simp only[yj,hav,hsp _ (show(h.pick [b]).get b=h.get b by rw[ux,aah (by simp)]),one])⟩,λd hd=>by rw[<- F.size];exact hput d hd,λb hb=>(by cases hb),λb _=>rfl,λb o' hb=>(by cases hb)⟩,
  ⟨λe=>by simp only at e;omega,λ_=>⟨λ_=>rfl,b,off,sp,λc hc=>by simpa using hc,by simp⟩⟩,λb=>by simp,rfl,aaj _,aaj _,F.wf,.refl _,λe=>by omega,λj c off' sp' hm=>?_⟩
 ·show(h.pick [b]).get c=if decide (c=b)=true then YV A h0 c else none;rw[ux];by_cases e:c=b
  ·subst e;simp[F.heap]
  ·simp[e]
 ·rcases aaD.1 hm with hm|hm
  ·exact .inl hm
  ·simp only[aat,aaf,Value.pointer.injEq,aab,Addr.mk.injEq]at hm;obtain⟨_,rfl,_⟩:=hm;exact .inr hlt
theorem GX(F:vB P ops s0 h0 A i s h)(ho:ops[i]? = some o)(hput:∀d,o.dst=some d->d<s.size){hid:List Nat}(hh:BZ m fl=some hid)(hlo:∀j b off sp,(j,Value.pointer (some ⟨b,off,sp⟩))∈fl->b<h.next){v:aaa}{h':za}(af:AF (h.Xe hid) h')(hs:ja P ops s o (h.Xe hid) v h')(hk:Zj q o=5):∃y,CL P q ops s0 h0 A i o s h v (h'.dg h hid) m fl fl y:=by
 obtain⟨hm1,hm2⟩:=pM hh
 have hlt:∀b,b∈hid->b<h.next:=λb hb=>by
  obtain⟨j,off,sp,hm⟩:=hm2 b hb;exact hlo j b off sp hm
 have hwfh:WF (h.Xe hid):=λb o' hb=>by
  rw[uT]at hb;split at hb
  ·cases hb
  ·exact F.wf b o' hb
 have hwf:=hwfh.af af;have hn:h.next<=h'.next:=af.next
 have hgone:∀b,b∈hid->h'.get b=none:=by
  intro b hb;cases hh:h'.get b with
  |none=>rfl
  |some o'=>
   rcases af.alive b o' hh with h2|⟨h2,_⟩
   ·rw[uT,aah hb]at h2;exact absurd rfl h2
   ·have:h.next<=b:=h2;have:=hlt b hb;omega
 have hbeyond:∀b,¬b<h'.next->h'.get b=none/\h.get b=none:=by
  intro b hb;refine⟨?_,?_⟩
  ·cases hh:h'.get b with|none=>rfl|some o'=>exact absurd (hwf b o' hh) hb
  ·cases hh:h.get b with|none=>rfl|some o'=>exact absurd (aap (F.wf b o' hh) hn) hb
 refine⟨⟨i,o,v,s,h.Xe hid,h',λb=>Nat.blt b h.next && !hid.contains b,λb=>Nat.blt b h'.next && !hid.contains b⟩,rfl,rfl,rfl,
  ⟨ho,F.env,F.size,λb=>?_,F.ro,F.next,F.nA,hn,hs,λd hd=>by rw[<- F.size];exact hput d hd,λb hb=>?_,λb hb=>?_,λb o' _ hlt2 hb=>?_⟩,
  ⟨λe=>by simp only at e;omega,λe=>by simp only at e;omega⟩,λb=>?_,af.ro,hn,aaj _,λb o' hb=>?_,⟨hn,af.ro,λb o' hb=>?_⟩,λ_ j b off sp hm hj=>?_,λj b off sp hm => .inl hm⟩
 ·rw[uT];simp only[aac,aaN,aao,aaE,aam];by_cases hm:b∈hid
  ·rw[aah hm,aae (λhc=>hc.2 hm)]
  ·rw[aae hm];by_cases hb:b<h.next
   ·rw[aah ⟨hb,hm⟩];exact F.heap b
   ·rw[aae (λhc=>hb hc.1)];cases hh:h.get b with
    |none=>rfl
    |some o'=>exact absurd (F.wf b o' hh) hb
 ·simp only[aac,aaN,aao,aaE,aam]at hb ⊢;by_cases hb2:b<h.next
  ·exact .inl ⟨hb2,hb.2⟩
  ·exact .inr ⟨abT hb2,hb.1⟩
 ·show h'.get b=(h.Xe hid).get b;rw[uT];by_cases hm:b∈hid
  ·rw[aah hm,hgone b hm]
  ·rw[aae hm]
   have hb':¬b<h'.next:=by
    intro hc;have h3:(Nat.blt b h'.next && !hid.contains b)=true:=by simpa [aaN] using⟨hc,hm⟩
    exact ab7 ((show(Nat.blt b h'.next && !hid.contains b)=false from hb).symm.trans h3)
   rw[(hbeyond b hb').1,(hbeyond b hb').2]
 ·rcases af.alive b o' hb with h2|⟨h2,_⟩
  ·exact h2
  ·exact absurd hlt2 (by show ¬b<(h.Xe hid).next;omega)
 ·rw[ZK];simp only[aac,aaN,aao,aaE,aam];by_cases hm:b∈hid
  ·rw[aah hm,aae (λhc=>hc.2 hm)]
  ·rw[aae hm];by_cases hb:b<h'.next
   ·rw[aah ⟨hb,hm⟩]
   ·rw[aae (λhc=>hb hc.1),(hbeyond b hb).1,(hbeyond b hb).2]
 ·rw[ZK]at hb;show b<h'.next;split at hb
  ·exact aap (F.wf b o' hb) hn
  ·exact hwf b o' hb
 ·rw[ZK]at hb;split at hb
  ·exact .inl (by rw[hb];simp)
  ·rcases af.alive b o' hb with h2|⟨h2,h3⟩
   ·rw[uT]at h2;split at h2
    ·exact absurd rfl h2
    ·exact .inl h2
   ·exact .inr ⟨h2,h3⟩
 ·have:=hm1 j b off sp hm hj;exact⟨by simp[this],by simp[this]⟩
theorem E8(F:vB P ops s0 h0 A i s h)(ho:ops[i]? = some o)(hput:∀d,o.dst=some d->d<s.size)(hk:Zj q o=6){h1:za}(af:AF h h1)
  {u:aaa} (hs:ja P ops s o h u h1):∃y,CL P q ops s0 h0 A i o s h u h1 m fl fl y:=by
 have hrd:∀n b,(Nat.blt b n=true) ↔ b<n:=λn b=>by rw[aaN]
 have hn:h.next<=h1.next:=af.next;have hwf:WF h1:=F.wf.af af
 refine⟨⟨i,o,u,s,h,h1,λb=>Nat.blt b h.next,λb=>Nat.blt b h1.next⟩,rfl,rfl,rfl,
  ⟨ho,F.env,F.size,λb=>?_,F.ro,F.next,F.nA,hn,hs,λd hd=>by rw[<- F.size];exact hput d hd,λb hb=>?_,λb hb=>?_,λb o' hb hlt hg=>?_⟩,
  ⟨λe=>by simp only at e;omega,λe=>by simp only at e;omega⟩,λb=>?_,af.ro,hn,aaj _,hwf,af,λe=>by omega,λj b off sp hm => .inl hm⟩
 ·show h.get b=if Nat.blt b h.next=true then YV A h0 b else none;by_cases hb:b<h.next
  ·rw[aah ((hrd _ b).2 hb),F.heap]
  ·rw[aae (λe=>hb ((hrd _ b).1 e)),qF F.wf hb]
 ·have hb:=(hrd _ b).1 hb;by_cases hlt:b<h.next
  ·exact .inl ((hrd _ b).2 hlt)
  ·exact .inr ⟨abT hlt,hb⟩
 ·have hb':¬b<h1.next:=λe=>by
   have:=(hrd h1.next b).2 e;rw[show Nat.blt b h1.next=false from hb]at this;cases this
  show h1.get b=h.get b;rw[qF hwf hb',qF F.wf (by omega)]
 ·rcases af.alive b o' hg with h2|⟨h2,_⟩
  ·exact h2
  ·have hlt:b<h.next:=hlt;omega
 ·show h1.get b=if Nat.blt b h1.next=true then h1.get b else h.get b;by_cases hb:b<h1.next
  ·rw[aah ((hrd _ b).2 hb)]
  ·rw[aae (λe=>hb ((hrd _ b).1 e)),qF hwf hb,qF F.wf (by omega)]
theorem MI(F:vB P ops s0 h0 A i s h)(hron:h.ro<=h.next)(ho:ops[i]? = some o)(hput:∀d,o.dst=some d->d<s.size)(hw:yw ops s o=true)(hkl:Zj q o<=6)(hlo:∀j b off sp,(j,Value.pointer (some ⟨b,off,sp⟩))∈fl->b<h.next){r:Env}(hl:Le r s)
  {K:aaa->za->Prop} (hk:SP P r o m fl h K):∃v u h1 y,(zR v=true\/v=u)/\K v h1/\CL P q ops s0 h0 A i o s h u h1 m fl (Rw r o i fl) y:=by
 unfold SP at hk;split at hk
 ·rename_i t a yj;obtain⟨v,he,hK⟩:=u2 hk
  have hnb:zR (ev r a)=false:=by
   cases hb:zR (ev r a) with
   |false=>rfl
   |true=>obtain⟨k,p,z,e2⟩:=Xf hb;rw[e2]at he;cases he
  obtain⟨y,hy⟩:=GY (q:=q) (m:=m) (fl:=fl) F ho hput hw yj (Yg hl hnb) he;exact⟨v,v,h,y,.inr rfl,hK,by unfold Rw;simp only[yj];exact hy⟩
 ·rename_i g args ts yj;have ef:kT s (.func g)=some (.func (.func g) #[] #[]):=rfl
  have hk5:Zj q o=5:=by
   unfold Zj at hkl ⊢;simp only[yj]at hkl ⊢;cases hb:Nat.ble (q g) 1 with
   |true=>rfl
   |false=>rw[hb]at hkl;exact absurd hkl (by decide)
  unfold Wu at hk;split at hk
  ·rename_i hid hh;obtain⟨hc,hn,hd⟩:=hk
   have wfh:qC (h.Xe hid):=⟨λb o' hb=>by
    rw[uT]at hb;split at hb
    ·cases hb
    ·exact F.wf b o' hb,hron⟩
   obtain⟨v,h2,hK,af,hT⟩:=hd wfh;obtain⟨y,hy⟩:=GX (q:=q) (m:=m) (fl:=fl) F ho hput hh hlo af (.inr ⟨hw,.inr (.inl ⟨.func g,args,ts,g,#[],#[],_,yj,ef,Q9 hl hn,hc,by simpa using hT⟩)⟩) hk5;exact⟨v,v,_,y,.inr rfl,hK,by unfold Rw;simp only[yj];exact hy⟩
  ·exact hk.elim
 ·rename_i n1 n2;obtain⟨v,u,h',he,hv,hK⟩:=qX hl hk;have hnc:=XB he;by_cases hst:∃t a x,o.op=.store t a x
  ·obtain⟨t,a,x,yj⟩:=hst;obtain⟨y,hy⟩:=E8 (q:=q) (m:=m) (fl:=fl) F ho hput (by unfold Zj;simp only[yj]) (Z2 he).1 (u:=u) (.inr ⟨hw,.inl he⟩);refine⟨v,u,h',y,hv,hK,?_⟩;unfold Rw;split
   ·rename_i yj;exact absurd yj (n1 _ _)
   ·exact hy
  have hk0:Zj q o=0/\wj q o=0:=by
   unfold Zj at hkl ⊢;split at hkl
   ·rename_i yj;exact absurd yj (n1 _ _)
   ·rename_i yj;exact absurd ⟨_,_,_,yj⟩ hst
   ·rename_i yj;exact absurd yj (n2 _ _ _)
   ·cases hko:wj q o with
    |zero=>exact⟨rfl,rfl⟩
    |succ k=>rw[hko]at hkl;exact absurd hkl (by show ¬(9:Nat)<=6;decide)
  obtain⟨rfl,hany⟩:=fI hk0.2 hnc he;obtain⟨y,hy⟩:=GZ (q:=q) (m:=m) (fl:=fl) F ho hput (u:=u) (.inr ⟨hw,.inl (hany _)⟩) hk0.1;refine⟨v,u,h',y,hv,hK,?_⟩;unfold Rw;split
  ·rename_i yj;exact absurd yj (n1 _ _)
  ·exact hy
theorem GK{x y:yz}(hx:RL q fl x)(hy0:Zj q y.o=0->(∀b,y.rd b=false) /\ ∀b,y.tc b=false)(hy1:Zj q y.o=1->∀b,y.tc b=false)(hsep:Zj q y.o=5->∀j b off sp,(j,Value.pointer (some ⟨b,off,sp⟩))∈fl->m.testBit j=false->y.rd b=false/\y.tc b=false)(hs:ji ops x.o y.o=true)(hbit:m.testBit x.j=false)(hp:PG (Zj q x.o) (Zj q y.o)=true):lI ops x y:=by
 simp only[ji,aac]at hs;obtain⟨h1,h2⟩:=hs
 have d1:∀d,x.o.dst=some d->d∉y.o.looksAt ops/\y.o.dst≠some d:=by
  intro d hd;rw[hd]at h1;simp only[aac,aao,aam,aaE]at h1;exact⟨h1.1,h1.2⟩
 have d2:∀d,y.o.dst=some d->d∉x.o.looksAt ops:=by
  intro d hd;rw[hd]at h2;simp only[aao,aam,aaE]at h2;exact h2
 unfold PG at hp;simp only[aaV,aac]at hp;rcases hp with(h|h)|⟨h,h'⟩
 ·have h:=aal h;obtain⟨r,t⟩:=hx.k0 h;exact⟨d1,d2,λb hb=>(by rw[t b]at hb;cases hb),λb _=>r b⟩
 ·have h:=aal h;obtain⟨r,t⟩:=hy0 h;exact⟨d1,d2,λb _=>⟨r b,t b⟩,λb hb=>by rw[t b]at hb;cases hb⟩
 ·have h:=aal h;obtain⟨t,b0,off,sp,hrd,hm⟩:=hx.k1 h;refine⟨d1,d2,λb hb=>(by rw[t b]at hb;cases hb),λb hb=>?_⟩;rcases h' with h'|h'
  ·have h':=aal h';rw[hy1 h' b]at hb;cases hb
  ·have h':=aal h';cases hr:x.rd b with
   |false=>rfl
   |true=>
    have e:=hrd b hr;subst e;rw[(hsep h' _ _ _ _ hm hbit).2]at hb;cases hb
end
theorem Ls{q:FuncId->Nat}{ops:Array Oper}{s0:Env}{h0:za}(hro0:h0.ro<=h0.next):∀(l:List Oper) (i:Nat) (ms:List Nat) (fl:List (Nat×aaa)) (A:List yz) (r s:Env) (h:za) {K:Env->za->Prop},
  ops.toList.drop i=l->i<=ops.size->KL ops ms->ms.length=i->vB P ops s0 h0 A i s h->(∀x,x∈A->RL q fl x)->(∀j b off sp,(j,Value.pointer (some ⟨b,off,sp⟩))∈fl->b<h.next)->ZQ ops l i ms (A.reverse.map λx=>(x.j,x.o))=true->mr q l ms (A.reverse.map λx=>(x.j,Zj q x.o))=true ->
  Le r s->Ng P ops l i ms fl r h K->∃A' r' s' h',vB P ops s0 h0 A' ops.size s' h'/\Le r' s'/\K r' h'/\Fr (Vy l) s s'/\AF h h'
 |[],i,ms,fl,A,r,s,h,K,hl,hle,hm,hml,F,hrl,hlo,hst,hkd,hle1,hk=>by
  have:i=ops.size:=by
   have:=congrArg List.length hl;simp at this;omega
  subst this;exact⟨A,r,s,h,F,hle1,hk,.refl _ _,.refl _⟩
 |o::os,i,ms,fl,A,r,s,h,K,hl,hle,hm,hml,F,hrl,hlo,hst,hkd,hle1,hk=>by
  have ho:ops[i]? = some o:=by
   have:=congrArg (λl=>l[0]?) hl;simp only[aaQ,aaC]at this;simpa using this
  have hlt:i<ops.size:=by
   rcases aaI i ops.size with h|h
   ·exact h
   ·rw[aaJ h]at ho;cases ho
  have hl':ops.toList.drop (i+1)=os:=by rw[<- acm,hl];rfl
  simp only[ZQ,aac]at hst;obtain⟨⟨hedge,hslots⟩,hst⟩:=hst;simp only[mr,aac]at hkd;obtain⟨⟨hkl,hpair⟩,hkd⟩:=hkd;have hkl:=aaF hkl;have hron:h.ro<=h.next:=by rw[F.ro];exact aaU hro0 F.next
  simp only[Ng]at hk;split at hk
  case h_2=>exact hk.elim
  rename_i hg
  have hput:∀d,o.dst=some d->d<s.size:=by
   have slot:∀{v:aaa} {h1:za},(match r.put o.dst v with|some s1=>Ng P ops os (i+1) (ms++[yC ms o]) (Rw r o i fl) s1 h1 K|none=>False)->∀d,o.dst=some d->d<s.size:=by
    intro v h1 hk d hd;split at hk
    case h_2=>exact hk.elim
    rename_i r1 hp;rw[hd]at hp;simp only[Env.put]at hp;obtain⟨hb,_⟩:=zq hp;rw[<- hle1.size];simpa [aaN] using hb
   unfold SP at hk;split at hk
   ·obtain⟨v,_,hK⟩:=u2 hk;exact slot hK
   ·unfold Wu at hk;split at hk
    ·rename_i hid hh;obtain⟨_,_,hd⟩:=hk
     have wfh:qC (h.Xe hid):=⟨λb o' hb=>by
      rw[uT]at hb;split at hb
      ·cases hb
      ·exact F.wf b o' hb,hron⟩
     obtain⟨v,h2,hK,_⟩:=hd wfh;exact slot hK
    ·exact hk.elim
   ·obtain⟨v,u,h',_,_,hK⟩:=qX hle1 hk;exact slot hK
  obtain⟨v,u,h1,y,hv,hK,N⟩:=MI (q:=q) (m:=yC ms o) F hron ho hput (by simp only[yw,hg]) hkl hlo hle1 hk;split at hK
  case h_2=>exact hK.elim
  rename_i r1 hp;obtain⟨s1,hp1,hl1⟩:=hle1.put hp hv
  have hs1:∀t,s1.get t=if o.dst=some t then u else s.get t:=by
   intro t;cases hd:o.dst with
   |none=>rw[hd]at hp1;simp only[Env.put,aab]at hp1;subst hp1;simp
   |some d=>
    rw[hd]at hp1;simp only[Env.put]at hp1;obtain⟨_,hp1⟩:=zq hp1;simp only[aab]at hp1;subst hp1;rw[Env.yq];by_cases e:t=d
    ·subst e;simp
    ·rw[aae e,aae (by simp only[aab];exact λh=>e h.symm)]
  have hs1s:s1.size=s.size:=(Fr.put hp1).size
  have hfl:∀e,e∈fl->e∈Rw r o i fl:=λe he=>by
   unfold Rw;split
   ·exact aaK _ he
   ·exact he
  have F1:vB P ops s0 h0 (A++[y]) (i+1) s1 h1:=by
   refine⟨?_,?_,hs1s.trans F.size,?_,N.ro.trans F.ro,aaU F.next N.next,?_,N.wf,?_,?_,?_⟩
   ·rw[aaY,F.js,aca];simp[N.hj]
   ·intro t;rw[hs1,Qd,N.yj,N.sK,F.env]
   ·intro b;rw[N.heap,Ju,F.heap]
   ·intro x hx;rcases aaD.1 hx with hx|hx
    ·exact aaU (F.nA x hx) N.next
    ·simp only[aat]at hx;subst hx;exact N.EO
   ·intro A1 r A2 e;rcases vN e with⟨_,rfl,rfl⟩|⟨A3,_,e3⟩
    ·exact N.told
    ·exact F.told A1 r A3 e3
   ·intro A1 r A2 e ed hed hb;rcases vN e with⟨_,rfl,rfl⟩|⟨A3,_,e3⟩
    ·rw[N.yj]at hed;simp only[aav,aaV,aao,aaN]at hedge;rcases hedge ed (by simpa using hed) with h2|h2
     ·rw[hb]at h2;cases h2
     ·have:ed.on∈A1.map (·.j):=(by rw[F.js];exact abj.2 h2);obtain⟨x,hx,hxj⟩:=aa0.1 this;exact⟨x,hx,hxj⟩
    ·exact F.Vr A1 r A3 e3 ed hed hb
   ·intro A1 x A2 z A3 e;have e':A++[y]=(A1++x::A2)++z::A3:=by rw[e];simp
    rcases vN e' with⟨_,e1,rfl⟩|⟨A4,_,e3⟩
    ·have hxm:x∈A:=(by rw[<- e1];simp);simp only[aav,aaV]at hpair hslots;rcases hslots (x.j,x.o) (aa0.2 ⟨x,by simpa using hxm,rfl⟩) with h2|h2
     ·rw[N.hj];exact .inl (u0 hm ho h2)
     ·rcases hpair (x.j,Zj q x.o) (aa0.2 ⟨x,by simpa using hxm,rfl⟩) with h3|h3
      ·rw[N.hj];exact .inl (u0 hm ho h3)
      ·by_cases hbit:(yC ms o).testBit x.j=true
       ·rw[N.hj];exact .inl (u0 hm ho hbit)
       ·simp only[ab4]at hbit;exact .inr (GK (fl:=fl) (m:=yC ms o) (hrl x hxm) N.rl.k0 (λe=>(N.rl.k1 e).1) (λe=>N.sep (by rw[<- N.yj];exact e)) (by rw[N.yj];exact h2) hbit (by rw[N.yj];exact h3))
    ·exact F.apart A1 x A2 z A4 (by rw[e3];simp)
  obtain⟨A',r',s',h',F',l',k',f',a'⟩:=Ls hro0 os (i+1) (ms++[yC ms o]) (Rw r o i fl) (A++[y]) r1 s1 h1 hl' hlt (Wm hm hml ho) (by simp[hml]) F1
   (λx hx=>by rcases aaD.1 hx with hx|hx
              ·exact(hrl x hx).mono hfl
              ·simp only[aat]at hx;subst hx;exact N.rl)
   (λj b off sp hm2=>by
    rcases N.low j b off sp hm2 with q2|q2
    ·exact aap (hlo j b off sp q2) N.next
    ·exact q2)
   (by simpa [N.hj,N.yj] using hst) (by have:ms.length=y.j:=by rw[N.hj,hml]
                                        simpa [this,N.yj] using hkd) hl1 hK
  exact⟨A',r',s',h',F',l',k',(Fr.put hp1).left.trans f'.right,N.af.trans a'⟩
theorem OF{q:FuncId->Nat}(hmix:P.follows .mixedOrders=true):Uv P (Ez P q):=by
 intro ops r s h K rd id hle wf hk;unfold Ez at hk;cases hc:Ov q ops with
 |false=>rw[hc]at hk;exact hk.elim
 |true=>
  rw[hc]at hk;have hk:Ng P ops ops.toList 0 [] [] r h K:=hk;simp only[Ov,aac]at hc
  have F0:vB P ops s h ([]:List yz) 0 s h:=⟨rfl,λt=>rfl,rfl,λb=>rfl,rfl,aaj _,λx hx=>(by cases hx),wf.1,
   λA1 r A2 e=>by simp at e,λA1 r A2 e=>by simp at e,λA1 x A2 y A3 e=>by simp at e⟩
  obtain⟨A,r',s',h',F,hl',hK,hf,af⟩:=Ls (q:=q) wf.2 ops.toList 0 [] [] [] r s h rfl (aaS _) (λk q hq=>by simp at hq) rfl F0 (λx hx=>(by cases hx)) (λj b off sp hm=>(by cases hm)) hc.1 hc.2 hle hk
  have V:Valid P ops s h A:=⟨by rw[F.js];exact acv,λi hi=>by
    have:i∈A.map (·.j):=(by rw[F.js];exact abj.2 hi);obtain⟨r,hr,hj⟩:=aa0.1 this;exact⟨r,hr,hj⟩,F.told,F.Vr,F.apart⟩
  exact⟨r',s',h',hl',hK,hf,af,WE hmix V F.env F.size F.heap F.ro F.next F.nA (Q:=λe s1 h1=>e=.normal/\s1=s'/\h1=h') ⟨rfl,rfl,rfl⟩⟩
end
end Go.Ai
