/- A part of the proof. -/
import Derived.Test.YthamlhbbhnicaaaGreatTE
import Derived.Test.YthamlhbbhnicaaaGreatTD
import Derived.Test.YthamlhbbhnicaaaGreatTC
set_option linter.unusedVariables false
set_option linter.unusedSimpArgs false
set_option maxRecDepth 100000
namespace Go.Ai
noncomputable section
variable {P:Program}
@[congr] theorem zgs {f:aaa} {f':Unit->aaa} {l l':List aaa} {h h':za} {K:aaa->za->Prop} (e1:∀u:Unit,(f,u).1=f' u) (e2:l=l') (e3:h=h'):zq P f l h K=zq P (f' ()) l' h' K:=by rw[<- e1,e2,e3]
@[congr] theorem zgr {g:FuncId} {l l':List aaa} {h:za} {h':Unit->za} {K:aaa->Prop} (e2:l=l') (e3:∀u:Unit,(h,u).1=h' u):uT P g l h K=uT P g l' (h' ()) K:=by rw[e2,<- e3]
@[congr] theorem zgu {g:FuncId} {l l':List aaa} {h:za} {h':Unit->za} {K:aaa->za->Prop} (e2:l=l') (e3:∀u:Unit,(h,u).1=h' u):mF P g l h K=mF P g l' (h' ()) K:=by rw[e2,<- e3]
@[congr] theorem zgq {g:FuncId} {l l':List aaa} {h:za} {h':Unit->za} {K:aaa->za->Prop} (e2:l=l') (e3:∀u:Unit,(h,u).1=h' u):YO P g l h K=YO P g l' (h' ()) K:=by rw[e2,<- e3]
@[congr] theorem ziN {step:List aaa->za->(List aaa->za->Prop)->Prop} {vs vs':List aaa} {h:za} {h':Unit->za} (e1:vs=vs') (e2:∀u:Unit,(h,u).1=h' u):LP step vs h=LP step vs' (h' ()):=by rw[e1,<- e2]
@[congr] theorem zit {α:Type} {x:Option α} {y:Unit->Option α} {K:α->Prop} (h:∀u:Unit,(x,u).1=y u):opt x K=opt (y ()) K:=by rw[<- h]
@[congr] theorem zhw {x:Option (aaa×za)} {y:Unit->Option (aaa×za)} {K:aaa->za->Prop} (h:∀u:Unit,(x,u).1=y u):zQ x K=zQ (y ()) K:=by rw[<- h]
@[congr] theorem ziM {g:aaa} {g':Unit->aaa} {want:Bool} {A:(aaa->za->Prop)->Prop} {K:aaa->za->Prop} {h:za} (e:∀u:Unit,(g,u).1=g' u):GD g want A K h=GD (g' ()) want A K h:=by rw[<- e]
@[congr] theorem ziL {g:aaa} {g':Unit->aaa} {A B:(List aaa->za->Prop)->Prop} {J:List aaa->za->Prop} (e:∀u:Unit,(g,u).1=g' u):CD g A B J=CD (g' ()) A B J:=by rw[<- e]
end
noncomputable section
variable {P:Program}
def Fin(L:Nat)(K:aaa->za->Prop)(e:Ex)(h2:za):Prop := ∃A2,h2.get L=some (.loop A2)/\h2.ro<=L/\K (.bool (VM e).isNone) (h2.set L (some (.loop (A2.left e))))
def RA(L:Nat)(h1:za)(K:za->Prop):Prop := ∃A1,h1.get L=some (.loop A1)/\A1.state=.ready/\h1.ro<=L/\K (h1.set L (some (.loop {A1 with state := .busy})))
def QR(n:Nat):List (Nat×aaa)->Env
 |[]=>Env.enter [] n
 |(k,v)::l=>(QR n l).set k v
def NQ(P:Program)(D:Array Oper->Env->za->(Env->za->Prop)->Prop)(n lv lv' L:Nat)(as bd:Code)(r0:Env)(h:za)(K:aaa->za->Prop):Prop :=
 wp P D n lv as r0 h ⟨λr1 h1=>RA L h1 λhb=>
  wp P D n lv' bd r1 hb ⟨λ_ h2=>Fin L K .normal h2,λ_ h2=>Fin L K .ret h2,λi _ h2=>Fin L K (.exit i) h2⟩,λ_ _=>False,λ_ _ _=>False⟩
theorem zbQ{h:za}{b:Nat}{o o':wA}(hb:h.get b=some o'):AF h (h.set b (some o)) :=
 ⟨aam _,rfl,λx y hx=>by
  rw[za.yI]at hx;split at hx
  ·rename_i e;subst e;exact .inl (by rw[hb];simp)
  ·exact .inl (by rw[hx];simp)⟩
theorem It{D:Array Oper->Env->za->(Env->za->Prop)->Prop}(hD:Jc P D){n lv lv' L:Nat}{args:List aaa}{h:za}{A:Yl}{s0 r0:Env}{K:aaa->za->Prop}
  (hg:h.get L=some (.loop A)) (he:YU A.params.toList args A.s=some s0) (hl:Le r0 s0) (nb:yC args=true) (hk:NQ P D n lv lv' L A.assign A.body r0 h K):zfk P L args h K:=by
 refine⟨nb,λwf=>?_⟩;obtain⟨e1,r1,s1,h1,l1,k1,_,a1,t1⟩:=Ir hD (rd:=some L) n _ _ _ _ _ _ hl wf hk;cases e1 with
 |ret=>exact k1.elim
 |exit i=>exact k1.elim
 |normal=>
  obtain⟨A1,g1,st,ro1,hk2⟩:=k1;have a2:AF h1 (h1.set L (some (.loop {A1 with state := .busy}))):=zbQ g1;obtain⟨e2,r2,s2,h2,l2,k2,_,a3,t2⟩:=Ir hD (rd:=some L) n _ _ _ _ _ _ l1 ((wf.af a1).af a2) hk2;have hfin:Fin L K e2 h2:=by cases e2 <;> exact k2
  obtain⟨A2,g2,ro2,hK⟩:=hfin;refine⟨_,_,hK,((a1.trans a2).trans a3).trans (zbQ g2),PU hg he (t1.mono ?_)⟩;rintro e s h' ⟨rfl,rfl,rfl⟩;refine⟨rfl,A1,g1,st,ro1,t2.mono ?_⟩;rintro e s h' ⟨rfl,rfl,rfl⟩;exact⟨A2,g2,ro2,rfl,rfl⟩
def iP:Code->List (Operand×Array Tmp×Code×Code)
 | .seq a b=>iP a++iP b
 | .cond _ a b=>iP a++iP b
 | .block _ a=>iP a
 | .scope a=>iP a
 | .loop a=>iP a
 | .rangeFunc f ps a b=>[(f,ps,a,b)]
 |_=>[]
def wm(P:Program)(f k:Nat):Array Tmp×Code×Code:=match P.funcs[f]? with
 |some fn=>(match fn.body with
  |some c=>(match (iP c)[k]? with
   |some x=>x.2
   |none=>(#[],.skip,.skip))
  |none=>(#[],.skip,.skip))
 |none=>(#[],.skip,.skip)
end
noncomputable section
variable {P:Program}
def rR(o:Option wA)(off n:Nat):Option (List aaa):=match o with
 |some (.cells c _)=>if off+n<=c.length then some ((c.drop off).take n) else none
 |_=>none
abbrev Lk:=yW->Option (Nat×Nat×Nat)
structure Qs (lk:Lk) (ops:Array Oper) (x y:yW):Prop where
 d1:∀d,x.o.dst=some d->d∉y.o.looksAt ops/\y.o.dst≠some d
 d2:∀d,y.o.dst=some d->d∉x.o.looksAt ops
 b1:∀b,x.tc b=true->y.tc b=false/\(y.rd b=false \/ ∃off n,lk y=some (b,off,n)/\x.rd b=true/\rR (x.g'.get b) off n=rR (x.g.get b) off n)
 b2:∀b,y.tc b=true->x.rd b=false \/ ∃off n,lk x=some (b,off,n)/\y.rd b=true/\rR (y.g'.get b) off n=rR (y.g.get b) off n
structure zbb (lk:Lk) (P:Program) (ops:Array Oper) (s0:Env) (h0:za) (A:List yW) (r:yW):Prop extends Told P ops s0 h0 A r where
 still:r.g.next=h0.next/\r.g'.next=h0.next
 look:∀b0 off n,lk r=some (b0,off,n)->r.rd b0=true/\(∀b,r.rd b=true->b=b0)/\(∀b,r.tc b=false) /\ ∀g:za,rR (g.get b0) off n=rR (r.g.get b0) off n->Yn P ops r.s r.o g r.v g
structure WB (lk:Lk) (P:Program) (ops:Array Oper) (s0:Env) (h0:za) (tr:List yW):Prop where
 nodup:(tr.map (·.j)).Nodup
 all:∀i,i<ops.size->∃r,r∈tr/\r.j=i
 told:∀A r B,tr=A++r::B->zbb lk P ops s0 h0 A r
 aY:∀A r B,tr=A++r::B->∀e,e∈r.o.after->Region.binds .any e=true->∃x,x∈A/\x.j=e.on
 apart:∀A x B y C,tr=A++x::(B++y::C)->Prec ops x.j y.j\/Qs lk ops x y
section
variable {lk:Lk}
theorem R5{ops:Array Oper}{s0:Env}{h0:za}{tr:List yW}(V:WB lk P ops s0 h0 tr){S:Nat->Bool}(hdown:∀i j,Prec ops i j->S j=true->S i=true){A B:List yW}{r:yW}(e:tr=A++r::B)
  (hready:∀i,Prec ops i r.j->S i=true) (hnot:S r.j=false) {p:yW->Bool} (hp:∀x,(x∈A->p x=true->Prec ops x.j r.j)/\(x∈B->p x=true->Prec ops r.j x.j)) :
  (A.filter (λx=>S x.j)).filter p=A.filter p/\(B.filter (λx=>S x.j)).filter p=[]:=by
 constructor
 ·rw[acj];apply abX;intro x hx;cases hpx:p x with
  |false=>simp
  |true=>rw[hready _ ((hp x).1 hx hpx)];rfl
 ·rw[acj,acL];intro x hx hc;simp only[aag]at hc;have:=hdown _ _ ((hp x).2 hx hc.1) hc.2;rw[hnot]at this;cases this
theorem WB.order{ops:Array Oper}{s0:Env}{h0:za}{tr A B:List yW}{r:yW}(V:WB lk P ops s0 h0 tr)(e:tr=A++r::B){p:yW->Bool}(hA:∀x,Qs lk ops x r->p x=false)(hB:∀x,Qs lk ops r x->p x=false) :
  ∀x,(x∈A->p x=true->Prec ops x.j r.j)/\(x∈B->p x=true->Prec ops r.j x.j):=by
 intro x
 constructor
 ·intro hx hpx;obtain⟨A1,A2,rfl⟩:=aa0 hx;rcases V.apart A1 x A2 r B (by simp[e]) with h|h
  ·exact h
  ·rw[hA x h]at hpx;cases hpx
 ·intro hx hpx;obtain⟨B1,B2,rfl⟩:=aa0 hx;rcases V.apart A r B1 x B2 e with h|h
  ·exact h
  ·rw[hB x h]at hpx;cases hpx
section
variable {ops:Array Oper}{s0:Env}{h0:za}{tr A B:List yW}{r:yW}{S:Nat->Bool}
theorem Jp(e:tr=A++r::B)(hnot:S r.j=false):tr.filter (λx=>S x.j)=A.filter (λx=>S x.j)++B.filter (λx=>S x.j):=by
 subst e;simp[hnot]
theorem AI(V:WB lk P ops s0 h0 tr)(e:tr=A++r::B):tr.filter (λx=>k8 S r.j x.j)=A.filter (λx=>S x.j)++r::B.filter (λx=>S x.j):=by
 have hA:A.filter (λx=>k8 S r.j x.j)=A.filter (λx=>S x.j):=abX λx hx=>by simp[k8,U0 V.nodup e (.inl hx)]
 have hB:B.filter (λx=>k8 S r.j x.j)=B.filter (λx=>S x.j):=abX λx hx=>by simp[k8,U0 V.nodup e (.inr hx)]
 rw[e,aaT,abS,hA,hB,aai (by simp[k8])]
theorem eu(V:WB lk P ops s0 h0 tr)(hdown:∀i j,Prec ops i j->S j=true->S i=true)(e:tr=A++r::B)(hready:∀i,Prec ops i r.j->S i=true)(hnot:S r.j=false){p:yW->Bool}
  (hA:∀x,Qs lk ops x r->p x=false) (hB:∀x,Qs lk ops r x->p x=false):w7 (tr.filter λx=>S x.j) p=w7 A p:=by
 obtain⟨h1,h2⟩:=R5 V hdown e hready hnot (V.order e hA hB);rw[w7,Jp e hnot,aaT,h1,h2,ab6];rfl
theorem K0(V:WB lk P ops s0 h0 tr)(hdown:∀i j,Prec ops i j->S j=true->S i=true)(e:tr=A++r::B)(hready:∀i,Prec ops i r.j->S i=true)(hnot:S r.j=false){p:yW->Bool}(hr:p r=true)
  (hA:∀x,Qs lk ops x r->p x=false) (hB:∀x,Qs lk ops r x->p x=false):w7 (tr.filter λx=>k8 S r.j x.j) p=some r:=by
 obtain⟨h1,h2⟩:=R5 V hdown e hready hnot (V.order e hA hB);rw[w7,AI V e,aaT,abS,aai hr,h1,h2];simp
theorem Wu(V:WB lk P ops s0 h0 tr)(e:tr=A++r::B)(hnot:S r.j=false){p:yW->Bool}(hr:p r=false):w7 (tr.filter λx=>k8 S r.j x.j) p=w7 (tr.filter λx=>S x.j) p:=by
 rw[w7,w7,AI V e,Jp e hnot,aaT,abS,hr,aac (by simp),aaT]
theorem zgv(V:WB lk P ops s0 h0 tr)(hdown:∀i j,Prec ops i j->S j=true->S i=true)(e:tr=A++r::B)(hready:∀i,Prec ops i r.j->S i=true)(hnot:S r.j=false){b0 off n:Nat}(hlk:lk r=some (b0,off,n))(hrd:r.rd b0=true)(htc:r.tc b0=false) :
  rR (WM (tr.filter λx=>S x.j) h0 b0) off n=rR (WM A h0 b0) off n:=by
 have val:∀(l:List yW),WM l h0 b0=match (l.filter λx=>x.tc b0).getLast? with|some r=>r.g'.get b0|none=>h0.get b0:=λl=>rfl
 have one:∀A1 x A2,tr=A1++x::A2->x.tc b0=true->(Qs lk ops x r\/Qs lk ops r x)->rR (x.g'.get b0) off n=rR (WM A1 h0 b0) off n:=by
  intro A1 x A2 e1 hx hf;have D:=V.told A1 x A2 e1
  have key:x.rd b0=true/\rR (x.g'.get b0) off n=rR (x.g.get b0) off n:=by
   rcases hf with hf|hf
   ·rcases (hf.b1 b0 hx).2 with h1|⟨o1,n1,h1,h2,h3⟩
    ·rw[hrd]at h1;cases h1
    ·rw[hlk]at h1;cases h1;exact⟨h2,h3⟩
   ·rcases hf.b2 b0 hx with h1|⟨o1,n1,h1,h2,h3⟩
    ·rw[hrd]at h1;cases h1
    ·rw[hlk]at h1;cases h1;exact⟨h2,h3⟩
  rw[key.2,D.heap,aai key.1]
 let p:yW->Bool:=λx=>x.tc b0
 have ord:∀A1 x A2,tr=A1++x::A2->p x=true->∀A3 y A4,A1=A3++y::A4->p y=true->Prec ops y.j x.j:=by
  intro A1 x A2 e1 hx A3 y A4 e2 hy;subst e2;rcases V.apart A3 y A4 x A2 (by simpa using e1) with h|h
  ·exact h
  ·have:=(h.b1 b0 hy).1;rw[show x.tc b0=true from hx]at this;cases this
 have go:∀(C D:List yW),tr=C++D->(∀x,x∈C->p x=true->S x.j=false->Qs lk ops x r)->rR (WM (C.filter λx=>S x.j) h0 b0) off n=rR (WM C h0 b0) off n:=by
  intro C
  induction hC:C.length generalizing C with
  |zero=>intro D _ _;rw[abL.1 hC];rfl
  |succ m ih=>
   intro D e1 hfree;rcases abF C with rfl|⟨C',x,rfl⟩
   ·cases hC
   simp only[abM]at *
   have e2:tr=C'++x::D:=by rw[e1];simp
   have ih':=ih C' (by simpa using hC) (x::D) e2 λy hy=>hfree y (by simp[hy]);cases hp:p x with
   |false=>
    have h1:(C'++[x]).filter p=C'.filter p:=by rw[aaT];simp[hp]
    have h2:((C'++[x]).filter λy=>S y.j).filter p=(C'.filter λy=>S y.j).filter p:=by
     rw[aaT,aaT];cases hs:S x.j <;> simp[hs,hp]
    rw[val,val,show((C'++[x]).filter λx=>x.tc b0)=C'.filter p from h1,show(((C'++[x]).filter λy=>S y.j).filter λx=>x.tc b0)=(C'.filter λy=>S y.j).filter p from h2];rw[val,val]at ih';exact ih'
   |true=>
    have h1:(C'++[x]).filter p=C'.filter p++[x]:=(by rw[aaT];simp[hp]);cases hs:S x.j with
    |true=>
     have h2:((C'++[x]).filter λy=>S y.j).filter p=(C'.filter λy=>S y.j).filter p++[x]:=by
      rw[aaT,aaT];simp[hs,hp]
     rw[val,val,show((C'++[x]).filter λx=>x.tc b0)=C'.filter p++[x] from h1,show(((C'++[x]).filter λy=>S y.j).filter λx=>x.tc b0)=(C'.filter λy=>S y.j).filter p++[x] from h2];simp
    |false=>
     have h2:((C'++[x]).filter λy=>S y.j).filter p=(C'.filter λy=>S y.j).filter p:=by
      rw[aaT,aaT];simp[hs]
     have hx:=one C' x D e2 hp (.inl (hfree x (by simp) hp hs));rw[val ((C'++[x]).filter _),val (C'++[x]),show((C'++[x]).filter λx=>x.tc b0)=C'.filter p++[x] from h1,show(((C'++[x]).filter λy=>S y.j).filter λx=>x.tc b0)=(C'.filter λy=>S y.j).filter p from h2];rw[val]at ih';simp only[List.getLast?_append,List.getLast?_singleton,Option.some_or];rw[hx];exact ih'
 have back:∀(C D:List yW),B=C++D->rR (WM (A.filter (λx=>S x.j)++C.filter (λx=>S x.j)) h0 b0) off n=rR (WM (A.filter λx=>S x.j) h0 b0) off n:=by
  intro C
  induction hC:C.length generalizing C with
  |zero=>intro D _;rw[abL.1 hC];simp
  |succ m ih=>
   intro D e1;rcases abF C with rfl|⟨C',x,rfl⟩
   ·cases hC
   simp only[abM]at *
   have e2:B=C'++x::D:=by rw[e1];simp
   have ih':=ih C' (by simpa using hC) (x::D) e2;cases hs:S x.j with
   |false=>rw[aaT];simpa [hs] using ih'
   |true=>
    cases hp:p x with
    |false=>
     have h2:((A.filter (λx=>S x.j)++(C'++[x]).filter λy=>S y.j).filter p)=(A.filter (λx=>S x.j)++C'.filter λy=>S y.j).filter p:=by
      rw[aaT C' [x]];simp[hs,hp]
     rw[val,show((A.filter (λx=>S x.j)++(C'++[x]).filter λy=>S y.j).filter λx=>x.tc b0)=_ from h2];rw[val]at ih';exact ih'
    |true=>
     have e3:tr=(A++r::C')++x::D:=by rw[e,e2];simp
     have hfr:Qs lk ops r x:=by
      rcases V.apart A r C' x D (by rw[e,e2]) with h|h
      ·have:=hdown _ _ h hs;rw[hnot]at this;cases this
      ·exact h
     have hx:=one (A++r::C') x D e3 hp (.inr hfr)
     have h2:((A.filter (λx=>S x.j)++(C'++[x]).filter λy=>S y.j).filter p)=(A.filter (λx=>S x.j)++C'.filter λy=>S y.j).filter p++[x]:=by
      rw[aaT C' [x]];simp[hs,hp,aaT]
     rw[val,show((A.filter (λx=>S x.j)++(C'++[x]).filter λy=>S y.j).filter λx=>x.tc b0)=_ from h2];simp only[List.getLast?_append,List.getLast?_singleton,Option.some_or];rw[hx,<- ih']
     have h4:(A++r::C').filter p=(A.filter (λx=>S x.j)++C'.filter λy=>S y.j).filter p:=by
      have all:∀y,y∈A++r::C'->p y=true->S y.j=true:=by
       intro y hy hpy;obtain⟨Y1,Y2,hY⟩:=aa0 hy;exact hdown _ _ (ord (A++r::C') x D e3 hp Y1 y Y2 hY hpy) hs
      rw[<- aaT,acj,aaT,aaT,abS,show p r=false from htc];simp only[abo,abe]
      congr 1
      ·apply abX;intro y hy;cases hpy:p y with
       |false=>simp
       |true=>rw[all y (by simp[hy]) hpy];rfl
      ·apply abX;intro y hy;cases hpy:p y with
       |false=>simp
       |true=>rw[all y (by simp[hy]) hpy];rfl
     rw[val,val,show((A++r::C').filter λx=>x.tc b0)=_ from h4]
 have hA:=go A (r::B) e λx hx hpx hsx=>by
  obtain⟨A1,A2,rfl⟩:=aa0 hx;rcases V.apart A1 x A2 r B (by simp[e]) with h|h
  ·have:=hready _ h;rw[hsx]at this;cases this
  ·exact h
 rw[Jp e hnot,back B [] (by simp),hA]
theorem OK(hro0:h0.ro<=h0.next)(V:WB lk P ops s0 h0 tr)(hdown:∀i j,Prec ops i j->S j=true->S i=true)(e:tr=A++r::B)(hready:∀i,Prec ops i r.j->S i=true)(hnot:S r.j=false)
  {N:Nat} (hN:∀x,x∈tr->x.g'.next<=N) (hlk:lk r=none) {ρ0 ρ:xt} {w0 w:World} {tm:Array aaa} (I:mc P tr s0 h0 N ρ0 w0 S ρ w tm) (ds:List Deferred) (rest:List Nat) (b:Frame) (k:List Item) (cs:List Frame) :
  ∃ρ' w' tm',mc P tr s0 h0 N ρ0 w0 (k8 S r.j) ρ' w' tm'/\Steps P (lone (vx b tm ds (.inRegion ops (r.j::rest)::k)) cs w) (lone (vx b tm' ds (.inRegion ops rest::k)) cs w'):=by
 have D:=V.told A r B e;have hrm:r∈tr:=by rw[e];simp
 have rdA:∀x,Qs lk ops x r->∀bb,x.tc bb=true->r.rd bb=true->False:=λx hx bb hw hb=>by
  rcases (hx.b1 bb hw).2 with h|⟨_,_,h,_⟩
  ·rw[hb]at h;cases h
  ·rw[hlk]at h;cases h
 have rdB:∀x,Qs lk ops r x->∀bb,x.tc bb=true->r.rd bb=true->False:=λx hx bb hw hb=>by
  rcases hx.b2 bb hw with h|⟨_,_,h,_⟩
  ·rw[hb]at h;cases h
  ·rw[hlk]at h;cases h
 have lookEnv:∀t,t∈r.o.looksAt ops->w7 (tr.filter λx=>S x.j) (Jy t)=w7 A (Jy t):=λt ht=>
  eu V hdown e hready hnot (λx hx=>by
   cases hw:Jy t x with
   |false=>rfl
   |true=>exact absurd ht (hx.d1 t (abv hw)).1) (λx hx=>by
   cases hw:Jy t x with
   |false=>rfl
   |true=>exact absurd ht (hx.d2 t (abv hw)))
 have lookHeap:∀bb,r.rd bb=true->w7 (tr.filter λx=>S x.j) (λx=>x.tc bb)=w7 A (λx=>x.tc bb):=λbb hb=>
  eu V hdown e hready hnot (λx hx=>by
   cases hw:x.tc bb with
   |false=>rfl
   |true=>exact(rdA x hx bb hw hb).elim) (λx hx=>by
   cases hw:x.tc bb with
   |false=>rfl
   |true=>exact(rdB x hx bb hw hb).elim)
 have hpVeq:∀bb,r.rd bb=true->WM (tr.filter λx=>S x.j) h0 bb=r.g.get bb:=λbb hb=>by
  rw[D.heap,aai hb];simp only[WM,lookHeap bb hb]
 have hpNle:∀bb,r.rd bb=true->tC (tr.filter λx=>S x.j) h0.next bb<=r.g.next:=λbb hb=>by
  simp only[tC,lookHeap bb hb];split
  ·rename_i x hx;exact D.nA x (VN hx).1
  ·exact D.n0
 have galive:∀bb o,r.g.get bb=some o->r.rd bb=true/\WM (tr.filter λx=>S x.j) h0 bb=some o:=λbb o hg=>by
  rw[D.heap]at hg;cases hb:r.rd bb with
  |false=>rw[hb]at hg;simp at hg
  |true=>exact⟨rfl,by rw[hpVeq bb hb,D.heap];exact hg⟩
 let ρr:=ρ.cut r.g.next
 have hrel:Rel P ρr r.g w:=by
  refine⟨rfl,?_,?_,?_,?_,by rw[D.ro];exact I.tB,I.gl⟩
  ·have h1:=D.ro;have h2:=D.n0;show r.g.ro<=r.g.next;omega
  ·intro bb o hg;obtain⟨h1,h2⟩:=galive bb o hg;exact aao (I.heap bb o h2).1 (hpNle bb h1)
  ·intro bb o hg;obtain⟨h1,h2⟩:=galive bb _ hg;obtain⟨_,pl,hp,hc⟩:=I.heap bb o h2;refine⟨pl,hp,?_⟩;rw[D.ro];exact hc.iq (hpNle bb h1)
  ·intro b1 b2 o1 o2 p1 p2 g1 g2;exact I.inj b1 b2 o1 o2 p1 p2 (galive b1 o1 g1).2 (galive b2 o2 g2).2
 have hlook:∀t,t∈r.o.looksAt ops->zS ρr (r.s.get t) (tm.getD t undef):=by
  intro t ht;have h1:=I.env t;have e1:Jn (tr.filter λx=>S x.j) s0 t=r.s.get t:=by rw[D.env t];simp only[Jn,lookEnv t ht]
  have e2:pR (tr.filter λx=>S x.j) h0.next t<=r.g.next:=by
   simp only[pR,lookEnv t ht];split
   ·rename_i x hx;exact D.nA x (VN hx).1
   ·exact D.n0
  rw[e1]at h1;exact h1.iq e2
 obtain⟨v',w',ρq,st,hv,sx⟩:=iL D.op D.sem hrel (D.size.trans I.size) hlook ds rest b k cs
 let ρ':xt:={next:=N,m:=λbb=>if r.g.next<=bb/\bb<r.g'.next then ρq.m bb else ρ.m bb}
 have qnext:ρq.next=r.g'.next:=st.rel.next;have qlow:∀bb,bb<r.g.next->ρq.m bb=ρ.m bb:=λbb hb=>st.le.2 bb hb
 have pq:∀bb,bb<r.g'.next->ρ'.m bb=ρq.m bb:=by
  intro bb hb;by_cases hl:r.g.next<=bb
  ·exact aai ⟨hl,hb⟩
  ·rw[show ρ'.m bb=ρ.m bb from aac (by omega),qlow bb (by omega)]
 have rfresh:=I.fresh r hrm hnot
 have pext:∀bb pl,ρ.m bb=some pl->ρ'.m bb=some pl:=by
  intro bb pl hm
  rw[show ρ'.m bb=ρ.m bb from aac (by
   rintro⟨h1,h2⟩;rw[rfresh bb h1 h2]at hm;cases hm)]
  exact hm
 have hn1N:r.g'.next<=N:=hN r hrm
 have notMine:∀bb o pl,WM (tr.filter λx=>S x.j) h0 bb=some o->ρ.m bb=some pl->r.rd bb=false->¬ot ρr r.g pl.c:=by
  rintro bb o pl hg hm hb ⟨b1,o1,p1,g1,_,m1,e1⟩;obtain⟨k1,k2⟩:=galive b1 o1 g1;have:=I.inj b1 bb o1 o p1 pl k2 hg m1 hm e1;subst this;rw[hb]at k1;cases k1
 have hpVnew:∀bb,WM (tr.filter λx=>k8 S r.j x.j) h0 bb=if r.tc bb=true then r.g'.get bb else WM (tr.filter λx=>S x.j) h0 bb:=by
  intro bb;cases ht:r.tc bb with
  |true=>
   rw[aai rfl];simp only[WM]
   rw[K0 V hdown e hready hnot ht (λx hx=>by
    cases hw:x.tc bb with
    |false=>rfl
    |true=>have:=(hx.b1 bb hw).1;rw[ht]at this;cases this) (λx hx=>by
    cases hw:x.tc bb with
    |false=>rfl
    |true=>have:=(hx.b1 bb ht).1;rw[hw]at this;cases this)]
  |false=>
   rw[aac (by simp)];simp only[WM];rw[Wu V e hnot (p:=λx=>x.tc bb) ht]
 have hpNnew:∀bb,tC (tr.filter λx=>k8 S r.j x.j) h0.next bb=if r.tc bb=true then r.g'.next else tC (tr.filter λx=>S x.j) h0.next bb:=by
  intro bb;cases ht:r.tc bb with
  |true=>
   rw[aai rfl];simp only[tC]
   rw[K0 V hdown e hready hnot ht (λx hx=>by
    cases hw:x.tc bb with
    |false=>rfl
    |true=>have:=(hx.b1 bb hw).1;rw[ht]at this;cases this) (λx hx=>by
    cases hw:x.tc bb with
    |false=>rfl
    |true=>have:=(hx.b1 bb ht).1;rw[hw]at this;cases this)]
  |false=>
   rw[aac (by simp)];simp only[tC];rw[Wu V e hnot (p:=λx=>x.tc bb) ht]
 have cases':∀bb o,WM (tr.filter λx=>k8 S r.j x.j) h0 bb=some o->(r.tc bb=true/\r.g'.get bb=some o)\/(r.tc bb=false/\WM (tr.filter λx=>S x.j) h0 bb=some o):=by
  intro bb o h;rw[hpVnew]at h;cases ht:r.tc bb with
  |true=>rw[ht,aai rfl]at h;exact .inl ⟨rfl,h⟩
  |false=>rw[ht,aac (by simp)]at h;exact .inr ⟨rfl,h⟩
 refine⟨ρ',w',qP tm r.o.dst v',⟨rfl,?_,?_,?_,?_,?_,?_,st.os.trans I.os,st.tape.trans I.tape,st.output.trans I.output,aaS I.mN st.size,?_,?_,I.tB,λb pl hb hm=>I.gl b pl hb (by
  rw[show ρ'.m b=ρ.m b from aac (by have:=D.n0;have:=I.tB;omega)]at hm;exact hm)⟩,sx⟩
 ·intro bb hb;rw[show ρ'.m bb=ρ.m bb from aac (by have:=D.n0;omega)];exact I.old bb hb
 ·cases r.o.dst with
  |none=>exact I.size
  |some d=>simp only[qP,Array.size_setIfInBounds];exact I.size
 ·
  intro t;by_cases ht:r.o.dst=some t
  ·have e1:w7 (tr.filter λx=>k8 S r.j x.j) (Jy t)=some r:=K0 V hdown e hready hnot (p:=Jy t) (by simp[Jy,ht]) (λx hx=>by
    cases hw:Jy t x with
    |false=>rfl
    |true=>exact absurd ht (hx.d1 t (abv hw)).2) (λx hx=>by
    cases hw:Jy t x with
    |false=>rfl
    |true=>exact absurd (abv hw) (hx.d1 t ht).2)
   simp only[Jn,pR,e1]
   have e2:(qP tm r.o.dst v').getD t undef=v':=by
    have hlt:t<tm.size:=(by rw[<- I.size];exact D.put t ht);rw[ht];simp[qP,aaG,hlt]
   rw[e2];refine hv.ext (by show ρq.next<=r.g'.next;rw[qnext];exact aam _) (λbb pl hb hm=>?_);show ρ'.m bb=some pl;rw[pq bb (by rw[<- qnext];exact hb)];exact hm
  ·have e1:w7 (tr.filter λx=>k8 S r.j x.j) (Jy t)=w7 (tr.filter λx=>S x.j) (Jy t):=Wu V e hnot (p:=Jy t) (by simp[Jy,ht])
   have e2:(qP tm r.o.dst v').getD t undef=tm.getD t undef:=by
    cases hd:r.o.dst with
    |none=>rfl
    |some d=>
     have:d≠t:=λh=>ht (by rw[hd,h]);simp[qP,aaG,this]
   have h1:=I.env t;simp only[Jn,pR]at h1 ⊢;rw[e1,e2];exact h1.Da (ρ':=ρ') pext
 ·
  intro bb o hg;rcases cases' bb _ hg with⟨ht,hg'⟩|⟨ht,hg'⟩
  ·rw[hpNnew,aai ht];obtain⟨pl,hp,hc⟩:=st.rel.ok bb o hg';have hlt:=st.rel.eU bb _ hg';refine⟨hlt,pl,by rw[pq bb hlt];exact hp,?_⟩;have hro:r.g'.ro=h0.ro:=st.ro.trans D.ro;rw[hro]at hc;exact hc.ext (by show ρq.next<=r.g'.next;rw[qnext];exact aam _) (λb2 p2 hb hm=>by show ρ'.m b2=some p2;rw[pq b2 (by rw[<- qnext];exact hb)];exact hm)
  ·rw[hpNnew,ht,aac (by simp)];obtain⟨hlt,pl,hp,hc⟩:=I.heap bb o hg';refine⟨hlt,pl,pext bb pl hp,?_⟩
   have hdone:vX P (ρ.cut (tC (tr.filter λx=>S x.j) h0.next bb)) (decide (h0.ro<=bb)) o pl w':=by
    cases hb:r.rd bb with
    |true=>
     have hgg:r.g'.get bb=some o:=(by rw[D.tc2 bb ht,<- hpVeq bb hb];exact hg');obtain⟨p2,hp2,hc2⟩:=st.rel.ok bb o hgg;have hbl:bb<r.g.next:=aao hlt (hpNle bb hb);rw[qlow bb hbl,hp]at hp2;cases hp2;have hro:r.g'.ro=h0.ro:=st.ro.trans D.ro;rw[hro]at hc2;exact vX.down (ρ:=ρ.cut (tC (tr.filter λx=>S x.j) h0.next bb)) (ρ2:=ρq) (λb2 hb2=>qlow b2 (aao hb2 (hpNle bb hb))) hc hc2
    |false=>exact hc.other (st.frame pl.c hc.lt (notMine bb _ pl hg' hp hb))
   exact hdone.Da (ρ':=ρ') pext
 ·
  have key:∀b1 b2 o1 o2 p1 p2,r.tc b1=true->r.g'.get b1=some o1->r.tc b2=false->WM (tr.filter λx=>S x.j) h0 b2=some o2->ρ'.m b1=some p1->ρ'.m b2=some p2->p1.c=p2.c->b1=b2:=by
   intro b1 b2 o1 o2 p1 p2 t1 g1 t2 g2 m1 m2 ec;obtain⟨hlt2,q2,hq2,hc2⟩:=I.heap b2 o2 g2;rw[pext b2 q2 hq2]at m2;cases m2;have hl1:=st.rel.eU b1 o1 g1;rw[pq b1 hl1]at m1;cases hb2:r.rd b2 with
   |true=>
    have hgg:r.g'.get b2=some o2:=(by rw[D.tc2 b2 t2,<- hpVeq b2 hb2];exact g2);have hbl:b2<r.g.next:=aao hlt2 (hpNle b2 hb2);exact st.rel.inj b1 b2 o1 _ p1 p2 g1 hgg m1 (by rw[qlow b2 hbl];exact hq2) ec
   |false=>
    by_cases hw:h0.ro<=b1
    ·have hM:ot ρq r.g' p1.c:=⟨b1,o1,p1,g1,by rw[st.ro,D.ro];exact hw,m1,rfl⟩;have hlt:p1.c<w.heap.size:=by rw[ec];exact hc2.lt
     have:=st.A6 p1.c hlt hM;rw[ec]at this;exact absurd this (notMine b2 _ p2 g2 hq2 hb2)
    ·have hb1:b1<r.g.next:=(by have:=D.n0;omega);have hne:=D.tc3 b1 o1 t1 hb1 g1;obtain⟨o1',ho1'⟩:∃o,r.g.get b1=some o:=by cases hh:r.g.get b1 with|none=>exact absurd hh hne|some o=>exact⟨o,rfl⟩
     rw[qlow b1 hb1]at m1;exact I.inj b1 b2 o1' _ p1 p2 (galive b1 o1' ho1').2 g2 m1 hq2 ec
  intro b1 b2 o1 o2 p1 p2 g1 g2 m1 m2 ec;rcases cases' b1 o1 g1 with⟨t1,k1⟩|⟨t1,k1⟩ <;> rcases cases' b2 o2 g2 with⟨t2,k2⟩|⟨t2,k2⟩
  ·have l1:=st.rel.eU b1 o1 k1;have l2:=st.rel.eU b2 o2 k2;rw[pq b1 l1]at m1;rw[pq b2 l2]at m2;exact st.rel.inj b1 b2 o1 o2 p1 p2 k1 k2 m1 m2 ec
  ·exact key b1 b2 o1 o2 p1 p2 t1 k1 t2 k2 m1 m2 ec
  ·exact(key b2 b1 o2 o1 p2 p1 t2 k2 t1 k1 m2 m1 ec.symm).symm
  ·obtain⟨_,q1,hq1,_⟩:=I.heap b1 o1 k1;obtain⟨_,q2,hq2,_⟩:=I.heap b2 o2 k2;rw[pext b1 q1 hq1]at m1;rw[pext b2 q2 hq2]at m2;cases m1;cases m2;exact I.inj b1 b2 _ _ p1 p2 k1 k2 hq1 hq2 ec
 ·
  intro x hx hS bb h1 h2;simp only[k8,acD,aaJ]at hS;have h3:=I.fresh x hx hS.1 bb h1 h2;have hne:x≠r:=λh=>hS.2 (by rw[h])
  have hdis:¬(r.g.next<=bb/\bb<r.g'.next):=by
   rw[e]at hx;rcases aaQ.1 hx with hxA|hxB
   ·have:=D.nA x hxA;omega
   ·rcases abt.1 hxB with hxr|hxB
    ·exact absurd hxr hne
    ·obtain⟨B1,B2,rfl⟩:=aa0 hxB;have:=(V.told (A++r::B1) x B2 (by simp[e])).nA r (by simp);omega
  rw[show ρ'.m bb=ρ.m bb from aac hdis];exact h3
 ·intro c hc hn
  rw[st.frame c (aao hc I.mN) (by
   rintro⟨b1,o1,p1,g1,hro1,m1,rfl⟩;exact hn (I.A6 b1 o1 p1 (galive b1 o1 g1).2 (by rw[<- D.ro];exact hro1) m1 hc))]
  exact I.frame c hc hn
 ·intro bb o pl hg hro hm hc;rcases cases' bb o hg with⟨ht,hg'⟩|⟨ht,hg'⟩
  ·rw[pq bb (st.rel.eU bb o hg')]at hm;obtain⟨b1,o1,p1,g1,hro1,m1,e1⟩:=st.A6 pl.c (aao hc I.mN) ⟨bb,o,pl,hg',by rw[st.ro,D.ro];exact hro,hm,rfl⟩;rw[<- e1];exact I.A6 b1 o1 p1 (galive b1 o1 g1).2 (by rw[<- D.ro];exact hro1) m1 (by rw[e1];exact hc)
  ·obtain⟨_,q,hq,_⟩:=I.heap bb o hg';rw[pext bb q hq]at hm;cases hm;exact I.A6 bb _ pl hg' hro hq hc
theorem OJ(hro0:h0.ro<=h0.next)(V:WB lk P ops s0 h0 tr)(hdown:∀i j,Prec ops i j->S j=true->S i=true)(e:tr=A++r::B)(hready:∀i,Prec ops i r.j->S i=true)(hnot:S r.j=false)
  {N:Nat} (hN:∀x,x∈tr->x.g'.next<=N) (hNN:N=h0.next) {b0 off n:Nat} (hlk:lk r=some (b0,off,n)) {ρ0 ρ:xt} {w0 w:World} {tm:Array aaa} (I:mc P tr s0 h0 N ρ0 w0 S ρ w tm) (ds:List Deferred) (rest:List Nat) (b:Frame) (k:List Item) (cs:List Frame) :
  ∃ρ' w' tm',mc P tr s0 h0 N ρ0 w0 (k8 S r.j) ρ' w' tm'/\Steps P (lone (vx b tm ds (.inRegion ops (r.j::rest)::k)) cs w) (lone (vx b tm' ds (.inRegion ops rest::k)) cs w'):=by
 have D:=V.told A r B e;have hrm:r∈tr:=by rw[e];simp
 obtain⟨l1,l2,l3,l4⟩:=D.look b0 off n hlk;have hNr:r.g.next=N:=by rw[D.still.1,hNN]
 have hNr':r.g'.next=N:=by rw[D.still.2,hNN]
 have hcut:ρ.cut N=ρ:=by have:=I.next;cases ρ;simp only at this;subst this;rfl
 have lookEnv:∀t,t∈r.o.looksAt ops->w7 (tr.filter λx=>S x.j) (Jy t)=w7 A (Jy t):=λt ht=>
  eu V hdown e hready hnot (λx hx=>by
   cases hw:Jy t x with
   |false=>rfl
   |true=>exact absurd ht (hx.d1 t (abv hw)).1) (λx hx=>by
   cases hw:Jy t x with
   |false=>rfl
   |true=>exact absurd ht (hx.d2 t (abv hw)))
 have lastn:∀(p:yW->Bool) x,w7 (tr.filter λx=>S x.j) p=some x->x.g'.next<=N:=λp x hx=>hN x (ach.1 (VN hx).1).1
 have hpNle:∀bb,tC (tr.filter λx=>S x.j) h0.next bb<=N:=λbb=>by
  simp only[tC];split
  ·rename_i x hx;exact lastn _ x hx
  ·omega
 let g1:za:=r.g.set b0 (WM (tr.filter λx=>S x.j) h0 b0)
 have g1get:∀bb o,g1.get bb=some o->bb=b0/\WM (tr.filter λx=>S x.j) h0 b0=some o:=λbb o hg=>by
  show bb=b0/\_;have hg:(r.g.set b0 (WM (tr.filter λx=>S x.j) h0 b0)).get bb=some o:=hg;rw[za.yI]at hg;split at hg
  ·rename_i q;exact⟨q,hg⟩
  ·rw[D.heap]at hg;cases hb:r.rd bb with
   |false=>rw[hb]at hg;simp at hg
   |true=>rename_i q;exact absurd (l2 bb hb) q
 have hrel:Rel P ρ g1 w:=by
  refine⟨by rw[I.next];exact hNr.symm,by have h1:=D.ro;have h2:=D.n0;show r.g.ro<=r.g.next;omega,λbb o hg=>?_,λbb o hg=>?_,λb1 b2 o1 o2 p1 p2 q1 q2 _ _ _=>?_,by show _<=r.g.ro;rw[D.ro];exact I.tB,I.gl⟩
  ·obtain⟨rfl,h2⟩:=g1get bb o hg;have:=(I.heap bb o h2).1;have:=hpNle bb;show bb<r.g.next;omega
  ·obtain⟨rfl,h2⟩:=g1get bb o hg;obtain⟨_,pl,hp,hc⟩:=I.heap bb o h2;refine⟨pl,hp,?_⟩;have hc:=hc.iq (hpNle bb);rw[hcut]at hc;show vX P ρ (decide (r.g.ro<=bb)) o pl w;rw[D.ro];exact hc
  ·rw[(g1get b1 o1 q1).1,(g1get b2 o2 q2).1]
 have hsem:Yn P ops r.s r.o g1.lock r.v g1.lock:=l4 g1.lock (by
  show rR ((r.g.set b0 (WM (tr.filter λx=>S x.j) h0 b0)).get b0) off n=_;rw[za.yI,aai rfl,zgv V hdown e hready hnot hlk l1 (l3 b0),D.heap,aai l1])
 have hlook:∀t,t∈r.o.looksAt ops->zS ρ (r.s.get t) (tm.getD t undef):=by
  intro t ht;have h1:=I.env t;have e1:Jn (tr.filter λx=>S x.j) s0 t=r.s.get t:=by rw[D.env t];simp only[Jn,lookEnv t ht]
  rw[e1]at h1
  have h1:=h1.iq (m:=N) (by
   simp only[pR];split
   ·rename_i x hx;exact lastn _ x hx
   ·omega)
  rw[hcut]at h1;exact h1
 obtain⟨v',w',ρq,st,hv,sx⟩:=iL D.op hsem hrel.lock (D.size.trans I.size) hlook ds rest b k cs
 have hfr:∀c,c<w.heap.size->w'.heap[c]? = w.heap[c]?:=λc hc=>st.frame c hc (by
  rintro⟨bb,o,pl,hg,hro,_,_⟩;have h1:=hrel.lock.eU bb o hg;have h2:g1.next<=bb:=hro;have h3:bb<g1.next:=h1;omega)
 have qn:ρq.next=N:=by
  have:ρq.next=g1.next:=st.rel.next;rw[this];exact hNr
 have hv2:zS ρ v' v'\/True := .inr trivial
 have hvr:zS ρ r.v v':=hv.ext (by rw[qn,I.next];exact aam _) λbb pl hb hm=>by
  rw[<- st.le.2 bb (by rw[I.next,<- qn];exact hb)];exact hm
 have hpVnew:∀bb,WM (tr.filter λx=>k8 S r.j x.j) h0 bb=WM (tr.filter λx=>S x.j) h0 bb:=λbb=>by
  simp only[WM];rw[Wu V e hnot (p:=λx=>x.tc bb) (l3 bb)]
 have hpNnew:∀bb,tC (tr.filter λx=>k8 S r.j x.j) h0.next bb=tC (tr.filter λx=>S x.j) h0.next bb:=λbb=>by
  simp only[tC];rw[Wu V e hnot (p:=λx=>x.tc bb) (l3 bb)]
 refine⟨ρ,w',qP tm r.o.dst v',⟨I.next,I.old,?_,?_,?_,?_,?_,st.os.trans I.os,st.tape.trans I.tape,st.output.trans I.output,aaS I.mN st.size,?_,?_,I.tB,I.gl⟩,sx⟩
 ·cases r.o.dst with
  |none=>exact I.size
  |some d=>simp only[qP,Array.size_setIfInBounds];exact I.size
 ·intro t;by_cases ht:r.o.dst=some t
  ·have e1:w7 (tr.filter λx=>k8 S r.j x.j) (Jy t)=some r:=K0 V hdown e hready hnot (p:=Jy t) (by simp[Jy,ht]) (λx hx=>by
    cases hw:Jy t x with
    |false=>rfl
    |true=>exact absurd ht (hx.d1 t (abv hw)).2) (λx hx=>by
    cases hw:Jy t x with
    |false=>rfl
    |true=>exact absurd (abv hw) (hx.d1 t ht).2)
   simp only[Jn,pR,e1]
   have e2:(qP tm r.o.dst v').getD t undef=v':=by
    have hlt:t<tm.size:=(by rw[<- I.size];exact D.put t ht);rw[ht];simp[qP,aaG,hlt]
   rw[e2,hNr',hcut];exact hvr
  ·have e1:w7 (tr.filter λx=>k8 S r.j x.j) (Jy t)=w7 (tr.filter λx=>S x.j) (Jy t):=Wu V e hnot (p:=Jy t) (by simp[Jy,ht])
   have e2:(qP tm r.o.dst v').getD t undef=tm.getD t undef:=by
    cases hd:r.o.dst with
    |none=>rfl
    |some d=>
     have:d≠t:=λh=>ht (by rw[hd,h]);simp[qP,aaG,this]
   have h1:=I.env t;simp only[Jn,pR]at h1 ⊢;rw[e1,e2];exact h1
 ·intro bb o hg;rw[hpVnew]at hg;rw[hpNnew];obtain⟨h1,pl,hp,hc⟩:=I.heap bb o hg;exact⟨h1,pl,hp,hc.other (hfr pl.c hc.lt)⟩
 ·intro b1 b2 o1 o2 p1 p2 g1 g2;rw[hpVnew]at g1 g2;exact I.inj b1 b2 o1 o2 p1 p2 g1 g2
 ·intro x hx hS;simp only[k8,acD,aaJ]at hS;exact I.fresh x hx hS.1
 ·intro c hc hn;rw[hfr c (aao hc I.mN)];exact I.frame c hc hn
 ·intro bb o pl hg;rw[hpVnew]at hg;exact I.A6 bb o pl hg
theorem OL(hro0:h0.ro<=h0.next)(V:WB lk P ops s0 h0 tr)(hdown:∀i j,Prec ops i j->S j=true->S i=true)(e:tr=A++r::B)(hready:∀i,Prec ops i r.j->S i=true)(hnot:S r.j=false)
  {N:Nat} (hN:∀x,x∈tr->x.g'.next<=N) (hNN:N=h0.next) {ρ0 ρ:xt} {w0 w:World} {tm:Array aaa} (I:mc P tr s0 h0 N ρ0 w0 S ρ w tm) (ds:List Deferred) (rest:List Nat) (b:Frame) (k:List Item) (cs:List Frame) :
  ∃ρ' w' tm',mc P tr s0 h0 N ρ0 w0 (k8 S r.j) ρ' w' tm'/\Steps P (lone (vx b tm ds (.inRegion ops (r.j::rest)::k)) cs w) (lone (vx b tm' ds (.inRegion ops rest::k)) cs w'):=by
 cases hlk:lk r with
 |none=>exact OK hro0 V hdown e hready hnot hN hlk I ds rest b k cs
 |some x=>obtain⟨b0,off,n⟩:=x;exact OJ hro0 V hdown e hready hnot hN hNN hlk I ds rest b k cs
end
section
variable {ops:Array Oper}{s0:Env}{h0:za}{tr:List yW}
theorem zcF(hro0:h0.ro<=h0.next)(V:WB lk P ops s0 h0 tr){N:Nat}(hN:∀x,x∈tr->x.g'.next<=N)(hNN:N=h0.next){ρ0:xt}{w0:World}(ds:List Deferred)(b:Frame)(k:List Item)(cs:List Frame) :
  ∀(fuel t:Nat) (listed:Array Bool) (ρ:xt) (w:World) (tm:Array aaa),listed.size=ops.size->((List.range ops.size).filter λi => !listed.getD i false).length<=fuel ->
   (∀i j,Prec ops i j->listed.getD j false=true->listed.getD i false=true)->mc P tr s0 h0 N ρ0 w0 (λj=>listed.getD j false) ρ w tm ->
   ∃S ρ' w' tm',(∀r,r∈tr->S r.j=true)/\mc P tr s0 h0 N ρ0 w0 S ρ' w' tm' /\
    Steps P (lone (vx b tm ds (.inRegion ops (Region.linearise.go .any ops fuel t listed [])::k)) cs w) (lone (vx b tm' ds (.inRegion ops []::k)) cs w'):=by
 intro fuel
 induction fuel with
 |zero=>
  intro t listed ρ w tm hsz hcount hdown I;refine⟨_,ρ,w,tm,?_,I,.refl P _⟩;intro r hr;have hnil:=abJ (Nat.le_zero.1 hcount);obtain⟨A,B,e⟩:=aa0 hr;have xe:=(V.told A r B e).op
  have hlt:r.j<ops.size:=by
   rcases aar r.j ops.size with h|h
   ·exact h
   ·rw[aaO h]at xe;cases xe
  cases hl:listed.getD r.j false with
  |true=>rfl
  |false=>
   have:r.j∈(List.range ops.size).filter λi => !listed.getD i false:=ach.2 ⟨abz.2 hlt,by rw[hl];rfl⟩;rw[hnil]at this;cases this
 |succ fuel ih=>
  intro t listed ρ w tm hsz hcount hdown I;simp only[Region.linearise.go]
  change ∃S ρ' w' tm',(∀r,r∈tr->S r.j=true)/\mc P tr s0 h0 N ρ0 w0 S ρ' w' tm'/\Steps P (lone (vx b tm ds (.inRegion ops (match (Region.ready .any ops listed)[t%(Region.ready .any ops listed).length]? with
   |some i=>Region.linearise.go .any ops fuel (t/(Region.ready .any ops listed).length) (listed.setIfInBounds i true) [i]
   |none=>[].reverse)::k)) cs w) _
  have getTF:∀i,i<ops.size->listed.getD i true=listed.getD i false:=by
   intro i hi;simp[aaG,aaP (hsz ▸ hi)]
  by_cases hall:∀r,r∈tr->listed.getD r.j false=true
  ·
   have hnone:Region.ready .any ops listed=[]:=by
    rw[List.eq_nil_iff_forall_not_mem];intro i hi;obtain⟨h1,h2,_⟩:=lX hi;obtain⟨r,hr,hrj⟩:=V.all i h1;have:=hall r hr;rw[hrj,<- getTF i h1,h2]at this;cases this
   rw[hnone];exact⟨_,ρ,w,tm,hall,I,.refl P _⟩
  ·
   have hex:∃i,i∈Region.ready .any ops listed:=by
    have:∃A r B,tr=A++r::B/\listed.getD r.j false=false /\ ∀x,x∈A->listed.getD x.j false=true:=by
     clear ih I hN V
     induction tr with
     |nil=>exact absurd (λr hr=>by cases hr) hall
     |cons x tr iht=>
      cases hx:listed.getD x.j false with
      |false=>exact⟨[],x,tr,rfl,hx,λy hy=>by cases hy⟩
      |true=>
       obtain⟨A,r,B,e,h1,h2⟩:=iht (λh=>hall (λr hr=>by rcases abt.1 hr with rfl|hr;exact hx;exact h r hr));exact⟨x::A,r,B,by rw[e];rfl,h1,λy hy=>by rcases abt.1 hy with rfl|hy;exact hx;exact h2 y hy⟩
    obtain⟨A,r,B,e,h1,h2⟩:=this;have xe:=(V.told A r B e).op
    have hlt:r.j<ops.size:=by
     rcases aar r.j ops.size with h|h
     ·exact h
     ·rw[aaO h]at xe;cases xe
    refine⟨r.j,Nj hlt (by rw[getTF _ hlt];exact h1) (λo ho ed hed hb=>?_)⟩;rw[xe]at ho;cases ho;obtain⟨x,hx,hxe⟩:=V.aY A r B e ed hed hb;rw[<- hxe];exact h2 x hx
   cases hi:(Region.ready .any ops listed)[t%(Region.ready .any ops listed).length]? with
   |none=>
    obtain⟨i,hmem⟩:=hex;have hpos:0<(Region.ready .any ops listed).length:=List.length_pos_of_mem hmem;rw[aae (Nat.mod_lt _ hpos)]at hi;cases hi
   |some i=>
    simp only[];rw[linearise_go_acc,List.reverse_singleton,List.singleton_append];obtain⟨hlt,hl,hed⟩:=lX (aau hi);obtain⟨r,hr,hrj⟩:=V.all i hlt;obtain⟨A,B,e⟩:=aa0 hr;subst hrj;have xe:=(V.told A r B e).op
    have hready:∀q,Prec ops q r.j->listed.getD q false=true:=by
     intro q hq;cases hq with
     |one ho he hb=>exact hed _ ho _ he hb
     |more ho he hb hp=>exact hdown _ _ hp (hed _ ho _ he hb)
    have hnot:listed.getD r.j false=false:=(by rw[<- getTF _ hlt];exact hl);obtain⟨ρ1,w1,tm1,I1,sx⟩:=OL hro0 V hdown e hready hnot hN hNN I ds (Region.linearise.go .any ops fuel (t/(Region.ready .any ops listed).length) (listed.setIfInBounds r.j true) []) b k cs
    have hadd:(λj=>(listed.setIfInBounds r.j true).getD j false)=k8 (λj=>listed.getD j false) r.j:=by
     funext j
     simp only[k8,aaG,aby];by_cases ej:r.j=j
     ·subst ej;rw[aai rfl,aai (by omega)];simp
     ·rw[aac ej];have:decide (j=r.j)=false:=decide_eq_false (λh=>ej h.symm);rw[this,Bool.or_false]
    rw[<- hadd]at I1
    have hcnt:((List.range ops.size).filter λi => !(listed.setIfInBounds r.j true).getD i false).length<=fuel:=by
     have hmem:r.j∈(List.range ops.size).filter λi => !listed.getD i false:=ach.2 ⟨abz.2 hlt,by rw[hnot];rfl⟩
     have hsub:(List.range ops.size).filter (λi => !(listed.setIfInBounds r.j true).getD i false)=((List.range ops.size).filter λi => !listed.getD i false).filter (λi=>decide (i≠r.j)):=by
      rw[acj];apply abX;intro i _;have:=congrFun hadd i;simp only[k8]at this;rw[this];by_cases ei:i=r.j <;> simp[ei]
     rw[hsub]
     have hlen:∀(l:List Nat),r.j∈l->(l.filter λi=>decide (i≠r.j)).length<l.length:=by
      intro l hl;apply List.length_filter_lt_length_iff_exists.2;exact⟨r.j,hl,by simp⟩
     have:=hlen _ hmem;omega
    have hdn:∀q j,Prec ops q j->(listed.setIfInBounds r.j true).getD j false=true->(listed.setIfInBounds r.j true).getD q false=true:=by
     intro q j hq hj;have h1:=congrFun hadd j;have h2:=congrFun hadd q;rw[h1]at hj;rw[h2];simp only[k8,abf,aaR]at hj ⊢;rcases hj with hj|rfl
     ·exact .inl (hdown q j hq hj)
     ·exact .inl (hready q hq)
    obtain⟨S,ρ2,w2,tm2,hS,I2,sx2⟩:=ih (t/(Region.ready .any ops listed).length) (listed.setIfInBounds r.j true) ρ1 w1 tm1 (by simpa using hsz) hcnt hdn I1;exact⟨S,ρ2,w2,tm2,hS,I2,sx.trans sx2⟩
theorem Er(hmix:P.follows .mixedOrders=true){id:Nat}{rd:Option Nat}{Q:Ex->Env->za->Prop}(V:WB lk P ops s0 h0 tr){sf:Env}{hf:za}(hs:∀t,sf.get t=Jn tr s0 t)(hsz:sf.size=s0.size)
  (hh:∀b,hf.get b=WM tr h0 b) (hro:hf.ro=h0.ro) (hn:h0.next<=hf.next) (hN:∀x,x∈tr->x.g'.next<=hf.next) (hNN:hf.next=h0.next) (hq:Q .normal sf hf):T P rd (.region id ops true) s0 h0 Q:=by
 intro ρ w tm ds hr hse b hb k cs
 let w1:World:={w with drawn:=w.drawn+1}
 let ρ1:xt:={next:=hf.next,m:=λbb=>if bb<h0.next then ρ.m bb else none}
 have hm1:∀bb pl,bb<ρ.next->ρ.m bb=some pl->ρ1.m bb=some pl:=λbb pl hb hm=>by
  rw[show ρ1.m bb=ρ.m bb from aai (by rw[<- hr.next];exact hb)];exact hm
 have hnil:tr.filter (λr=>(Array.replicate ops.size false).getD r.j false)=[]:=by
  rw[acL];intro r _ h;simp only[aaG,aci]at h;split at h <;> simp at h
 have I:mc P tr s0 h0 hf.next ρ w (λj=>(Array.replicate ops.size false).getD j false) ρ1 w1 tm:=by
  refine⟨rfl,λbb hb=>aai hb,hse.size,?_,?_,?_,?_,rfl,rfl,rfl,aam _,λ_ _ _=>rfl,?_,hr.tB,λbb pl hb hm=>hr.XR bb pl hb (by
   rw[show ρ1.m bb=ρ.m bb from aai (aao hb (aaS hr.tB hr.ro))]at hm;exact hm)⟩
  ·intro t;rw[hnil];exact(hse.get t).ext (ρ':=ρ1.cut h0.next) (by rw[hr.next];exact aam _) hm1
  ·intro bb o hg;rw[hnil]at hg ⊢;have hb:=hr.eU bb _ hg;obtain⟨pl,hp,hc⟩:=hr.ok bb o hg;refine⟨hb,pl,hm1 bb pl (by rw[hr.next];exact hb) hp,?_⟩;exact vX.other (vX.ext (ρ:=ρ) (ρ':=ρ1.cut h0.next) (by rw[hr.next];exact aam _) hm1 hc) rfl
  ·intro b1 b2 o1 o2 p1 p2 g1 g2 m1 m2 e;rw[hnil]at g1 g2;have l1:=hr.eU b1 o1 g1;have l2:=hr.eU b2 o2 g2;rw[show ρ1.m b1=ρ.m b1 from aai l1]at m1;rw[show ρ1.m b2=ρ.m b2 from aai l2]at m2;exact hr.inj b1 b2 o1 o2 p1 p2 g1 g2 m1 m2 e
  ·intro x hx _ bb h1 h2;obtain⟨A,B,e⟩:=aa0 hx;have:=(V.told A x B e).n0;exact aac (by omega)
  ·intro bb o pl hg hro' hm hc;rw[hnil]at hg;have l:=hr.eU bb o hg;rw[show ρ1.m bb=ρ.m bb from aai l]at hm;exact⟨bb,o,pl,hg,hro',hm,rfl⟩
 have hcount:((List.range ops.size).filter λi => !(Array.replicate ops.size false).getD i false).length<=ops.size:=by
  have:=List.length_filter_le (λi => !(Array.replicate ops.size false).getD i false) (List.range ops.size);simpa using this
 obtain⟨S,ρ2,w2,tm2,hS,I2,sx⟩:=zcF hr.ro V hN hNN ds b k cs ops.size (w.tape w.drawn (.order b.fn id)) (Array.replicate ops.size false) ρ1 w1 tm (by simp) hcount (λi j _ hj=>by
  simp only[aaG,aci]at hj;split at hj <;> simp at hj) I
 have hfull:tr.filter (λr=>S r.j)=tr:=List.filter_eq_self.2 hS;have lastn:∀(p:yW->Bool) x,w7 tr p=some x->x.g'.next<=hf.next:=λp x hx=>hN x (VN hx).1;have hcut:ρ2=ρ2.cut hf.next:=by have:=I2.next;cases ρ2;simp only at this;subst this;rfl
 have hrel:Rel P ρ2 hf w2:=by
  refine⟨I2.next,by rw[hro];exact aaS hr.ro hn,?_,?_,?_,by rw[hro];exact hr.tB,I2.gl⟩
  ·intro bb o hg;rw[hh]at hg;have:=(I2.heap bb o (by rw[hfull];exact hg)).1;rw[hfull]at this;refine aao this ?_;simp only[tC];split
   ·rename_i x hx;exact lastn _ x hx
   ·exact hn
  ·intro bb o hg;rw[hh]at hg;obtain⟨_,pl,hp,hc⟩:=I2.heap bb o (by rw[hfull];exact hg);refine⟨pl,hp,?_⟩;rw[hro];rw[hfull]at hc;rw[hcut];refine vX.iq ?_ hc;simp only[tC];split
   ·rename_i x hx;exact lastn _ x hx
   ·exact hn
  ·intro b1 b2 o1 o2 p1 p2 g1 g2;rw[hh]at g1 g2;exact I2.inj b1 b2 o1 o2 p1 p2 (by rw[hfull];exact g1) (by rw[hfull];exact g2)
 refine⟨.normal,sf,hf,ρ2,w2,tm2,ds,hq,⟨⟨by rw[I2.next,hr.next];exact hn,λbb hb=>I2.old bb (by rw[<- hr.next];exact hb)⟩,hrel,hro,I2.os,I2.tape,I2.output,I2.mN,I2.frame,?_⟩,⟨hsz.trans I2.size,λt=>?_⟩,.refl _ _ _,?_⟩
 ·rintro c hc ⟨bb,o,pl,hg,hrb,hm,rfl⟩;rw[hh]at hg;exact I2.A6 bb o pl (by rw[hfull];exact hg) (by rw[<- hro];exact hrb) hm hc
 ·have:=I2.env t;rw[hfull]at this;rw[hs t];rw[hcut];refine zS.iq ?_ this;simp only[pR];split
  ·rename_i x hx;exact lastn _ x hx
  ·exact hn
 ·refine .head KT ?_
  have:Region.schedule (P.follows .mixedOrders) ops (w.tape w.drawn (.order b.fn id))=Region.linearise .any ops (w.tape w.drawn (.order b.fn id)):=by
   simp only[Region.schedule,hmix,Bool.true_or,aad]
  rw[this];exact sx.trans (.one VI)
end
end
end
noncomputable section
variable {P:Program}
def HX:Nat->Nat
 |2=>1
 |3=>6
 |4=>2
 |_=>3
def H8(d:Nat):List Oper->Nat->Option Nat
 |[],_=>none
 |o::os,i=>(match o.op with
  | .buildSlice _ _ _=>(match o.dst with
    |some e=>cond (Nat.beq e d) (some i) (H8 d os (i+1))
    |none=>H8 d os (i+1))
  |_=>H8 d os (i+1))
def Tn(ops:Array Oper)(o:Oper):Option Nat:=match o.op with
 | .call {callee := .builtin .append,args,.. }=>(match args.toList with
   | .tmp d::_=>H8 d ops.toList 0
   |_=>none)
 |_=>none
def yM(q:FuncId->Nat)(ops:Array Oper)(o:Oper):Nat:=match o.op with
 | .call {callee := .value (.func g),.. }=>HX (q g)
 | .call {callee := .value _,.. }=>3
 | .call {callee := .builtin .append,.. }=>(match Tn ops o with|some _=>4|none=>3)
 | .call {callee := .builtin b,.. }=>cond (UH b) 1 3
 | .move _ | .assign _ | .pick _ _ _ | .build _ _ | .nilCheck _ | .binOp _ _ _ _ _ | .unOp _ _ _ | .makeInterface _ _ | .makeFunc _ _ _ | .fieldAddr _ _ _ | .field _ _ _ | .indexAddr _ _ _ | .index _ _ _ | .extract _ _=>0
 | .load _ _ | .lookup _ _ _ _ | .slice _ _ _ _ _ | .entry _=>1
 | .box _ _ | .alloc _ | .buildSlice _ _ _ | .makeSlice _ _ _ | .makeMap _ _=>5
 | .convert _ _ _ | .range _ _=>2
 |_=>3
def O7(k:Nat):Bool:=Nat.beq k 1||Nat.beq k 4||Nat.beq k 6
def Wv(k:Nat):Bool:=Nat.beq k 2||Nat.beq k 4||Nat.beq k 5||Nat.beq k 6
def zdu(x:Nat×Nat×Option Nat×Nat)(ky:Nat)(zy:Option Nat)(my:Nat):Bool :=
 Nat.beq x.2.1 0||Nat.beq ky 0 ||
 (!(Nat.beq x.2.1 3) && !(Nat.beq ky 3)&&(!(Nat.beq ky 2)||Nat.beq x.2.1 1) &&
  (!(Nat.beq x.2.1 4)||Nat.beq ky 5||(match x.2.2.1 with|some z => !(my.testBit z)&&(match zy with|some w => !(Nat.beq z w)|none=>true)|none=>false)) &&
  (!(Nat.beq ky 4)||Nat.beq x.2.1 5||(O7 x.2.1&&(match zy with|some w => !(x.2.2.2.testBit w)|none=>false))))
def Bl(q:FuncId->Nat)(ops:Array Oper):List Oper->List Nat->List (Nat×Nat×Option Nat×Nat)->Bool
 |[],_,_=>true
 |o::os,ms,prev=>(prev.all λx=>(xf ms o).testBit x.1||zdu x (yM q ops o) (Tn ops o) (xf ms o))&&(match Tn ops o with|some z=>(xf ms o).testBit z|none=>true) &&
  Bl q ops os (ms++[xf ms o]) ((ms.length,yM q ops o,Tn ops o,xf ms o)::prev)
def Gb(q:FuncId->Nat)(ops:Array Oper):Bool:=WS ops ops.toList 0 [] []&&Bl q ops ops.toList [] []
def cut(h:za)(n m:Nat):za:=h.Jq (List.range' n (m-n))
theorem SD(h:za)(n m b:Nat):(cut h n m).get b=if n<=b/\b<m then none else h.get b:=by
 unfold cut;rw[Xy];simp only[Yh]
theorem QU{h:za}{n m b:Nat}(hb:b<n):(cut h n m).get b=h.get b:=by rw[SD,aac (by omega)]
def km(m:Nat):List (Nat×Nat×Nat)->za->za
 |[],h=>h
 |x::l,h=>cond (m.testBit x.1) (km m l h) (km m l (cut h x.2.1 x.2.2))
def Nw(m:Nat)(al:List (Nat×Nat×Nat))(b:Nat):Bool:=al.all λx=>m.testBit x.1 || !(Nat.ble x.2.1 b&&Nat.blt b x.2.2)
theorem YX(m:Nat):∀(al:List (Nat×Nat×Nat)) (h:za),(km m al h).next=h.next/\(km m al h).ro=h.ro /\ ∀b,(km m al h).get b=if Nw m al b=true then h.get b else none
 |[],h=>⟨rfl,rfl,λb=>rfl⟩
 |x::l,h=>by
  unfold km;cases hb:m.testBit x.1 with
  |true=>
   obtain⟨a1,a2,a3⟩:=YX m l h;refine⟨a1,a2,λb=>?_⟩;rw[aaC,a3];unfold Nw;rw[aa6,hb,Bool.true_or,aa2]
  |false=>
   obtain⟨a1,a2,a3⟩:=YX m l (cut h x.2.1 x.2.2);refine⟨a1,a2,λb=>?_⟩;rw[aaK,a3];unfold Nw;rw[aa6,hb,acT,SD];by_cases hc:x.2.1<=b/\b<x.2.2
   ·have e:(Nat.ble x.2.1 b&&Nat.blt b x.2.2)=true:=by
     rw[aag,acp,aa7];exact hc
    rw[e,abq,aco,aai hc];split <;> simp
   ·have e:(Nat.ble x.2.1 b&&Nat.blt b x.2.2)=false:=by
     cases he:(Nat.ble x.2.1 b&&Nat.blt b x.2.2) with
     |false=>rfl
     |true=>rw[aag,acp,aa7]at he;exact absurd he hc
    rw[e,aaZ,aa2,aac hc]
def HM(z:Nat):List (Nat×Nat×Nat)->Option (Nat×Nat)
 |[]=>none
 |x::l=>cond (Nat.beq x.1 z) (some x.2) (HM z l)
theorem DI{z:Nat}:∀{al:List (Nat×Nat×Nat)} {f t:Nat},HM z al=some (f,t)->(z,f,t)∈al
 |[],_,_,h=>by cases h
 |x::l,f,t,h=>by
  unfold HM at h;cases hb:Nat.beq x.1 z with
  |true=>
   rw[hb]at h;have e:=aav hb;obtain⟨p,f',t'⟩:=x;cases h;simp only at e;subst e;simp
  |false=>
   rw[hb]at h;exact acm _ (DI h)
def zgt(P:Program)(g:FuncId)(args:List aaa)(hv h:za)(K:aaa->za->Prop):Prop :=
 xO P g=true/\yC args=true /\ ∃v h2,TC P g args hv.lock (λv1 h1=>v1=v/\h1=h2)/\AF hv.lock h2/\K v (vB h h2)
def ziu(s:aaa)(f t:Nat)(hv:za):Prop:=match s with
 | .slice (some a) _ _=>f<=a.block/\a.block<t/\hv.get a.block≠none
 |_=>True
def rN(h:za)(s:aaa)(h':za):za:=match s with
 | .slice (some a) _ _=>h.set a.block (h'.get a.block)
 |_=>h
def TX(P:Program)(ts:List TypeId)(r:TypeId)(vs:List aaa)(zr:Option (Nat×Nat))(hv h:za)(K:aaa->za->Prop):Prop:=match zr,vs with
 |some x,s::_=>ziu s x.1 x.2 hv/\zQ (nb vs (zB P .append ts r vs hv)) λv h'=>K v (vB (rN h s h') h')
 |_,_=>False
def zaG(P:Program)(q:FuncId->Nat)(ops:Array Oper)(s:Env)(o:Oper)(al:List (Nat×Nat×Nat))(hv h:za)(K:aaa->za->Prop):Prop:=match o.op with
 | .call {callee := .value (.func g),args,argTypes}=>(match q g with
   |2=>uT P g (rQ s args.toList) hv λv=>K v h
   |3=>zgt P g (rQ s args.toList) hv h K
   |4=>zfK P g (rQ s args.toList) h K
   |_=>YO P g (rQ s args.toList) h K)
 | .call {callee := .value f,args,argTypes}=>tn P (ev s f) (rQ s args.toList) h K
 | .call {callee := .builtin .append,args,argTypes}=>(match Tn ops o with
   |some z=>TX P argTypes.toList o.type (rQ s args.toList) (HM z al) hv h K
   |none=>opA P s o h K)
 |_=>sel (Nat.beq (yM q ops o) 1) (opA P s o hv λv _=>K v h) (opA P s o h K)
def NL(P:Program)(q:FuncId->Nat)(ops:Array Oper):List Oper->Nat->List Nat->List (Nat×Nat×Nat)->Env->za->(Env->za->Prop)->Prop
 |[],_,_,_,s,h,K=>K s h
 |o::os,i,ms,al,s,h,K=>(match o.guard with
  |none=>zaG P q ops s o al (km (xf ms o) al h) h λv h1=>(match s.put o.dst v with
   |some s1=>NL P q ops os (i+1) (ms++[xf ms o]) (cond (Wv (yM q ops o)) (al++[(i,h.next,h1.next)]) al) s1 h1 K
   |none=>False)
  |some (j,want)=>(match (ops[j]?).bind (·.dst) with
   |none=>False
   |some d=>GD (s.get d) want (zaG P q ops s o al (km (xf ms o) al h) h) (λv h1=>(match s.put o.dst v with
    |some s1=>NL P q ops os (i+1) (ms++[xf ms o]) (cond (Wv (yM q ops o)) (al++[(i,h.next,h1.next)]) al) s1 h1 K
    |none=>False)) h))
def Gf(P:Program)(q:FuncId->Nat)(ops:Array Oper)(s:Env)(h:za)(K:Env->za->Prop):Prop:=sel (Gb q ops) (NL P q ops ops.toList 0 [] [] s h K) False
end
noncomputable section
variable {P:Program}
structure RV (q:FuncId->Nat) (ops:Array Oper) (A:List yW) (m:Nat) (x:yW):Prop where
 rd:∀b,x.rd b=true->b<x.g.next
 k0:yM q ops x.o=0\/yM q ops x.o=5->∀b,x.rd b=false
 k1:yM q ops x.o<=1->∀b,x.tc b=false
 lk:O7 (yM q ops x.o)=true->∀b,x.rd b=true->∀z,z∈A->Wv (yM q ops z.o)=true->m.testBit z.j=false->¬(z.g.next<=b/\b<z.g'.next)
 tc:yM q ops x.o≠3->∀b,x.tc b=true->(x.g.next<=b/\b<x.g'.next)\/(yM q ops x.o=4 /\ ∃z,z∈A/\Wv (yM q ops z.o)=true/\Tn ops x.o=some z.j/\z.g.next<=b/\b<z.g'.next)
structure mj (P:Program) (q:FuncId->Nat) (ops:Array Oper) (s0:Env) (h0:za) (A:List yW) (i:Nat) (o:Oper) (s:Env) (h:za) (u:aaa) (h1:za) (m:Nat) (y:yW):Prop where
 hj:y.j=i
 xe:y.o=o
 hsl:y.s=s
 zc1:y.v=u
 gn:y.g.next=h.next
 told:Told P ops s0 h0 A y
 rv:RV q ops A m y
 heap:∀b,h1.get b=if y.tc b=true then y.g'.get b else h.get b
 ro:h1.ro=h.ro
 next:h.next<=h1.next
 zc0:y.g'.next<=h1.next
 geq:Wv (yM q ops o)=true->y.g'.next=h1.next
 wf:WF h1
def VB(q:FuncId->Nat)(ops:Array Oper):List yW->List (Nat×Nat×Nat)
 |[]=>[]
 |x::l=>cond (Wv (yM q ops x.o)) ((x.j,x.g.next,x.g'.next)::VB q ops l) (VB q ops l)
theorem zbR(q:FuncId->Nat)(ops:Array Oper)(A:List yW)(y:yW):VB q ops (A++[y])=cond (Wv (yM q ops y.o)) (VB q ops A++[(y.j,y.g.next,y.g'.next)]) (VB q ops A):=by
 induction A with
 |nil=>simp only[abT,VB]
 |cons x A ih=>
  simp only[abK,VB,ih];cases Wv (yM q ops x.o) <;> cases Wv (yM q ops y.o) <;> rfl
theorem zeV{q:FuncId->Nat}{ops:Array Oper}{A:List yW}{z:Nat×Nat×Nat}(h:z∈VB q ops A):∃x,x∈A/\Wv (yM q ops x.o)=true/\z=(x.j,x.g.next,x.g'.next):=by
 induction A with
 |nil=>cases h
 |cons x A ih=>
  simp only[VB]at h;cases hb:Wv (yM q ops x.o) with
  |true=>
   rw[hb]at h;rcases abt.1 h with e|h
   ·exact⟨x,by simp,hb,e⟩
   ·obtain⟨x',h1,h2⟩:=ih h;exact⟨x',by simp[h1],h2⟩
  |false=>rw[hb]at h;obtain⟨x',h1,h2⟩:=ih h;exact⟨x',by simp[h1],h2⟩
theorem zek{q:FuncId->Nat}{ops:Array Oper}{A:List yW}{x:yW}(h:x∈A)(hl:Wv (yM q ops x.o)=true):(x.j,x.g.next,x.g'.next)∈VB q ops A:=by
 induction A with
 |nil=>cases h
 |cons z A ih=>
  simp only[VB];rcases abt.1 h with rfl|h
  ·rw[hl];simp
  ·cases Wv (yM q ops z.o) with
   |true=>simp[ih h]
   |false=>exact ih h
section
variable {q:FuncId->Nat}{ops:Array Oper}{s0:Env}{h0:za}{A:List yW}{i:Nat}{o:Oper}{s:Env}{h:za}
theorem od{h:za}(w:WF h){b:Nat}(hb:¬b<h.next):h.get b=none:=by
 cases hh:h.get b with|none=>rfl|some o'=>exact absurd (w b o' hh) hb
def AY(m:Nat)(al:List (Nat×Nat×Nat))(h:za)(b:Nat):Bool:=Nat.blt b h.next&&Nw m al b
theorem HD{m:Nat}{al:List (Nat×Nat×Nat)}{b:Nat}(hb:AY m al h b=true):b<h.next:=by
 unfold AY at hb;rw[aag,aa7]at hb;exact hb.1
theorem Dg{m:Nat}{b:Nat}(hb:AY m (VB q ops A) h b=true){z:yW}(hz:z∈A)(hl:Wv (yM q ops z.o)=true)(hm:m.testBit z.j=false):¬(z.g.next<=b/\b<z.g'.next):=by
 unfold AY Nw at hb;rw[aag,aaD]at hb;have:=hb.2 _ (zek hz hl);simp only[hm,acT,aaA]at this;intro e;have t:(Nat.ble z.g.next b&&Nat.blt b z.g'.next)=true:=by rw[aag,acp,aa7];exact e
 rw[t]at this;cases this
theorem Aa{m:Nat}(F:qm P ops s0 h0 A i s h)(b:Nat):(km m (VB q ops A) h).get b=if AY m (VB q ops A) h b=true then WM A h0 b else none:=by
 rw[(YX m (VB q ops A) h).2.2 b];unfold AY;by_cases hb:b<h.next
 ·rw[show Nat.blt b h.next=true by rw[aa7];exact hb,aa2,F.heap]
 ·have e:Nat.blt b h.next=false:=by
   cases e:Nat.blt b h.next with
   |false=>rfl
   |true=>rw[aa7]at e;exact absurd e hb
  rw[e,aco,od F.wf hb];simp
theorem nO(F:qm P ops s0 h0 A i s h)(ho:ops[i]? = some o)(hput:∀d,o.dst=some d->d<s.size){u:aaa}(hs:Yn P ops s o (h.pick []) u (h.pick []))(m:Nat):∃y,mj P q ops s0 h0 A i o s h u h m y:=by
 refine⟨⟨i,o,u,s,h.pick [],h.pick [],λ_=>false,λ_=>false⟩,rfl,rfl,rfl,rfl,rfl,
  ⟨ho,F.env,F.size,λb=>by rw[qB];simp,F.ro,F.next,F.nA,aam _,hs,λd hd=>by rw[<- F.size];exact hput d hd,λb hb=>(by cases hb),λb _=>rfl,λb o' hb=>(by cases hb)⟩,
  ⟨λb hb=>(by cases hb),λ_ _=>rfl,λ_ _=>rfl,λ_ b hb=>(by cases hb),λ_ b hb=>(by cases hb)⟩,λb=>by simp,rfl,aam _,aam _,λ_=>rfl,F.wf⟩
theorem zaD(F:qm P ops s0 h0 A i s h)(ho:ops[i]? = some o)(hput:∀d,o.dst=some d->d<s.size)(hk:yM q ops o=5){u:aaa}{ob:wA}(hs:Yn P ops s o (h.pick []) u ((h.pick []).push ob))(m:Nat):∃y,mj P q ops s0 h0 A i o s h u (h.push ob) m y:=by
 have hp:(h.pick []).next=h.next:=rfl;have htc:∀b,(decide (b=h.next)=true) ↔ b=h.next:=λb=>by simp
 refine⟨⟨i,o,u,s,h.pick [],(h.pick []).push ob,λ_=>false,λb=>decide (b=h.next)⟩,rfl,rfl,rfl,rfl,rfl,
  ⟨ho,F.env,F.size,λb=>by rw[qB];simp,F.ro,F.next,F.nA,abr _,hs,λd hd=>by rw[<- F.size];exact hput d hd,λb hb=>?_,λb hb=>?_,λb o' hb hlt=>?_⟩,
  ⟨λb hb=>(by cases hb),λ_ _=>rfl,λh=>?_,λ_ b hb=>(by cases hb),λ_ b hb=>?_⟩,λb=>?_,rfl,abr _,aam _,λ_=>rfl,λb o' hb=>?_⟩
 ·refine .inr ?_;have:=(htc b).1 hb;show h.next<=b/\b<h.next+1;omega
 ·have hb:decide (b=h.next)=false:=hb;have hne:b≠h.next:=λe=>by rw[(htc b).2 e]at hb;cases hb
  rw[za.vA,aac (by rw[hp];exact hne)]
 ·have e1:=(htc b).1 hb;have e2:b<h.next:=hlt;omega
 ·simp only at h;omega
 ·have:=(htc b).1 hb;refine .inl ?_;show h.next<=b/\b<h.next+1;omega
 ·show(h.push ob).get b=if decide (b=h.next)=true then ((h.pick []).push ob).get b else h.get b;rw[za.vA,za.vA,hp];by_cases e:b=h.next
  ·rw[aai e,aai ((htc b).2 e),aai e]
  ·rw[aac e,aac (λt=>e ((htc b).1 t))]
 ·rw[za.vA]at hb;rw[za.lV];split at hb
  ·rename_i e;omega
  ·exact acE (F.wf b o' hb)
theorem DK(F:qm P ops s0 h0 A i s h)(ho:ops[i]? = some o)(hput:∀d,o.dst=some d->d<s.size)(hk:yM q ops o=1){m:Nat}{u:aaa}(hs:Yn P ops s o (km m (VB q ops A) h) u (km m (VB q ops A) h)):∃y,mj P q ops s0 h0 A i o s h u h m y:=by
 obtain⟨v1,v2,v3⟩:=YX m (VB q ops A) h
 refine⟨⟨i,o,u,s,km m (VB q ops A) h,km m (VB q ops A) h,AY m (VB q ops A) h,λ_=>false⟩,rfl,rfl,rfl,rfl,v1,
  ⟨ho,F.env,F.size,Aa F,v2.trans F.ro,by rw[v1];exact F.next,λx hx=>by rw[v1];exact F.nA x hx,aam _,hs,λd hd=>by rw[<- F.size];exact hput d hd,λb hb=>(by cases hb),λb _=>rfl,λb o' hb=>(by cases hb)⟩,
  ⟨λb hb=>by show b<(km m (VB q ops A) h).next;rw[v1];exact HD hb,λe=>by simp only at e;omega,λ_ _=>rfl,λ_ b hb z hz hl hm=>Dg hb hz hl hm,λ_ b hb=>(by cases hb)⟩,λb=>by simp,rfl,aam _,by rw[v1];exact aam _,λe=>(by rw[hk]at e;cases e),F.wf⟩
theorem Pb(F:qm P ops s0 h0 A i s h)(ho:ops[i]? = some o)(hput:∀d,o.dst=some d->d<s.size)(hk:yM q ops o=6){m:Nat}{h2:za}(hn:h.next<=h2.next){u:aaa}(hs:Yn P ops s o (km m (VB q ops A) h) u (vB (km m (VB q ops A) h) h2)):∃y,mj P q ops s0 h0 A i o s h u (vB h h2) m y:=by
 obtain⟨v1,v2,v3⟩:=YX m (VB q ops A) h;have htc:∀b,(decide (h.next<=b/\b<h2.next)=true) ↔ (h.next<=b/\b<h2.next):=λb=>by simp
 refine⟨⟨i,o,u,s,km m (VB q ops A) h,vB (km m (VB q ops A) h) h2,AY m (VB q ops A) h,λb=>decide (h.next<=b/\b<h2.next)⟩,rfl,rfl,rfl,rfl,v1,
  ⟨ho,F.env,F.size,Aa F,v2.trans F.ro,by rw[v1];exact F.next,λx hx=>by rw[v1];exact F.nA x hx,by show(km m (VB q ops A) h).next<=h2.next;rw[v1];exact hn,hs,λd hd=>by rw[<- F.size];exact hput d hd,λb hb=>?_,λb hb=>?_,λb o' hb hlt=>?_⟩,
  ⟨λb hb=>by show b<(km m (VB q ops A) h).next;rw[v1];exact HD hb,λe=>by simp only at e;omega,λe=>by simp only at e;omega,λ_ b hb z hz hl hm=>Dg hb hz hl hm,λ_ b hb=>?_⟩,λb=>?_,rfl,hn,aam _,λ_=>rfl,λb o' hb=>?_⟩
 ·refine .inr ?_;have:=(htc b).1 hb;show(km m (VB q ops A) h).next<=b/\b<h2.next;rw[v1];exact this
 ·have hb:decide (h.next<=b/\b<h2.next)=false:=hb;rw[uy,v1,aac (λe=>by rw[(htc b).2 e]at hb;cases hb)]
 ·have:=(htc b).1 hb;have hlt:b<(km m (VB q ops A) h).next:=hlt;rw[v1]at hlt;omega
 ·refine .inl ?_;show(km m (VB q ops A) h).next<=b/\b<h2.next;rw[v1];exact(htc b).1 hb
 ·show(vB h h2).get b=if decide (h.next<=b/\b<h2.next)=true then (vB (km m (VB q ops A) h) h2).get b else h.get b;rw[uy,uy,v1];by_cases e:h.next<=b/\b<h2.next
  ·rw[aai e,aai ((htc b).2 e),aai e]
  ·rw[aac e,aac (λt=>e ((htc b).1 t))]
 ·show b<h2.next;rw[uy]at hb;split at hb
  ·rename_i e;exact e.2
  ·exact aao (F.wf b o' hb) hn
theorem AM(F:qm P ops s0 h0 A i s h)(ho:ops[i]? = some o)(hput:∀d,o.dst=some d->d<s.size)(hk:yM q ops o=2){h1:za}(hn:h.next<=h1.next)(hro:h1.ro=h.ro)(hold:∀b,¬(h.next<=b/\b<h1.next)->h1.get b=h.get b)
  {u:aaa} (hs:Yn P ops s o h u h1) (m:Nat):∃y,mj P q ops s0 h0 A i o s h u h1 m y:=by
 have hrd:∀b,(Nat.blt b h.next=true) ↔ b<h.next:=λb=>by rw[aa7]
 have htc:∀b,(decide (h.next<=b/\b<h1.next)=true) ↔ (h.next<=b/\b<h1.next):=λb=>by simp
 refine⟨⟨i,o,u,s,h,h1,λb=>Nat.blt b h.next,λb=>decide (h.next<=b/\b<h1.next)⟩,rfl,rfl,rfl,rfl,rfl,
  ⟨ho,F.env,F.size,λb=>?_,F.ro,F.next,F.nA,hn,hs,λd hd=>by rw[<- F.size];exact hput d hd,λb hb => .inr ((htc b).1 hb),λb hb=>?_,λb o' hb hlt=>?_⟩,
  ⟨λb hb=>(hrd b).1 hb,λh=>by simp only at h;omega,λh=>by simp only at h;omega,λh=>(by simp only[hk]at h;cases h),λ_ b hb => .inl ((htc b).1 hb)⟩,λb=>?_,hro,hn,aam _,λ_=>rfl,λb o' hb=>?_⟩
 ·show h.get b=if Nat.blt b h.next=true then WM A h0 b else none;by_cases hb:b<h.next
  ·rw[aai ((hrd b).2 hb),F.heap]
  ·rw[aac (λe=>hb ((hrd b).1 e)),od F.wf hb]
 ·refine hold b (λe=>?_);have:=(htc b).2 e;rw[show decide (h.next<=b/\b<h1.next)=false from hb]at this;cases this
 ·have:=((htc b).1 hb).1;have hlt:b<h.next:=hlt;omega
 ·show h1.get b=if decide (h.next<=b/\b<h1.next)=true then h1.get b else h.get b;by_cases hb:h.next<=b/\b<h1.next
  ·rw[aai ((htc b).2 hb)]
  ·rw[aac (λe=>hb ((htc b).1 e)),hold b hb]
 ·by_cases hc:h.next<=b/\b<h1.next
  ·exact hc.2
  ·rw[hold b hc]at hb;exact aao (F.wf b o' hb) hn
theorem K7(F:qm P ops s0 h0 A i s h)(ho:ops[i]? = some o)(hput:∀d,o.dst=some d->d<s.size)(hk:yM q ops o=3){h1:za}(af:AF h h1)
  {u:aaa} (hs:Yn P ops s o h u h1) (m:Nat):∃y,mj P q ops s0 h0 A i o s h u h1 m y:=by
 have hrd:∀n b,(Nat.blt b n=true) ↔ b<n:=λn b=>by rw[aa7]
 have hn:h.next<=h1.next:=af.next;have hwf:WF h1:=F.wf.af af
 refine⟨⟨i,o,u,s,h,h1,λb=>Nat.blt b h.next,λb=>Nat.blt b h1.next⟩,rfl,rfl,rfl,rfl,rfl,
  ⟨ho,F.env,F.size,λb=>?_,F.ro,F.next,F.nA,hn,hs,λd hd=>by rw[<- F.size];exact hput d hd,λb hb=>?_,λb hb=>?_,λb o' hb hlt hg=>?_⟩,
  ⟨λb hb=>(hrd _ b).1 hb,λh=>by simp only at h;omega,λh=>by simp only at h;omega,λh=>(by simp only[hk]at h;cases h),λh=>by exact absurd hk h⟩,λb=>?_,af.ro,hn,aam _,λ_=>rfl,hwf⟩
 ·show h.get b=if Nat.blt b h.next=true then WM A h0 b else none;by_cases hb:b<h.next
  ·rw[aai ((hrd _ b).2 hb),F.heap]
  ·rw[aac (λe=>hb ((hrd _ b).1 e)),od F.wf hb]
 ·have hb:=(hrd _ b).1 hb;by_cases hlt:b<h.next
  ·exact .inl ((hrd _ b).2 hlt)
  ·exact .inr ⟨acG hlt,hb⟩
 ·have hb':¬b<h1.next:=λe=>by
   have:=(hrd h1.next b).2 e;rw[show Nat.blt b h1.next=false from hb]at this;cases this
  show h1.get b=h.get b;rw[od hwf hb',od F.wf (by omega)]
 ·rcases af.alive b o' hg with h2|⟨h2,_⟩
  ·exact h2
  ·have hlt:b<h.next:=hlt;omega
 ·show h1.get b=if Nat.blt b h1.next=true then h1.get b else h.get b;by_cases hb:b<h1.next
  ·rw[aai ((hrd _ b).2 hb)]
  ·rw[aac (λe=>hb ((hrd _ b).1 e)),od hwf hb,od F.wf (by omega)]
structure PL (g:za) (v:aaa) (g':za):Prop where
 next:g.next<=g'.next
 ro:g'.ro=g.ro
 same:∀b,¬(g.next<=b/\b<g'.next)->(∀a n c,v=.slice (some a) n c->b≠a.block)->g'.get b=g.get b
 gone:∀b o,b<g.next->g'.get b=some o->g.get b≠none
 wf:WF g->WF g'
theorem CY{g:za}{v:aaa}:PL g v g:=⟨aam _,rfl,λ_ _ _=>rfl,λb o _ h=>by rw[h];simp,id⟩
theorem zgd{elem:TypeId}{ti:TypeInfo}{n:Nat}{new:List aaa}{s u:aaa}{g g':za}(he:aP g elem ti n new s=some (u,g')):PL g s g':=by
 unfold aP at he;split at he
 ·cases h0:Nat.beq n 0 with
  |true=>rw[h0]at he;simp only[aaC,aab,aaj]at he;obtain⟨_,rfl⟩:=he;exact CY
  |false=>
   rw[h0]at he;obtain⟨_,he⟩:=zE he;simp only[aab,aaj]at he;obtain⟨_,rfl⟩:=he;refine⟨abr _,rfl,λb hb _=>?_,λb o hb hg=>?_,λw b o hb=>?_⟩
   ·rw[za.vA,aac (λe=>hb ⟨by omega,by rw[za.lV];omega⟩)]
   ·rw[za.vA,aac (by omega)]at hg;rw[hg];simp
   ·rw[za.vA]at hb;rw[za.lV];split at hb
    ·omega
    ·exact acE (w b o hb)
 ·rename_i b0 off len c;cases h0:Nat.beq n 0 with
  |true=>rw[h0]at he;simp only[aaC,aab,aaj]at he;obtain⟨_,rfl⟩:=he;exact CY
  |false=>
   rw[h0]at he;simp only[aaK]at he;split at he
   ·rename_i cs t hg0;obtain⟨_,he⟩:=zE he;simp only[aab,aaj]at he;obtain⟨_,rfl⟩:=he
    have key:∀b o,((g.set b0 none).push o).get b=if b=g.next then some o else if b=b0 then none else g.get b:=λb o=>by
     rw[za.vA,za.yI];rfl
    refine⟨abr _,rfl,λb hb hne=>?_,λb o hb hg=>?_,λw b o hb=>?_⟩
    ·rw[key,aac (λe=>hb ⟨by omega,by show b<g.next+1;omega⟩),aac (hne _ _ _ rfl)]
    ·rw[key,aac (by omega)]at hg;split at hg
     ·cases hg
     ·rw[hg];simp
    ·rw[key]at hb;show b<g.next+1;split at hb
     ·omega
     ·split at hb
      ·cases hb
      ·exact acE (w b o hb)
   ·cases he
 ·cases he
theorem zb0{ts:List TypeId}{r:TypeId}{s u:aaa}{vs':List aaa}{g g':za}(he:zB P .append ts r (s::vs') g=some (u,g')):PL g s g':=by
 match ts,vs',he with
 |[sT,xT],[x],he=>
  have he:KN P sT xT s x g=some (u,g'):=he;unfold KN at he;split at he
  ·split at he
   ·split at he
    ·obtain⟨_,he⟩:=zE he;exact zgd he
    ·cases he
   ·cases he
  ·cases he
 |[],_,he=>cases he
 |[_],_,he=>cases he
 |_::_::_::_,_,he=>cases he
 |[_,_],[],he=>cases he
 |[_,_],_::_::_,he=>cases he
end
end
noncomputable section
variable {P:Program}
section
variable {q:FuncId->Nat}{ops:Array Oper}{s0:Env}{h0:za}{A:List yW}{i:Nat}{o:Oper}{s:Env}{h:za}
theorem MO(h:za)(v:aaa)(h':za)(b:Nat):(rN h v h').get b=h.get b\/((∃a n c,v=.slice (some a) n c/\b=a.block)/\(rN h v h').get b=h'.get b):=by
 unfold rN;split
 ·rename_i a n c;rw[za.yI];by_cases e:b=a.block
  ·rw[aai e];exact .inr ⟨⟨a,n,c,rfl,e⟩,by rw[e]⟩
  ·rw[aac e];exact .inl rfl
 ·exact .inl rfl
theorem tK(h:za)(v:aaa)(h':za):(rN h v h').next=h.next:=by unfold rN;split <;> rfl
theorem S7(h:za)(v:aaa)(h':za):(rN h v h').ro=h.ro:=by unfold rN;split <;> rfl
def F9(v:aaa)(b:Nat):Bool:=match v with
 | .slice (some a) _ _=>Nat.beq a.block b
 |_=>false
theorem T8{v:aaa}{b:Nat}:F9 v b=true ↔ ∃a n c,v=.slice (some a) n c/\b=a.block:=by
 unfold F9;split
 ·rename_i a n c;rw[acS]
  constructor
  ·intro e;exact⟨a,n,c,rfl,e.symm⟩
  ·rintro⟨a',n',c',e1,e2⟩;cases e1;exact e2.symm
 ·rename_i hn
  constructor
  ·intro e;cases e
  ·rintro⟨a',n',c',e1,e2⟩;exact absurd e1 (hn a' n' c')
theorem zaC(F:qm P ops s0 h0 A i s h)(ho:ops[i]? = some o)(hput:∀d,o.dst=some d->d<s.size)(hk:yM q ops o=4){m:Nat}{v u:aaa}{g':za}{z:yW}(hz:z∈A)(hzl:Wv (yM q ops z.o)=true)(hzo:Tn ops o=some z.j)
  (hown:ziu v z.g.next z.g'.next (km m (VB q ops A) h)) (fx:PL (km m (VB q ops A) h) v g') (hs:Yn P ops s o (km m (VB q ops A) h) u g'):∃y,mj P q ops s0 h0 A i o s h u (vB (rN h v g') g') m y:=by
 obtain⟨v1,v2,v3⟩:=YX m (VB q ops A) h;generalize hG:km m (VB q ops A) h=g at *
 have hn:h.next<=g'.next:=by rw[<- v1];exact fx.next
 have hzn:z.g'.next<=h.next:=F.nA z hz;have hsee:∀b,g.get b=if AY m (VB q ops A) h b=true then WM A h0 b else none:=λb=>by rw[<- hG];exact Aa F b
 have htc:∀b,((decide (h.next<=b/\b<g'.next)||F9 v b)=true) ↔ ((h.next<=b/\b<g'.next) \/ ∃a n c,v=.slice (some a) n c/\b=a.block):=λb=>by rw[abf,aaR,T8]
 have hblk:∀b,(∃a n c,v=.slice (some a) n c/\b=a.block)->z.g.next<=b/\b<z.g'.next/\g.get b≠none:=by
  rintro b ⟨a,n,c,rfl,rfl⟩;exact hown
 refine⟨⟨i,o,u,s,g,g',AY m (VB q ops A) h,λb=>decide (h.next<=b/\b<g'.next)||F9 v b⟩,rfl,rfl,rfl,rfl,v1,
  ⟨ho,F.env,F.size,hsee,v2.trans F.ro,by rw[v1];exact F.next,λx hx=>by rw[v1];exact F.nA x hx,fx.next,hs,λd hd=>by rw[<- F.size];exact hput d hd,λb hb=>?_,λb hb=>?_,λb o' hb hlt hg=>fx.gone b o' hlt hg⟩,
  ⟨λb hb=>by show b<g.next;rw[v1];exact HD hb,λe=>by simp only at e;omega,λe=>by simp only at e;omega,λ_ b hb z hz hl hm=>Dg hb hz hl hm,λ_ b hb=>?_⟩,λb=>?_,?_,hn,aam _,λ_=>rfl,λb o' hb=>?_⟩
 ·rcases (htc b).1 hb with e|e
  ·exact .inr (by show g.next<=b/\b<g'.next;rw[v1];exact e)
  ·refine .inl ?_;show AY m (VB q ops A) h b=true;cases he:AY m (VB q ops A) h b with
   |true=>rfl
   |false=>exact absurd (by rw[hsee,he];rfl) (hblk b e).2.2
 ·have hb:(decide (h.next<=b/\b<g'.next)||F9 v b)=false:=hb;refine fx.same b (λe=>?_) (λa n c e1 e2=>?_)
  ·rw[(htc b).2 (.inl (by rw[<- v1];exact e))]at hb;cases hb
  ·rw[(htc b).2 (.inr ⟨a,n,c,e1,e2⟩)]at hb;cases hb
 ·rcases (htc b).1 hb with e|e
  ·exact .inl (by show g.next<=b/\b<g'.next;rw[v1];exact e)
  ·exact .inr ⟨hk,z,hz,hzl,hzo,(hblk b e).1,(hblk b e).2.1⟩
 ·show(vB (rN h v g') g').get b=if (decide (h.next<=b/\b<g'.next)||F9 v b)=true then g'.get b else h.get b;rw[uy,tK];by_cases e:h.next<=b/\b<g'.next
  ·rw[aai e,aai ((htc b).2 (.inl e))]
  ·rw[aac e];by_cases e2:∃a n c,v=.slice (some a) n c/\b=a.block
   ·rw[aai ((htc b).2 (.inr e2))];obtain⟨a,n,c,rfl,rfl⟩:=e2;unfold rN;rw[za.yI,aai rfl]
   ·rw[aac (λt=>by rcases (htc b).1 t with t|t;exact e t;exact e2 t)];rcases MO h v g' b with t|⟨t,_⟩
    ·exact t
    ·exact absurd t e2
 ·show(rN h v g').ro=h.ro;exact S7 h v g'
 ·show b<g'.next;rw[uy,tK]at hb;split at hb
  ·rename_i e;exact e.2
  ·rcases MO h v g' b with t|⟨t,_⟩
   ·rw[t]at hb;exact aao (F.wf b o' hb) hn
   ·have:=hblk b t;omega
theorem zeT{u:aaa}{h':za}(hk:yM q ops o=5)(he:mB P s o h=some (u,h')):∃ob,h'=h.push ob/\mB P s o (h.pick [])=some (u,(h.pick []).push ob):=by
 unfold yM at hk;unfold mB at he ⊢
 split at he <;> rename_i xe <;> simp only[xe]at hk ⊢ <;> first
  |(cases hk;done)
  |(cases he;done)
  |skip
 ·split at he
  ·simp only[aab,ER,aaj]at he;obtain⟨rfl,rfl⟩:=he;exact⟨_,rfl,rfl⟩
  ·cases he
 ·split at he
  ·simp only[aab,ER,aaj]at he;obtain⟨rfl,rfl⟩:=he;exact⟨_,rfl,rfl⟩
  ·cases he
 ·split at he
  ·unfold zH at he ⊢;split at he
   ·split at he
    ·obtain⟨hc,he⟩:=zE he;rw[hc];simp only[aaC];split at he
     ·obtain⟨hc2,he⟩:=zE he;rw[hc2];simp only[aaC,aab,aaj]at he ⊢;obtain⟨rfl,rfl⟩:=he;exact⟨_,rfl,rfl,rfl⟩
     ·cases he
    ·cases he
   ·cases he
  ·cases he
 ·split at he
  ·unfold Wo at he ⊢;split at he
   ·split at he
    ·cases he
    ·split at he
     ·cases he
     ·obtain⟨hc,he⟩:=zE he;rw[hc];simp only[aaC,aab,aaj]at he ⊢;obtain⟨rfl,rfl⟩:=he;exact⟨_,rfl,rfl,rfl⟩
   ·cases he
  ·cases he
 ·exfalso
  split at hk <;> rename_i heq <;> first
   |(cases heq;done)
   |skip
  ·split at hk <;> cases hk
  ·rename_i b _ _ _;cases hq:UH b <;> rw[hq]at hk <;> cases hk
  all_goals (cases hk;done)
 all_goals (cases he;exact⟨_,rfl,rfl⟩)
end
end
noncomputable section
variable {P:Program}
section
variable {q:FuncId->Nat}{ops:Array Oper}{s0:Env}{h0:za}{A:List yW}{i:Nat}{o:Oper}{s:Env}{h:za}
theorem HZ{k:Nat}(hc:KX o.op=false)(hk:yM q ops o=k)(h5:k<=2):wL q o=k:=by
 unfold yM at hk;unfold wL;unfold KX at hc
 split at hk <;> rename_i xe <;> simp only[xe]at hc ⊢ <;> first
  |(cases hc;done)
  |exact hk
  |(subst hk;omega)
  |(split at hk <;> (subst hk;omega))
  |skip
theorem zb3(F:qm P ops s0 h0 A i s h){v:aaa}{h1:za}{y:yW}{u:aaa}{m:Nat}(N:mj P q ops s0 h0 A i o s h u h1 m y):AF h h1 :=
 ⟨N.next,N.ro,λb o hb=>by
  rw[N.heap]at hb;by_cases ht:y.tc b=true
  ·rw[aai ht]at hb;by_cases hl:b<y.g.next
   ·have h2:=N.told.tc3 b o ht hl hb;have h3:=N.told.heap b;rw[h3]at h2;by_cases hr:y.rd b=true
    ·rw[aai hr,<- F.heap]at h2;exact .inl h2
    ·rw[aac hr]at h2;exact absurd rfl h2
   ·have hb1:h1.get b=some o:=(by rw[N.heap,aai ht];exact hb);exact .inr ⟨by rw[<- N.gn];omega,N.wf b o hb1⟩
  ·rw[aac ht]at hb;exact .inl (by rw[hb];simp)⟩
theorem Gy(F:qm P ops s0 h0 A i s h)(hron:h.ro<=h.next)(ho:ops[i]? = some o)(hput:∀d,o.dst=some d->d<s.size)(hw:yP ops s o=true){r:Env}(hl:Le r s){m:Nat}
  {K:aaa->za->Prop} (hk:zaG P q ops r o (VB q ops A) (km m (VB q ops A) h) h K):∃v u h1 y,(zV v=true\/v=u)/\K v h1/\mj P q ops s0 h0 A i o s h u h1 m y:=by
 obtain⟨w1,w2,w3⟩:=YX m (VB q ops A) h;unfold zaG at hk;split at hk
 ·rename_i g args ts xe;have ef:j6 s (.func g)=some (.func (.func g) #[] #[]):=rfl;have hkind:yM q ops o=HX (q g):=by unfold yM;simp only[xe]
  split at hk
  ·rename_i hq;obtain⟨hc,hn,v,hsc,hT,hK⟩:=hk
   have hT2:TC P g (rQ r args.toList) (km m (VB q ops A) h) (λv1 h1=>v1=v/\h1=km m (VB q ops A) h) :=
    (hT.quiet (λv1 _ e=>by rw[e];exact hsc)).mono (by rintro v1 h1 ⟨⟨_,e1⟩,e2⟩;exact⟨e1,e2⟩)
   obtain⟨y,hy⟩:=DK (q:=q) F ho hput (by rw[hkind,hq];rfl) (u:=v) (.inr ⟨hw,.inr (.inl ⟨.func g,args,ts,g,#[],#[],_,xe,ef,eZ hl hn,hc,by simpa using hT2⟩)⟩);exact⟨v,v,h,y,.inr rfl,hK,hy⟩
  ·rename_i hq;obtain⟨hc,hn,v,h2,hT,af,hK⟩:=hk;have hnx:h.next<=h2.next:=by have:=af.next;rw[<- w1];exact this
   obtain⟨y,hy⟩:=Pb (q:=q) F ho hput (by rw[hkind,hq];rfl) (m:=m) hnx (u:=v)
    (.inr ⟨hw,.inr (.inl ⟨.func g,args,ts,g,#[],#[],_,xe,ef,eZ hl hn,hc,by simpa using hT.fresh⟩)⟩)
   exact⟨v,v,_,y,.inr rfl,hK,hy⟩
  ·rename_i hq;obtain⟨hn,hk⟩:=hk;obtain⟨v,h2,he,hK⟩:=Xe hk;obtain⟨f1,f2,f3⟩:=K9 (VA he);obtain⟨y,hy⟩:=AM (q:=q) F ho hput (by rw[hkind,hq];rfl) f1 f2 f3 (u:=v) (.inr ⟨hw,.inr (.inr ⟨.func g,args,ts,g,#[],#[],_,xe,ef,eZ hl hn,by simpa using he⟩)⟩) m;exact⟨v,v,_,y,.inr rfl,hK,hy⟩
  ·rename_i n2 n3 n4;obtain⟨hc,hn,hd⟩:=hk;obtain⟨v,h2,hK,af,hT⟩:=hd ⟨F.wf,hron⟩
   obtain⟨y,hy⟩:=K7 (q:=q) F ho hput (by rw[hkind];unfold HX;split <;> first|rfl|(exfalso;simp_all)) af (u:=v)
    (.inr ⟨hw,.inr (.inl ⟨.func g,args,ts,g,#[],#[],_,xe,ef,eZ hl hn,hc,by simpa using hT⟩)⟩) m
   exact⟨v,v,_,y,.inr rfl,hK,hy⟩
 ·rename_i f args ts hnf xe;unfold tn at hk;split at hk
  ·rename_i g a c hf;have ef:j6 s f=some (.func (.func g) a c):=by rw[XS hl (x:=f) (by rw[hf];rfl),hf]
   obtain⟨hn0,hc,hn,hd⟩:=hk;obtain⟨v,h2,hK,af,hT⟩:=hd ⟨F.wf,hron⟩
   have hkind:yM q ops o=3:=by
    unfold yM;simp only[xe]
   obtain⟨y,hy⟩:=K7 (q:=q) F ho hput hkind af (u:=v) (.inr ⟨hw,.inr (.inl ⟨f,args,ts,g,a,c,_,xe,ef,eZ hl hn0,hc,hT⟩)⟩) m;exact⟨v,v,_,y,.inr rfl,hK,hy⟩
  ·exact hk.elim
 ·rename_i args ts xe;split at hk
  ·rename_i z hz;have hkind:yM q ops o=4:=by unfold yM;simp only[xe,hz]
   unfold TX at hk;split at hk
   case h_2=>exact hk.elim
   rename_i x sv vs' hx hvs;obtain⟨how,hk⟩:=hk;obtain⟨v,h2,he,hK⟩:=Xe hk;obtain⟨hn,he⟩:=qO he;obtain⟨f,t⟩:=x;obtain⟨zr,hzm,hzl,hze⟩:=zeV (DI hx);simp only[aaj]at hze;obtain⟨rfl,rfl,rfl⟩:=hze
   have hop2:mB P s o (km m (VB q ops A) h)=some (v,h2):=by
    unfold mB;simp only[xe];rw[eZ hl hn];exact he
   rw[hvs]at he;obtain⟨y,hy⟩:=zaC (q:=q) F ho hput hkind (m:=m) hzm hzl hz how (zb0 he) (.inr ⟨hw,.inl hop2⟩);exact⟨v,v,_,y,.inr rfl,hK,hy⟩
  ·rename_i hz;have hkind:yM q ops o=3:=by unfold yM;simp only[xe,hz]
   obtain⟨v,u,h',he,hv,hK⟩:=Z2 hl hk;obtain⟨y,hy⟩:=K7 (q:=q) F ho hput hkind (Wp he).1 (u:=u) (.inr ⟨hw,.inl he⟩) m;exact⟨v,u,h',y,hv,hK,hy⟩
 ·rename_i hn1 hn2 hn3;cases h1:Nat.beq (yM q ops o) 1 with
  |true=>
   rw[h1]at hk;have h1:=aav h1;obtain⟨v,u,h',he,hv,hK⟩:=Z2 hl hk;have hnc:=QK he;obtain rfl:=iQ (HZ hnc h1 (by omega)) hnc he;obtain⟨y,hy⟩:=DK (q:=q) F ho hput h1 (m:=m) (u:=u) (.inr ⟨hw,.inl he⟩);exact⟨v,u,h,y,hv,hK,hy⟩
  |false=>
   rw[h1]at hk;obtain⟨v,u,h',he,hv,hK⟩:=Z2 hl hk;have hnc:=QK he
   have hkle:yM q ops o=0\/yM q ops o=1\/yM q ops o=2\/yM q ops o=3\/yM q ops o=5:=by
    unfold yM;split <;> (try simp)
    ·rename_i xe;rw[xe]at hnc;cases hnc
    ·rename_i xe;exact absurd xe (hn3 _ _)
    ·cases UH _ <;> simp
   rcases hkle with h0'|h1'|h2'|h3'|h5'
   ·obtain⟨rfl,hany⟩:=DU (HZ hnc h0' (by omega)) hnc he;obtain⟨y,hy⟩:=nO (q:=q) F ho hput (u:=u) (.inr ⟨hw,.inl (hany _)⟩) m;exact⟨v,u,h',y,hv,hK,hy⟩
   ·rw[h1']at h1;cases h1
   ·obtain⟨f1,f2,f3⟩:=K9 (Ay (HZ hnc h2' (by omega)) hnc he);obtain⟨y,hy⟩:=AM (q:=q) F ho hput h2' f1 f2 f3 (u:=u) (.inr ⟨hw,.inl he⟩) m;exact⟨v,u,h',y,hv,hK,hy⟩
   ·obtain⟨y,hy⟩:=K7 (q:=q) F ho hput h3' (Wp he).1 (u:=u) (.inr ⟨hw,.inl he⟩) m;exact⟨v,u,h',y,hv,hK,hy⟩
   ·obtain⟨ob,rfl,he2⟩:=zeT h5' he;obtain⟨y,hy⟩:=zaD (q:=q) F ho hput h5' (u:=u) (.inr ⟨hw,.inl he2⟩) m;exact⟨v,u,_,y,hv,hK,hy⟩
theorem DW{A1 A2:List yW}{x w:yW}(F:qm P ops s0 h0 (A1++x::A2) i s h)(hw:w∈A1):w.g'.next<=x.g.next:=(F.told A1 x A2 rfl).nA w hw
theorem GH{A1 A2:List yW}{x w:yW}(F:qm P ops s0 h0 (A1++x::A2) i s h)(hw:w∈A2):x.g'.next<=w.g.next:=by
 obtain⟨B1,B2,rfl⟩:=aa0 hw;exact(F.told (A1++x::B1) w B2 (by simp)).nA x (by simp)
theorem zg3{x:yW}(F:qm P ops s0 h0 A i s h)(hx:x∈A):x.g.next<=x.g'.next:=by
 obtain⟨B1,B2,rfl⟩:=aa0 hx;exact(F.told B1 x B2 rfl).n1
theorem GJ{u w:yW}(F:qm P ops s0 h0 A i s h)(hu:u∈A)(hw:w∈A)(hne:u.j≠w.j):u.g'.next<=w.g.next\/w.g'.next<=u.g.next:=by
 obtain⟨B1,B2,rfl⟩:=aa0 hu;rcases aaQ.1 hw with h1|h1
 ·exact .inr (DW F h1)
 ·rcases abt.1 h1 with rfl|h1
  ·exact absurd rfl hne
  ·exact .inl (GH F h1)
theorem OP{A1 A2:List yW}{x y:yW}{mx my:Nat}(F:qm P ops s0 h0 (A1++x::A2) i s h)(hx:RV q ops A1 mx x)(hy:RV q ops (A1++x::A2) my y)(hn:∀w,w∈A1++x::A2->w.g'.next<=y.g.next)
  (hs:Xi ops x.o y.o=true) (hbit:my.testBit x.j=false) (hzy:∀z,Tn ops y.o=some z->my.testBit z=true) (hp:zdu (x.j,yM q ops x.o,Tn ops x.o,mx) (yM q ops y.o) (Tn ops y.o) my=true):Bs ops x y:=by
 simp only[Xi,aag]at hs;obtain⟨h1,h2⟩:=hs
 have d1:∀d,x.o.dst=some d->d∉y.o.looksAt ops/\y.o.dst≠some d:=by
  intro d hd;rw[hd]at h1;simp only[aag,aaA,aaJ,aaN]at h1;exact⟨h1.1,h1.2⟩
 have d2:∀d,y.o.dst=some d->d∉x.o.looksAt ops:=by
  intro d hd;rw[hd]at h2;simp only[aaA,aaJ,aaN]at h2;exact h2
 have ff:∀{b:Bool},b≠true->b=false:=λh=>by simpa using h
 have xm:x∈A1++x::A2:=by simp
 have xu:=zg3 F xm;have xy:=hn x xm;unfold zdu at hp;simp only[abf,aag,aaA]at hp;rcases hp with(hp|hp)|⟨⟨⟨⟨p1,p2⟩,p3⟩,p4⟩,p5⟩
 ·have e:=aav hp;have t:=hx.k1 (by omega);have r:=hx.k0 (.inl e);exact⟨d1,d2,λb hb=>(by rw[t b]at hb;cases hb),λb _=>r b⟩
 ·have e:=aav hp;have t:=hy.k1 (by omega);have r:=hy.k0 (.inl e);exact⟨d1,d2,λb _=>⟨r b,t b⟩,λb hb=>by rw[t b]at hb;cases hb⟩
 have nb:∀{n m:Nat},Nat.beq n m=false->n≠m:=λh e=>by subst e;simp at h
 have x3:=nb p1;have y3:=nb p2;have xtc:=hx.tc x3;have ytc:=hy.tc y3
 have lay:∀{o:Oper},yM q ops o≠3->¬yM q ops o<=1->Wv (yM q ops o)=true:=λ{o} h3 h1=>by
  have:yM q ops o=0\/yM q ops o=1\/yM q ops o=2\/yM q ops o=3\/yM q ops o=4\/yM q ops o=5\/yM q ops o=6:=by
   unfold yM;split <;> (try simp)
   ·unfold HX;split <;> simp
   ·split <;> simp
   ·cases UH _ <;> simp
  rcases this with e|e|e|e|e|e|e
  ·omega
  ·omega
  ·rw[e];rfl
  ·exact absurd e h3
  ·rw[e];rfl
  ·rw[e];rfl
  ·rw[e];rfl
 have Iw:∀b,y.rd b=true->yM q ops x.o≠1->O7 (yM q ops y.o)=true/\yM q ops y.o≠5:=λb hr hk1=>by
  have k0:yM q ops y.o≠0:=λe=>by rw[hy.k0 (.inl e) b]at hr;cases hr
  have k5:yM q ops y.o≠5:=λe=>by rw[hy.k0 (.inr e) b]at hr;cases hr
  refine⟨?_,k5⟩;by_cases l1:yM q ops y.o<=1
  ·have:yM q ops y.o=1:=by omega
   rw[this];rfl
  ·have:=lay y3 l1
   have n2:yM q ops y.o≠2:=by
    rcases p3 with p3|p3
    ·exact nb p3
    ·exact absurd (aav p3) hk1
   unfold Wv at this;simp only[abf,acS]at this;rcases this with((e|e)|e)|e
   ·exact absurd e n2
   ·rw[e];rfl
   ·exact absurd e k5
   ·rw[e];rfl
 have xn1:∀b,x.tc b=true->¬yM q ops x.o<=1:=λb hb e=>by rw[hx.k1 e b]at hb;cases hb
 refine⟨d1,d2,λb hb=>?_,λb hb=>ff λhr=>?_⟩
 ·have x1:=xn1 b hb;have xne:yM q ops x.o≠1:=by omega
  rcases xtc b hb with hown|⟨k4,z,hz,hzl,hzo,hzb⟩
  ·refine⟨ff λhr=>?_,ff λht=>?_⟩
   ·exact hy.lk (Iw b hr xne).1 b hr x xm (lay x3 x1) hbit hown
   ·rcases ytc b ht with e|⟨_,w,hw,hwl,hwo,hwb⟩
    ·omega
    ·have hne:x.j≠w.j:=λe=>by
      have:=hzy _ hwo;rw[<- e,hbit]at this;cases this
     have:=GJ F xm hw hne;omega
  ·have zm:z∈A1++x::A2:=by simp[hz]
   have zx:=DW F hz;rcases p4 with(p4|p4)|p4
   ·exact absurd k4 (nb p4)
   ·have k5:=aav p4;refine⟨hy.k0 (.inr k5) b,ff λht=>?_⟩;rcases ytc b ht with e|⟨ky4,_⟩
    ·omega
    ·omega
   ·rw[hzo]at p4;simp only[aag,aaA]at p4;refine⟨ff λhr=>?_,ff λht=>?_⟩
    ·exact hy.lk (Iw b hr xne).1 b hr z zm hzl p4.1 hzb
    ·rcases ytc b ht with e|⟨_,w,hw,hwl,hwo,hwb⟩
     ·omega
     ·rw[hwo]at p4;simp only[aaA]at p4;have:=GJ F zm hw (nb p4.2);omega
 ·have hlt:=hx.rd b hr;rcases ytc b hb with e|⟨ky4,w,hw,hwl,hwo,hwb⟩
  ·omega
  ·rcases p5 with(p5|p5)|p5
   ·exact absurd ky4 (nb p5)
   ·have k5:=aav p5;rw[hx.k0 (.inr k5) b]at hr;cases hr
   ·rw[hwo]at p5;simp only[aaA]at p5;rcases aaQ.1 hw with h1|h1
    ·exact hx.lk p5.1 b hr w h1 hwl p5.2 hwb
    ·rcases abt.1 h1 with rfl|h1
     ·omega
     ·have:=GH F h1;omega
end
end
noncomputable section
variable {P:Program}
theorem Ti{q:FuncId->Nat}{ops:Array Oper}{s0:Env}{h0:za}(hro0:h0.ro<=h0.next):∀(l:List Oper) (i:Nat) (ms:List Nat) (A:List yW) (prev:List (Nat×Nat×Option Nat×Nat)) (r s:Env) (h:za) {K:Env->za->Prop},
  ops.toList.drop i=l->i<=ops.size->mO ops ms->ms.length=i->qm P ops s0 h0 A i s h->(∀A1 x A2,A=A1++x::A2->∃m,(x.j,yM q ops x.o,Tn ops x.o,m)∈prev/\RV q ops A1 m x)->WS ops l i ms (A.reverse.map λx=>(x.j,x.o))=true->Bl q ops l ms prev=true ->
  Le r s->NL P q ops l i ms (VB q ops A) r h K->∃A' r' s' h',qm P ops s0 h0 A' ops.size s' h'/\Le r' s'/\K r' h'/\Fr (K6 l) s s'/\AF h h'
 |[],i,ms,A,prev,r,s,h,K,hl,hle,hm,hml,F,hrp,hst,hkd,hle1,hk=>by
  have:i=ops.size:=by
   have:=congrArg List.length hl;simp at this;omega
  subst this;exact⟨A,r,s,h,F,hle1,hk,.refl _ _,.refl _⟩
 |o::os,i,ms,A,prev,r,s,h,K,hl,hle,hm,hml,F,hrp,hst,hkd,hle1,hk=>by
  have ho:ops[i]? = some o:=by
   have:=congrArg (λl=>l[0]?) hl;simp only[aa1,aak]at this;simpa using this
  have hlt:i<ops.size:=by
   rcases aar i ops.size with h|h
   ·exact h
   ·rw[aaO h]at ho;cases ho
  have hl':ops.toList.drop (i+1)=os:=by rw[<- acV,hl];rfl
  simp only[WS,aag]at hst;obtain⟨⟨hedge,hslots⟩,hst⟩:=hst;simp only[Bl,aag]at hkd;obtain⟨⟨hpair,hzz⟩,hkd⟩:=hkd;have hzz2:∀z,Tn ops o=some z->(xf ms o).testBit z=true:=λz hz=>by rw[hz]at hzz;exact hzz
  have go:∀(v u:aaa) (h1:za) (y:yW),(zV v=true\/v=u)->mj P q ops s0 h0 A i o s h u h1 (xf ms o) y ->
    (match r.put o.dst v with|some s1=>NL P q ops os (i+1) (ms++[xf ms o]) (cond (Wv (yM q ops o)) (VB q ops A++[(i,h.next,h1.next)]) (VB q ops A)) s1 h1 K|none=>False) ->
    ∃A' r' s' h',qm P ops s0 h0 A' ops.size s' h'/\Le r' s'/\K r' h'/\Fr (K6 (o::os)) s s'/\AF h h':=by
   intro v u h1 y hv N hk;split at hk
   case h_2=>exact hk.elim
   rename_i r1 hp;obtain⟨s1,hp1,hl1⟩:=hle1.put hp hv
   have hs1:∀t,s1.get t=if o.dst=some t then u else s.get t:=by
    intro t;cases hd:o.dst with
    |none=>rw[hd]at hp1;simp only[Env.put,aab]at hp1;subst hp1;simp
    |some d=>
     rw[hd]at hp1;simp only[Env.put]at hp1;obtain⟨_,hp1⟩:=zE hp1;simp only[aab]at hp1;subst hp1;rw[Env.yI];by_cases e:t=d
     ·subst e;simp
     ·rw[aac e,aac (by simp only[aab];exact λh=>e h.symm)]
   have hs1s:s1.size=s.size:=(Fr.put hp1).size
   have hal2:(cond (Wv (yM q ops o)) (VB q ops A++[(i,h.next,h1.next)]) (VB q ops A))=VB q ops (A++[y]):=by
    rw[zbR,N.xe,N.hj,N.gn];cases hla:Wv (yM q ops o) with
    |true=>rw[N.geq hla]
    |false=>rfl
   rw[hal2]at hk;have hny:∀w,w∈A->w.g'.next<=y.g.next:=λw hw=>by rw[N.gn];exact F.nA w hw
   have F1:qm P ops s0 h0 (A++[y]) (i+1) s1 h1:=by
    refine⟨?_,?_,hs1s.trans F.size,?_,N.ro.trans F.ro,aaS F.next N.next,?_,N.wf,?_,?_,?_⟩
    ·rw[abp,F.js,List.range_succ];simp[N.hj]
    ·intro t;rw[hs1,lS,N.xe,N.zc1,F.env]
    ·intro b;rw[N.heap,rf,F.heap]
    ·intro x hx;rcases aaQ.1 hx with hx|hx
     ·exact aaS (F.nA x hx) N.next
     ·simp only[aaV]at hx;subst hx;exact N.zc0
    ·intro A1 r A2 e;rcases qk e with⟨_,rfl,rfl⟩|⟨A3,_,e3⟩
     ·exact N.told
     ·exact F.told A1 r A3 e3
    ·intro A1 r A2 e ed hed hb;rcases qk e with⟨_,rfl,rfl⟩|⟨A3,_,e3⟩
     ·rw[N.xe]at hed;simp only[aaD,abf,aaA,aa7]at hedge;rcases hedge ed (by simpa using hed) with h2|h2
      ·rw[hb]at h2;cases h2
      ·have:ed.on∈A1.map (·.j):=(by rw[F.js];exact abz.2 h2);obtain⟨x,hx,hxj⟩:=abm.1 this;exact⟨x,hx,hxj⟩
     ·exact F.aY A1 r A3 e3 ed hed hb
    ·intro A1 x A2 z A3 e;have e':A++[y]=(A1++x::A2)++z::A3:=by rw[e];simp
     rcases qk e' with⟨_,e1,rfl⟩|⟨A4,_,e3⟩
     ·have e1:A=A1++x::A2:=e1.symm;have hxm:x∈A:=by rw[e1];simp
      obtain⟨mx,hpm,hrx⟩:=hrp A1 x A2 e1;simp only[aaD,abf]at hpair hslots;rcases hslots (x.j,x.o) (abm.2 ⟨x,by simpa using hxm,rfl⟩) with h2|h2
      ·rw[N.hj];exact .inl (ji hm ho h2)
      ·rcases hpair _ hpm with h3|h3
       ·rw[N.hj];exact .inl (ji hm ho h3)
       ·by_cases hbit:(xf ms o).testBit x.j=true
        ·rw[N.hj];exact .inl (ji hm ho hbit)
        ·simp only[acH]at hbit;have F':=F;have nr:=N.rv;rw[e1]at F' nr;rw[e1]at hny;exact .inr (OP F' hrx nr hny (by rw[N.xe];exact h2) hbit (by rw[N.xe];exact hzz2) (by rw[N.xe];exact h3))
     ·exact F.apart A1 x A2 z A4 (by rw[e3];simp)
   have hrp1:∀A1 x A2,A++[y]=A1++x::A2->∃m,(x.j,yM q ops x.o,Tn ops x.o,m)∈(ms.length,yM q ops o,Tn ops o,xf ms o)::prev/\RV q ops A1 m x:=by
    intro A1 x A2 e;rcases qk e with⟨_,e1,e2⟩|⟨A3,_,e3⟩
    ·subst e1 e2;exact⟨xf ms o,by rw[N.hj,N.xe,hml];simp,N.rv⟩
    ·obtain⟨m,h1,h2⟩:=hrp A1 x A3 e3;exact⟨m,acm _ h1,h2⟩
   obtain⟨A',r',s',h',F',l',k',f',a'⟩:=Ti hro0 os (i+1) (ms++[xf ms o]) (A++[y]) _ r1 s1 h1 hl' hlt (K5 hm hml ho) (by simp[hml]) F1 hrp1
    (by simpa [N.hj,N.xe] using hst) hkd hl1 hk
   exact⟨A',r',s',h',F',l',k',(Fr.put hp1).left.trans f'.right,(zb3 F (v:=v) N).trans a'⟩
  have slot:∀{v:aaa} {h1:za} {al':List (Nat×Nat×Nat)},(match r.put o.dst v with|some s1=>NL P q ops os (i+1) (ms++[xf ms o]) al' s1 h1 K|none=>False)->∀d,o.dst=some d->d<s.size:=by
   intro v h1 al' hk d hd;split at hk
   case h_2=>exact hk.elim
   rename_i r1 hp;rw[hd]at hp;simp only[Env.put]at hp;obtain⟨hb,_⟩:=zE hp;rw[<- hle1.size];simpa [aa7] using hb
  have hron:h.ro<=h.next:=by rw[F.ro];exact aaS hro0 F.next
  have dstok:∀{hv:za} {al:List (Nat×Nat×Nat)} {K':aaa->za->Prop},zaG P q ops r o al hv h K'->(∀v h1,K' v h1->∀d,o.dst=some d->d<s.size)->∀d,o.dst=some d->d<s.size:=by
   intro hv al K' hk hs
   have fromA:∀{g:za} {K2:aaa->za->Prop},opA P r o g K2->(∀v h1,K2 v h1->∀d,o.dst=some d->d<s.size)->∀d,o.dst=some d->d<s.size:=λhk hs=>by
    obtain⟨v,u,h',_,_,hK⟩:=Z2 hle1 hk;exact hs v h' hK
   unfold zaG at hk;split at hk
   ·split at hk
    ·obtain⟨_,_,v,_,_,hK⟩:=hk;exact hs _ _ hK
    ·obtain⟨_,_,v,h2,_,_,hK⟩:=hk;exact hs _ _ hK
    ·obtain⟨_,hk⟩:=hk;obtain⟨v,h2,_,hK⟩:=Xe hk;exact hs _ _ hK
    ·obtain⟨_,_,hd⟩:=hk;obtain⟨v,h2,hK,_⟩:=hd ⟨F.wf,hron⟩;exact hs _ _ hK
   ·unfold tn at hk;split at hk
    ·obtain⟨_,_,_,hd⟩:=hk;obtain⟨v,h2,hK,_⟩:=hd ⟨F.wf,hron⟩;exact hs _ _ hK
    ·exact hk.elim
   ·split at hk
    ·unfold TX at hk;split at hk
     ·obtain⟨_,hk⟩:=hk;obtain⟨v,h2,_,hK⟩:=Xe hk;exact hs _ _ hK
     ·exact hk.elim
    ·exact fromA hk hs
   ·cases h1:Nat.beq (yM q ops o) 1 with
    |true=>rw[h1]at hk;exact fromA hk (λv _ q=>hs v _ q)
    |false=>rw[h1]at hk;exact fromA hk hs
  simp only[NL]at hk;split at hk
  ·rename_i hg;obtain⟨v,u,h1,y,hv,hK,N⟩:=Gy F hron ho (dstok hk (λv h1 hK=>slot hK)) (by simp only[yP,hg]) hle1 hk;exact go v u h1 y hv N hK
  ·rename_i j want hg;split at hk
   ·exact hk.elim
   ·rename_i d hdst;unfold GD at hk;split at hk
    ·rename_i b hb
     have hs:s.get d=.bool b:=by
      rcases hle1.get d with e|e
      ·rw[hb]at e;cases e
      ·rw[<- e,hb]
     have haw:yP ops s o=(b == want):=(by simp only[yP,hg,hdst,hs]);by_cases hbw:b=want
     ·have hk:=hk.1 hbw;obtain⟨v,u,h1,y,hv,hK,N⟩:=Gy F hron ho (dstok hk (λv h1 hK=>slot hK)) (by rw[haw,hbw];simp) hle1 hk;exact go v u h1 y hv N hK
     ·have hk:=hk.2 hbw;obtain⟨y,N⟩:=nO (q:=q) F ho (slot hk) (u:=undef) (.inl ⟨by rw[haw];simpa using hbw,rfl,rfl⟩) (xf ms o);exact go undef undef h y (.inr rfl) N hk
    ·exact hk.elim
    ·rename_i n1 n2
     have hs:s.get d=r.get d:=by
      rcases hle1.get d with e|e
      ·obtain⟨k,p,q,e2⟩:=Ux e;exact absurd e2 (n2 k p q)
      ·exact e.symm
     have haw:yP ops s o=false:=by
      simp only[yP,hg,hdst,hs]
     obtain⟨y,N⟩:=nO (q:=q) F ho (slot hk) (u:=undef) (.inl ⟨haw,rfl,rfl⟩) (xf ms o);exact go undef undef h y (.inr rfl) N hk
theorem Dd{q:FuncId->Nat}(hmix:P.follows .mixedOrders=true):Jc P (Gf P q):=by
 intro ops r s h K rd id hle wf hk;unfold Gf at hk;cases hc:Gb q ops with
 |false=>rw[hc]at hk;exact hk.elim
 |true=>
  rw[hc]at hk;have hk:NL P q ops ops.toList 0 [] [] r h K:=hk;simp only[Gb,aag]at hc
  have F0:qm P ops s h ([]:List yW) 0 s h:=⟨rfl,λt=>rfl,rfl,λb=>rfl,rfl,aam _,λx hx=>(by cases hx),wf.1,
   λA1 r A2 e=>by simp at e,λA1 r A2 e=>by simp at e,λA1 x A2 y A3 e=>by simp at e⟩
  obtain⟨A,r',s',h',F,hl',hK,hf,af⟩:=Ti wf.2 ops.toList 0 [] [] [] r s h rfl (aba _) (λk q hq=>by simp at hq) rfl F0 (λA1 x A2 e=>by simp at e) hc.1 hc.2 hle hk
  have V:Valid P ops s h A:=⟨by rw[F.js];exact List.nodup_range,λi hi=>by
    have:i∈A.map (·.j):=(by rw[F.js];exact abz.2 hi);obtain⟨r,hr,hj⟩:=abm.1 this;exact⟨r,hr,hj⟩,F.told,F.aY,F.apart⟩
  exact⟨r',s',h',hl',hK,hf,af,bU hmix V F.env F.size F.heap F.ro F.next F.nA (Q:=λe s1 h1=>e=.normal/\s1=s'/\h1=h') ⟨rfl,rfl,rfl⟩⟩
theorem Tp{q:FuncId->Nat}(hmix:P.follows .mixedOrders=true){n:Nat}{f:FuncId}{args:List aaa}{h:za}{R:aaa->za->Prop}(hk:wpF P (Gf P q) n f args h R):DC P f args h R:=iY (Dd hmix) hk
def zcA(P:Program)(q:FuncId->Nat)(ops:Array Oper)(s:Env)(h:za)(K:Env->za->Prop):Prop:=sel (calm q ops) (wpD P q ops ops.toList 0 [] [] s h K) (Gf P q ops s h K)
theorem zcB{q:FuncId->Nat}(hmix:P.follows .mixedOrders=true):Jc P (zcA P q):=by
 intro ops r s h K rd id hle wf hk;unfold zcA at hk;cases hc:calm q ops with
 |true=>
  rw[hc]at hk;exact aX hmix ops r s h K rd id hle wf (by unfold UL;rw[hc];exact hk)
 |false=>
  rw[hc]at hk;exact Dd hmix ops r s h K rd id hle wf hk
theorem EW{q:FuncId->Nat}(hmix:P.follows .mixedOrders=true){n:Nat}{f:FuncId}{args:List aaa}{h:za}{R:aaa->za->Prop}(hk:wpF P (zcA P q) n f args h R):DC P f args h R:=iY (zcB hmix) hk
end
end Go.Ai
