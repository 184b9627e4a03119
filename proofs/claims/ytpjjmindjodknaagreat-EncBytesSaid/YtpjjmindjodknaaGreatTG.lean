import Derived.Test.YtpjjmindjodknaaGreatTE
set_option linter.unusedVariables false
set_option linter.unusedSimpArgs false
set_option maxRecDepth 100000
namespace Go.Ai
noncomputable section
variable {P:Program}
@[congr] theorem HM {f:Value} {f':Unit->Value} {l l':List Value} {h h':za} {K:Value->za->Prop} (e1:∀ u:Unit,(f,u).1=f' u) (e2:l=l') (e3:h=h'):zH P f l h K=zH P (f' ()) l' h' K:=by rw [<- e1,e2,e3]
@[congr] theorem HL {g:FuncId} {l l':List Value} {h:za} {h':Unit->za} {K:Value->Prop} (e2:l=l') (e3:∀ u:Unit,(h,u).1=h' u):uj P g l h K=uj P g l' (h' ()) K:=by rw [e2,<- e3]
@[congr] theorem HN {g:FuncId} {l l':List Value} {h:za} {h':Unit->za} {K:Value->za->Prop} (e2:l=l') (e3:∀ u:Unit,(h,u).1=h' u):Y3 P g l h K=Y3 P g l' (h' ()) K:=by rw [e2,<- e3]
@[congr] theorem Mt {step:List Value->za->(List Value->za->Prop)->Prop} {vs vs':List Value} {h:za} {h':Unit->za} (e1:vs=vs') (e2:∀ u:Unit,(h,u).1=h' u):LP step vs h=LP step vs' (h' ()):=by rw [e1,<- e2]
@[congr] theorem Ma {α:Type} {x:Option α} {y:Unit->Option α} {K:α->Prop} (h:∀ u:Unit,(x,u).1=y u):opt x K=opt (y ()) K:=by rw [<- h]
@[congr] theorem ID {x:Option (Value × za)} {y:Unit->Option (Value × za)} {K:Value->za->Prop} (h:∀ u:Unit,(x,u).1=y u):zB x K=zB (y ()) K:=by rw [<- h]
@[congr] theorem Ms {g:Value} {g':Unit->Value} {want:Bool} {A:(Value->za->Prop)->Prop} {K:Value->za->Prop} {h:za} (e:∀ u:Unit,(g,u).1=g' u):GD g want A K h=GD (g' ()) want A K h:=by rw [<- e]
@[congr] theorem Mq {g:Value} {g':Unit->Value} {A B:(List Value->za->Prop)->Prop} {J:List Value->za->Prop} (e:∀ u:Unit,(g,u).1=g' u):CD g A B J=CD (g' ()) A B J:=by rw [<- e]
end
noncomputable section
variable {P:Program}
def Fin (L:Nat) (K:Value->za->Prop) (e:Ex) (h2:za):Prop := ∃ A2,h2.get L=some (.loop A2)/\h2.ro<=L/\K (.bool (ZW e).isNone) (h2.set L (some (.loop (A2.left e))))
end
noncomputable section
variable {P:Program}
def Jn (o:Option wi) (off n:Nat):Option (List Value):=match o with
 | some (.cells c _)=>if off + n<=c.length then some ((c.drop off).take n) else none
 | _=>none
abbrev Lk:=yr->Option (Nat × Nat × Nat)
structure YK (lk:Lk) (ops:Array Oper) (x y:yr):Prop where
 d1:∀ d,x.o.dst=some d->d ∉ y.o.looksAt ops/\y.o.dst ≠ some d
 d2:∀ d,y.o.dst=some d->d ∉ x.o.looksAt ops
 b1:∀ b,x.tc b=true->y.tc b=false/\(y.rd b=false \/ ∃ off n,lk y=some (b,off,n)/\x.rd b=true/\Jn (x.g'.get b) off n=Jn (x.g.get b) off n)
 b2:∀ b,y.tc b=true->x.rd b=false \/ ∃ off n,lk x=some (b,off,n)/\y.rd b=true/\Jn (y.g'.get b) off n=Jn (y.g.get b) off n
structure C1 (lk:Lk) (P:Program) (ops:Array Oper) (s0:Env) (h0:za) (A:List yr) (r:yr):Prop extends Told P ops s0 h0 A r where
 still:r.g.next=h0.next/\r.g'.next=h0.next
 look:∀ b0 off n,lk r=some (b0,off,n)->r.rd b0=true/\(∀ b,r.rd b=true->b=b0)/\(∀ b,r.tc b=false) /\ ∀ g:za,Jn (g.get b0) off n=Jn (r.g.get b0) off n->kP P ops r.s r.o g r.v g
structure Zs (lk:Lk) (P:Program) (ops:Array Oper) (s0:Env) (h0:za) (tr:List yr):Prop where
 nodup:(tr.map (·.j)).Nodup
 all:∀ i,i < ops.size->∃ r,r ∈ tr/\r.j=i
 told:∀ A r B,tr=A ++ r :: B->C1 lk P ops s0 h0 A r
 X9:∀ A r B,tr=A ++ r :: B->∀ e,e ∈ r.o.after->Region.binds .any e=true->∃ x,x ∈ A/\x.j=e.on
 apart:∀ A x B y C,tr=A ++ x :: (B ++ y :: C)->Prec ops x.j y.j\/YK lk ops x y
section
variable {lk:Lk}
theorem tW {ops:Array Oper} {s0:Env} {h0:za} {tr:List yr} (V:Zs lk P ops s0 h0 tr) {S:Nat->Bool} (hdown:∀ i j,Prec ops i j->S j=true->S i=true) {A B:List yr} {r:yr} (e:tr=A ++ r :: B)
  (hready:∀ i,Prec ops i r.j->S i=true) (hnot:S r.j=false) {p:yr->Bool} (hp:∀ x,(x ∈ A->p x=true->Prec ops x.j r.j)/\(x ∈ B->p x=true->Prec ops r.j x.j)) :
  (A.filter (fun x=>S x.j)).filter p=A.filter p/\(B.filter (fun x=>S x.j)).filter p = []:=by
 constructor
 ·rw [Pb]
  apply OV
  intro x hx
  cases hpx:p x with
  | false=>simp
  | true=>rw [hready _ ((hp x).1 hx hpx)];rfl
 ·rw [Pb,PB]
  intro x hx hc
  simp only [ND] at hc
  have:=hdown _ _ ((hp x).2 hx hc.1) hc.2
  rw [hnot] at this
  cases this
theorem Zs.order {ops:Array Oper} {s0:Env} {h0:za} {tr A B:List yr} {r:yr} (V:Zs lk P ops s0 h0 tr) (e:tr=A ++ r :: B) {p:yr->Bool} (hA:∀ x,YK lk ops x r->p x=false) (hB:∀ x,YK lk ops r x->p x=false) :
  ∀ x,(x ∈ A->p x=true->Prec ops x.j r.j)/\(x ∈ B->p x=true->Prec ops r.j x.j):=by
 intro x
 constructor
 ·intro hx hpx
  obtain ⟨A1,A2,rfl⟩:=N9 hx
  rcases V.apart A1 x A2 r B (by simp [e]) with h | h
  ·exact h
  ·rw [hA x h] at hpx;cases hpx
 ·intro hx hpx
  obtain ⟨B1,B2,rfl⟩:=N9 hx
  rcases V.apart A r B1 x B2 e with h | h
  ·exact h
  ·rw [hB x h] at hpx;cases hpx
section
variable {ops:Array Oper} {s0:Env} {h0:za} {tr A B:List yr} {r:yr} {S:Nat->Bool}
theorem XQ (e:tr=A ++ r :: B) (hnot:S r.j=false):tr.filter (fun x=>S x.j)=A.filter (fun x=>S x.j) ++ B.filter (fun x=>S x.j):=by
 subst e;simp [hnot]
theorem aX (V:Zs lk P ops s0 h0 tr) (e:tr=A ++ r :: B):tr.filter (fun x=>uR S r.j x.j)=A.filter (fun x=>S x.j) ++ r :: B.filter (fun x=>S x.j):=by
 have hA:A.filter (fun x=>uR S r.j x.j)=A.filter (fun x=>S x.j):=OV fun x hx=>by simp [uR,YG V.nodup e (.inl hx)]
 have hB:B.filter (fun x=>uR S r.j x.j)=B.filter (fun x=>S x.j):=OV fun x hx=>by simp [uR,YG V.nodup e (.inr hx)]
 rw [e,N6,OU,hA,hB,NK (by simp [uR])]
theorem W4 (V:Zs lk P ops s0 h0 tr) (hdown:∀ i j,Prec ops i j->S j=true->S i=true) (e:tr=A ++ r :: B) (hready:∀ i,Prec ops i r.j->S i=true) (hnot:S r.j=false) {p:yr->Bool}
  (hA:∀ x,YK lk ops x r->p x=false) (hB:∀ x,YK lk ops r x->p x=false):wO (tr.filter fun x=>S x.j) p=wO A p:=by
 obtain ⟨h1,h2⟩:=tW V hdown e hready hnot (V.order e hA hB)
 rw [wO,XQ e hnot,N6,h1,h2,Pj];rfl
theorem XB (V:Zs lk P ops s0 h0 tr) (hdown:∀ i j,Prec ops i j->S j=true->S i=true) (e:tr=A ++ r :: B) (hready:∀ i,Prec ops i r.j->S i=true) (hnot:S r.j=false) {p:yr->Bool} (hr:p r=true)
  (hA:∀ x,YK lk ops x r->p x=false) (hB:∀ x,YK lk ops r x->p x=false):wO (tr.filter fun x=>uR S r.j x.j) p=some r:=by
 obtain ⟨h1,h2⟩:=tW V hdown e hready hnot (V.order e hA hB)
 rw [wO,aX V e,N6,OU,NK hr,h1,h2]
 simp
theorem Zl (V:Zs lk P ops s0 h0 tr) (e:tr=A ++ r :: B) (hnot:S r.j=false) {p:yr->Bool} (hr:p r=false):wO (tr.filter fun x=>uR S r.j x.j) p=wO (tr.filter fun x=>S x.j) p:=by
 rw [wO,wO,aX V e,XQ e hnot,N6,OU,hr,NJ (by simp),N6]
theorem HO (V:Zs lk P ops s0 h0 tr) (hdown:∀ i j,Prec ops i j->S j=true->S i=true) (e:tr=A ++ r :: B) (hready:∀ i,Prec ops i r.j->S i=true) (hnot:S r.j=false) {b0 off n:Nat} (hlk:lk r=some (b0,off,n)) (hrd:r.rd b0=true) (htc:r.tc b0=false) :
  Jn (ZA (tr.filter fun x=>S x.j) h0 b0) off n=Jn (ZA A h0 b0) off n:=by
 have val:∀ (l:List yr),ZA l h0 b0=match (l.filter fun x=>x.tc b0).getLast? with | some r=>r.g'.get b0 | none=>h0.get b0:=fun l=>rfl
 have one:∀ A1 x A2,tr=A1 ++ x :: A2->x.tc b0=true->(YK lk ops x r\/YK lk ops r x)->Jn (x.g'.get b0) off n=Jn (ZA A1 h0 b0) off n:=by
  intro A1 x A2 e1 hx hf
  have D:=V.told A1 x A2 e1
  have key:x.rd b0=true/\Jn (x.g'.get b0) off n=Jn (x.g.get b0) off n:=by
   rcases hf with hf | hf
   ·rcases (hf.b1 b0 hx).2 with h1 | ⟨o1,n1,h1,h2,h3⟩
    ·rw [hrd] at h1;cases h1
    ·rw [hlk] at h1;cases h1;exact ⟨h2,h3⟩
   ·rcases hf.b2 b0 hx with h1 | ⟨o1,n1,h1,h2,h3⟩
    ·rw [hrd] at h1;cases h1
    ·rw [hlk] at h1;cases h1;exact ⟨h2,h3⟩
  rw [key.2,D.heap,NK key.1]
 let p:yr->Bool:=fun x=>x.tc b0
 have ord:∀ A1 x A2,tr=A1 ++ x :: A2->p x=true->∀ A3 y A4,A1=A3 ++ y :: A4->p y=true->Prec ops y.j x.j:=by
  intro A1 x A2 e1 hx A3 y A4 e2 hy
  subst e2
  rcases V.apart A3 y A4 x A2 (by simpa using e1) with h | h
  ·exact h
  ·have:=(h.b1 b0 hy).1
   rw [show x.tc b0=true from hx] at this;cases this
 have go:∀ (C D:List yr),tr=C ++ D->(∀ x,x ∈ C->p x=true->S x.j=false->YK lk ops x r)->Jn (ZA (C.filter fun x=>S x.j) h0 b0) off n=Jn (ZA C h0 b0) off n:=by
  intro C
  induction hC:C.length generalizing C with
  | zero=>intro D _ _;rw [OH.1 hC];rfl
  | succ m ih=>
    intro D e1 hfree
    rcases List.eq_nil_or_concat C with rfl | ⟨C',x,rfl⟩
    ·cases hC
    simp only [List.concat_eq_append] at *
    have e2:tr=C' ++ x :: D:=by rw [e1];simp
    have ih':=ih C' (by simpa using hC) (x :: D) e2 fun y hy=>hfree y (by simp [hy])
    cases hp:p x with
    | false=>
      have h1:(C' ++ [x]).filter p=C'.filter p:=by rw [N6];simp [hp]
      have h2:((C' ++ [x]).filter fun y=>S y.j).filter p=(C'.filter fun y=>S y.j).filter p:=by
       rw [N6,N6]
       cases hs:S x.j <;> simp [hs,hp]
      rw [val,val,show ((C' ++ [x]).filter fun x=>x.tc b0)=C'.filter p from h1,show (((C' ++ [x]).filter fun y=>S y.j).filter fun x=>x.tc b0)=(C'.filter fun y=>S y.j).filter p from h2]
      rw [val,val] at ih'
      exact ih'
    | true=>
      have h1:(C' ++ [x]).filter p=C'.filter p ++ [x]:=by rw [N6];simp [hp]
      cases hs:S x.j with
      | true=>
        have h2:((C' ++ [x]).filter fun y=>S y.j).filter p=(C'.filter fun y=>S y.j).filter p ++ [x]:=by
         rw [N6,N6];simp [hs,hp]
        rw [val,val,show ((C' ++ [x]).filter fun x=>x.tc b0)=C'.filter p ++ [x] from h1,show (((C' ++ [x]).filter fun y=>S y.j).filter fun x=>x.tc b0)=(C'.filter fun y=>S y.j).filter p ++ [x] from h2]
        simp
      | false=>
        have h2:((C' ++ [x]).filter fun y=>S y.j).filter p=(C'.filter fun y=>S y.j).filter p:=by
         rw [N6,N6];simp [hs]
        have hx:=one C' x D e2 hp (.inl (hfree x (by simp) hp hs))
        rw [val ((C' ++ [x]).filter _),val (C' ++ [x]),show ((C' ++ [x]).filter fun x=>x.tc b0)=C'.filter p ++ [x] from h1,show (((C' ++ [x]).filter fun y=>S y.j).filter fun x=>x.tc b0)=(C'.filter fun y=>S y.j).filter p from h2]
        rw [val] at ih'
        simp only [List.getLast?_append,List.getLast?_singleton,Option.some_or]
        rw [hx]
        exact ih'
 have back:∀ (C D:List yr),B=C ++ D->Jn (ZA (A.filter (fun x=>S x.j) ++ C.filter (fun x=>S x.j)) h0 b0) off n=Jn (ZA (A.filter fun x=>S x.j) h0 b0) off n:=by
  intro C
  induction hC:C.length generalizing C with
  | zero=>intro D _;rw [OH.1 hC];simp
  | succ m ih=>
    intro D e1
    rcases List.eq_nil_or_concat C with rfl | ⟨C',x,rfl⟩
    ·cases hC
    simp only [List.concat_eq_append] at *
    have e2:B=C' ++ x :: D:=by rw [e1];simp
    have ih':=ih C' (by simpa using hC) (x :: D) e2
    cases hs:S x.j with
    | false=>rw [N6];simpa [hs] using ih'
    | true=>
      cases hp:p x with
      | false=>
        have h2:((A.filter (fun x=>S x.j) ++ (C' ++ [x]).filter fun y=>S y.j).filter p)=(A.filter (fun x=>S x.j) ++ C'.filter fun y=>S y.j).filter p:=by
         rw [N6 C' [x]];simp [hs,hp]
        rw [val,show ((A.filter (fun x=>S x.j) ++ (C' ++ [x]).filter fun y=>S y.j).filter fun x=>x.tc b0)=_ from h2]
        rw [val] at ih'
        exact ih'
      | true=>
        have e3:tr=(A ++ r :: C') ++ x :: D:=by rw [e,e2];simp
        have hfr:YK lk ops r x:=by
         rcases V.apart A r C' x D (by rw [e,e2]) with h | h
         ·have:=hdown _ _ h hs;rw [hnot] at this;cases this
         ·exact h
        have hx:=one (A ++ r :: C') x D e3 hp (.inr hfr)
        have h2:((A.filter (fun x=>S x.j) ++ (C' ++ [x]).filter fun y=>S y.j).filter p)=(A.filter (fun x=>S x.j) ++ C'.filter fun y=>S y.j).filter p ++ [x]:=by
         rw [N6 C' [x]];simp [hs,hp,N6]
        rw [val,show ((A.filter (fun x=>S x.j) ++ (C' ++ [x]).filter fun y=>S y.j).filter fun x=>x.tc b0)=_ from h2]
        simp only [List.getLast?_append,List.getLast?_singleton,Option.some_or]
        rw [hx,<- ih']
        have h4:(A ++ r :: C').filter p=(A.filter (fun x=>S x.j) ++ C'.filter fun y=>S y.j).filter p:=by
         have all:∀ y,y ∈ A ++ r :: C'->p y=true->S y.j=true:=by
          intro y hy hpy
          obtain ⟨Y1,Y2,hY⟩:=N9 hy
          exact hdown _ _ (ord (A ++ r :: C') x D e3 hp Y1 y Y2 hY hpy) hs
         rw [<- N6,Pb,N6,N6,OU,show p r=false from htc]
         simp only [On,Oo]
         congr 1
         ·apply OV;intro y hy
          cases hpy:p y with
          | false=>simp
          | true=>rw [all y (by simp [hy]) hpy];rfl
         ·apply OV;intro y hy
          cases hpy:p y with
          | false=>simp
          | true=>rw [all y (by simp [hy]) hpy];rfl
        rw [val,val,show ((A ++ r :: C').filter fun x=>x.tc b0)=_ from h4]
 have hA:=go A (r :: B) e fun x hx hpx hsx=>by
  obtain ⟨A1,A2,rfl⟩:=N9 hx
  rcases V.apart A1 x A2 r B (by simp [e]) with h | h
  ·have:=hready _ h;rw [hsx] at this;cases this
  ·exact h
 rw [XQ e hnot,back B [] (by simp),hA]
theorem si (hro0:h0.ro<=h0.next) (V:Zs lk P ops s0 h0 tr) (hdown:∀ i j,Prec ops i j->S j=true->S i=true) (e:tr=A ++ r :: B) (hready:∀ i,Prec ops i r.j->S i=true) (hnot:S r.j=false)
  {N:Nat} (hN:∀ x,x ∈ tr->x.g'.next<=N) (hlk:lk r=none) {ρ0 ρ:yY} {w0 w:World} {tm:Array Value} (I:UB P tr s0 h0 N ρ0 w0 S ρ w tm) (ds:List Deferred) (rest:List Nat) (b:Frame) (k:List Item) (cs:List Frame) :
  ∃ ρ' w' tm',UB P tr s0 h0 N ρ0 w0 (uR S r.j) ρ' w' tm'/\Steps P (lone (wW b tm ds (.inRegion ops (r.j :: rest) :: k)) cs w) (lone (wW b tm' ds (.inRegion ops rest :: k)) cs w'):=by
 have D:=V.told A r B e
 have hrm:r ∈ tr:=by rw [e];simp
 have rdA:∀ x,YK lk ops x r->∀ bb,x.tc bb=true->r.rd bb=true->False:=fun x hx bb hw hb=>by
  rcases (hx.b1 bb hw).2 with h | ⟨_,_,h,_⟩
  ·rw [hb] at h;cases h
  ·rw [hlk] at h;cases h
 have rdB:∀ x,YK lk ops r x->∀ bb,x.tc bb=true->r.rd bb=true->False:=fun x hx bb hw hb=>by
  rcases hx.b2 bb hw with h | ⟨_,_,h,_⟩
  ·rw [hb] at h;cases h
  ·rw [hlk] at h;cases h
 have lookEnv:∀ t,t ∈ r.o.looksAt ops->wO (tr.filter fun x=>S x.j) (XX t)=wO A (XX t):=fun t ht=>
  W4 V hdown e hready hnot (fun x hx=>by
   cases hw:XX t x with
   | false=>rfl
   | true=>exact absurd ht (hx.d1 t (Oj hw)).1) (fun x hx=>by
   cases hw:XX t x with
   | false=>rfl
   | true=>exact absurd ht (hx.d2 t (Oj hw)))
 have lookHeap:∀ bb,r.rd bb=true->wO (tr.filter fun x=>S x.j) (fun x=>x.tc bb)=wO A (fun x=>x.tc bb):=fun bb hb=>
  W4 V hdown e hready hnot (fun x hx=>by
   cases hw:x.tc bb with
   | false=>rfl
   | true=>exact (rdA x hx bb hw hb).elim) (fun x hx=>by
   cases hw:x.tc bb with
   | false=>rfl
   | true=>exact (rdB x hx bb hw hb).elim)
 have hpVeq:∀ bb,r.rd bb=true->ZA (tr.filter fun x=>S x.j) h0 bb=r.g.get bb:=fun bb hb=>by
  rw [D.heap,NK hb];simp only [ZA,lookHeap bb hb]
 have hpNle:∀ bb,r.rd bb=true->JP (tr.filter fun x=>S x.j) h0.next bb<=r.g.next:=fun bb hb=>by
  simp only [JP,lookHeap bb hb]
  split
  ·rename_i x hx;exact D.nA x (ZX hx).1
  ·exact D.n0
 have galive:∀ bb o,r.g.get bb=some o->r.rd bb=true/\ZA (tr.filter fun x=>S x.j) h0 bb=some o:=fun bb o hg=>by
  rw [D.heap] at hg
  cases hb:r.rd bb with
  | false=>rw [hb] at hg;simp at hg
  | true=>exact ⟨rfl,by rw [hpVeq bb hb,D.heap];exact hg⟩
 let ρr:=ρ.cut r.g.next
 have hrel:Rel P ρr r.g w:=by
  refine ⟨rfl,?_,?_,?_,?_,by rw [D.ro];exact I.JO,I.gl⟩
  ·have h1:=D.ro;have h2:=D.n0
   show r.g.ro<=r.g.next
   omega
  ·intro bb o hg
   obtain ⟨h1,h2⟩:=galive bb o hg
   exact NH (I.heap bb o h2).1 (hpNle bb h1)
  ·intro bb o hg
   obtain ⟨h1,h2⟩:=galive bb _ hg
   obtain ⟨_,pl,hp,hc⟩:=I.heap bb o h2
   refine ⟨pl,hp,?_⟩
   rw [D.ro]
   exact hc.VN (hpNle bb h1)
  ·intro b1 b2 o1 o2 p1 p2 g1 g2
   exact I.inj b1 b2 o1 o2 p1 p2 (galive b1 o1 g1).2 (galive b2 o2 g2).2
 have hlook:∀ t,t ∈ r.o.looksAt ops->zD ρr (r.s.get t) (tm.getD t undef):=by
  intro t ht
  have h1:=I.env t
  have e1:XO (tr.filter fun x=>S x.j) s0 t=r.s.get t:=by rw [D.env t];simp only [XO,lookEnv t ht]
  have e2:KX (tr.filter fun x=>S x.j) h0.next t<=r.g.next:=by
   simp only [KX,lookEnv t ht]
   split
   ·rename_i x hx;exact D.nA x (ZX hx).1
   ·exact D.n0
  rw [e1] at h1
  exact h1.VN e2
 obtain ⟨v',w',ρq,st,hv,sx⟩:=VZ D.op D.Mi hrel (D.size.trans I.size) hlook ds rest b k cs
 let ρ':yY:={ next:=N,m:=fun bb=>if r.g.next<=bb/\bb < r.g'.next then ρq.m bb else ρ.m bb }
 have qnext:ρq.next=r.g'.next:=st.rel.next
 have qlow:∀ bb,bb < r.g.next->ρq.m bb=ρ.m bb:=fun bb hb=>st.le.2 bb hb
 have pq:∀ bb,bb < r.g'.next->ρ'.m bb=ρq.m bb:=by
  intro bb hb
  by_cases hl:r.g.next<=bb
  ·exact NK ⟨hl,hb⟩
  ·rw [show ρ'.m bb=ρ.m bb from NJ (by omega),qlow bb (by omega)]
 have rfresh:=I.fresh r hrm hnot
 have pext:∀ bb pl,ρ.m bb=some pl->ρ'.m bb=some pl:=by
  intro bb pl hm
  rw [show ρ'.m bb=ρ.m bb from NJ (by
   rintro ⟨h1,h2⟩
   rw [rfresh bb h1 h2] at hm;cases hm)]
  exact hm
 have hn1N:r.g'.next<=N:=hN r hrm
 have notMine:∀ bb o pl,ZA (tr.filter fun x=>S x.j) h0 bb=some o->ρ.m bb=some pl->r.rd bb=false->¬ Q2 ρr r.g pl.c:=by
  rintro bb o pl hg hm hb ⟨b1,o1,p1,g1,_,m1,e1⟩
  obtain ⟨k1,k2⟩:=galive b1 o1 g1
  have:=I.inj b1 bb o1 o p1 pl k2 hg m1 hm e1
  subst this
  rw [hb] at k1;cases k1
 have hpVnew:∀ bb,ZA (tr.filter fun x=>uR S r.j x.j) h0 bb=if r.tc bb=true then r.g'.get bb else ZA (tr.filter fun x=>S x.j) h0 bb:=by
  intro bb
  cases ht:r.tc bb with
  | true=>
    rw [NK rfl]
    simp only [ZA]
    rw [XB V hdown e hready hnot ht (fun x hx=>by
     cases hw:x.tc bb with
     | false=>rfl
     | true=>have:=(hx.b1 bb hw).1;rw [ht] at this;cases this) (fun x hx=>by
     cases hw:x.tc bb with
     | false=>rfl
     | true=>have:=(hx.b1 bb ht).1;rw [hw] at this;cases this)]
  | false=>
    rw [NJ (by simp)]
    simp only [ZA]
    rw [Zl V e hnot (p:=fun x=>x.tc bb) ht]
 have hpNnew:∀ bb,JP (tr.filter fun x=>uR S r.j x.j) h0.next bb=if r.tc bb=true then r.g'.next else JP (tr.filter fun x=>S x.j) h0.next bb:=by
  intro bb
  cases ht:r.tc bb with
  | true=>
    rw [NK rfl]
    simp only [JP]
    rw [XB V hdown e hready hnot ht (fun x hx=>by
     cases hw:x.tc bb with
     | false=>rfl
     | true=>have:=(hx.b1 bb hw).1;rw [ht] at this;cases this) (fun x hx=>by
     cases hw:x.tc bb with
     | false=>rfl
     | true=>have:=(hx.b1 bb ht).1;rw [hw] at this;cases this)]
  | false=>
    rw [NJ (by simp)]
    simp only [JP]
    rw [Zl V e hnot (p:=fun x=>x.tc bb) ht]
 have cases':∀ bb o,ZA (tr.filter fun x=>uR S r.j x.j) h0 bb=some o->(r.tc bb=true/\r.g'.get bb=some o)\/(r.tc bb=false/\ZA (tr.filter fun x=>S x.j) h0 bb=some o):=by
  intro bb o h
  rw [hpVnew] at h
  cases ht:r.tc bb with
  | true=>rw [ht,NK rfl] at h;exact .inl ⟨rfl,h⟩
  | false=>rw [ht,NJ (by simp)] at h;exact .inr ⟨rfl,h⟩
 refine ⟨ρ',w',uw tm r.o.dst v',⟨rfl,?_,?_,?_,?_,?_,?_,st.os.trans I.os,st.tape.trans I.tape,st.output.trans I.output,Oc I.Qd st.size,?_,?_,I.JO,fun b pl hb hm=>I.gl b pl hb (by
  rw [show ρ'.m b=ρ.m b from NJ (by have:=D.n0;have:=I.JO;omega)] at hm;exact hm)⟩,sx⟩
 ·intro bb hb
  rw [show ρ'.m bb=ρ.m bb from NJ (by have:=D.n0;omega)]
  exact I.old bb hb
 ·cases r.o.dst with
  | none=>exact I.size
  | some d=>simp only [uw,Array.size_setIfInBounds];exact I.size
 ·
  intro t
  by_cases ht:r.o.dst=some t
  ·have e1:wO (tr.filter fun x=>uR S r.j x.j) (XX t)=some r:=XB V hdown e hready hnot (p:=XX t) (by simp [XX,ht]) (fun x hx=>by
    cases hw:XX t x with
    | false=>rfl
    | true=>exact absurd ht (hx.d1 t (Oj hw)).2) (fun x hx=>by
    cases hw:XX t x with
    | false=>rfl
    | true=>exact absurd (Oj hw) (hx.d1 t ht).2)
   simp only [XO,KX,e1]
   have e2:(uw tm r.o.dst v').getD t undef=v':=by
    have hlt:t < tm.size:=by rw [<- I.size];exact D.put t ht
    rw [ht];simp [uw,NS,hlt]
   rw [e2]
   refine hv.ext (by show ρq.next<=r.g'.next;rw [qnext];exact NG _) (fun bb pl hb hm => ?_)
   show ρ'.m bb=some pl
   rw [pq bb (by rw [<- qnext];exact hb)];exact hm
  ·have e1:wO (tr.filter fun x=>uR S r.j x.j) (XX t)=wO (tr.filter fun x=>S x.j) (XX t):=Zl V e hnot (p:=XX t) (by simp [XX,ht])
   have e2:(uw tm r.o.dst v').getD t undef=tm.getD t undef:=by
    cases hd:r.o.dst with
    | none=>rfl
    | some d=>
      have:d ≠ t:=fun h=>ht (by rw [hd,h])
      simp [uw,NS,this]
   have h1:=I.env t
   simp only [XO,KX] at h1 ⊢
   rw [e1,e2]
   exact h1.eE (ρ':=ρ') pext
 ·
  intro bb o hg
  rcases cases' bb _ hg with ⟨ht,hg'⟩ | ⟨ht,hg'⟩
  ·rw [hpNnew,NK ht]
   obtain ⟨pl,hp,hc⟩:=st.rel.ok bb o hg'
   have hlt:=st.rel.Vn bb _ hg'
   refine ⟨hlt,pl,by rw [pq bb hlt];exact hp,?_⟩
   have hro:r.g'.ro=h0.ro:=st.ro.trans D.ro
   rw [hro] at hc
   exact hc.ext (by show ρq.next<=r.g'.next;rw [qnext];exact NG _) (fun b2 p2 hb hm=>by show ρ'.m b2=some p2;rw [pq b2 (by rw [<- qnext];exact hb)];exact hm)
  ·rw [hpNnew,ht,NJ (by simp)]
   obtain ⟨hlt,pl,hp,hc⟩:=I.heap bb o hg'
   refine ⟨hlt,pl,pext bb pl hp,?_⟩
   have hdone:vo P (ρ.cut (JP (tr.filter fun x=>S x.j) h0.next bb)) (decide (h0.ro<=bb)) o pl w':=by
    cases hb:r.rd bb with
    | true=>
      have hgg:r.g'.get bb=some o:=by rw [D.Mz bb ht,<- hpVeq bb hb];exact hg'
      obtain ⟨p2,hp2,hc2⟩:=st.rel.ok bb o hgg
      have hbl:bb < r.g.next:=NH hlt (hpNle bb hb)
      rw [qlow bb hbl,hp] at hp2
      cases hp2
      have hro:r.g'.ro=h0.ro:=st.ro.trans D.ro
      rw [hro] at hc2
      exact vo.down (ρ:=ρ.cut (JP (tr.filter fun x=>S x.j) h0.next bb)) (ρ2:=ρq) (fun b2 hb2=>qlow b2 (NH hb2 (hpNle bb hb))) hc hc2
    | false=>exact hc.other (st.frame pl.c hc.lt (notMine bb _ pl hg' hp hb))
   exact hdone.eE (ρ':=ρ') pext
 ·
  have key:∀ b1 b2 o1 o2 p1 p2,r.tc b1=true->r.g'.get b1=some o1->r.tc b2=false->ZA (tr.filter fun x=>S x.j) h0 b2=some o2->ρ'.m b1=some p1->ρ'.m b2=some p2->p1.c=p2.c->b1=b2:=by
   intro b1 b2 o1 o2 p1 p2 t1 g1 t2 g2 m1 m2 ec
   obtain ⟨hlt2,q2,hq2,hc2⟩:=I.heap b2 o2 g2
   rw [pext b2 q2 hq2] at m2
   cases m2
   have hl1:=st.rel.Vn b1 o1 g1
   rw [pq b1 hl1] at m1
   cases hb2:r.rd b2 with
   | true=>
     have hgg:r.g'.get b2=some o2:=by rw [D.Mz b2 t2,<- hpVeq b2 hb2];exact g2
     have hbl:b2 < r.g.next:=NH hlt2 (hpNle b2 hb2)
     exact st.rel.inj b1 b2 o1 _ p1 p2 g1 hgg m1 (by rw [qlow b2 hbl];exact hq2) ec
   | false=>
     by_cases hw:h0.ro<=b1
     ·have hM:Q2 ρq r.g' p1.c:=⟨b1,o1,p1,g1,by rw [st.ro,D.ro];exact hw,m1,rfl⟩
      have hlt:p1.c < w.heap.size:=by rw [ec];exact hc2.lt
      have:=st.bt p1.c hlt hM
      rw [ec] at this
      exact absurd this (notMine b2 _ p2 g2 hq2 hb2)
     ·have hb1:b1 < r.g.next:=by have:=D.n0;omega
      have hne:=D.MA b1 o1 t1 hb1 g1
      obtain ⟨o1',ho1'⟩:∃ o,r.g.get b1=some o:=by cases hh:r.g.get b1 with | none=>exact absurd hh hne | some o=>exact ⟨o,rfl⟩
      rw [qlow b1 hb1] at m1
      exact I.inj b1 b2 o1' _ p1 p2 (galive b1 o1' ho1').2 g2 m1 hq2 ec
  intro b1 b2 o1 o2 p1 p2 g1 g2 m1 m2 ec
  rcases cases' b1 o1 g1 with ⟨t1,k1⟩ | ⟨t1,k1⟩ <;> rcases cases' b2 o2 g2 with ⟨t2,k2⟩ | ⟨t2,k2⟩
  ·have l1:=st.rel.Vn b1 o1 k1
   have l2:=st.rel.Vn b2 o2 k2
   rw [pq b1 l1] at m1;rw [pq b2 l2] at m2
   exact st.rel.inj b1 b2 o1 o2 p1 p2 k1 k2 m1 m2 ec
  ·exact key b1 b2 o1 o2 p1 p2 t1 k1 t2 k2 m1 m2 ec
  ·exact (key b2 b1 o2 o1 p2 p1 t2 k2 t1 k1 m2 m1 ec.symm).symm
  ·obtain ⟨_,q1,hq1,_⟩:=I.heap b1 o1 k1
   obtain ⟨_,q2,hq2,_⟩:=I.heap b2 o2 k2
   rw [pext b1 q1 hq1] at m1;rw [pext b2 q2 hq2] at m2
   cases m1;cases m2
   exact I.inj b1 b2 _ _ p1 p2 k1 k2 hq1 hq2 ec
 ·
  intro x hx hS bb h1 h2
  simp only [uR,OL,NP] at hS
  have h3:=I.fresh x hx hS.1 bb h1 h2
  have hne:x ≠ r:=fun h=>hS.2 (by rw [h])
  have hdis:¬ (r.g.next<=bb/\bb < r.g'.next):=by
   rw [e] at hx
   rcases Om.1 hx with hxA | hxB
   ·have:=D.nA x hxA;omega
   ·rcases Ox.1 hxB with hxr | hxB
    ·exact absurd hxr hne
    ·obtain ⟨B1,B2,rfl⟩:=N9 hxB
     have:=(V.told (A ++ r :: B1) x B2 (by simp [e])).nA r (by simp)
     omega
  rw [show ρ'.m bb=ρ.m bb from NJ hdis]
  exact h3
 ·intro c hc hn
  rw [st.frame c (NH hc I.Qd) (by
   rintro ⟨b1,o1,p1,g1,hro1,m1,rfl⟩
   exact hn (I.bt b1 o1 p1 (galive b1 o1 g1).2 (by rw [<- D.ro];exact hro1) m1 hc))]
  exact I.frame c hc hn
 ·intro bb o pl hg hro hm hc
  rcases cases' bb o hg with ⟨ht,hg'⟩ | ⟨ht,hg'⟩
  ·rw [pq bb (st.rel.Vn bb o hg')] at hm
   obtain ⟨b1,o1,p1,g1,hro1,m1,e1⟩:=st.bt pl.c (NH hc I.Qd) ⟨bb,o,pl,hg',by rw [st.ro,D.ro];exact hro,hm,rfl⟩
   rw [<- e1]
   exact I.bt b1 o1 p1 (galive b1 o1 g1).2 (by rw [<- D.ro];exact hro1) m1 (by rw [e1];exact hc)
  ·obtain ⟨_,q,hq,_⟩:=I.heap bb o hg'
   rw [pext bb q hq] at hm
   cases hm
   exact I.bt bb _ pl hg' hro hq hc
theorem sg (hro0:h0.ro<=h0.next) (V:Zs lk P ops s0 h0 tr) (hdown:∀ i j,Prec ops i j->S j=true->S i=true) (e:tr=A ++ r :: B) (hready:∀ i,Prec ops i r.j->S i=true) (hnot:S r.j=false)
  {N:Nat} (hN:∀ x,x ∈ tr->x.g'.next<=N) (hNN:N=h0.next) {b0 off n:Nat} (hlk:lk r=some (b0,off,n)) {ρ0 ρ:yY} {w0 w:World} {tm:Array Value} (I:UB P tr s0 h0 N ρ0 w0 S ρ w tm) (ds:List Deferred) (rest:List Nat) (b:Frame) (k:List Item) (cs:List Frame) :
  ∃ ρ' w' tm',UB P tr s0 h0 N ρ0 w0 (uR S r.j) ρ' w' tm'/\Steps P (lone (wW b tm ds (.inRegion ops (r.j :: rest) :: k)) cs w) (lone (wW b tm' ds (.inRegion ops rest :: k)) cs w'):=by
 have D:=V.told A r B e
 have hrm:r ∈ tr:=by rw [e];simp
 obtain ⟨l1,l2,l3,l4⟩:=D.look b0 off n hlk
 have hNr:r.g.next=N:=by rw [D.still.1,hNN]
 have hNr':r.g'.next=N:=by rw [D.still.2,hNN]
 have hcut:ρ.cut N=ρ:=by have:=I.next;cases ρ;simp only at this;subst this;rfl
 have lookEnv:∀ t,t ∈ r.o.looksAt ops->wO (tr.filter fun x=>S x.j) (XX t)=wO A (XX t):=fun t ht=>
  W4 V hdown e hready hnot (fun x hx=>by
   cases hw:XX t x with
   | false=>rfl
   | true=>exact absurd ht (hx.d1 t (Oj hw)).1) (fun x hx=>by
   cases hw:XX t x with
   | false=>rfl
   | true=>exact absurd ht (hx.d2 t (Oj hw)))
 have lastn:∀ (p:yr->Bool) x,wO (tr.filter fun x=>S x.j) p=some x->x.g'.next<=N:=fun p x hx=>hN x (O8.1 (ZX hx).1).1
 have hpNle:∀ bb,JP (tr.filter fun x=>S x.j) h0.next bb<=N:=fun bb=>by
  simp only [JP]
  split
  ·rename_i x hx;exact lastn _ x hx
  ·omega
 let g1:za:=r.g.set b0 (ZA (tr.filter fun x=>S x.j) h0 b0)
 have g1get:∀ bb o,g1.get bb=some o->bb=b0/\ZA (tr.filter fun x=>S x.j) h0 b0=some o:=fun bb o hg=>by
  show bb=b0/\_
  have hg:(r.g.set b0 (ZA (tr.filter fun x=>S x.j) h0 b0)).get bb=some o:=hg
  rw [za.yj] at hg
  split at hg
  ·rename_i q;exact ⟨q,hg⟩
  ·rw [D.heap] at hg
   cases hb:r.rd bb with
   | false=>rw [hb] at hg;simp at hg
   | true=>rename_i q;exact absurd (l2 bb hb) q
 have hrel:Rel P ρ g1 w:=by
  refine ⟨by rw [I.next];exact hNr.symm,by have h1:=D.ro;have h2:=D.n0;show r.g.ro<=r.g.next;omega,fun bb o hg => ?_,fun bb o hg => ?_,fun b1 b2 o1 o2 p1 p2 q1 q2 _ _ _ => ?_,by show _<=r.g.ro;rw [D.ro];exact I.JO,I.gl⟩
  ·obtain ⟨rfl,h2⟩:=g1get bb o hg
   have:=(I.heap bb o h2).1
   have:=hpNle bb
   show bb < r.g.next
   omega
  ·obtain ⟨rfl,h2⟩:=g1get bb o hg
   obtain ⟨_,pl,hp,hc⟩:=I.heap bb o h2
   refine ⟨pl,hp,?_⟩
   have hc:=hc.VN (hpNle bb)
   rw [hcut] at hc
   show vo P ρ (decide (r.g.ro<=bb)) o pl w
   rw [D.ro];exact hc
  ·rw [(g1get b1 o1 q1).1,(g1get b2 o2 q2).1]
 have hsem:kP P ops r.s r.o g1.lock r.v g1.lock:=l4 g1.lock (by
  show Jn ((r.g.set b0 (ZA (tr.filter fun x=>S x.j) h0 b0)).get b0) off n=_
  rw [za.yj,NK rfl,HO V hdown e hready hnot hlk l1 (l3 b0),D.heap,NK l1])
 have hlook:∀ t,t ∈ r.o.looksAt ops->zD ρ (r.s.get t) (tm.getD t undef):=by
  intro t ht
  have h1:=I.env t
  have e1:XO (tr.filter fun x=>S x.j) s0 t=r.s.get t:=by rw [D.env t];simp only [XO,lookEnv t ht]
  rw [e1] at h1
  have h1:=h1.VN (m:=N) (by
   simp only [KX]
   split
   ·rename_i x hx;exact lastn _ x hx
   ·omega)
  rw [hcut] at h1
  exact h1
 obtain ⟨v',w',ρq,st,hv,sx⟩:=VZ D.op hsem hrel.lock (D.size.trans I.size) hlook ds rest b k cs
 have hfr:∀ c,c < w.heap.size->w'.heap[c]? = w.heap[c]?:=fun c hc=>st.frame c hc (by
  rintro ⟨bb,o,pl,hg,hro,_,_⟩
  have h1:=hrel.lock.Vn bb o hg
  have h2:g1.next<=bb:=hro
  have h3:bb < g1.next:=h1
  omega)
 have qn:ρq.next=N:=by
  have:ρq.next=g1.next:=st.rel.next
  rw [this];exact hNr
 have hv2:zD ρ v' v'\/True := .inr trivial
 have hvr:zD ρ r.v v':=hv.ext (by rw [qn,I.next];exact NG _) fun bb pl hb hm=>by
  rw [<- st.le.2 bb (by rw [I.next,<- qn];exact hb)];exact hm
 have hpVnew:∀ bb,ZA (tr.filter fun x=>uR S r.j x.j) h0 bb=ZA (tr.filter fun x=>S x.j) h0 bb:=fun bb=>by
  simp only [ZA];rw [Zl V e hnot (p:=fun x=>x.tc bb) (l3 bb)]
 have hpNnew:∀ bb,JP (tr.filter fun x=>uR S r.j x.j) h0.next bb=JP (tr.filter fun x=>S x.j) h0.next bb:=fun bb=>by
  simp only [JP];rw [Zl V e hnot (p:=fun x=>x.tc bb) (l3 bb)]
 refine ⟨ρ,w',uw tm r.o.dst v',⟨I.next,I.old,?_,?_,?_,?_,?_,st.os.trans I.os,st.tape.trans I.tape,st.output.trans I.output,Oc I.Qd st.size,?_,?_,I.JO,I.gl⟩,sx⟩
 ·cases r.o.dst with
  | none=>exact I.size
  | some d=>simp only [uw,Array.size_setIfInBounds];exact I.size
 ·intro t
  by_cases ht:r.o.dst=some t
  ·have e1:wO (tr.filter fun x=>uR S r.j x.j) (XX t)=some r:=XB V hdown e hready hnot (p:=XX t) (by simp [XX,ht]) (fun x hx=>by
    cases hw:XX t x with
    | false=>rfl
    | true=>exact absurd ht (hx.d1 t (Oj hw)).2) (fun x hx=>by
    cases hw:XX t x with
    | false=>rfl
    | true=>exact absurd (Oj hw) (hx.d1 t ht).2)
   simp only [XO,KX,e1]
   have e2:(uw tm r.o.dst v').getD t undef=v':=by
    have hlt:t < tm.size:=by rw [<- I.size];exact D.put t ht
    rw [ht];simp [uw,NS,hlt]
   rw [e2,hNr',hcut]
   exact hvr
  ·have e1:wO (tr.filter fun x=>uR S r.j x.j) (XX t)=wO (tr.filter fun x=>S x.j) (XX t):=Zl V e hnot (p:=XX t) (by simp [XX,ht])
   have e2:(uw tm r.o.dst v').getD t undef=tm.getD t undef:=by
    cases hd:r.o.dst with
    | none=>rfl
    | some d=>
      have:d ≠ t:=fun h=>ht (by rw [hd,h])
      simp [uw,NS,this]
   have h1:=I.env t
   simp only [XO,KX] at h1 ⊢
   rw [e1,e2]
   exact h1
 ·intro bb o hg
  rw [hpVnew] at hg
  rw [hpNnew]
  obtain ⟨h1,pl,hp,hc⟩:=I.heap bb o hg
  exact ⟨h1,pl,hp,hc.other (hfr pl.c hc.lt)⟩
 ·intro b1 b2 o1 o2 p1 p2 g1 g2
  rw [hpVnew] at g1 g2
  exact I.inj b1 b2 o1 o2 p1 p2 g1 g2
 ·intro x hx hS
  simp only [uR,OL,NP] at hS
  exact I.fresh x hx hS.1
 ·intro c hc hn
  rw [hfr c (NH hc I.Qd)]
  exact I.frame c hc hn
 ·intro bb o pl hg
  rw [hpVnew] at hg
  exact I.bt bb o pl hg
theorem sj (hro0:h0.ro<=h0.next) (V:Zs lk P ops s0 h0 tr) (hdown:∀ i j,Prec ops i j->S j=true->S i=true) (e:tr=A ++ r :: B) (hready:∀ i,Prec ops i r.j->S i=true) (hnot:S r.j=false)
  {N:Nat} (hN:∀ x,x ∈ tr->x.g'.next<=N) (hNN:N=h0.next) {ρ0 ρ:yY} {w0 w:World} {tm:Array Value} (I:UB P tr s0 h0 N ρ0 w0 S ρ w tm) (ds:List Deferred) (rest:List Nat) (b:Frame) (k:List Item) (cs:List Frame) :
  ∃ ρ' w' tm',UB P tr s0 h0 N ρ0 w0 (uR S r.j) ρ' w' tm'/\Steps P (lone (wW b tm ds (.inRegion ops (r.j :: rest) :: k)) cs w) (lone (wW b tm' ds (.inRegion ops rest :: k)) cs w'):=by
 cases hlk:lk r with
 | none=>exact si hro0 V hdown e hready hnot hN hlk I ds rest b k cs
 | some x=>obtain ⟨b0,off,n⟩:=x;exact sg hro0 V hdown e hready hnot hN hNN hlk I ds rest b k cs
end
section
variable {ops:Array Oper} {s0:Env} {h0:za} {tr:List yr}
theorem D6 (hro0:h0.ro<=h0.next) (V:Zs lk P ops s0 h0 tr) {N:Nat} (hN:∀ x,x ∈ tr->x.g'.next<=N) (hNN:N=h0.next) {ρ0:yY} {w0:World} (ds:List Deferred) (b:Frame) (k:List Item) (cs:List Frame) :
  ∀ (fuel t:Nat) (listed:Array Bool) (ρ:yY) (w:World) (tm:Array Value),listed.size=ops.size->((List.range ops.size).filter fun i => !listed.getD i false).length<=fuel ->
    (∀ i j,Prec ops i j->listed.getD j false=true->listed.getD i false=true)->UB P tr s0 h0 N ρ0 w0 (fun j=>listed.getD j false) ρ w tm ->
    ∃ S ρ' w' tm',(∀ r,r ∈ tr->S r.j=true)/\UB P tr s0 h0 N ρ0 w0 S ρ' w' tm' /\
      Steps P (lone (wW b tm ds (.inRegion ops (Region.linearise.go .any ops fuel t listed []) :: k)) cs w) (lone (wW b tm' ds (.inRegion ops [] :: k)) cs w'):=by
 intro fuel
 induction fuel with
 | zero=>
   intro t listed ρ w tm hsz hcount hdown I
   refine ⟨_,ρ,w,tm,?_,I,.refl P _⟩
   intro r hr
   have hnil:=OQ (Nat.le_zero.1 hcount)
   obtain ⟨A,B,e⟩:=N9 hr
   have yz:=(V.told A r B e).op
   have hlt:r.j < ops.size:=by
    rcases NZ r.j ops.size with h | h
    ·exact h
    ·rw [N3 h] at yz;cases yz
   cases hl:listed.getD r.j false with
   | true=>rfl
   | false=>
     have:r.j ∈ (List.range ops.size).filter fun i => !listed.getD i false:=O8.2 ⟨ON.2 hlt,by rw [hl];rfl⟩
     rw [hnil] at this;cases this
 | succ fuel ih=>
   intro t listed ρ w tm hsz hcount hdown I
   simp only [Region.linearise.go]
   change ∃ S ρ' w' tm',(∀ r,r ∈ tr->S r.j=true)/\UB P tr s0 h0 N ρ0 w0 S ρ' w' tm'/\Steps P (lone (wW b tm ds (.inRegion ops (match (Region.ready .any ops listed)[t % (Region.ready .any ops listed).length]? with
    | some i=>Region.linearise.go .any ops fuel (t / (Region.ready .any ops listed).length) (listed.setIfInBounds i true) [i]
    | none=>[].reverse) :: k)) cs w) _
   have getTF:∀ i,i < ops.size->listed.getD i true=listed.getD i false:=by
    intro i hi
    simp [NS,N4 (hsz ▸ hi)]
   by_cases hall:∀ r,r ∈ tr->listed.getD r.j false=true
   ·
    have hnone:Region.ready .any ops listed = []:=by
     rw [List.eq_nil_iff_forall_not_mem]
     intro i hi
     obtain ⟨h1,h2,_⟩:=Ux hi
     obtain ⟨r,hr,hrj⟩:=V.all i h1
     have:=hall r hr
     rw [hrj,<- getTF i h1,h2] at this
     cases this
    rw [hnone]
    exact ⟨_,ρ,w,tm,hall,I,.refl P _⟩
   ·
    have hex:∃ i,i ∈ Region.ready .any ops listed:=by
     have:∃ A r B,tr=A ++ r :: B/\listed.getD r.j false=false /\ ∀ x,x ∈ A->listed.getD x.j false=true:=by
      clear ih I hN V
      induction tr with
      | nil=>exact absurd (fun r hr=>by cases hr) hall
      | cons x tr iht=>
        cases hx:listed.getD x.j false with
        | false=>exact ⟨[],x,tr,rfl,hx,fun y hy=>by cases hy⟩
        | true=>
          obtain ⟨A,r,B,e,h1,h2⟩:=iht (fun h=>hall (fun r hr=>by rcases Ox.1 hr with rfl | hr;exact hx;exact h r hr))
          exact ⟨x :: A,r,B,by rw [e];rfl,h1,fun y hy=>by rcases Ox.1 hy with rfl | hy;exact hx;exact h2 y hy⟩
     obtain ⟨A,r,B,e,h1,h2⟩:=this
     have yz:=(V.told A r B e).op
     have hlt:r.j < ops.size:=by
      rcases NZ r.j ops.size with h | h
      ·exact h
      ·rw [N3 h] at yz;cases yz
     refine ⟨r.j,pW hlt (by rw [getTF _ hlt];exact h1) (fun o ho ed hed hb => ?_)⟩
     rw [yz] at ho
     cases ho
     obtain ⟨x,hx,hxe⟩:=V.X9 A r B e ed hed hb
     rw [<- hxe];exact h2 x hx
    cases hi:(Region.ready .any ops listed)[t % (Region.ready .any ops listed).length]? with
    | none=>
      obtain ⟨i,hmem⟩:=hex
      have hpos:0 < (Region.ready .any ops listed).length:=List.length_pos_of_mem hmem
      rw [NC (Nat.mod_lt _ hpos)] at hi
      cases hi
    | some i=>
      simp only []
      rw [linearise_go_acc,List.reverse_singleton,List.singleton_append]
      obtain ⟨hlt,hl,hed⟩:=Ux (NQ hi)
      obtain ⟨r,hr,hrj⟩:=V.all i hlt
      obtain ⟨A,B,e⟩:=N9 hr
      subst hrj
      have yz:=(V.told A r B e).op
      have hready:∀ q,Prec ops q r.j->listed.getD q false=true:=by
       intro q hq
       cases hq with
       | one ho he hb=>exact hed _ ho _ he hb
       | more ho he hb hp=>exact hdown _ _ hp (hed _ ho _ he hb)
      have hnot:listed.getD r.j false=false:=by rw [<- getTF _ hlt];exact hl
      obtain ⟨ρ1,w1,tm1,I1,sx⟩:=sj hro0 V hdown e hready hnot hN hNN I ds (Region.linearise.go .any ops fuel (t / (Region.ready .any ops listed).length) (listed.setIfInBounds r.j true) []) b k cs
      have hadd:(fun j=>(listed.setIfInBounds r.j true).getD j false)=uR (fun j=>listed.getD j false) r.j:=by
       funext j
       simp only [uR,NS,Oh]
       by_cases ej:r.j=j
       ·subst ej
        rw [NK rfl,NK (by omega)];simp
       ·rw [NJ ej]
        have:decide (j=r.j)=false:=OC (fun h=>ej h.symm)
        rw [this,Bool.or_false]
      rw [<- hadd] at I1
      have hcnt:((List.range ops.size).filter fun i => !(listed.setIfInBounds r.j true).getD i false).length<=fuel:=by
       have hmem:r.j ∈ (List.range ops.size).filter fun i => !listed.getD i false:=O8.2 ⟨ON.2 hlt,by rw [hnot];rfl⟩
       have hsub:(List.range ops.size).filter (fun i => !(listed.setIfInBounds r.j true).getD i false)=((List.range ops.size).filter fun i => !listed.getD i false).filter (fun i=>decide (i ≠ r.j)):=by
        rw [Pb]
        apply OV
        intro i _
        have:=congrFun hadd i
        simp only [uR] at this
        rw [this]
        by_cases ei:i=r.j <;> simp [ei]
       rw [hsub]
       have hlen:∀ (l:List Nat),r.j ∈ l->(l.filter fun i=>decide (i ≠ r.j)).length < l.length:=by
        intro l hl
        apply List.length_filter_lt_length_iff_exists.2
        exact ⟨r.j,hl,by simp⟩
       have:=hlen _ hmem
       omega
      have hdn:∀ q j,Prec ops q j->(listed.setIfInBounds r.j true).getD j false=true->(listed.setIfInBounds r.j true).getD q false=true:=by
       intro q j hq hj
       have h1:=congrFun hadd j
       have h2:=congrFun hadd q
       rw [h1] at hj
       rw [h2]
       simp only [uR,Og,N8] at hj ⊢
       rcases hj with hj | rfl
       ·exact .inl (hdown q j hq hj)
       ·exact .inl (hready q hq)
      obtain ⟨S,ρ2,w2,tm2,hS,I2,sx2⟩:=ih (t / (Region.ready .any ops listed).length) (listed.setIfInBounds r.j true) ρ1 w1 tm1 (by simpa using hsz) hcnt hdn I1
      exact ⟨S,ρ2,w2,tm2,hS,I2,sx.trans sx2⟩
theorem fQ (hmix:P.follows .mixedOrders=true) {id:Nat} {rd:Option Nat} {Q:Ex->Env->za->Prop} (V:Zs lk P ops s0 h0 tr) {sf:Env} {hf:za} (hs:∀ t,sf.get t=XO tr s0 t) (hsz:sf.size=s0.size)
  (hh:∀ b,hf.get b=ZA tr h0 b) (hro:hf.ro=h0.ro) (hn:h0.next<=hf.next) (hN:∀ x,x ∈ tr->x.g'.next<=hf.next) (hNN:hf.next=h0.next) (hq:Q .normal sf hf):T P rd (.region id ops true) s0 h0 Q:=by
 intro ρ w tm ds hr hse b hb k cs
 let w1:World:={ w with drawn:=w.drawn + 1 }
 let ρ1:yY:={ next:=hf.next,m:=fun bb=>if bb < h0.next then ρ.m bb else none }
 have hm1:∀ bb pl,bb < ρ.next->ρ.m bb=some pl->ρ1.m bb=some pl:=fun bb pl hb hm=>by
  rw [show ρ1.m bb=ρ.m bb from NK (by rw [<- hr.next];exact hb)];exact hm
 have hnil:tr.filter (fun r=>(Array.replicate ops.size false).getD r.j false) = []:=by
  rw [PB]
  intro r _ h
  simp only [NS,Pa] at h
  split at h <;> simp at h
 have I:UB P tr s0 h0 hf.next ρ w (fun j=>(Array.replicate ops.size false).getD j false) ρ1 w1 tm:=by
  refine ⟨rfl,fun bb hb=>NK hb,hse.size,?_,?_,?_,?_,rfl,rfl,rfl,NG _,fun _ _ _=>rfl,?_,hr.JO,fun bb pl hb hm=>hr.jV bb pl hb (by
   rw [show ρ1.m bb=ρ.m bb from NK (NH hb (Oc hr.JO hr.ro))] at hm;exact hm)⟩
  ·intro t
   rw [hnil]
   exact (hse.get t).ext (ρ':=ρ1.cut h0.next) (by rw [hr.next];exact NG _) hm1
  ·intro bb o hg
   rw [hnil] at hg ⊢
   have hb:=hr.Vn bb _ hg
   obtain ⟨pl,hp,hc⟩:=hr.ok bb o hg
   refine ⟨hb,pl,hm1 bb pl (by rw [hr.next];exact hb) hp,?_⟩
   exact vo.other (vo.ext (ρ:=ρ) (ρ':=ρ1.cut h0.next) (by rw [hr.next];exact NG _) hm1 hc) rfl
  ·intro b1 b2 o1 o2 p1 p2 g1 g2 m1 m2 e
   rw [hnil] at g1 g2
   have l1:=hr.Vn b1 o1 g1
   have l2:=hr.Vn b2 o2 g2
   rw [show ρ1.m b1=ρ.m b1 from NK l1] at m1
   rw [show ρ1.m b2=ρ.m b2 from NK l2] at m2
   exact hr.inj b1 b2 o1 o2 p1 p2 g1 g2 m1 m2 e
  ·intro x hx _ bb h1 h2
   obtain ⟨A,B,e⟩:=N9 hx
   have:=(V.told A x B e).n0
   exact NJ (by omega)
  ·intro bb o pl hg hro' hm hc
   rw [hnil] at hg
   have l:=hr.Vn bb o hg
   rw [show ρ1.m bb=ρ.m bb from NK l] at hm
   exact ⟨bb,o,pl,hg,hro',hm,rfl⟩
 have hcount:((List.range ops.size).filter fun i => !(Array.replicate ops.size false).getD i false).length<=ops.size:=by
  have:=List.length_filter_le (fun i => !(Array.replicate ops.size false).getD i false) (List.range ops.size)
  simpa using this
 obtain ⟨S,ρ2,w2,tm2,hS,I2,sx⟩:=D6 hr.ro V hN hNN ds b k cs ops.size (w.tape w.drawn (.order b.fn id)) (Array.replicate ops.size false) ρ1 w1 tm (by simp) hcount (fun i j _ hj=>by
  simp only [NS,Pa] at hj
  split at hj <;> simp at hj) I
 have hfull:tr.filter (fun r=>S r.j)=tr:=List.filter_eq_self.2 hS
 have lastn:∀ (p:yr->Bool) x,wO tr p=some x->x.g'.next<=hf.next:=fun p x hx=>hN x (ZX hx).1
 have hcut:ρ2=ρ2.cut hf.next:=by have:=I2.next;cases ρ2;simp only at this;subst this;rfl
 have hrel:Rel P ρ2 hf w2:=by
  refine ⟨I2.next,by rw [hro];exact Oc hr.ro hn,?_,?_,?_,by rw [hro];exact hr.JO,I2.gl⟩
  ·intro bb o hg
   rw [hh] at hg
   have:=(I2.heap bb o (by rw [hfull];exact hg)).1
   rw [hfull] at this
   refine NH this ?_
   simp only [JP]
   split
   ·rename_i x hx;exact lastn _ x hx
   ·exact hn
  ·intro bb o hg
   rw [hh] at hg
   obtain ⟨_,pl,hp,hc⟩:=I2.heap bb o (by rw [hfull];exact hg)
   refine ⟨pl,hp,?_⟩
   rw [hro]
   rw [hfull] at hc
   rw [hcut]
   refine vo.VN ?_ hc
   simp only [JP]
   split
   ·rename_i x hx;exact lastn _ x hx
   ·exact hn
  ·intro b1 b2 o1 o2 p1 p2 g1 g2
   rw [hh] at g1 g2
   exact I2.inj b1 b2 o1 o2 p1 p2 (by rw [hfull];exact g1) (by rw [hfull];exact g2)
 refine ⟨.normal,sf,hf,ρ2,w2,tm2,ds,hq,⟨⟨by rw [I2.next,hr.next];exact hn,fun bb hb=>I2.old bb (by rw [<- hr.next];exact hb)⟩,hrel,hro,I2.os,I2.tape,I2.output,I2.Qd,I2.frame,?_⟩,⟨hsz.trans I2.size,fun t => ?_⟩,.refl _ _ _,?_⟩
 ·rintro c hc ⟨bb,o,pl,hg,hrb,hm,rfl⟩
  rw [hh] at hg
  exact I2.bt bb o pl (by rw [hfull];exact hg) (by rw [<- hro];exact hrb) hm hc
 ·have:=I2.env t
  rw [hfull] at this
  rw [hs t]
  rw [hcut]
  refine zD.VN ?_ this
  simp only [KX]
  split
  ·rename_i x hx;exact lastn _ x hx
  ·exact hn
 ·refine .head Xz ?_
  have:Region.schedule (P.follows .mixedOrders) ops (w.tape w.drawn (.order b.fn id))=Region.linearise .any ops (w.tape w.drawn (.order b.fn id)):=by
   simp only [Region.schedule,hmix,Bool.true_or,N5]
  rw [this]
  exact sx.trans (.one ZV)
end
end
end
noncomputable section
variable {P:Program}
def mn:Nat->Nat
 | 2=>1
 | 3=>6
 | 4=>2
 | _=>3
def mu (d:Nat):List Oper->Nat->Option Nat
 | [],_=>none
 | o :: os,i=>(match o.op with
   | .buildSlice _ _ _=>(match o.dst with
     | some e=>cond (Nat.beq e d) (some i) (mu d os (i + 1))
     | none=>mu d os (i + 1))
   | _=>mu d os (i + 1))
def ta (ops:Array Oper) (o:Oper):Option Nat:=match o.op with
 | .call { callee := .builtin .append,args,.. }=>(match args.toList with
   | .tmp d :: _=>mu d ops.toList 0
   | _=>none)
 | _=>none
def pK (P:Program) (s d:TypeId):Bool:=(match zT P (underlying s),zT P (underlying d) with | some (.int _),some (.int _)=>true | _,_=>false) && (match P.underlying s,P.underlying d with | some (.int _),some (.int _)=>true | _,_=>false)
def yn (P:Program) (q:FuncId->Nat) (ops:Array Oper) (o:Oper):Nat:=match o.op with
 | .call { callee := .value (.func g),.. }=>mn (q g)
 | .call { callee := .value _,.. }=>3
 | .call { callee := .builtin .append,.. }=>(match ta ops o with | some _=>4 | none=>3)
 | .call { callee := .builtin b,.. }=>cond (Yp b) 1 3
 | .move _ | .assign _ | .pick _ _ _ | .build _ _ | .nilCheck _ | .binOp _ _ _ _ _ | .unOp _ _ _ | .makeInterface _ _ | .makeFunc _ _ _ | .fieldAddr _ _ _ | .field _ _ _ | .indexAddr _ _ _ | .index _ _ _ | .extract _ _=>0
 | .load _ _ | .lookup _ _ _ _ | .slice _ _ _ _ _ | .entry _=>1
 | .box _ _ | .alloc _ | .buildSlice _ _ _ | .makeSlice _ _ _ | .makeMap _ _=>5
 | .convert a b _=>cond (pK P a b) 0 2
 | .range _ _=>2
 | _=>3
def sC (k:Nat):Bool:=Nat.beq k 1 || Nat.beq k 4 || Nat.beq k 6
def Zm (k:Nat):Bool:=Nat.beq k 2 || Nat.beq k 4 || Nat.beq k 5 || Nat.beq k 6
def EM (x:Nat × Nat × Option Nat × Nat) (ky:Nat) (zy:Option Nat) (my:Nat):Bool :=
 Nat.beq x.2.1 0 || Nat.beq ky 0 ||
 (!(Nat.beq x.2.1 3) && !(Nat.beq ky 3) && (!(Nat.beq ky 2) || Nat.beq x.2.1 1) &&
  (!(Nat.beq x.2.1 4) || Nat.beq ky 5 || (match x.2.2.1 with | some z => !(my.testBit z) && (match zy with | some w => !(Nat.beq z w) | none=>true) | none=>false)) &&
  (!(Nat.beq ky 4) || Nat.beq x.2.1 5 || (sC x.2.1 && (match zy with | some w => !(x.2.2.2.testBit w) | none=>false))))
def bQ (P:Program) (q:FuncId->Nat) (ops:Array Oper):List Oper->List Nat->List (Nat × Nat × Option Nat × Nat)->Bool
 | [],_,_=>true
 | o :: os,ms,prev=>(prev.all fun x=>(yN ms o).testBit x.1 || EM x (yn P q ops o) (ta ops o) (yN ms o)) && (match ta ops o with | some z=>(yN ms o).testBit z | none=>true) &&
     bQ P q ops os (ms ++ [yN ms o]) ((ms.length,yn P q ops o,ta ops o,yN ms o) :: prev)
def iA (P:Program) (q:FuncId->Nat) (ops:Array Oper):Bool:=ZD ops ops.toList 0 [] [] && bQ P q ops ops.toList [] []
def cut (h:za) (n m:Nat):za:=h.Vq (List.range' n (m - n))
@[simp] theorem L5 (h:za) (n m:Nat):(cut h n m).next=h.next:=rfl
@[simp] theorem M3 (h:za) (n m:Nat):(cut h n m).ro=h.ro:=rfl
theorem mh (h:za) (n m b:Nat):(cut h n m).get b=if n<=b/\b < m then none else h.get b:=by
 unfold cut;rw [Zy];simp only [kN]
theorem kC {h:za} {n m b:Nat} (hb:b < n):(cut h n m).get b=h.get b:=by rw [mh,NJ (by omega)]
def uE (m:Nat):List (Nat × Nat × Nat)->za->za
 | [],h=>h
 | x :: l,h=>cond (m.testBit x.1) (uE m l h) (uE m l (cut h x.2.1 x.2.2))
def ra (m:Nat) (al:List (Nat × Nat × Nat)) (b:Nat):Bool:=al.all fun x=>m.testBit x.1 || !(Nat.ble x.2.1 b && Nat.blt b x.2.2)
theorem jl (m:Nat):∀ (al:List (Nat × Nat × Nat)) (h:za),(uE m al h).next=h.next/\(uE m al h).ro=h.ro /\ ∀ b,(uE m al h).get b=if ra m al b=true then h.get b else none
 | [],h=>⟨rfl,rfl,fun b=>rfl⟩
 | x :: l,h=>by
   unfold uE
   cases hb:m.testBit x.1 with
   | true=>
     obtain ⟨a1,a2,a3⟩:=jl m l h
     refine ⟨a1,a2,fun b => ?_⟩
     rw [NR,a3]
     unfold ra
     rw [Pe,hb,Bool.true_or,OX]
   | false=>
     obtain ⟨a1,a2,a3⟩:=jl m l (cut h x.2.1 x.2.2)
     refine ⟨a1,a2,fun b => ?_⟩
     rw [N1,a3]
     unfold ra
     rw [Pe,hb,Bool.false_or,mh]
     by_cases hc:x.2.1<=b/\b < x.2.2
     ·have e:(Nat.ble x.2.1 b && Nat.blt b x.2.2)=true:=by
       rw [ND,Po,Of];exact hc
      rw [e,Bool.not_true,Bool.false_and,NK hc]
      split <;> simp
     ·have e:(Nat.ble x.2.1 b && Nat.blt b x.2.2)=false:=by
       cases he:(Nat.ble x.2.1 b && Nat.blt b x.2.2) with
       | false=>rfl
       | true=>rw [ND,Po,Of] at he;exact absurd he hc
      rw [e,Ps,OX,NJ hc]
def mc (z:Nat):List (Nat × Nat × Nat)->Option (Nat × Nat)
 | []=>none
 | x :: l=>cond (Nat.beq x.1 z) (some x.2) (mc z l)
theorem e9 {z:Nat}:∀ {al:List (Nat × Nat × Nat)} {f t:Nat},mc z al=some (f,t)->(z,f,t) ∈ al
 | [],_,_,h=>by cases h
 | x :: l,f,t,h=>by
   unfold mc at h
   cases hb:Nat.beq x.1 z with
   | true=>
     rw [hb] at h
     have e:=NL hb
     obtain ⟨p,f',t'⟩:=x
     cases h
     simp only at e
     subst e
     simp
   | false=>
     rw [hb] at h
     exact OD _ (e9 h)
def qG (P:Program) (g:FuncId) (args:List Value) (hv h:za) (K:Value->za->Prop):Prop :=
 vL P g=true/\yB args=true /\ ∃ v h2,TC P g args hv.lock (fun v1 h1=>v1=v/\h1=h2)/\AF hv.lock h2/\K v (wU h h2)
def Mc (s:Value) (f t:Nat) (hv:za):Prop:=match s with
 | .slice (some a) _ _=>f<=a.block/\a.block < t/\hv.get a.block ≠ none
 | _=>True
def Wg (h:za) (s:Value) (h':za):za:=match s with
 | .slice (some a) _ _=>h.set a.block (h'.get a.block)
 | _=>h
def WQ (P:Program) (ts:List TypeId) (r:TypeId) (vs:List Value) (zr:Option (Nat × Nat)) (hv h:za) (K:Value->za->Prop):Prop:=match zr,vs with
 | some x,s :: _=>Mc s x.1 x.2 hv/\zB (nb vs (zg P .append ts r vs hv)) fun v h'=>K v (wU (Wg h s h') h')
 | _,_=>False
def Cw (P:Program) (q:FuncId->Nat) (ops:Array Oper) (s:Env) (o:Oper) (al:List (Nat × Nat × Nat)) (hv h:za) (K:Value->za->Prop):Prop:=match o.op with
 | .call { callee := .value (.func g),args,argTypes }=>(match q g with
   | 2=>uj P g (Jm s args.toList) hv fun v=>K v h
   | 3=>qG P g (Jm s args.toList) hv h K
   | 4=>G8 P g (Jm s args.toList) h K
   | _=>DU P g (Jm s args.toList) h K)
 | .call { callee := .value f,args,argTypes }=>JF P (ev s f) (Jm s args.toList) h K
 | .call { callee := .builtin .append,args,argTypes }=>(match ta ops o with
   | some z=>WQ P argTypes.toList o.type (Jm s args.toList) (mc z al) hv h K
   | none=>EJ P s o h K)
 | _=>Hl (Nat.beq (yn P q ops o) 1) (EJ P s o hv fun v _=>K v h) (EJ P s o h K)
def ry (P:Program) (q:FuncId->Nat) (ops:Array Oper):List Oper->Nat->List Nat->List (Nat × Nat × Nat)->Env->za->(Env->za->Prop)->Prop
 | [],_,_,_,s,h,K=>K s h
 | o :: os,i,ms,al,s,h,K=>(match o.guard with
   | none=>Cw P q ops s o al (uE (yN ms o) al h) h fun v h1=>(match s.put o.dst v with
     | some s1=>ry P q ops os (i + 1) (ms ++ [yN ms o]) (cond (Zm (yn P q ops o)) (al ++ [(i,h.next,h1.next)]) al) s1 h1 K
     | none=>False)
   | some (j,want)=>(match (ops[j]?).bind (·.dst) with
     | none=>False
     | some d=>GD (s.get d) want (Cw P q ops s o al (uE (yN ms o) al h) h) (fun v h1=>(match s.put o.dst v with
       | some s1=>ry P q ops os (i + 1) (ms ++ [yN ms o]) (cond (Zm (yn P q ops o)) (al ++ [(i,h.next,h1.next)]) al) s1 h1 K
       | none=>False)) h))
def oV (P:Program) (q:FuncId->Nat) (ops:Array Oper) (s:Env) (h:za) (K:Env->za->Prop):Prop:=Hl (iA P q ops) (ry P q ops ops.toList 0 [] [] s h K) False
end
noncomputable section
variable {P:Program}
structure RV (P:Program) (q:FuncId->Nat) (ops:Array Oper) (A:List yr) (m:Nat) (x:yr):Prop where
 rd:∀ b,x.rd b=true->b < x.g.next
 k0:yn P q ops x.o=0\/yn P q ops x.o=5->∀ b,x.rd b=false
 k1:yn P q ops x.o<=1->∀ b,x.tc b=false
 lk:sC (yn P q ops x.o)=true->∀ b,x.rd b=true->∀ z,z ∈ A->Zm (yn P q ops z.o)=true->m.testBit z.j=false->¬ (z.g.next<=b/\b < z.g'.next)
 tc:yn P q ops x.o ≠ 3->∀ b,x.tc b=true->(x.g.next<=b/\b < x.g'.next)\/(yn P q ops x.o=4 /\ ∃ z,z ∈ A/\Zm (yn P q ops z.o)=true/\ta ops x.o=some z.j/\z.g.next<=b/\b < z.g'.next)
structure UI (P:Program) (q:FuncId->Nat) (ops:Array Oper) (s0:Env) (h0:za) (A:List yr) (i:Nat) (o:Oper) (s:Env) (h:za) (u:Value) (h1:za) (m:Nat) (y:yr):Prop where
 hj:y.j=i
 yz:y.o=o
 Nm:y.s=s
 Ef:y.v=u
 gn:y.g.next=h.next
 told:Told P ops s0 h0 A y
 rv:RV P q ops A m y
 heap:∀ b,h1.get b=if y.tc b=true then y.g'.get b else h.get b
 ro:h1.ro=h.ro
 next:h.next<=h1.next
 Ee:y.g'.next<=h1.next
 geq:Zm (yn P q ops o)=true->y.g'.next=h1.next
 wf:WF h1
def ZT (P:Program) (q:FuncId->Nat) (ops:Array Oper):List yr->List (Nat × Nat × Nat)
 | []=>[]
 | x :: l=>cond (Zm (yn P q ops x.o)) ((x.j,x.g.next,x.g'.next) :: ZT P q ops l) (ZT P q ops l)
theorem DB (P:Program) (q:FuncId->Nat) (ops:Array Oper) (A:List yr) (y:yr):ZT P q ops (A ++ [y])=cond (Zm (yn P q ops y.o)) (ZT P q ops A ++ [(y.j,y.g.next,y.g'.next)]) (ZT P q ops A):=by
 induction A with
 | nil=>simp only [Pk,ZT]
 | cons x A ih=>
   simp only [List.cons_append,ZT,ih]
   cases Zm (yn P q ops x.o) <;> cases Zm (yn P q ops y.o) <;> rfl
theorem F6 {q:FuncId->Nat} {ops:Array Oper} {A:List yr} {z:Nat × Nat × Nat} (h:z ∈ ZT P q ops A):∃ x,x ∈ A/\Zm (yn P q ops x.o)=true/\z=(x.j,x.g.next,x.g'.next):=by
 induction A with
 | nil=>cases h
 | cons x A ih=>
   simp only [ZT] at h
   cases hb:Zm (yn P q ops x.o) with
   | true=>
     rw [hb] at h
     rcases Ox.1 h with e | h
     ·exact ⟨x,by simp,hb,e⟩
     ·obtain ⟨x',h1,h2⟩:=ih h;exact ⟨x',by simp [h1],h2⟩
   | false=>rw [hb] at h;obtain ⟨x',h1,h2⟩:=ih h;exact ⟨x',by simp [h1],h2⟩
theorem Fs {q:FuncId->Nat} {ops:Array Oper} {A:List yr} {x:yr} (h:x ∈ A) (hl:Zm (yn P q ops x.o)=true):(x.j,x.g.next,x.g'.next) ∈ ZT P q ops A:=by
 induction A with
 | nil=>cases h
 | cons z A ih=>
   simp only [ZT]
   rcases Ox.1 h with rfl | h
   ·rw [hl];simp
   ·cases Zm (yn P q ops z.o) with
    | true=>simp [ih h]
    | false=>exact ih h
section
variable {q:FuncId->Nat} {ops:Array Oper} {s0:Env} {h0:za} {A:List yr} {i:Nat} {o:Oper} {s:Env} {h:za}
theorem Q1 {h:za} (w:WF h) {b:Nat} (hb:¬ b < h.next):h.get b=none:=by
 cases hh:h.get b with | none=>rfl | some o'=>exact absurd (w b o' hh) hb
def bp (m:Nat) (al:List (Nat × Nat × Nat)) (h:za) (b:Nat):Bool:=Nat.blt b h.next && ra m al b
theorem l8 {m:Nat} {al:List (Nat × Nat × Nat)} {b:Nat} (hb:bp m al h b=true):b < h.next:=by
 unfold bp at hb
 rw [ND,Of] at hb
 exact hb.1
theorem eJ {m:Nat} {b:Nat} (hb:bp m (ZT P q ops A) h b=true) {z:yr} (hz:z ∈ A) (hl:Zm (yn P q ops z.o)=true) (hm:m.testBit z.j=false):¬ (z.g.next<=b/\b < z.g'.next):=by
 unfold bp ra at hb
 rw [ND,NY] at hb
 have:=hb.2 _ (Fs hz hl)
 simp only [hm,Bool.false_or,NN] at this
 intro e
 have t:(Nat.ble z.g.next b && Nat.blt b z.g'.next)=true:=by rw [ND,Po,Of];exact e
 rw [t] at this
 cases this
theorem J9 {m:Nat} (F:ud P ops s0 h0 A i s h) (b:Nat):(uE m (ZT P q ops A) h).get b=if bp m (ZT P q ops A) h b=true then ZA A h0 b else none:=by
 rw [(jl m (ZT P q ops A) h).2.2 b]
 unfold bp
 by_cases hb:b < h.next
 ·rw [show Nat.blt b h.next=true by rw [Of];exact hb,OX,F.heap]
 ·have e:Nat.blt b h.next=false:=by
   cases e:Nat.blt b h.next with
   | false=>rfl
   | true=>rw [Of] at e;exact absurd e hb
  rw [e,Bool.false_and,Q1 F.wf hb]
  simp
theorem QQ (F:ud P ops s0 h0 A i s h) (ho:ops[i]? = some o) (hput:∀ d,o.dst=some d->d < s.size) {u:Value} (hs:kP P ops s o (h.pick []) u (h.pick [])) (m:Nat):∃ y,UI P q ops s0 h0 A i o s h u h m y:=by
 refine ⟨⟨i,o,u,s,h.pick [],h.pick [],fun _=>false,fun _=>false⟩,rfl,rfl,rfl,rfl,rfl,
  ⟨ho,F.env,F.size,fun b=>by rw [uk];simp,F.ro,F.next,F.nA,NG _,hs,fun d hd=>by rw [<- F.size];exact hput d hd,fun b hb=>(by cases hb),fun b _=>rfl,fun b o' hb=>(by cases hb)⟩,
  ⟨fun b hb=>(by cases hb),fun _ _=>rfl,fun _ _=>rfl,fun _ b hb=>(by cases hb),fun _ b hb=>(by cases hb)⟩,fun b=>by simp,rfl,NG _,NG _,fun _=>rfl,F.wf⟩
theorem Ct (F:ud P ops s0 h0 A i s h) (ho:ops[i]? = some o) (hput:∀ d,o.dst=some d->d < s.size) (hk:yn P q ops o=5) {u:Value} {ob:wi} (hs:kP P ops s o (h.pick []) u ((h.pick []).push ob)) (m:Nat):∃ y,UI P q ops s0 h0 A i o s h u (h.push ob) m y:=by
 have hp:(h.pick []).next=h.next:=rfl
 have htc:∀ b,(decide (b=h.next)=true) ↔ b=h.next:=fun b=>by simp
 refine ⟨⟨i,o,u,s,h.pick [],(h.pick []).push ob,fun _=>false,fun b=>decide (b=h.next)⟩,rfl,rfl,rfl,rfl,rfl,
  ⟨ho,F.env,F.size,fun b=>by rw [uk];simp,F.ro,F.next,F.nA,OP _,hs,fun d hd=>by rw [<- F.size];exact hput d hd,fun b hb => ?_,fun b hb => ?_,fun b o' hb hlt => ?_⟩,
  ⟨fun b hb=>(by cases hb),fun _ _=>rfl,fun h => ?_,fun _ b hb=>(by cases hb),fun _ b hb => ?_⟩,fun b => ?_,rfl,OP _,NG _,fun _=>rfl,fun b o' hb => ?_⟩
 ·refine .inr ?_
  have:=(htc b).1 hb
  show h.next<=b/\b < h.next + 1
  omega
 ·have hb:decide (b=h.next)=false:=hb
  have hne:b ≠ h.next:=fun e=>by rw [(htc b).2 e] at hb;cases hb
  rw [za.wT,NJ (by rw [hp];exact hne)]
 ·have e1:=(htc b).1 hb
  have e2:b < h.next:=hlt
  omega
 ·simp only at h;omega
 ·have:=(htc b).1 hb
  refine .inl ?_
  show h.next<=b/\b < h.next + 1
  omega
 ·show (h.push ob).get b=if decide (b=h.next)=true then ((h.pick []).push ob).get b else h.get b
  rw [za.wT,za.wT,hp]
  by_cases e:b=h.next
  ·rw [NK e,NK ((htc b).2 e),NK e]
  ·rw [NJ e,NJ (fun t=>e ((htc b).1 t))]
 ·rw [za.wT] at hb
  rw [za.Uu]
  split at hb
  ·rename_i e;omega
  ·exact O1 (F.wf b o' hb)
theorem fj (F:ud P ops s0 h0 A i s h) (ho:ops[i]? = some o) (hput:∀ d,o.dst=some d->d < s.size) (hk:yn P q ops o=1) {m:Nat} {u:Value} (hs:kP P ops s o (uE m (ZT P q ops A) h) u (uE m (ZT P q ops A) h)):∃ y,UI P q ops s0 h0 A i o s h u h m y:=by
 obtain ⟨v1,v2,v3⟩:=jl m (ZT P q ops A) h
 refine ⟨⟨i,o,u,s,uE m (ZT P q ops A) h,uE m (ZT P q ops A) h,bp m (ZT P q ops A) h,fun _=>false⟩,rfl,rfl,rfl,rfl,v1,
  ⟨ho,F.env,F.size,J9 F,v2.trans F.ro,by rw [v1];exact F.next,fun x hx=>by rw [v1];exact F.nA x hx,NG _,hs,fun d hd=>by rw [<- F.size];exact hput d hd,fun b hb=>(by cases hb),fun b _=>rfl,fun b o' hb=>(by cases hb)⟩,
  ⟨fun b hb=>by show b < (uE m (ZT P q ops A) h).next;rw [v1];exact l8 hb,fun e=>by simp only at e;omega,fun _ _=>rfl,fun _ b hb z hz hl hm=>eJ hb hz hl hm,fun _ b hb=>(by cases hb)⟩,fun b=>by simp,rfl,NG _,by rw [v1];exact NG _,fun e=>(by rw [hk] at e;cases e),F.wf⟩
theorem sD (F:ud P ops s0 h0 A i s h) (ho:ops[i]? = some o) (hput:∀ d,o.dst=some d->d < s.size) (hk:yn P q ops o=6) {m:Nat} {h2:za} (hn:h.next<=h2.next) {u:Value} (hs:kP P ops s o (uE m (ZT P q ops A) h) u (wU (uE m (ZT P q ops A) h) h2)):∃ y,UI P q ops s0 h0 A i o s h u (wU h h2) m y:=by
 obtain ⟨v1,v2,v3⟩:=jl m (ZT P q ops A) h
 have htc:∀ b,(decide (h.next<=b/\b < h2.next)=true) ↔ (h.next<=b/\b < h2.next):=fun b=>by simp
 refine ⟨⟨i,o,u,s,uE m (ZT P q ops A) h,wU (uE m (ZT P q ops A) h) h2,bp m (ZT P q ops A) h,fun b=>decide (h.next<=b/\b < h2.next)⟩,rfl,rfl,rfl,rfl,v1,
  ⟨ho,F.env,F.size,J9 F,v2.trans F.ro,by rw [v1];exact F.next,fun x hx=>by rw [v1];exact F.nA x hx,by show (uE m (ZT P q ops A) h).next<=h2.next;rw [v1];exact hn,hs,fun d hd=>by rw [<- F.size];exact hput d hd,fun b hb => ?_,fun b hb => ?_,fun b o' hb hlt => ?_⟩,
  ⟨fun b hb=>by show b < (uE m (ZT P q ops A) h).next;rw [v1];exact l8 hb,fun e=>by simp only at e;omega,fun e=>by simp only at e;omega,fun _ b hb z hz hl hm=>eJ hb hz hl hm,fun _ b hb => ?_⟩,fun b => ?_,rfl,hn,NG _,fun _=>rfl,fun b o' hb => ?_⟩
 ·refine .inr ?_
  have:=(htc b).1 hb
  show (uE m (ZT P q ops A) h).next<=b/\b < h2.next
  rw [v1];exact this
 ·have hb:decide (h.next<=b/\b < h2.next)=false:=hb
  rw [x7,v1,NJ (fun e=>by rw [(htc b).2 e] at hb;cases hb)]
 ·have:=(htc b).1 hb
  have hlt:b < (uE m (ZT P q ops A) h).next:=hlt
  rw [v1] at hlt
  omega
 ·refine .inl ?_
  show (uE m (ZT P q ops A) h).next<=b/\b < h2.next
  rw [v1];exact (htc b).1 hb
 ·show (wU h h2).get b=if decide (h.next<=b/\b < h2.next)=true then (wU (uE m (ZT P q ops A) h) h2).get b else h.get b
  rw [x7,x7,v1]
  by_cases e:h.next<=b/\b < h2.next
  ·rw [NK e,NK ((htc b).2 e),NK e]
  ·rw [NJ e,NJ (fun t=>e ((htc b).1 t))]
 ·show b < h2.next
  rw [x7] at hb
  split at hb
  ·rename_i e;exact e.2
  ·exact NH (F.wf b o' hb) hn
theorem ba (F:ud P ops s0 h0 A i s h) (ho:ops[i]? = some o) (hput:∀ d,o.dst=some d->d < s.size) (hk:yn P q ops o=2) {h1:za} (hn:h.next<=h1.next) (hro:h1.ro=h.ro) (hold:∀ b,¬ (h.next<=b/\b < h1.next)->h1.get b=h.get b)
  {u:Value} (hs:kP P ops s o h u h1) (m:Nat):∃ y,UI P q ops s0 h0 A i o s h u h1 m y:=by
 have hrd:∀ b,(Nat.blt b h.next=true) ↔ b < h.next:=fun b=>by rw [Of]
 have htc:∀ b,(decide (h.next<=b/\b < h1.next)=true) ↔ (h.next<=b/\b < h1.next):=fun b=>by simp
 refine ⟨⟨i,o,u,s,h,h1,fun b=>Nat.blt b h.next,fun b=>decide (h.next<=b/\b < h1.next)⟩,rfl,rfl,rfl,rfl,rfl,
  ⟨ho,F.env,F.size,fun b => ?_,F.ro,F.next,F.nA,hn,hs,fun d hd=>by rw [<- F.size];exact hput d hd,fun b hb => .inr ((htc b).1 hb),fun b hb => ?_,fun b o' hb hlt => ?_⟩,
  ⟨fun b hb=>(hrd b).1 hb,fun h=>by simp only at h;omega,fun h=>by simp only at h;omega,fun h=>(by simp only [hk] at h;cases h),fun _ b hb => .inl ((htc b).1 hb)⟩,fun b => ?_,hro,hn,NG _,fun _=>rfl,fun b o' hb => ?_⟩
 ·show h.get b=if Nat.blt b h.next=true then ZA A h0 b else none
  by_cases hb:b < h.next
  ·rw [NK ((hrd b).2 hb),F.heap]
  ·rw [NJ (fun e=>hb ((hrd b).1 e)),Q1 F.wf hb]
 ·refine hold b (fun e => ?_)
  have:=(htc b).2 e
  rw [show decide (h.next<=b/\b < h1.next)=false from hb] at this
  cases this
 ·have:=((htc b).1 hb).1
  have hlt:b < h.next:=hlt
  omega
 ·show h1.get b=if decide (h.next<=b/\b < h1.next)=true then h1.get b else h.get b
  by_cases hb:h.next<=b/\b < h1.next
  ·rw [NK ((htc b).2 hb)]
  ·rw [NJ (fun e=>hb ((htc b).1 e)),hold b hb]
 ·by_cases hc:h.next<=b/\b < h1.next
  ·exact hc.2
  ·rw [hold b hc] at hb
   exact NH (F.wf b o' hb) hn
theorem XE (F:ud P ops s0 h0 A i s h) (ho:ops[i]? = some o) (hput:∀ d,o.dst=some d->d < s.size) (hk:yn P q ops o=3) {h1:za} (af:AF h h1)
  {u:Value} (hs:kP P ops s o h u h1) (m:Nat):∃ y,UI P q ops s0 h0 A i o s h u h1 m y:=by
 have hrd:∀ n b,(Nat.blt b n=true) ↔ b < n:=fun n b=>by rw [Of]
 have hn:h.next<=h1.next:=af.next
 have hwf:WF h1:=F.wf.af af
 refine ⟨⟨i,o,u,s,h,h1,fun b=>Nat.blt b h.next,fun b=>Nat.blt b h1.next⟩,rfl,rfl,rfl,rfl,rfl,
  ⟨ho,F.env,F.size,fun b => ?_,F.ro,F.next,F.nA,hn,hs,fun d hd=>by rw [<- F.size];exact hput d hd,fun b hb => ?_,fun b hb => ?_,fun b o' hb hlt hg => ?_⟩,
  ⟨fun b hb=>(hrd _ b).1 hb,fun h=>by simp only at h;omega,fun h=>by simp only at h;omega,fun h=>(by simp only [hk] at h;cases h),fun h=>by exact absurd hk h⟩,fun b => ?_,af.ro,hn,NG _,fun _=>rfl,hwf⟩
 ·show h.get b=if Nat.blt b h.next=true then ZA A h0 b else none
  by_cases hb:b < h.next
  ·rw [NK ((hrd _ b).2 hb),F.heap]
  ·rw [NJ (fun e=>hb ((hrd _ b).1 e)),Q1 F.wf hb]
 ·have hb:=(hrd _ b).1 hb
  by_cases hlt:b < h.next
  ·exact .inl ((hrd _ b).2 hlt)
  ·exact .inr ⟨Px hlt,hb⟩
 ·have hb':¬ b < h1.next:=fun e=>by
   have:=(hrd h1.next b).2 e
   rw [show Nat.blt b h1.next=false from hb] at this
   cases this
  show h1.get b=h.get b
  rw [Q1 hwf hb',Q1 F.wf (by omega)]
 ·rcases af.alive b o' hg with h2 | ⟨h2,_⟩
  ·exact h2
  ·have hlt:b < h.next:=hlt
   omega
 ·show h1.get b=if Nat.blt b h1.next=true then h1.get b else h.get b
  by_cases hb:b < h1.next
  ·rw [NK ((hrd _ b).2 hb)]
  ·rw [NJ (fun e=>hb ((hrd _ b).1 e)),Q1 hwf hb,Q1 F.wf (by omega)]
structure td (g:za) (v:Value) (g':za):Prop where
 next:g.next<=g'.next
 ro:g'.ro=g.ro
 same:∀ b,¬ (g.next<=b/\b < g'.next)->(∀ a n c,v = .slice (some a) n c->b ≠ a.block)->g'.get b=g.get b
 gone:∀ b o,b < g.next->g'.get b=some o->g.get b ≠ none
 wf:WF g->WF g'
theorem dY {g:za} {v:Value}:td g v g:=⟨NG _,rfl,fun _ _ _=>rfl,fun b o _ h=>by rw [h];simp,id⟩
theorem Hv {elem:TypeId} {ti:TypeInfo} {n:Nat} {new:List Value} {s u:Value} {g g':za} (he:X3 g elem ti n new s=some (u,g')):td g s g':=by
 unfold X3 at he
 split at he
 ·cases h0:Nat.beq n 0 with
  | true=>rw [h0] at he;simp only [NR,Nz,NB] at he;obtain ⟨_,rfl⟩:=he;exact dY
  | false=>
    rw [h0] at he
    obtain ⟨_,he⟩:=zn he
    simp only [Nz,NB] at he
    obtain ⟨_,rfl⟩:=he
    refine ⟨OP _,rfl,fun b hb _ => ?_,fun b o hb hg => ?_,fun w b o hb => ?_⟩
    ·rw [za.wT,NJ (fun e=>hb ⟨by omega,by rw [za.Uu];omega⟩)]
    ·rw [za.wT,NJ (by omega)] at hg;rw [hg];simp
    ·rw [za.wT] at hb
     rw [za.Uu]
     split at hb
     ·omega
     ·exact O1 (w b o hb)
 ·rename_i b0 off len c
  cases h0:Nat.beq n 0 with
  | true=>rw [h0] at he;simp only [NR,Nz,NB] at he;obtain ⟨_,rfl⟩:=he;exact dY
  | false=>
    rw [h0] at he
    simp only [N1] at he
    split at he
    ·rename_i cs t hg0
     obtain ⟨_,he⟩:=zn he
     simp only [Nz,NB] at he
     obtain ⟨_,rfl⟩:=he
     have key:∀ b o,((g.set b0 none).push o).get b=if b=g.next then some o else if b=b0 then none else g.get b:=fun b o=>by
      rw [za.wT,za.yj];rfl
     refine ⟨OP _,rfl,fun b hb hne => ?_,fun b o hb hg => ?_,fun w b o hb => ?_⟩
     ·rw [key,NJ (fun e=>hb ⟨by omega,by show b < g.next + 1;omega⟩),NJ (hne _ _ _ rfl)]
     ·rw [key,NJ (by omega)] at hg
      split at hg
      ·cases hg
      ·rw [hg];simp
     ·rw [key] at hb
      show b < g.next + 1
      split at hb
      ·omega
      ·split at hb
       ·cases hb
       ·exact O1 (w b o hb)
    ·cases he
 ·cases he
theorem DI {ts:List TypeId} {r:TypeId} {s u:Value} {vs':List Value} {g g':za} (he:zg P .append ts r (s :: vs') g=some (u,g')):td g s g':=by
 match ts,vs',he with
 | [sT,xT],[x],he=>
   have he:Xu P sT xT s x g=some (u,g'):=he
   unfold Xu at he
   split at he
   ·split at he
    ·split at he
     ·obtain ⟨_,he⟩:=zn he
      exact Hv he
     ·cases he
    ·cases he
   ·cases he
 | [],_,he=>cases he
 | [_],_,he=>cases he
 | _ :: _ :: _ :: _,_,he=>cases he
 | [_,_],[],he=>cases he
 | [_,_],_ :: _ :: _,he=>cases he
end
end
noncomputable section
variable {P:Program}
section
variable {q:FuncId->Nat} {ops:Array Oper} {s0:Env} {h0:za} {A:List yr} {i:Nat} {o:Oper} {s:Env} {h:za}
theorem eT (h:za) (v:Value) (h':za) (b:Nat):(Wg h v h').get b=h.get b\/((∃ a n c,v = .slice (some a) n c/\b=a.block)/\(Wg h v h').get b=h'.get b):=by
 unfold Wg
 split
 ·rename_i a n c
  rw [za.yj]
  by_cases e:b=a.block
  ·rw [NK e];exact .inr ⟨⟨a,n,c,rfl,e⟩,by rw [e]⟩
  ·rw [NJ e];exact .inl rfl
 ·exact .inl rfl
theorem We (h:za) (v:Value) (h':za):(Wg h v h').next=h.next:=by unfold Wg;split <;> rfl
theorem bS (h:za) (v:Value) (h':za):(Wg h v h').ro=h.ro:=by unfold Wg;split <;> rfl
def iw (v:Value) (b:Nat):Bool:=match v with
 | .slice (some a) _ _=>Nat.beq a.block b
 | _=>false
theorem B3 {v:Value} {b:Nat}:iw v b=true ↔ ∃ a n c,v = .slice (some a) n c/\b=a.block:=by
 unfold iw
 split
 ·rename_i a n c
  rw [PF]
  constructor
  ·intro e;exact ⟨a,n,c,rfl,e.symm⟩
  ·rintro ⟨a',n',c',e1,e2⟩;cases e1;exact e2.symm
 ·rename_i hn
  constructor
  ·intro e;cases e
  ·rintro ⟨a',n',c',e1,e2⟩;exact absurd e1 (hn a' n' c')
theorem Cs (F:ud P ops s0 h0 A i s h) (ho:ops[i]? = some o) (hput:∀ d,o.dst=some d->d < s.size) (hk:yn P q ops o=4) {m:Nat} {v u:Value} {g':za} {z:yr} (hz:z ∈ A) (hzl:Zm (yn P q ops z.o)=true) (hzo:ta ops o=some z.j)
  (hown:Mc v z.g.next z.g'.next (uE m (ZT P q ops A) h)) (fx:td (uE m (ZT P q ops A) h) v g') (hs:kP P ops s o (uE m (ZT P q ops A) h) u g'):∃ y,UI P q ops s0 h0 A i o s h u (wU (Wg h v g') g') m y:=by
 obtain ⟨v1,v2,v3⟩:=jl m (ZT P q ops A) h
 generalize hG:uE m (ZT P q ops A) h=g at *
 have hn:h.next<=g'.next:=by rw [<- v1];exact fx.next
 have hzn:z.g'.next<=h.next:=F.nA z hz
 have hsee:∀ b,g.get b=if bp m (ZT P q ops A) h b=true then ZA A h0 b else none:=fun b=>by rw [<- hG];exact J9 F b
 have htc:∀ b,((decide (h.next<=b/\b < g'.next) || iw v b)=true) ↔ ((h.next<=b/\b < g'.next) \/ ∃ a n c,v = .slice (some a) n c/\b=a.block):=fun b=>by rw [Og,N8,B3]
 have hblk:∀ b,(∃ a n c,v = .slice (some a) n c/\b=a.block)->z.g.next<=b/\b < z.g'.next/\g.get b ≠ none:=by
  rintro b ⟨a,n,c,rfl,rfl⟩
  exact hown
 refine ⟨⟨i,o,u,s,g,g',bp m (ZT P q ops A) h,fun b=>decide (h.next<=b/\b < g'.next) || iw v b⟩,rfl,rfl,rfl,rfl,v1,
  ⟨ho,F.env,F.size,hsee,v2.trans F.ro,by rw [v1];exact F.next,fun x hx=>by rw [v1];exact F.nA x hx,fx.next,hs,fun d hd=>by rw [<- F.size];exact hput d hd,fun b hb => ?_,fun b hb => ?_,fun b o' hb hlt hg=>fx.gone b o' hlt hg⟩,
  ⟨fun b hb=>by show b < g.next;rw [v1];exact l8 hb,fun e=>by simp only at e;omega,fun e=>by simp only at e;omega,fun _ b hb z hz hl hm=>eJ hb hz hl hm,fun _ b hb => ?_⟩,fun b => ?_,?_,hn,NG _,fun _=>rfl,fun b o' hb => ?_⟩
 ·rcases (htc b).1 hb with e | e
  ·exact .inr (by show g.next<=b/\b < g'.next;rw [v1];exact e)
  ·refine .inl ?_
   show bp m (ZT P q ops A) h b=true
   cases he:bp m (ZT P q ops A) h b with
   | true=>rfl
   | false=>exact absurd (by rw [hsee,he];rfl) (hblk b e).2.2
 ·have hb:(decide (h.next<=b/\b < g'.next) || iw v b)=false:=hb
  refine fx.same b (fun e => ?_) (fun a n c e1 e2 => ?_)
  ·rw [(htc b).2 (.inl (by rw [<- v1];exact e))] at hb;cases hb
  ·rw [(htc b).2 (.inr ⟨a,n,c,e1,e2⟩)] at hb;cases hb
 ·rcases (htc b).1 hb with e | e
  ·exact .inl (by show g.next<=b/\b < g'.next;rw [v1];exact e)
  ·exact .inr ⟨hk,z,hz,hzl,hzo,(hblk b e).1,(hblk b e).2.1⟩
 ·show (wU (Wg h v g') g').get b=if (decide (h.next<=b/\b < g'.next) || iw v b)=true then g'.get b else h.get b
  rw [x7,We]
  by_cases e:h.next<=b/\b < g'.next
  ·rw [NK e,NK ((htc b).2 (.inl e))]
  ·rw [NJ e]
   by_cases e2:∃ a n c,v = .slice (some a) n c/\b=a.block
   ·rw [NK ((htc b).2 (.inr e2))]
    obtain ⟨a,n,c,rfl,rfl⟩:=e2
    unfold Wg
    rw [za.yj,NK rfl]
   ·rw [NJ (fun t=>by rcases (htc b).1 t with t | t;exact e t;exact e2 t)]
    rcases eT h v g' b with t | ⟨t,_⟩
    ·exact t
    ·exact absurd t e2
 ·show (Wg h v g').ro=h.ro
  exact bS h v g'
 ·show b < g'.next
  rw [x7,We] at hb
  split at hb
  ·rename_i e;exact e.2
  ·rcases eT h v g' b with t | ⟨t,_⟩
   ·rw [t] at hb;exact NH (F.wf b o' hb) hn
   ·have:=hblk b t
    omega
theorem F5 {u:Value} {h':za} (hk:yn P q ops o=5) (he:VL P s o h=some (u,h')):∃ ob,h'=h.push ob/\VL P s o (h.pick [])=some (u,(h.pick []).push ob):=by
 have hcv:∀ a b x,o.op ≠ .convert a b x:=fun a b x e=>by
  unfold yn at hk
  simp only [e] at hk
  cases hn:pK P a b <;> (rw [hn] at hk;exact absurd hk (by decide))
 unfold yn at hk
 unfold VL at he ⊢
 split at he <;> rename_i yz <;> simp only [yz] at hk ⊢ <;> first
  | (cases hk;done)
  | (exact absurd yz (hcv _ _ _))
  | (cases he;done)
  | skip
 ·split at he
  ·simp only [Nz,gx,NB] at he;obtain ⟨rfl,rfl⟩:=he;exact ⟨_,rfl,rfl⟩
  ·cases he
 ·split at he
  ·simp only [Nz,gx,NB] at he;obtain ⟨rfl,rfl⟩:=he;exact ⟨_,rfl,rfl⟩
  ·cases he
 ·split at he
  ·unfold zf at he ⊢
   split at he
   ·split at he
    ·obtain ⟨hc,he⟩:=zn he
     rw [hc]
     simp only [NR]
     split at he
     ·obtain ⟨hc2,he⟩:=zn he
      rw [hc2]
      simp only [NR,Nz,NB] at he ⊢
      obtain ⟨rfl,rfl⟩:=he
      exact ⟨_,rfl,rfl,rfl⟩
     ·cases he
    ·cases he
   ·cases he
  ·cases he
 ·split at he
  ·unfold Yg at he ⊢
   split at he
   ·split at he
    ·cases he
    ·split at he
     ·cases he
     ·obtain ⟨hc,he⟩:=zn he
      rw [hc]
      simp only [NR,Nz,NB] at he ⊢
      obtain ⟨rfl,rfl⟩:=he
      exact ⟨_,rfl,rfl,rfl⟩
   ·cases he
  ·cases he
 ·exfalso
  split at hk <;> rename_i heq <;> first
   | (cases heq;done)
   | skip
  ·split at hk <;> cases hk
  ·rename_i b _ _ _
   cases hq:Yp b <;> rw [hq] at hk <;> cases hk
  all_goals (cases hk;done)
 all_goals (cases he;exact ⟨_,rfl,rfl⟩)
end
end
noncomputable section
variable {P:Program}
section
variable {q:FuncId->Nat} {ops:Array Oper} {s0:Env} {h0:za} {A:List yr} {i:Nat} {o:Oper} {s:Env} {h:za}
theorem DZ {a b:TypeId} (hn:pK P a b=true) {x u:Value} {g g':za} (he:wM P a b x g=some (u,g')):g'=g /\ ∀ g2,wM P a b x g2=some (u,g2):=by
 unfold pK at hn
 rw [ND] at hn
 obtain ⟨n1,n2⟩:=hn
 split at n1
 case h_2=>cases n1
 rename_i _ _ _ _ e1 e2
 split at n2
 case h_2=>cases n2
 rename_i _ _ _ _ e3 e4
 unfold wM QE lJ at he ⊢
 simp only [e1,e2,e3,e4] at he ⊢
 cases hf:cond (flat x) (fl (zT P (convert a b x))) none with
 | none=>rw [hf] at he;cases he
 | some v=>
   rw [hf] at he
   simp only [Nz,NB] at he ⊢
   obtain ⟨rfl,rfl⟩:=he
   exact ⟨rfl,fun _=>⟨rfl,trivial⟩⟩
theorem Ao {k:Nat} (hc:Z2 o.op=false) (hk:yn P q ops o=k) (h1:1<=k) (h5:k<=2):xZ q o=k:=by
 unfold yn at hk
 unfold xZ
 unfold Z2 at hc
 split at hk <;> rename_i yz <;> simp only [yz] at hc ⊢ <;> first
  | (cases hc;done)
  | exact hk
  | (subst hk;omega)
  | (split at hk <;> (subst hk;omega))
  | skip
 rename_i a b _
 cases hn:pK P a b with
 | true=>rw [hn] at hk;exact absurd (show (0:Nat)=k from hk) (by omega)
 | false=>rw [hn] at hk;exact hk
theorem Cz {u:Value} {h':za} (hk:yn P q ops o=0) (hc:Z2 o.op=false) (he:VL P s o h=some (u,h')):h'=h /\ ∀ g,VL P s o g=some (u,g):=by
 by_cases hv:∃ a b x,o.op = .convert a b x
 ·obtain ⟨a,b,x,yz⟩:=hv
  unfold yn at hk
  simp only [yz] at hk
  cases hn:pK P a b with
  | false=>rw [hn] at hk;cases hk
  | true=>
    unfold VL at he ⊢
    simp only [yz] at he ⊢
    split at he
    ·exact DZ hn he
    ·cases he
 ·refine fC (q:=q) ?_ hc he
  unfold yn at hk
  unfold xZ
  unfold Z2 at hc
  split at hk <;> rename_i yz <;> simp only [yz] at hc ⊢ <;> first
   | (cases hc;done)
   | exact hk
   | (exact absurd hk (by decide))
   | (exact (hv ⟨_,_,_,yz⟩).elim)
   | (exfalso;split at hk <;> simp at hk)
   | (split at hk <;> exact absurd hk (by decide))
   | (cases hz:ta ops o <;> (rw [hz] at hk;simp at hk))
theorem DK (F:ud P ops s0 h0 A i s h) {v:Value} {h1:za} {y:yr} {u:Value} {m:Nat} (N:UI P q ops s0 h0 A i o s h u h1 m y):AF h h1 :=
 ⟨N.next,N.ro,fun b o hb=>by
  rw [N.heap] at hb
  by_cases ht:y.tc b=true
  ·rw [NK ht] at hb
   by_cases hl:b < y.g.next
   ·have h2:=N.told.MA b o ht hl hb
    have h3:=N.told.heap b
    rw [h3] at h2
    by_cases hr:y.rd b=true
    ·rw [NK hr,<- F.heap] at h2;exact .inl h2
    ·rw [NJ hr] at h2;exact absurd rfl h2
   ·have hb1:h1.get b=some o:=by rw [N.heap,NK ht];exact hb
    exact .inr ⟨by rw [<- N.gn];omega,N.wf b o hb1⟩
  ·rw [NJ ht] at hb
   exact .inl (by rw [hb];simp)⟩
theorem iV (F:ud P ops s0 h0 A i s h) (hron:h.ro<=h.next) (ho:ops[i]? = some o) (hput:∀ d,o.dst=some d->d < s.size) (hw:yi ops s o=true) {r:Env} (hl:Le r s) {m:Nat}
  {K:Value->za->Prop} (hk:Cw P q ops r o (ZT P q ops A) (uE m (ZT P q ops A) h) h K):∃ v u h1 y,(ya v=true\/v=u)/\K v h1/\UI P q ops s0 h0 A i o s h u h1 m y:=by
 obtain ⟨w1,w2,w3⟩:=jl m (ZT P q ops A) h
 unfold Cw at hk
 split at hk
 ·rename_i g args ts yz
  have ef:qI s (.func g)=some (.func (.func g) #[] #[]):=rfl
  have hkind:yn P q ops o=mn (q g):=by unfold yn;simp only [yz]
  split at hk
  ·rename_i hq
   obtain ⟨hc,hn,v,hsc,hT,hK⟩:=hk
   have hT2:TC P g (Jm r args.toList) (uE m (ZT P q ops A) h) (fun v1 h1=>v1=v/\h1=uE m (ZT P q ops A) h) :=
    (hT.quiet (fun v1 _ e=>by rw [e];exact hsc)).mono (by rintro v1 h1 ⟨⟨_,e1⟩,e2⟩;exact ⟨e1,e2⟩)
   obtain ⟨y,hy⟩:=fj (q:=q) F ho hput (by rw [hkind,hq];rfl) (u:=v) (.inr ⟨hw,.inr (.inl ⟨.func g,args,ts,g,#[],#[],_,yz,ef,Vr hl hn,hc,by simpa using hT2⟩)⟩)
   exact ⟨v,v,h,y,.inr rfl,hK,hy⟩
  ·rename_i hq
   obtain ⟨hc,hn,v,h2,hT,af,hK⟩:=hk
   have hnx:h.next<=h2.next:=by have:=af.next;rw [<- w1];exact this
   obtain ⟨y,hy⟩:=sD (q:=q) F ho hput (by rw [hkind,hq];rfl) (m:=m) hnx (u:=v)
    (.inr ⟨hw,.inr (.inl ⟨.func g,args,ts,g,#[],#[],_,yz,ef,Vr hl hn,hc,by simpa using hT.fresh⟩)⟩)
   exact ⟨v,v,_,y,.inr rfl,hK,hy⟩
  ·rename_i hq
   obtain ⟨hn,hk⟩:=hk
   obtain ⟨v,h2,he,hK⟩:=jz hk
   obtain ⟨f1,f2,f3⟩:=XF (ZS he)
   obtain ⟨y,hy⟩:=ba (q:=q) F ho hput (by rw [hkind,hq];rfl) f1 f2 f3 (u:=v) (.inr ⟨hw,.inr (.inr ⟨.func g,args,ts,g,#[],#[],_,yz,ef,Vr hl hn,by simpa using he⟩)⟩) m
   exact ⟨v,v,_,y,.inr rfl,hK,hy⟩
  ·rename_i n2 n3 n4
   obtain ⟨hc,hn,hd⟩:=hk
   obtain ⟨v,h2,hK,af,hT⟩:=hd ⟨F.wf,hron⟩
   obtain ⟨y,hy⟩:=XE (q:=q) F ho hput (by rw [hkind];unfold mn;split <;> first | rfl | (exfalso;simp_all)) af (u:=v)
    (.inr ⟨hw,.inr (.inl ⟨.func g,args,ts,g,#[],#[],_,yz,ef,Vr hl hn,hc,by simpa using hT⟩)⟩) m
   exact ⟨v,v,_,y,.inr rfl,hK,hy⟩
 ·rename_i f args ts hnf yz
  unfold JF at hk
  split at hk
  ·rename_i g a c hf
   have ef:qI s f=some (.func (.func g) a c):=by rw [jW hl (x:=f) (by rw [hf];rfl),hf]
   obtain ⟨hn0,hc,hn,hd⟩:=hk
   obtain ⟨v,h2,hK,af,hT⟩:=hd ⟨F.wf,hron⟩
   have hkind:yn P q ops o=3:=by
    unfold yn
    simp only [yz]
   obtain ⟨y,hy⟩:=XE (q:=q) F ho hput hkind af (u:=v) (.inr ⟨hw,.inr (.inl ⟨f,args,ts,g,a,c,_,yz,ef,Vr hl hn0,hc,hT⟩)⟩) m
   exact ⟨v,v,_,y,.inr rfl,hK,hy⟩
  ·exact hk.elim
 ·rename_i args ts yz
  split at hk
  ·rename_i z hz
   have hkind:yn P q ops o=4:=by unfold yn;simp only [yz,hz]
   unfold WQ at hk
   split at hk
   case h_2=>exact hk.elim
   rename_i x sv vs' hx hvs
   obtain ⟨how,hk⟩:=hk
   obtain ⟨v,h2,he,hK⟩:=jz hk
   obtain ⟨hn,he⟩:=uv he
   obtain ⟨f,t⟩:=x
   obtain ⟨zr,hzm,hzl,hze⟩:=F6 (e9 hx)
   simp only [NB] at hze
   obtain ⟨rfl,rfl,rfl⟩:=hze
   have hop2:VL P s o (uE m (ZT P q ops A) h)=some (v,h2):=by
    unfold VL
    simp only [yz]
    rw [Vr hl hn]
    exact he
   rw [hvs] at he
   obtain ⟨y,hy⟩:=Cs (q:=q) F ho hput hkind (m:=m) hzm hzl hz how (DI he) (.inr ⟨hw,.inl hop2⟩)
   exact ⟨v,v,_,y,.inr rfl,hK,hy⟩
  ·rename_i hz
   have hkind:yn P q ops o=3:=by unfold yn;simp only [yz,hz]
   obtain ⟨v,u,h',he,hv,hK⟩:=kJ hl hk
   obtain ⟨y,hy⟩:=XE (q:=q) F ho hput hkind (Zi he).1 (u:=u) (.inr ⟨hw,.inl he⟩) m
   exact ⟨v,u,h',y,hv,hK,hy⟩
 ·rename_i hn1 hn2 hn3
  cases h1:Nat.beq (yn P q ops o) 1 with
  | true=>
    rw [h1] at hk
    have h1:=NL h1
    obtain ⟨v,u,h',he,hv,hK⟩:=kJ hl hk
    have hnc:=YX he
    obtain rfl:=V0 (Ao hnc h1 (by omega) (by omega)) hnc he
    obtain ⟨y,hy⟩:=fj (q:=q) F ho hput h1 (m:=m) (u:=u) (.inr ⟨hw,.inl he⟩)
    exact ⟨v,u,h,y,hv,hK,hy⟩
  | false=>
    rw [h1] at hk
    obtain ⟨v,u,h',he,hv,hK⟩:=kJ hl hk
    have hnc:=YX he
    have hkle:yn P q ops o=0\/yn P q ops o=1\/yn P q ops o=2\/yn P q ops o=3\/yn P q ops o=5:=by
     unfold yn
     split <;> (try simp)
     ·rename_i yz;rw [yz] at hnc;cases hnc
     ·rename_i yz;exact absurd yz (hn3 _ _)
     ·cases Yp _ <;> simp
     ·cases pK P _ _ <;> simp
    rcases hkle with h0' | h1' | h2' | h3' | h5'
    ·obtain ⟨rfl,hany⟩:=Cz h0' hnc he
     obtain ⟨y,hy⟩:=QQ (q:=q) F ho hput (u:=u) (.inr ⟨hw,.inl (hany _)⟩) m
     exact ⟨v,u,h',y,hv,hK,hy⟩
    ·rw [h1'] at h1;cases h1
    ·obtain ⟨f1,f2,f3⟩:=XF (aQ (Ao hnc h2' (by omega) (by omega)) hnc he)
     obtain ⟨y,hy⟩:=ba (q:=q) F ho hput h2' f1 f2 f3 (u:=u) (.inr ⟨hw,.inl he⟩) m
     exact ⟨v,u,h',y,hv,hK,hy⟩
    ·obtain ⟨y,hy⟩:=XE (q:=q) F ho hput h3' (Zi he).1 (u:=u) (.inr ⟨hw,.inl he⟩) m
     exact ⟨v,u,h',y,hv,hK,hy⟩
    ·obtain ⟨ob,rfl,he2⟩:=F5 h5' he
     obtain ⟨y,hy⟩:=Ct (q:=q) F ho hput h5' (u:=u) (.inr ⟨hw,.inl he2⟩) m
     exact ⟨v,u,_,y,hv,hK,hy⟩
theorem fD {A1 A2:List yr} {x w:yr} (F:ud P ops s0 h0 (A1 ++ x :: A2) i s h) (hw:w ∈ A1):w.g'.next<=x.g.next:=(F.told A1 x A2 rfl).nA w hw
theorem iZ {A1 A2:List yr} {x w:yr} (F:ud P ops s0 h0 (A1 ++ x :: A2) i s h) (hw:w ∈ A2):x.g'.next<=w.g.next:=by
 obtain ⟨B1,B2,rfl⟩:=N9 hw
 exact (F.told (A1 ++ x :: B1) w B2 (by simp)).nA x (by simp)
theorem Io {x:yr} (F:ud P ops s0 h0 A i s h) (hx:x ∈ A):x.g.next<=x.g'.next:=by
 obtain ⟨B1,B2,rfl⟩:=N9 hx
 exact (F.told B1 x B2 rfl).n1
theorem i0 {u w:yr} (F:ud P ops s0 h0 A i s h) (hu:u ∈ A) (hw:w ∈ A) (hne:u.j ≠ w.j):u.g'.next<=w.g.next\/w.g'.next<=u.g.next:=by
 obtain ⟨B1,B2,rfl⟩:=N9 hu
 rcases Om.1 hw with h1 | h1
 ·exact .inr (fD F h1)
 ·rcases Ox.1 h1 with rfl | h1
  ·exact absurd rfl hne
  ·exact .inl (iZ F h1)
theorem so {A1 A2:List yr} {x y:yr} {mx my:Nat} (F:ud P ops s0 h0 (A1 ++ x :: A2) i s h) (hx:RV P q ops A1 mx x) (hy:RV P q ops (A1 ++ x :: A2) my y) (hn:∀ w,w ∈ A1 ++ x :: A2->w.g'.next<=y.g.next)
  (hs:jA ops x.o y.o=true) (hbit:my.testBit x.j=false) (hzy:∀ z,ta ops y.o=some z->my.testBit z=true) (hp:EM (x.j,yn P q ops x.o,ta ops x.o,mx) (yn P q ops y.o) (ta ops y.o) my=true):bU ops x y:=by
 simp only [jA,ND] at hs
 obtain ⟨h1,h2⟩:=hs
 have d1:∀ d,x.o.dst=some d->d ∉ y.o.looksAt ops/\y.o.dst ≠ some d:=by
  intro d hd
  rw [hd] at h1
  simp only [ND,NN,NP,N2] at h1
  exact ⟨h1.1,h1.2⟩
 have d2:∀ d,y.o.dst=some d->d ∉ x.o.looksAt ops:=by
  intro d hd
  rw [hd] at h2
  simp only [NN,NP,N2] at h2
  exact h2
 have ff:∀ {b:Bool},b ≠ true->b=false:=fun h=>by simpa using h
 have xm:x ∈ A1 ++ x :: A2:=by simp
 have xu:=Io F xm
 have xy:=hn x xm
 unfold EM at hp
 simp only [Og,ND,NN] at hp
 rcases hp with (hp | hp) | ⟨⟨⟨⟨p1,p2⟩,p3⟩,p4⟩,p5⟩
 ·have e:=NL hp
  have t:=hx.k1 (by omega)
  have r:=hx.k0 (.inl e)
  exact ⟨d1,d2,fun b hb=>(by rw [t b] at hb;cases hb),fun b _=>r b⟩
 ·have e:=NL hp
  have t:=hy.k1 (by omega)
  have r:=hy.k0 (.inl e)
  exact ⟨d1,d2,fun b _=>⟨r b,t b⟩,fun b hb=>by rw [t b] at hb;cases hb⟩
 have nb:∀ {n m:Nat},Nat.beq n m=false->n ≠ m:=fun h e=>by subst e;simp at h
 have x3:=nb p1
 have y3:=nb p2
 have xtc:=hx.tc x3
 have ytc:=hy.tc y3
 have lay:∀ {o:Oper},yn P q ops o ≠ 3->¬ yn P q ops o<=1->Zm (yn P q ops o)=true:=fun {o} h3 h1=>by
  have:yn P q ops o=0\/yn P q ops o=1\/yn P q ops o=2\/yn P q ops o=3\/yn P q ops o=4\/yn P q ops o=5\/yn P q ops o=6:=by
   unfold yn
   split <;> (try simp)
   ·unfold mn;split <;> simp
   ·split <;> simp
   ·cases Yp _ <;> simp
   ·cases pK P _ _ <;> simp
  rcases this with e | e | e | e | e | e | e
  ·omega
  ·omega
  ·rw [e];rfl
  ·exact absurd e h3
  ·rw [e];rfl
  ·rw [e];rfl
  ·rw [e];rfl
 have mM:∀ b,y.rd b=true->yn P q ops x.o ≠ 1->sC (yn P q ops y.o)=true/\yn P q ops y.o ≠ 5:=fun b hr hk1=>by
  have k0:yn P q ops y.o ≠ 0:=fun e=>by rw [hy.k0 (.inl e) b] at hr;cases hr
  have k5:yn P q ops y.o ≠ 5:=fun e=>by rw [hy.k0 (.inr e) b] at hr;cases hr
  refine ⟨?_,k5⟩
  by_cases l1:yn P q ops y.o<=1
  ·have:yn P q ops y.o=1:=by omega
   rw [this];rfl
  ·have:=lay y3 l1
   have n2:yn P q ops y.o ≠ 2:=by
    rcases p3 with p3 | p3
    ·exact nb p3
    ·exact absurd (NL p3) hk1
   unfold Zm at this
   simp only [Og,PF] at this
   rcases this with ((e | e) | e) | e
   ·exact absurd e n2
   ·rw [e];rfl
   ·exact absurd e k5
   ·rw [e];rfl
 have xn1:∀ b,x.tc b=true->¬ yn P q ops x.o<=1:=fun b hb e=>by rw [hx.k1 e b] at hb;cases hb
 refine ⟨d1,d2,fun b hb => ?_,fun b hb=>ff fun hr => ?_⟩
 ·have x1:=xn1 b hb
  have xne:yn P q ops x.o ≠ 1:=by omega
  rcases xtc b hb with hown | ⟨k4,z,hz,hzl,hzo,hzb⟩
  ·refine ⟨ff fun hr => ?_,ff fun ht => ?_⟩
   ·exact hy.lk (mM b hr xne).1 b hr x xm (lay x3 x1) hbit hown
   ·rcases ytc b ht with e | ⟨_,w,hw,hwl,hwo,hwb⟩
    ·omega
    ·have hne:x.j ≠ w.j:=fun e=>by
      have:=hzy _ hwo
      rw [<- e,hbit] at this
      cases this
     have:=i0 F xm hw hne
     omega
  ·have zm:z ∈ A1 ++ x :: A2:=by simp [hz]
   have zx:=fD F hz
   rcases p4 with (p4 | p4) | p4
   ·exact absurd k4 (nb p4)
   ·have k5:=NL p4
    refine ⟨hy.k0 (.inr k5) b,ff fun ht => ?_⟩
    rcases ytc b ht with e | ⟨ky4,_⟩
    ·omega
    ·omega
   ·rw [hzo] at p4
    simp only [ND,NN] at p4
    refine ⟨ff fun hr => ?_,ff fun ht => ?_⟩
    ·exact hy.lk (mM b hr xne).1 b hr z zm hzl p4.1 hzb
    ·rcases ytc b ht with e | ⟨_,w,hw,hwl,hwo,hwb⟩
     ·omega
     ·rw [hwo] at p4
      simp only [NN] at p4
      have:=i0 F zm hw (nb p4.2)
      omega
 ·have hlt:=hx.rd b hr
  rcases ytc b hb with e | ⟨ky4,w,hw,hwl,hwo,hwb⟩
  ·omega
  ·rcases p5 with (p5 | p5) | p5
   ·exact absurd ky4 (nb p5)
   ·have k5:=NL p5
    rw [hx.k0 (.inr k5) b] at hr
    cases hr
   ·rw [hwo] at p5
    simp only [NN] at p5
    rcases Om.1 hw with h1 | h1
    ·exact hx.lk p5.1 b hr w h1 hwl p5.2 hwb
    ·rcases Ox.1 h1 with rfl | h1
     ·omega
     ·have:=iZ F h1
      omega
end
end
noncomputable section
variable {P:Program}
theorem AW {q:FuncId->Nat} {ops:Array Oper} {s0:Env} {h0:za} (hro0:h0.ro<=h0.next):∀ (l:List Oper) (i:Nat) (ms:List Nat) (A:List yr) (prev:List (Nat × Nat × Option Nat × Nat)) (r s:Env) (h:za) {K:Env->za->Prop},
  ops.toList.drop i=l->i<=ops.size->Qf ops ms->ms.length=i->ud P ops s0 h0 A i s h->(∀ A1 x A2,A=A1 ++ x :: A2->∃ m,(x.j,yn P q ops x.o,ta ops x.o,m) ∈ prev/\RV P q ops A1 m x)->ZD ops l i ms (A.reverse.map fun x=>(x.j,x.o))=true->bQ P q ops l ms prev=true ->
  Le r s->ry P q ops l i ms (ZT P q ops A) r h K->∃ A' r' s' h',ud P ops s0 h0 A' ops.size s' h'/\Le r' s'/\K r' h'/\Fr (XD l) s s'/\AF h h'
 | [],i,ms,A,prev,r,s,h,K,hl,hle,hm,hml,F,hrp,hst,hkd,hle1,hk=>by
   have:i=ops.size:=by
    have:=congrArg List.length hl
    simp at this
    omega
   subst this
   exact ⟨A,r,s,h,F,hle1,hk,.refl _ _,.refl _⟩
 | o :: os,i,ms,A,prev,r,s,h,K,hl,hle,hm,hml,F,hrp,hst,hkd,hle1,hk=>by
   have ho:ops[i]? = some o:=by
    have:=congrArg (fun l=>l[0]?) hl
    simp only [Od,NV] at this
    simpa using this
   have hlt:i < ops.size:=by
    rcases NZ i ops.size with h | h
    ·exact h
    ·rw [N3 h] at ho;cases ho
   have hl':ops.toList.drop (i + 1)=os:=by rw [<- PG,hl];rfl
   simp only [ZD,ND] at hst
   obtain ⟨⟨hedge,hslots⟩,hst⟩:=hst
   simp only [bQ,ND] at hkd
   obtain ⟨⟨hpair,hzz⟩,hkd⟩:=hkd
   have hzz2:∀ z,ta ops o=some z->(yN ms o).testBit z=true:=fun z hz=>by rw [hz] at hzz;exact hzz
   have go:∀ (v u:Value) (h1:za) (y:yr),(ya v=true\/v=u)->UI P q ops s0 h0 A i o s h u h1 (yN ms o) y ->
     (match r.put o.dst v with | some s1=>ry P q ops os (i + 1) (ms ++ [yN ms o]) (cond (Zm (yn P q ops o)) (ZT P q ops A ++ [(i,h.next,h1.next)]) (ZT P q ops A)) s1 h1 K | none=>False) ->
     ∃ A' r' s' h',ud P ops s0 h0 A' ops.size s' h'/\Le r' s'/\K r' h'/\Fr (XD (o :: os)) s s'/\AF h h':=by
    intro v u h1 y hv N hk
    split at hk
    case h_2=>exact hk.elim
    rename_i r1 hp
    obtain ⟨s1,hp1,hl1⟩:=hle1.put hp hv
    have hs1:∀ t,s1.get t=if o.dst=some t then u else s.get t:=by
     intro t
     cases hd:o.dst with
     | none=>rw [hd] at hp1;simp only [Env.put,Nz] at hp1;subst hp1;simp
     | some d=>
       rw [hd] at hp1
       simp only [Env.put] at hp1
       obtain ⟨_,hp1⟩:=zn hp1
       simp only [Nz] at hp1
       subst hp1
       rw [Env.yj]
       by_cases e:t=d
       ·subst e;simp
       ·rw [NJ e,NJ (by simp only [Nz];exact fun h=>e h.symm)]
    have hs1s:s1.size=s.size:=(Fr.put hp1).size
    have hal2:(cond (Zm (yn P q ops o)) (ZT P q ops A ++ [(i,h.next,h1.next)]) (ZT P q ops A))=ZT P q ops (A ++ [y]):=by
     rw [DB,N.yz,N.hj,N.gn]
     cases hla:Zm (yn P q ops o) with
     | true=>rw [N.geq hla]
     | false=>rfl
    rw [hal2] at hk
    have hny:∀ w,w ∈ A->w.g'.next<=y.g.next:=fun w hw=>by rw [N.gn];exact F.nA w hw
    have F1:ud P ops s0 h0 (A ++ [y]) (i + 1) s1 h1:=by
     refine ⟨?_,?_,hs1s.trans F.size,?_,N.ro.trans F.ro,Oc F.next N.next,?_,N.wf,?_,?_,?_⟩
     ·rw [Ou,F.js,List.range_succ];simp [N.hj]
     ·intro t
      rw [hs1,Ur,N.yz,N.Ef,F.env]
     ·intro b
      rw [N.heap,K9,F.heap]
     ·intro x hx
      rcases Om.1 hx with hx | hx
      ·exact Oc (F.nA x hx) N.next
      ·simp only [N7] at hx;subst hx;exact N.Ee
     ·intro A1 r A2 e
      rcases uc e with ⟨_,rfl,rfl⟩ | ⟨A3,_,e3⟩
      ·exact N.told
      ·exact F.told A1 r A3 e3
     ·intro A1 r A2 e ed hed hb
      rcases uc e with ⟨_,rfl,rfl⟩ | ⟨A3,_,e3⟩
      ·rw [N.yz] at hed
       simp only [NY,Og,NN,Of] at hedge
       rcases hedge ed (by simpa using hed) with h2 | h2
       ·rw [hb] at h2;cases h2
       ·have:ed.on ∈ A1.map (·.j):=by rw [F.js];exact ON.2 h2
        obtain ⟨x,hx,hxj⟩:=OJ.1 this
        exact ⟨x,hx,hxj⟩
      ·exact F.X9 A1 r A3 e3 ed hed hb
     ·intro A1 x A2 z A3 e
      have e':A ++ [y]=(A1 ++ x :: A2) ++ z :: A3:=by rw [e];simp
      rcases uc e' with ⟨_,e1,rfl⟩ | ⟨A4,_,e3⟩
      ·have e1:A=A1 ++ x :: A2:=e1.symm
       have hxm:x ∈ A:=by rw [e1];simp
       obtain ⟨mx,hpm,hrx⟩:=hrp A1 x A2 e1
       simp only [NY,Og] at hpair hslots
       rcases hslots (x.j,x.o) (OJ.2 ⟨x,by simpa using hxm,rfl⟩) with h2 | h2
       ·rw [N.hj];exact .inl (uX hm ho h2)
       ·rcases hpair _ hpm with h3 | h3
        ·rw [N.hj];exact .inl (uX hm ho h3)
        ·by_cases hbit:(yN ms o).testBit x.j=true
         ·rw [N.hj];exact .inl (uX hm ho hbit)
         ·simp only [Py] at hbit
          have F':=F
          have nr:=N.rv
          rw [e1] at F' nr
          rw [e1] at hny
          exact .inr (so F' hrx nr hny (by rw [N.yz];exact h2) hbit (by rw [N.yz];exact hzz2) (by rw [N.yz];exact h3))
      ·exact F.apart A1 x A2 z A4 (by rw [e3];simp)
    have hrp1:∀ A1 x A2,A ++ [y]=A1 ++ x :: A2->∃ m,(x.j,yn P q ops x.o,ta ops x.o,m) ∈ (ms.length,yn P q ops o,ta ops o,yN ms o) :: prev/\RV P q ops A1 m x:=by
     intro A1 x A2 e
     rcases uc e with ⟨_,e1,e2⟩ | ⟨A3,_,e3⟩
     ·subst e1 e2
      exact ⟨yN ms o,by rw [N.hj,N.yz,hml];simp,N.rv⟩
     ·obtain ⟨m,h1,h2⟩:=hrp A1 x A3 e3
      exact ⟨m,OD _ h1,h2⟩
    obtain ⟨A',r',s',h',F',l',k',f',a'⟩:=AW hro0 os (i + 1) (ms ++ [yN ms o]) (A ++ [y]) _ r1 s1 h1 hl' hlt (XC hm hml ho) (by simp [hml]) F1 hrp1
     (by simpa [N.hj,N.yz] using hst) hkd hl1 hk
    exact ⟨A',r',s',h',F',l',k',(Fr.put hp1).left.trans f'.right,(DK F (v:=v) N).trans a'⟩
   have slot:∀ {v:Value} {h1:za} {al':List (Nat × Nat × Nat)},(match r.put o.dst v with | some s1=>ry P q ops os (i + 1) (ms ++ [yN ms o]) al' s1 h1 K | none=>False)->∀ d,o.dst=some d->d < s.size:=by
    intro v h1 al' hk d hd
    split at hk
    case h_2=>exact hk.elim
    rename_i r1 hp
    rw [hd] at hp
    simp only [Env.put] at hp
    obtain ⟨hb,_⟩:=zn hp
    rw [<- hle1.size]
    simpa [Of] using hb
   have hron:h.ro<=h.next:=by rw [F.ro];exact Oc hro0 F.next
   have dstok:∀ {hv:za} {al:List (Nat × Nat × Nat)} {K':Value->za->Prop},Cw P q ops r o al hv h K'->(∀ v h1,K' v h1->∀ d,o.dst=some d->d < s.size)->∀ d,o.dst=some d->d < s.size:=by
    intro hv al K' hk hs
    have fromA:∀ {g:za} {K2:Value->za->Prop},EJ P r o g K2->(∀ v h1,K2 v h1->∀ d,o.dst=some d->d < s.size)->∀ d,o.dst=some d->d < s.size:=fun hk hs=>by
     obtain ⟨v,u,h',_,_,hK⟩:=kJ hle1 hk
     exact hs v h' hK
    unfold Cw at hk
    split at hk
    ·split at hk
     ·obtain ⟨_,_,v,_,_,hK⟩:=hk;exact hs _ _ hK
     ·obtain ⟨_,_,v,h2,_,_,hK⟩:=hk;exact hs _ _ hK
     ·obtain ⟨_,hk⟩:=hk;obtain ⟨v,h2,_,hK⟩:=jz hk;exact hs _ _ hK
     ·obtain ⟨_,_,hd⟩:=hk;obtain ⟨v,h2,hK,_⟩:=hd ⟨F.wf,hron⟩;exact hs _ _ hK
    ·unfold JF at hk
     split at hk
     ·obtain ⟨_,_,_,hd⟩:=hk;obtain ⟨v,h2,hK,_⟩:=hd ⟨F.wf,hron⟩;exact hs _ _ hK
     ·exact hk.elim
    ·split at hk
     ·unfold WQ at hk
      split at hk
      ·obtain ⟨_,hk⟩:=hk;obtain ⟨v,h2,_,hK⟩:=jz hk;exact hs _ _ hK
      ·exact hk.elim
     ·exact fromA hk hs
    ·cases h1:Nat.beq (yn P q ops o) 1 with
     | true=>rw [h1] at hk;exact fromA hk (fun v _ q=>hs v _ q)
     | false=>rw [h1] at hk;exact fromA hk hs
   simp only [ry] at hk
   split at hk
   ·rename_i hg
    obtain ⟨v,u,h1,y,hv,hK,N⟩:=iV F hron ho (dstok hk (fun v h1 hK=>slot hK)) (by simp only [yi,hg]) hle1 hk
    exact go v u h1 y hv N hK
   ·rename_i j want hg
    split at hk
    ·exact hk.elim
    ·rename_i d hdst
     unfold GD at hk
     split at hk
     ·rename_i b hb
      have hs:s.get d = .bool b:=by
       rcases hle1.get d with e | e
       ·rw [hb] at e;cases e
       ·rw [<- e,hb]
      have haw:yi ops s o=(b == want):=by simp only [yi,hg,hdst,hs]
      by_cases hbw:b=want
      ·have hk:=hk.1 hbw
       obtain ⟨v,u,h1,y,hv,hK,N⟩:=iV F hron ho (dstok hk (fun v h1 hK=>slot hK)) (by rw [haw,hbw];simp) hle1 hk
       exact go v u h1 y hv N hK
      ·have hk:=hk.2 hbw
       obtain ⟨y,N⟩:=QQ (q:=q) F ho (slot hk) (u:=undef) (.inl ⟨by rw [haw];simpa using hbw,rfl,rfl⟩) (yN ms o)
       exact go undef undef h y (.inr rfl) N hk
     ·exact hk.elim
     ·rename_i n1 n2
      have hs:s.get d=r.get d:=by
       rcases hle1.get d with e | e
       ·obtain ⟨k,p,q,e2⟩:=Yl e;exact absurd e2 (n2 k p q)
       ·exact e.symm
      have haw:yi ops s o=false:=by
       simp only [yi,hg,hdst,hs]
      obtain ⟨y,N⟩:=QQ (q:=q) F ho (slot hk) (u:=undef) (.inl ⟨haw,rfl,rfl⟩) (yN ms o)
      exact go undef undef h y (.inr rfl) N hk
theorem oW {q:FuncId->Nat} (hmix:P.follows .mixedOrders=true):Qe P (oV P q):=by
 intro ops r s h K rd id hle wf hk
 unfold oV at hk
 cases hc:iA P q ops with
 | false=>rw [hc] at hk;exact hk.elim
 | true=>
   rw [hc] at hk
   have hk:ry P q ops ops.toList 0 [] [] r h K:=hk
   simp only [iA,ND] at hc
   have F0:ud P ops s h ([]:List yr) 0 s h:=⟨rfl,fun t=>rfl,rfl,fun b=>rfl,rfl,NG _,fun x hx=>(by cases hx),wf.1,
    fun A1 r A2 e=>by simp at e,fun A1 r A2 e=>by simp at e,fun A1 x A2 y A3 e=>by simp at e⟩
   obtain ⟨A,r',s',h',F,hl',hK,hf,af⟩:=AW wf.2 ops.toList 0 [] [] [] r s h rfl (Oe _) (fun k q hq=>by simp at hq) rfl F0 (fun A1 x A2 e=>by simp at e) hc.1 hc.2 hle hk
   have V:Valid P ops s h A:=⟨by rw [F.js];exact List.nodup_range,fun i hi=>by
     have:i ∈ A.map (·.j):=by rw [F.js];exact ON.2 hi
     obtain ⟨r,hr,hj⟩:=OJ.1 this
     exact ⟨r,hr,hj⟩,F.told,F.X9,F.apart⟩
   exact ⟨r',s',h',hl',hK,hf,af,Wo hmix V F.env F.size F.heap F.ro F.next F.nA (Q:=fun e s1 h1=>e = .normal/\s1=s'/\h1=h') ⟨rfl,rfl,rfl⟩⟩
theorem AY {q:FuncId->Nat} (hmix:P.follows .mixedOrders=true) {n:Nat} {f:FuncId} {args:List Value} {h:za} {R:Value->za->Prop} (hk:Fi P (oV P q) n f args h R):DC P f args h R:=Jo (oW hmix) hk
end
end Go.Ai
