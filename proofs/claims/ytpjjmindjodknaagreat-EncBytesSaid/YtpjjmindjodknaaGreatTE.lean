import Derived.Test.YtpjjmindjodknaaGreatTD
set_option linter.unusedVariables false
set_option linter.unusedSimpArgs false
set_option maxRecDepth 100000
namespace Go.Ai
noncomputable section
variable {P:Program}
def Ja:Nat->Nat
 | 2=>1
 | 3=>2
 | 4=>2
 | _=>3
def xZ (q:FuncId->Nat) (o:Oper):Nat:=match o.op with
 | .call { callee := .value (.func g),.. }=>Ja (q g)
 | .call { callee := .value _,.. }=>3
 | .call { callee := .builtin b,.. }=>cond (Yp b) 1 3
 | .move _ | .assign _ | .pick _ _ _ | .build _ _ | .nilCheck _ | .binOp _ _ _ _ _ | .unOp _ _ _ | .makeInterface _ _ | .makeFunc _ _ _ | .fieldAddr _ _ _ | .field _ _ _ | .indexAddr _ _ _ | .index _ _ _ | .extract _ _=>0
 | .load _ _ | .lookup _ _ _ _ | .slice _ _ _ _ _ | .entry _=>1
 | .box _ _ | .alloc _ | .buildSlice _ _ _ | .makeSlice _ _ _ | .makeMap _ _ | .convert _ _ _ | .range _ _=>2
 | _=>3
def sI (x y:Nat):Bool:=Nat.beq x 0 || Nat.beq y 0 || (Nat.beq x 1 && Nat.ble y 2) || (Nat.beq x 2 && Nat.beq y 1)
def mo (q:FuncId->Nat):List Oper->Nat->List Nat->List (Nat × Nat)->Bool
 | [],_,_,_=>true
 | o :: os,i,ms,prev=>(prev.all fun x=>(yN ms o).testBit x.1 || sI x.2 (xZ q o)) && mo q os (i + 1) (ms ++ [yN ms o]) ((i,xZ q o) :: prev)
def calm (q:FuncId->Nat) (ops:Array Oper):Bool:=ZD ops ops.toList 0 [] [] && mo q ops.toList 0 [] []
def trim (h:za) (n:Nat):za:=h.Vq (List.range' n (h.next - n))
@[simp] theorem IB (h:za) (n:Nat):(trim h n).next=h.next:=rfl
@[simp] theorem My (h:za) (n:Nat):(trim h n).ro=h.ro:=rfl
theorem pd (h:za) (n b:Nat):(trim h n).get b=if n<=b/\b < h.next then none else h.get b:=by
 unfold trim;rw [Zy];simp only [kN]
theorem pe {h:za} {n b:Nat} (hb:b < n):(trim h n).get b=h.get b:=by rw [pd,NJ (by omega)]
def firstFree (m:Nat):List (Nat × Nat)->Option Nat
 | []=>none
 | (p,n) :: l=>cond (m.testBit p) (firstFree m l) (some n)
def view (m:Nat) (al:List (Nat × Nat)) (h:za):za:=match firstFree m al with
 | none=>h
 | some n=>trim h n
def uj (P:Program) (g:FuncId) (args:List Value) (h:za) (K:Value->Prop):Prop:=vL P g=true/\yB args=true /\ ∃ v,J6 v=true/\TC P g args h.lock (fun v1 _=>v1=v)/\K v
def Y3 (P:Program) (g:FuncId) (args:List Value) (h:za) (K:Value->za->Prop):Prop :=
 vL P g=true/\yB args=true /\ ∃ v h2,TC P g args h.lock (fun v1 h1=>v1=v/\h1=h2)/\AF h.lock h2/\K v (wU h h2)
def DU (P:Program) (g:FuncId) (args:List Value) (h:za) (K:Value->za->Prop):Prop :=
 vL P g=true/\yB args=true/\DC P g args h K
def G8 (P:Program) (g:FuncId) (args:List Value) (h:za) (K:Value->za->Prop):Prop:=yB args=true/\zB (lO P g args h) K
def JF (P:Program) (f:Value) (args:List Value) (h:za) (K:Value->za->Prop):Prop:=match f with
 | .func (.func g) a c=>yB args=true/\DU P g (a.toList ++ args ++ c.toList) h K
 | _=>False
def IC (P:Program) (q:FuncId->Nat) (s:Env) (o:Oper) (hv h:za) (K:Value->za->Prop):Prop:=match o.op with
 | .call { callee := .value (.func g),args,argTypes }=>(match q g with
   | 2=>uj P g (Jm s args.toList) hv fun v=>K v h
   | 3=>Y3 P g (Jm s args.toList) h K
   | 4=>G8 P g (Jm s args.toList) h K
   | _=>DU P g (Jm s args.toList) h K)
 | .call { callee := .value f,args,argTypes }=>JF P (ev s f) (Jm s args.toList) h K
 | _=>cond (Nat.beq (xZ q o) 1) (EJ P s o hv fun v _=>K v h) (EJ P s o h K)
def Gt (P:Program) (q:FuncId->Nat) (ops:Array Oper):List Oper->Nat->List Nat->List (Nat × Nat)->Env->za->(Env->za->Prop)->Prop
 | [],_,_,_,s,h,K=>K s h
 | o :: os,i,ms,al,s,h,K=>(match o.guard with
   | none=>IC P q s o (view (yN ms o) al h) h fun v h1=>(match s.put o.dst v with
     | some s1=>Gt P q ops os (i + 1) (ms ++ [yN ms o]) (cond (Nat.beq (xZ q o) 2) (al ++ [(i,h.next)]) al) s1 h1 K
     | none=>False)
   | some (j,want)=>(match (ops[j]?).bind (·.dst) with
     | none=>False
     | some d=>GD (s.get d) want (IC P q s o (view (yN ms o) al h) h) (fun v h1=>(match s.put o.dst v with
       | some s1=>Gt P q ops os (i + 1) (ms ++ [yN ms o]) (cond (Nat.beq (xZ q o) 2) (al ++ [(i,h.next)]) al) s1 h1 K
       | none=>False)) h))
def U8 (P:Program) (q:FuncId->Nat) (ops:Array Oper) (s:Env) (h:za) (K:Env->za->Prop):Prop:=cond (calm q ops) (Gt P q ops ops.toList 0 [] [] s h K) False
def Z2:Op->Bool
 | .call { callee := .value _,.. }=>true
 | _=>false
theorem fC {q:FuncId->Nat} {s:Env} {o:Oper} {h h':za} {u:Value} (hk:xZ q o=0) (hc:Z2 o.op=false) (he:VL P s o h=some (u,h')):h'=h /\ ∀ g,VL P s o g=some (u,g):=by
 have key:∀ {x:Option Value},one h x=some (u,h')->h'=h /\ ∀ g,one g x=some (u,g):=fun e=>by
  obtain ⟨e1,e2⟩:=w7 e;exact ⟨e2,fun g=>ZZ e1⟩
 unfold xZ at hk
 unfold VL at he ⊢
 split at he <;> rename_i yz <;> simp only [yz] at hk ⊢ <;> first
  | exact key he
  | (cases he;done)
  | (cases hk;done)
  | skip
 ·split at he
  ·exact key he
  ·exact key he
  ·cases he
 ·split at he
  ·exact key he
  ·cases he
 ·split at he
  ·simp only [Nz,NB] at he;obtain ⟨rfl,rfl⟩:=he;exact ⟨rfl,fun g=>rfl⟩
  ·simp only [Nz,NB] at he;obtain ⟨rfl,rfl⟩:=he;exact ⟨rfl,fun g=>rfl⟩
  ·cases he
 ·split at he
  ·exact key he
  ·cases he
 ·split at he
  ·obtain ⟨hf,he⟩:=zn he
   simp only [hf,NR]
   exact key he
  ·cases he
 ·split at he
  ·split at he
   ·simp only [Nz,NB] at he;obtain ⟨rfl,rfl⟩:=he;exact ⟨rfl,fun g=>rfl⟩
   ·cases he
  ·cases he
 ·split at he
  ·simp only [Nz,NB] at he;obtain ⟨rfl,rfl⟩:=he;exact ⟨rfl,fun g=>rfl⟩
  ·cases he
 ·split at he
  ·exact key he
  ·cases he
 ·split at he
  ·split at he
   ·split at he
    ·exact key he
    ·cases he
   ·cases he
  ·cases he
 ·split at he
  ·exact key he
  ·cases he
 ·split at he
  ·obtain ⟨hf,he⟩:=zn he
   simp only [hf,NR]
   exact key he
  ·cases he
 ·split at he
  ·exact key he
  ·cases he
 ·exfalso
  rename_i b args ts
  cases hq:Yp b <;> rw [hq] at hk <;> cases hk
theorem V0 {q:FuncId->Nat} {s:Env} {o:Oper} {h h':za} {u:Value} (hk:xZ q o=1) (hc:Z2 o.op=false) (he:VL P s o h=some (u,h')):h'=h:=by
 unfold xZ at hk
 unfold VL at he
 split at he <;> rename_i yz <;> simp only [yz] at hk <;> first
  | (cases he;done)
  | (cases hk;done)
  | skip
 ·split at he
  ·exact (w7 he).2
  ·cases he
 ·split at he
  ·split at he
   ·simp only [Nz,NB] at he;exact he.2.symm
   ·cases he
  ·exact (w7 he).2
  ·cases he
 ·rename_i b args ts
  split at he
  ·refine VJ ?_ he
   cases hq:Yp b with
   | true=>rfl
   | false=>rw [hq] at hk;cases hk
  ·cases he
 ·split at he
  ·exact (w7 he).2
  ·cases he
 ·split at he
  ·exact (w7 he).2
  ·cases he
theorem aQ {q:FuncId->Nat} {s:Env} {o:Oper} {h h':za} {u:Value} (hk:xZ q o=2) (hc:Z2 o.op=false) (he:VL P s o h=some (u,h')):Still h h':=by
 refine (Zi he).2 ?_
 unfold xZ at hk
 split at hk <;> rename_i yz <;> first
  | (cases hk;done)
  | (rw [yz] at hc;cases hc;done)
  | (rw [yz];rfl)
  | skip
 rename_i b args ts
 cases hq:Yp b <;> rw [hq] at hk <;> cases hk
end
noncomputable section
variable {P:Program}
theorem YX {s:Env} {o:Oper} {h h':za} {u:Value} (he:VL P s o h=some (u,h')):Z2 o.op=false:=by
 cases hc:Z2 o.op with
 | false=>rfl
 | true=>
   unfold Z2 at hc
   split at hc
   ·rename_i yz;unfold VL at he;simp only [yz] at he;cases he
   ·cases hc
structure RP (q:FuncId->Nat) (x:yr):Prop where
 rd:∀ b,x.rd b=true->b < x.g.next
 k0:xZ q x.o=0->∀ b,x.rd b=false
 k1:xZ q x.o<=1->∀ b,x.tc b=false
 k2:xZ q x.o=2->∀ b,x.tc b=true->x.g.next<=b
structure Next (P:Program) (q:FuncId->Nat) (ops:Array Oper) (s0:Env) (h0:za) (A:List yr) (i:Nat) (o:Oper) (s:Env) (h:za) (u:Value) (h1:za) (bound:Nat) (y:yr):Prop where
 hj:y.j=i
 yz:y.o=o
 Nm:y.s=s
 Ef:y.v=u
 gn:y.g.next=h.next
 told:Told P ops s0 h0 A y
 rp:RP q y
 rb:xZ q o=1->∀ b,y.rd b=true->b < bound
 heap:∀ b,h1.get b=if y.tc b=true then y.g'.get b else h.get b
 ro:h1.ro=h.ro
 next:h.next<=h1.next
 Ee:y.g'.next<=h1.next
 wf:WF h1
section
variable {q:FuncId->Nat} {ops:Array Oper} {s0:Env} {h0:za} {A:List yr} {i:Nat} {o:Oper} {s:Env} {h:za}
theorem JX (F:ud P ops s0 h0 A i s h) (ho:ops[i]? = some o) (hput:∀ d,o.dst=some d->d < s.size) {u:Value} (hs:kP P ops s o (h.pick []) u (h.pick [])) (bound:Nat):∃ y,Next P q ops s0 h0 A i o s h u h bound y:=by
 refine ⟨⟨i,o,u,s,h.pick [],h.pick [],fun _=>false,fun _=>false⟩,rfl,rfl,rfl,rfl,rfl,
  ⟨ho,F.env,F.size,fun b=>by rw [uk];simp,F.ro,F.next,F.nA,NG _,hs,fun d hd=>by rw [<- F.size];exact hput d hd,fun b hb=>(by cases hb),fun b _=>rfl,fun b o' hb=>(by cases hb)⟩,
  ⟨fun b hb=>(by cases hb),fun _ _=>rfl,fun _ _=>rfl,fun _ b hb=>(by cases hb)⟩,fun _ b hb=>(by cases hb),fun b=>by simp,rfl,NG _,NG _,F.wf⟩
theorem iP (F:ud P ops s0 h0 A i s h) (ho:ops[i]? = some o) (hput:∀ d,o.dst=some d->d < s.size) (hk:xZ q o=1) {hv:za} {bound:Nat} (hb:bound<=h.next) (hn:hv.next=h.next) (hro:hv.ro=h.ro)
  (hg:∀ b,hv.get b=if b < bound then h.get b else none) {u:Value} (hs:kP P ops s o hv u hv):∃ y,Next P q ops s0 h0 A i o s h u h bound y:=by
 refine ⟨⟨i,o,u,s,hv,hv,fun b=>Nat.blt b bound,fun _=>false⟩,rfl,rfl,rfl,rfl,hn,
  ⟨ho,F.env,F.size,fun b => ?_,hro.trans F.ro,by rw [hn];exact F.next,fun x hx=>by rw [hn];exact F.nA x hx,NG _,hs,fun d hd=>by rw [<- F.size];exact hput d hd,fun b hb=>(by cases hb),fun b _=>rfl,fun b o' hb=>(by cases hb)⟩,
  ⟨fun b hb2=>by have:b < bound:=by simpa [Of] using hb2
                 show b < hv.next;omega,fun h=>by simp only at h;omega,fun _ _=>rfl,fun h=>by simp only at h;omega⟩,fun _ b hb2=>by simpa [Of] using hb2,fun b=>by simp,rfl,NG _,by rw [hn];exact NG _,F.wf⟩
 show hv.get b=if Nat.blt b bound=true then ZA A h0 b else none
 have hbl:(Nat.blt b bound=true) ↔ b < bound:=by rw [Of]
 rw [hg]
 by_cases hbb:b < bound
 ·rw [NK hbb,NK (hbl.2 hbb),F.heap]
 ·rw [NJ hbb,NJ (fun e=>hbb (hbl.1 e))]
theorem Zo {h:za} (w:WF h) {b:Nat} (hb:¬ b < h.next):h.get b=none:=by
 cases hh:h.get b with | none=>rfl | some o'=>exact absurd (w b o' hh) hb
theorem QS (F:ud P ops s0 h0 A i s h) (ho:ops[i]? = some o) (hput:∀ d,o.dst=some d->d < s.size) (hk:xZ q o=2) {h1:za} (hn:h.next<=h1.next) (hro:h1.ro=h.ro) (hold:∀ b,¬ (h.next<=b/\b < h1.next)->h1.get b=h.get b)
  {u:Value} (hs:kP P ops s o h u h1) (bound:Nat):∃ y,Next P q ops s0 h0 A i o s h u h1 bound y:=by
 have hrd:∀ b,(Nat.blt b h.next=true) ↔ b < h.next:=fun b=>by rw [Of]
 have htc:∀ b,(decide (h.next<=b/\b < h1.next)=true) ↔ (h.next<=b/\b < h1.next):=fun b=>by simp
 refine ⟨⟨i,o,u,s,h,h1,fun b=>Nat.blt b h.next,fun b=>decide (h.next<=b/\b < h1.next)⟩,rfl,rfl,rfl,rfl,rfl,
  ⟨ho,F.env,F.size,fun b => ?_,F.ro,F.next,F.nA,hn,hs,fun d hd=>by rw [<- F.size];exact hput d hd,fun b hb => .inr ((htc b).1 hb),fun b hb => ?_,fun b o' hb hlt => ?_⟩,
  ⟨fun b hb=>(hrd b).1 hb,fun h=>by simp only at h;omega,fun h=>by simp only at h;omega,fun _ b hb=>((htc b).1 hb).1⟩,fun h=>by omega,fun b => ?_,hro,hn,NG _,fun b o' hb => ?_⟩
 ·show h.get b=if Nat.blt b h.next=true then ZA A h0 b else none
  by_cases hb:b < h.next
  ·rw [NK ((hrd b).2 hb),F.heap]
  ·rw [NJ (fun e=>hb ((hrd b).1 e)),Zo F.wf hb]
 ·refine hold b (fun e => ?_)
  have:=(htc b).2 e
  rw [show decide (h.next<=b/\b < h1.next)=false from hb] at this
  cases this
 ·have:=((htc b).1 hb).1
  have hlt:b < h.next:=hlt
  omega
 ·show h1.get b=if decide (h.next<=b/\b < h1.next)=true then h1.get b else h.get b
  by_cases hb:h.next<=b/\b < h1.next
  ·rw [NK ((htc b).2 hb)]
  ·rw [NJ (fun e=>hb ((htc b).1 e)),hold b hb]
 ·by_cases hc:h.next<=b/\b < h1.next
  ·exact hc.2
  ·rw [hold b hc] at hb
   exact NH (F.wf b o' hb) hn
theorem QT (F:ud P ops s0 h0 A i s h) (ho:ops[i]? = some o) (hput:∀ d,o.dst=some d->d < s.size) (hk:xZ q o=3) {h1:za} (af:AF h h1)
  {u:Value} (hs:kP P ops s o h u h1) (bound:Nat):∃ y,Next P q ops s0 h0 A i o s h u h1 bound y:=by
 have hrd:∀ n b,(Nat.blt b n=true) ↔ b < n:=fun n b=>by rw [Of]
 have hn:h.next<=h1.next:=af.next
 have hwf:WF h1:=F.wf.af af
 refine ⟨⟨i,o,u,s,h,h1,fun b=>Nat.blt b h.next,fun b=>Nat.blt b h1.next⟩,rfl,rfl,rfl,rfl,rfl,
  ⟨ho,F.env,F.size,fun b => ?_,F.ro,F.next,F.nA,hn,hs,fun d hd=>by rw [<- F.size];exact hput d hd,fun b hb => ?_,fun b hb => ?_,fun b o' hb hlt hg => ?_⟩,
  ⟨fun b hb=>(hrd _ b).1 hb,fun h=>by simp only at h;omega,fun h=>by simp only at h;omega,fun h=>by simp only at h;omega⟩,fun h=>by omega,fun b => ?_,af.ro,hn,NG _,hwf⟩
 ·show h.get b=if Nat.blt b h.next=true then ZA A h0 b else none
  by_cases hb:b < h.next
  ·rw [NK ((hrd _ b).2 hb),F.heap]
  ·rw [NJ (fun e=>hb ((hrd _ b).1 e)),Zo F.wf hb]
 ·have hb:=(hrd _ b).1 hb
  by_cases hlt:b < h.next
  ·exact .inl ((hrd _ b).2 hlt)
  ·exact .inr ⟨Px hlt,hb⟩
 ·have hb':¬ b < h1.next:=fun e=>by
   have:=(hrd h1.next b).2 e
   rw [show Nat.blt b h1.next=false from hb] at this
   cases this
  show h1.get b=h.get b
  rw [Zo hwf hb',Zo F.wf (by omega)]
 ·rcases af.alive b o' hg with h2 | ⟨h2,_⟩
  ·exact h2
  ·have hlt:b < h.next:=hlt
   omega
 ·show h1.get b=if Nat.blt b h1.next=true then h1.get b else h.get b
  by_cases hb:b < h1.next
  ·rw [NK ((hrd _ b).2 hb)]
  ·rw [NJ (fun e=>hb ((hrd _ b).1 e)),Zo hwf hb,Zo F.wf (by omega)]
theorem XF {h h1:za} (st:Still h h1):h.next<=h1.next/\h1.ro=h.ro /\ ∀ b,¬ (h.next<=b/\b < h1.next)->h1.get b=h.get b:=by
 rcases st with rfl | ⟨ob,rfl⟩
 ·exact ⟨NG _,rfl,fun _ _=>rfl⟩
 ·refine ⟨OP _,rfl,fun b hb => ?_⟩
  rw [za.wT,NJ (fun e=>hb ⟨by omega,by rw [za.Uu];omega⟩)]
theorem QZ {m:Nat} {al:List (Nat × Nat)} {h:za} (w:WF h) (hal:∀ x,x ∈ al->x.2<=h.next):∃ bound,bound<=h.next/\(view m al h).next=h.next/\(view m al h).ro=h.ro/\(∀ b,(view m al h).get b=if b < bound then h.get b else none) /\ ∀ n,firstFree m al=some n->bound=n:=by
 have mem:∀ (al:List (Nat × Nat)) n,firstFree m al=some n->∃ p,(p,n) ∈ al:=by
  intro al
  induction al with
  | nil=>intro n e;cases e
  | cons x l ih=>
    intro n e
    obtain ⟨p,n'⟩:=x
    simp only [firstFree] at e
    cases hb:m.testBit p with
    | true=>rw [hb] at e;obtain ⟨p',hp⟩:=ih n e;exact ⟨p',by simp [hp]⟩
    | false=>rw [hb] at e;cases e;exact ⟨p,by simp⟩
 unfold view
 cases hf:firstFree m al with
 | none=>exact ⟨h.next,NG _,rfl,rfl,fun b=>by
   by_cases hb:b < h.next
   ·rw [NK hb]
   ·rw [NJ hb,Zo w hb],fun n e=>by cases e⟩
 | some n=>
   obtain ⟨p,hp⟩:=mem al n hf
   have hn:n<=h.next:=hal _ hp
   refine ⟨n,hn,rfl,rfl,fun b => ?_,fun n' e=>by cases e;rfl⟩
   simp only [pd]
   by_cases hb:b < n
   ·rw [NJ (by omega),NK hb]
   ·by_cases hb2:b < h.next
    ·rw [NK ⟨by omega,hb2⟩,NJ hb]
    ·rw [NJ (by omega),NJ hb,Zo w hb2]
theorem Next.af {u:Value} {h1:za} {bound:Nat} {y:yr} (N:Next P q ops s0 h0 A i o s h u h1 bound y) (F:ud P ops s0 h0 A i s h):AF h h1 :=
 ⟨N.next,N.ro,fun b o hb=>by
  rw [N.heap] at hb
  by_cases ht:y.tc b=true
  ·rw [NK ht] at hb
   by_cases hl:b < y.g.next
   ·have h2:=N.told.MA b o ht hl hb
    have h3:=N.told.heap b
    rw [h3] at h2
    by_cases hr:y.rd b=true
    ·rw [NK hr,<- F.heap] at h2;exact .inl h2
    ·rw [NJ hr] at h2;exact absurd rfl h2
   ·have hb1:h1.get b=some o:=by rw [N.heap,NK ht];exact hb
    exact .inr ⟨by rw [<- N.gn];omega,N.wf b o hb1⟩
  ·rw [NJ ht] at hb
   exact .inl (by rw [hb];simp)⟩
theorem pP (F:ud P ops s0 h0 A i s h) (hron:h.ro<=h.next) (ho:ops[i]? = some o) (hput:∀ d,o.dst=some d->d < s.size) (hw:yi ops s o=true) {r:Env} (hl:Le r s) {m:Nat} {al:List (Nat × Nat)} (hal:∀ x,x ∈ al->x.2<=h.next)
  {K:Value->za->Prop} (hk:IC P q r o (view m al h) h K):∃ v u h1 y bound,(ya v=true\/v=u)/\K v h1/\Next P q ops s0 h0 A i o s h u h1 bound y /\ ∀ n,firstFree m al=some n->bound=n:=by
 obtain ⟨bound,hb1,hb2,hb3,hb4,hb5⟩:=QZ (m:=m) F.wf hal
 unfold IC at hk
 split at hk
 ·rename_i g args ts yz
  have ef:qI s (.func g)=some (.func (.func g) #[] #[]):=rfl
  have hkind:xZ q o=Ja (q g):=by unfold xZ;simp only [yz]
  split at hk
  ·rename_i hq
   obtain ⟨hc,hn,v,hsc,hT,hK⟩:=hk
   have hT2:TC P g (Jm r args.toList) (view m al h) (fun v1 h1=>v1=v/\h1=view m al h) :=
    (hT.quiet (fun v1 _ e=>by rw [e];exact hsc)).mono (by rintro v1 h1 ⟨⟨_,e1⟩,e2⟩;exact ⟨e1,e2⟩)
   obtain ⟨y,hy⟩:=iP (q:=q) F ho hput (by rw [hkind,hq];rfl) hb1 hb2 hb3 hb4 (u:=v) (.inr ⟨hw,.inr (.inl ⟨.func g,args,ts,g,#[],#[],_,yz,ef,Vr hl hn,hc,by simpa using hT2⟩)⟩)
   exact ⟨v,v,h,y,bound,.inr rfl,hK,hy,hb5⟩
  ·rename_i hq
   obtain ⟨hc,hn,v,h2,hT,af,hK⟩:=hk
   have hnx:h.next<=h2.next:=af.next
   obtain ⟨y,hy⟩:=QS (q:=q) F ho hput (by rw [hkind,hq];rfl) (h1:=wU h h2) hnx rfl (fun b hb=>by rw [x7];exact NJ hb) (u:=v)
    (.inr ⟨hw,.inr (.inl ⟨.func g,args,ts,g,#[],#[],_,yz,ef,Vr hl hn,hc,by simpa using hT.fresh⟩)⟩) bound
   exact ⟨v,v,_,y,bound,.inr rfl,hK,hy,hb5⟩
  ·rename_i hq
   obtain ⟨hn,hk⟩:=hk
   obtain ⟨v,h2,he,hK⟩:=jz hk
   obtain ⟨f1,f2,f3⟩:=XF (ZS he)
   obtain ⟨y,hy⟩:=QS (q:=q) F ho hput (by rw [hkind,hq];rfl) f1 f2 f3 (u:=v) (.inr ⟨hw,.inr (.inr ⟨.func g,args,ts,g,#[],#[],_,yz,ef,Vr hl hn,by simpa using he⟩)⟩) bound
   exact ⟨v,v,_,y,bound,.inr rfl,hK,hy,hb5⟩
  ·rename_i n2 n3 n4
   obtain ⟨hc,hn,hd⟩:=hk
   obtain ⟨v,h2,hK,af,hT⟩:=hd ⟨F.wf,hron⟩
   obtain ⟨y,hy⟩:=QT (q:=q) F ho hput (by rw [hkind];unfold Ja;split <;> first | rfl | (exfalso;simp_all)) af (u:=v)
    (.inr ⟨hw,.inr (.inl ⟨.func g,args,ts,g,#[],#[],_,yz,ef,Vr hl hn,hc,by simpa using hT⟩)⟩) bound
   exact ⟨v,v,_,y,bound,.inr rfl,hK,hy,hb5⟩
 ·rename_i f args ts hnf yz
  unfold JF at hk
  split at hk
  ·rename_i g a c hf
   have ef:qI s f=some (.func (.func g) a c):=by rw [jW hl (x:=f) (by rw [hf];rfl),hf]
   obtain ⟨hn0,hc,hn,hd⟩:=hk
   obtain ⟨v,h2,hK,af,hT⟩:=hd ⟨F.wf,hron⟩
   have hkind:xZ q o=3:=by
    unfold xZ
    simp only [yz]
   obtain ⟨y,hy⟩:=QT (q:=q) F ho hput hkind af (u:=v) (.inr ⟨hw,.inr (.inl ⟨f,args,ts,g,a,c,_,yz,ef,Vr hl hn0,hc,hT⟩)⟩) bound
   exact ⟨v,v,_,y,bound,.inr rfl,hK,hy,hb5⟩
  ·exact hk.elim
 ·rename_i hn1 hn2
  cases h1:Nat.beq (xZ q o) 1 with
  | true=>
    rw [h1] at hk
    have h1:=NL h1
    obtain ⟨v,u,h',he,hv,hK⟩:=kJ hl hk
    obtain rfl:=V0 h1 (YX he) he
    obtain ⟨y,hy⟩:=iP (q:=q) F ho hput h1 hb1 hb2 hb3 hb4 (u:=u) (.inr ⟨hw,.inl he⟩)
    exact ⟨v,u,h,y,bound,hv,hK,hy,hb5⟩
  | false=>
    rw [h1] at hk
    obtain ⟨v,u,h',he,hv,hK⟩:=kJ hl hk
    have hnc:=YX he
    have hkle:xZ q o=0\/xZ q o=1\/xZ q o=2\/xZ q o=3:=by
     unfold xZ
     split <;> (try simp)
     ·unfold Ja;split <;> simp
     ·rename_i b _ _ _;cases Yp b <;> simp
    rcases hkle with h0' | h1' | h2' | h3'
    ·obtain ⟨rfl,hany⟩:=fC h0' hnc he
     obtain ⟨y,hy⟩:=JX (q:=q) F ho hput (u:=u) (.inr ⟨hw,.inl (hany _)⟩) bound
     exact ⟨v,u,h',y,bound,hv,hK,hy,hb5⟩
    ·rw [h1'] at h1;cases h1
    ·obtain ⟨f1,f2,f3⟩:=XF (aQ h2' hnc he)
     obtain ⟨y,hy⟩:=QS (q:=q) F ho hput h2' f1 f2 f3 (u:=u) (.inr ⟨hw,.inl he⟩) bound
     exact ⟨v,u,h',y,bound,hv,hK,hy,hb5⟩
    ·obtain ⟨y,hy⟩:=QT (q:=q) F ho hput h3' (Zi he).1 (u:=u) (.inr ⟨hw,.inl he⟩) bound
     exact ⟨v,u,h',y,bound,hv,hK,hy,hb5⟩
end
def X6 (q:FuncId->Nat):List yr->List (Nat × Nat)
 | []=>[]
 | x :: l=>cond (Nat.beq (xZ q x.o) 2) ((x.j,x.g.next) :: X6 q l) (X6 q l)
theorem BQ (q:FuncId->Nat) (A:List yr) (y:yr):X6 q (A ++ [y])=cond (Nat.beq (xZ q y.o) 2) (X6 q A ++ [(y.j,y.g.next)]) (X6 q A):=by
 induction A with
 | nil=>simp only [Pk,X6]
 | cons x A ih=>
   simp only [List.cons_append,X6,ih]
   cases Nat.beq (xZ q x.o) 2 <;> cases Nat.beq (xZ q y.o) 2 <;> rfl
theorem Ey {q:FuncId->Nat} {A:List yr} {z:Nat × Nat} (h:z ∈ X6 q A):∃ x,x ∈ A/\z=(x.j,x.g.next):=by
 induction A with
 | nil=>cases h
 | cons x A ih=>
   simp only [X6] at h
   cases hb:Nat.beq (xZ q x.o) 2 with
   | true=>
     rw [hb] at h
     rcases Ox.1 h with e | h
     ·exact ⟨x,by simp,e⟩
     ·obtain ⟨x',h1,h2⟩:=ih h;exact ⟨x',by simp [h1],h2⟩
   | false=>rw [hb] at h;obtain ⟨x',h1,h2⟩:=ih h;exact ⟨x',by simp [h1],h2⟩
theorem Hd {q:FuncId->Nat} {m:Nat}:∀ {A:List yr},(∀ A1 x A2 y A3,A=A1 ++ x :: (A2 ++ y :: A3)->x.g.next<=y.g.next)->∀ x,x ∈ A->xZ q x.o=2->m.testBit x.j=false->∃ n,firstFree m (X6 q A)=some n/\n<=x.g.next
 | [],_,x,hx,_,_=>by cases hx
 | z :: A,hm,x,hx,hk,hb=>by
   have rest:x ∈ A->∃ n,firstFree m (X6 q A)=some n/\n<=x.g.next:=fun hx=>Hd (fun A1 x A2 y A3 e=>hm (z :: A1) x A2 y A3 (by rw [e];rfl)) x hx hk hb
   simp only [X6]
   cases hz:Nat.beq (xZ q z.o) 2 with
   | false=>
     simp only [N1]
     rcases Ox.1 hx with rfl | hx
     ·rw [hk] at hz;cases hz
     ·exact rest hx
   | true=>
     simp only [NR,firstFree]
     cases hbz:m.testBit z.j with
     | true=>
       simp only [NR]
       rcases Ox.1 hx with rfl | hx
       ·rw [hb] at hbz;cases hbz
       ·exact rest hx
     | false=>
       simp only [N1]
       refine ⟨_,rfl,?_⟩
       rcases Ox.1 hx with rfl | hx
       ·exact NG _
       ·obtain ⟨A1,A2,e⟩:=N9 hx
        exact hm [] z A1 x A2 (by rw [e];rfl)
theorem Ce {q:FuncId->Nat} {ops:Array Oper} {x y:yr} (hx:RP q x) (hy:RP q y) (hs:jA ops x.o y.o=true) (hp:sI (xZ q x.o) (xZ q y.o)=true) (hn:x.g.next<=y.g.next)
  (hb:xZ q x.o=2->xZ q y.o=1->∀ b,y.rd b=true->b < x.g.next):bU ops x y:=by
 simp only [jA,ND] at hs
 obtain ⟨h1,h2⟩:=hs
 have d1:∀ d,x.o.dst=some d->d ∉ y.o.looksAt ops/\y.o.dst ≠ some d:=by
  intro d hd
  rw [hd] at h1
  simp only [ND,NN,NP,N2] at h1
  exact ⟨h1.1,h1.2⟩
 have d2:∀ d,y.o.dst=some d->d ∉ x.o.looksAt ops:=by
  intro d hd
  rw [hd] at h2
  simp only [NN,NP,N2] at h2
  exact h2
 have ff:∀ {b:Bool},b ≠ true->b=false:=fun h=>by simpa using h
 simp only [sI,Og,ND] at hp
 rcases hp with ((h | h) | ⟨h,h'⟩) | ⟨h,h'⟩
 ·have h:=NL h
  have t:=hx.k1 (by omega)
  have r:=hx.k0 h
  exact ⟨d1,d2,fun b hb=>(by rw [t b] at hb;cases hb),fun b _=>r b⟩
 ·have h:=NL h
  have t:=hy.k1 (by omega)
  have r:=hy.k0 h
  exact ⟨d1,d2,fun b _=>⟨r b,t b⟩,fun b hb=>by rw [t b] at hb;cases hb⟩
 ·have h:=NL h
  have h':=NW h'
  have t:=hx.k1 (by omega)
  refine ⟨d1,d2,fun b hb=>(by rw [t b] at hb;cases hb),fun b hb=>ff (fun hr => ?_)⟩
  have l1:=hx.rd b hr
  by_cases h2:xZ q y.o=2
  ·have:=hy.k2 h2 b hb;omega
  ·rw [hy.k1 (by omega) b] at hb;cases hb
 ·have h:=NL h
  have h':=NL h'
  have t:=hy.k1 (by omega)
  refine ⟨d1,d2,fun b hb'=>⟨ff (fun hr => ?_),t b⟩,fun b hb=>by rw [t b] at hb;cases hb⟩
  have l1:=hx.k2 h b hb'
  have l2:=hb h h' b hr
  omega
theorem sV {ops:Array Oper} {s0:Env} {h0:za} {A:List yr} {i:Nat} {s:Env} {h:za} (F:ud P ops s0 h0 A i s h):∀ A1 x A2 y A3,A=A1 ++ x :: (A2 ++ y :: A3)->x.g.next<=y.g.next:=by
 intro A1 x A2 y A3 e
 have t1:=F.told A1 x _ e
 have t2:=F.told (A1 ++ x :: A2) y A3 (by rw [e];simp)
 have:=t2.nA x (by simp)
 have:=t1.n1
 omega
theorem Fh {q:FuncId->Nat} {ops:Array Oper} {s0:Env} {h0:za} (hro0:h0.ro<=h0.next):∀ (l:List Oper) (i:Nat) (ms:List Nat) (A:List yr) (r s:Env) (h:za) {K:Env->za->Prop},
  ops.toList.drop i=l->i<=ops.size->Qf ops ms->ms.length=i->ud P ops s0 h0 A i s h->(∀ x,x ∈ A->RP q x)->ZD ops l i ms (A.reverse.map fun x=>(x.j,x.o))=true->mo q l i ms (A.reverse.map fun x=>(x.j,xZ q x.o))=true ->
  Le r s->Gt P q ops l i ms (X6 q A) r h K->∃ A' r' s' h',ud P ops s0 h0 A' ops.size s' h'/\Le r' s'/\K r' h'/\Fr (XD l) s s'/\AF h h'
 | [],i,ms,A,r,s,h,K,hl,hle,hm,hml,F,hrp,hst,hkd,hle1,hk=>by
   have:i=ops.size:=by
    have:=congrArg List.length hl
    simp at this
    omega
   subst this
   exact ⟨A,r,s,h,F,hle1,hk,.refl _ _,.refl _⟩
 | o :: os,i,ms,A,r,s,h,K,hl,hle,hm,hml,F,hrp,hst,hkd,hle1,hk=>by
   have ho:ops[i]? = some o:=by
    have:=congrArg (fun l=>l[0]?) hl
    simp only [Od,NV] at this
    simpa using this
   have hlt:i < ops.size:=by
    rcases NZ i ops.size with h | h
    ·exact h
    ·rw [N3 h] at ho;cases ho
   have hl':ops.toList.drop (i + 1)=os:=by rw [<- PG,hl];rfl
   simp only [ZD,ND] at hst
   obtain ⟨⟨hedge,hslots⟩,hst⟩:=hst
   simp only [mo,ND] at hkd
   obtain ⟨hpair,hkd⟩:=hkd
   have hal:∀ x,x ∈ X6 q A->x.2<=h.next:=fun x hx=>by
    obtain ⟨z,hz,rfl⟩:=Ey hx
    have:=F.nA z hz
    obtain ⟨A1,A2,e⟩:=N9 hz
    have:=(F.told A1 z A2 e).n1
    show z.g.next<=h.next
    omega
   have go:∀ (v u:Value) (h1:za) (y:yr) (bound:Nat),(ya v=true\/v=u)->Next P q ops s0 h0 A i o s h u h1 bound y->(∀ n,firstFree (yN ms o) (X6 q A)=some n->bound=n) ->
     (match r.put o.dst v with | some s1=>Gt P q ops os (i + 1) (ms ++ [yN ms o]) (cond (Nat.beq (xZ q o) 2) (X6 q A ++ [(i,h.next)]) (X6 q A)) s1 h1 K | none=>False) ->
     ∃ A' r' s' h',ud P ops s0 h0 A' ops.size s' h'/\Le r' s'/\K r' h'/\Fr (XD (o :: os)) s s'/\AF h h':=by
    intro v u h1 y bound hv N hbound hk
    split at hk
    case h_2=>exact hk.elim
    rename_i r1 hp
    obtain ⟨s1,hp1,hl1⟩:=hle1.put hp hv
    have hs1:∀ t,s1.get t=if o.dst=some t then u else s.get t:=by
     intro t
     cases hd:o.dst with
     | none=>rw [hd] at hp1;simp only [Env.put,Nz] at hp1;subst hp1;simp
     | some d=>
       rw [hd] at hp1
       simp only [Env.put] at hp1
       obtain ⟨_,hp1⟩:=zn hp1
       simp only [Nz] at hp1
       subst hp1
       rw [Env.yj]
       by_cases e:t=d
       ·subst e;simp
       ·rw [NJ e,NJ (by simp only [Nz];exact fun h=>e h.symm)]
    have hs1s:s1.size=s.size:=(Fr.put hp1).size
    have hal2:(cond (Nat.beq (xZ q o) 2) (X6 q A ++ [(i,h.next)]) (X6 q A))=X6 q (A ++ [y]):=by rw [BQ,N.yz,N.hj,N.gn]
    rw [hal2] at hk
    have F1:ud P ops s0 h0 (A ++ [y]) (i + 1) s1 h1:=by
     refine ⟨?_,?_,hs1s.trans F.size,?_,N.ro.trans F.ro,Oc F.next N.next,?_,N.wf,?_,?_,?_⟩
     ·rw [Ou,F.js,List.range_succ];simp [N.hj]
     ·intro t
      rw [hs1,Ur,N.yz,N.Ef,F.env]
     ·intro b
      rw [N.heap,K9,F.heap]
     ·intro x hx
      rcases Om.1 hx with hx | hx
      ·exact Oc (F.nA x hx) N.next
      ·simp only [N7] at hx;subst hx;exact N.Ee
     ·intro A1 r A2 e
      rcases uc e with ⟨_,rfl,rfl⟩ | ⟨A3,_,e3⟩
      ·exact N.told
      ·exact F.told A1 r A3 e3
     ·intro A1 r A2 e ed hed hb
      rcases uc e with ⟨_,rfl,rfl⟩ | ⟨A3,_,e3⟩
      ·rw [N.yz] at hed
       simp only [NY,Og,NN,Of] at hedge
       rcases hedge ed (by simpa using hed) with h2 | h2
       ·rw [hb] at h2;cases h2
       ·have:ed.on ∈ A1.map (·.j):=by rw [F.js];exact ON.2 h2
        obtain ⟨x,hx,hxj⟩:=OJ.1 this
        exact ⟨x,hx,hxj⟩
      ·exact F.X9 A1 r A3 e3 ed hed hb
     ·intro A1 x A2 z A3 e
      have e':A ++ [y]=(A1 ++ x :: A2) ++ z :: A3:=by rw [e];simp
      rcases uc e' with ⟨_,e1,rfl⟩ | ⟨A4,_,e3⟩
      ·have hxm:x ∈ A:=by rw [<- e1];simp
       simp only [NY,Og] at hpair hslots
       rcases hslots (x.j,x.o) (OJ.2 ⟨x,by simpa using hxm,rfl⟩) with h2 | h2
       ·rw [N.hj];exact .inl (uX hm ho h2)
       ·rcases hpair (x.j,xZ q x.o) (OJ.2 ⟨x,by simpa using hxm,rfl⟩) with h3 | h3
        ·rw [N.hj];exact .inl (uX hm ho h3)
        ·by_cases hbit:(yN ms o).testBit x.j=true
         ·rw [N.hj];exact .inl (uX hm ho hbit)
         ·simp only [Py] at hbit
          refine .inr (Ce (q:=q) (hrp x hxm) N.rp (by rw [N.yz];exact h2) (by rw [N.yz];exact h3) ?_ ?_)
          ·have:=F.nA x hxm
           obtain ⟨B1,B2,eB⟩:=N9 hxm
           have:=(F.told B1 x B2 eB).n1
           rw [N.gn];omega
          ·intro k2 k1 b hrd
           obtain ⟨n,hn,hle2⟩:=Hd (m:=yN ms o) (sV F) x hxm k2 hbit
           have:=N.rb (by rw [<- N.yz];exact k1) b hrd
           have:=hbound n hn
           omega
      ·exact F.apart A1 x A2 z A4 (by rw [e3];simp)
    obtain ⟨A',r',s',h',F',l',k',f',a'⟩:=Fh hro0 os (i + 1) (ms ++ [yN ms o]) (A ++ [y]) r1 s1 h1 hl' hlt (XC hm hml ho) (by simp [hml]) F1
     (fun x hx=>by rcases Om.1 hx with hx | hx
                   ·exact hrp x hx
                   ·simp only [N7] at hx;subst hx;exact N.rp)
     (by simpa [N.hj,N.yz] using hst) (by simpa [N.hj,N.yz] using hkd) hl1 hk
    exact ⟨A',r',s',h',F',l',k',(Fr.put hp1).left.trans f'.right,(N.af F).trans a'⟩
   have slot:∀ {v:Value} {h1:za} {al':List (Nat × Nat)},(match r.put o.dst v with | some s1=>Gt P q ops os (i + 1) (ms ++ [yN ms o]) al' s1 h1 K | none=>False)->∀ d,o.dst=some d->d < s.size:=by
    intro v h1 al' hk d hd
    split at hk
    case h_2=>exact hk.elim
    rename_i r1 hp
    rw [hd] at hp
    simp only [Env.put] at hp
    obtain ⟨hb,_⟩:=zn hp
    rw [<- hle1.size]
    simpa [Of] using hb
   have hron:h.ro<=h.next:=by rw [F.ro];exact Oc hro0 F.next
   have dstok:∀ {hv:za} {K':Value->za->Prop},IC P q r o hv h K'->(∀ v h1,K' v h1->∀ d,o.dst=some d->d < s.size)->∀ d,o.dst=some d->d < s.size:=by
    intro hv K' hk hs
    have fromA:∀ {g:za} {K2:Value->za->Prop},EJ P r o g K2->(∀ v h1,K2 v h1->∀ d,o.dst=some d->d < s.size)->∀ d,o.dst=some d->d < s.size:=fun hk hs=>by
     obtain ⟨v,u,h',_,_,hK⟩:=kJ hle1 hk
     exact hs v h' hK
    unfold IC at hk
    split at hk
    ·split at hk
     ·obtain ⟨_,_,v,_,_,hK⟩:=hk;exact hs _ _ hK
     ·obtain ⟨_,_,v,h2,_,_,hK⟩:=hk;exact hs _ _ hK
     ·obtain ⟨_,hk⟩:=hk;obtain ⟨v,h2,_,hK⟩:=jz hk;exact hs _ _ hK
     ·obtain ⟨_,_,hd⟩:=hk;obtain ⟨v,h2,hK,_⟩:=hd ⟨F.wf,hron⟩;exact hs _ _ hK
    ·unfold JF at hk
     split at hk
     ·obtain ⟨_,_,_,hd⟩:=hk;obtain ⟨v,h2,hK,_⟩:=hd ⟨F.wf,hron⟩;exact hs _ _ hK
     ·exact hk.elim
    ·cases h1:Nat.beq (xZ q o) 1 with
     | true=>rw [h1] at hk;exact fromA hk (fun v _ q=>hs v _ q)
     | false=>rw [h1] at hk;exact fromA hk hs
   simp only [Gt] at hk
   split at hk
   ·rename_i hg
    obtain ⟨v,u,h1,y,bound,hv,hK,N,hb⟩:=pP F hron ho (dstok hk (fun v h1 hK=>slot hK)) (by simp only [yi,hg]) hle1 hal hk
    exact go v u h1 y bound hv N hb hK
   ·rename_i j want hg
    split at hk
    ·exact hk.elim
    ·rename_i d hdst
     unfold GD at hk
     split at hk
     ·rename_i b hb
      have hs:s.get d = .bool b:=by
       rcases hle1.get d with e | e
       ·rw [hb] at e;cases e
       ·rw [<- e,hb]
      have haw:yi ops s o=(b == want):=by simp only [yi,hg,hdst,hs]
      by_cases hbw:b=want
      ·have hk:=hk.1 hbw
       obtain ⟨v,u,h1,y,bound,hv,hK,N,hb⟩:=pP F hron ho (dstok hk (fun v h1 hK=>slot hK)) (by rw [haw,hbw];simp) hle1 hal hk
       exact go v u h1 y bound hv N hb hK
      ·have hk:=hk.2 hbw
       obtain ⟨bound,_,_,_,_,hb5⟩:=QZ (m:=yN ms o) F.wf hal
       obtain ⟨y,N⟩:=JX (q:=q) F ho (slot hk) (u:=undef) (.inl ⟨by rw [haw];simpa using hbw,rfl,rfl⟩) bound
       exact go undef undef h y bound (.inr rfl) N hb5 hk
     ·exact hk.elim
     ·rename_i n1 n2
      have hs:s.get d=r.get d:=by
       rcases hle1.get d with e | e
       ·obtain ⟨k,p,q,e2⟩:=Yl e;exact absurd e2 (n2 k p q)
       ·exact e.symm
      have haw:yi ops s o=false:=by
       simp only [yi,hg,hdst,hs]
      obtain ⟨bound,_,_,_,_,hb5⟩:=QZ (m:=yN ms o) F.wf hal
      obtain ⟨y,N⟩:=JX (q:=q) F ho (slot hk) (u:=undef) (.inl ⟨haw,rfl,rfl⟩) bound
      exact go undef undef h y bound (.inr rfl) N hb5 hk
theorem oX {q:FuncId->Nat} (hmix:P.follows .mixedOrders=true):Qe P (U8 P q):=by
 intro ops r s h K rd id hle wf hk
 unfold U8 at hk
 cases hc:calm q ops with
 | false=>rw [hc] at hk;exact hk.elim
 | true=>
   rw [hc] at hk
   have hk:Gt P q ops ops.toList 0 [] [] r h K:=hk
   simp only [calm,ND] at hc
   have F0:ud P ops s h ([]:List yr) 0 s h:=⟨rfl,fun t=>rfl,rfl,fun b=>rfl,rfl,NG _,fun x hx=>(by cases hx),wf.1,
    fun A1 r A2 e=>by simp at e,fun A1 r A2 e=>by simp at e,fun A1 x A2 y A3 e=>by simp at e⟩
   obtain ⟨A,r',s',h',F,hl',hK,hf,af⟩:=Fh wf.2 ops.toList 0 [] [] r s h rfl (Oe _) (fun k q hq=>by simp at hq) rfl F0 (fun x hx=>(by cases hx)) hc.1 hc.2 hle hk
   have V:Valid P ops s h A:=⟨by rw [F.js];exact List.nodup_range,fun i hi=>by
     have:i ∈ A.map (·.j):=by rw [F.js];exact ON.2 hi
     obtain ⟨r,hr,hj⟩:=OJ.1 this
     exact ⟨r,hr,hj⟩,F.told,F.X9,F.apart⟩
   exact ⟨r',s',h',hl',hK,hf,af,Wo hmix V F.env F.size F.heap F.ro F.next F.nA (Q:=fun e s1 h1=>e = .normal/\s1=s'/\h1=h') ⟨rfl,rfl,rfl⟩⟩
theorem XY {q:FuncId->Nat} (hmix:P.follows .mixedOrders=true) {n:Nat} {f:FuncId} {args:List Value} {h:za} {R:Value->za->Prop} (hk:Fi P (U8 P q) n f args h R):DC P f args h R:=Jo (oX hmix) hk
theorem DC.mono {f:FuncId} {args:List Value} {h:za} {R R':Value->za->Prop} (d:DC P f args h R) (m:∀ v h1,R v h1->R' v h1):DC P f args h R':=fun wf=>by
 obtain ⟨v,h1,a,b,c⟩:=d wf
 exact ⟨v,h1,m v h1 a,b,c⟩
theorem jY {f:FuncId} {args:List Value} {h:za} {R:Value->za->Prop} (ht:w9 h->DC P f args h R):DC P f args h R:=fun wf=>ht wf wf
theorem DC.tc {f:FuncId} {args:List Value} {h:za} {R:Value->za->Prop} (d:DC P f args h R):TC P f args h R:=by
 intro ρ w cargs hr hv
 obtain ⟨v,h1,hR,_,t⟩:=d ⟨fun b o hb=>hr.Vn b o hb,hr.ro⟩
 exact (t.mono (by rintro v2 h2 ⟨rfl,rfl⟩;exact hR)) ρ w cargs hr hv
theorem w9.lock {h:za} (w:w9 h):w9 h.lock:=⟨w.1,NG _⟩
end
noncomputable section
variable {P:Program}
theorem zK {α:Sort _} {a b:α} (h:a=b):a=b:=h
theorem Ha {p:Prop} [Decidable p] (h:p):decide p=true:=Ol h
theorem G9 {p:Prop} [Decidable p] (h:¬p):decide p=false:=OC h
def zq (h:za) (b off:Nat):Option Value:=match h.get b with
 | some (.cells c _)=>c[off]?
 | _=>none
def jF (h:za) (b off n:Nat):Option Value:=match h.get b with
 | some (.cells c _)=>if off + n<=c.length then some (.agg ((c.drop off).take n).toArray) else none
 | _=>none
def fO (h:za) (b off:Nat) (vs:List Value):Option za:=match h.get b with
 | some (.cells c t)=>if off + vs.length<=c.length/\h.ro<=b/\vs.all xp=true then some (h.set b (some (.cells (zt c off vs) t))) else none
 | _=>none
theorem Yi {α:Type} {b:Bool} {p:Prop} [Decidable p] {x y:α} (h:b=true ↔ p):cond b x y=if p then x else y:=by
 by_cases hp:p
 ·rw [NK hp,h.2 hp];rfl
 ·rw [NJ hp,show b=false by simpa using fun e=>hp (h.1 e)];rfl
theorem ym {t:TypeId} (ha:zT P (isAgg t)=some false) (b off:Nat) (h:za):zc P t (.pointer (some ⟨b,off,none⟩)) h=zq h b off:=by
 unfold zc zq
 simp only [ha]
 cases h.get b with
 | none=>rfl
 | some o=>cases o <;> rfl
theorem uW {t:TypeId} {n:Nat} (ha:zT P (isAgg t)=some true) (hn:zT P (sizeOf t)=some n) (b off:Nat) (h:za):zc P t (.pointer (some ⟨b,off,none⟩)) h=jF h b off n:=by
 unfold zc jF
 simp only [ha,hn]
 cases h.get b with
 | none=>rfl
 | some o=>
   cases o <;> simp only []
   rw [Yi (p:=off + n<=_) (by rw [Po])]
theorem eh {t:TypeId} {n:Nat} (hn:zT P (sizeOf t)=some n) (b off:Nat) (v:Value) (h:za) (hv:v.cells.size=n):zZ P t (.pointer (some ⟨b,off,none⟩)) v h=fO h b off v.cells.toList:=by
 unfold zZ fO
 simp only [hn]
 cases h.get b with
 | none=>rfl
 | some o=>
   cases o <;> simp only []
   refine Yi ?_
   simp only [ND,Po,PF,OI,hv,true_and,and_assoc]
theorem Y0 {t:TypeId} (hn:zT P (sizeOf t)=some 1) (b off:Nat) (v:Value) (h:za) (hv:v.cells = #[v]):zZ P t (.pointer (some ⟨b,off,none⟩)) v h=fO h b off [v]:=by
 rw [eh hn b off v h (by rw [hv];rfl),hv]
theorem qF {t:TypeId} {n:Nat} (hn:zT P (sizeOf t)=some n) (b off:Nat) (l:List Value) (h:za) (hv:l.length=n):zZ P t (.pointer (some ⟨b,off,none⟩)) (.agg l.toArray) h=fO h b off l:=by
 rw [eh hn b off _ h (by simpa [Value.cells] using hv)];rfl
theorem xo {t e:TypeId} {n:Nat} (hu:zT P (underlying t)=some (.slice e)) (hn:zT P (sizeOf e)=some n) {b off len c:Nat} {k:IntKind} {i:Int} :
  zI P t (.slice (some ⟨b,off,none⟩) len c) (.int k i)=if 0<=i/\i < len then some (.pointer (some ⟨b,off + i.toNat * n,none⟩)) else none:=by
 unfold zI
 simp only [hu,hn]
 exact Yi (by simp)
theorem aN {d m:Nat}:kK none d m=some d:=zK rfl
theorem dO {k:IntKind} {i:Int} {d m:Nat}:kK (some (.int k i)) d m=if 0<=i/\i<=m then some i.toNat else none:=Yi (by simp)
theorem pN:Gc none=true:=zK rfl
theorem pO {v:Value} (h:ya v=false):Gc (some v)=true:=by simp only [Gc,h,Ps]
theorem BU {t e:TypeId} {n:Nat} (hu:zT P (underlying t)=some (.slice e)) (hn:zT P (sizeOf e)=some n) {b off len c:Nat} {lo hi:Option Value} {h:za} :
  IA P t (.slice (some ⟨b,off,none⟩) len c) lo hi h=(kK hi len len).bind fun hh=>(kK lo 0 hh).bind fun l=>some (.slice (some ⟨b,off + l * n,none⟩) (hh - l) (cond (wide P h b n) (QG c l) 0)):=by
 simp only [IA,ee,hu,hn]
 cases kK hi len len with
 | none=>rfl
 | some hh=>
   simp only [OR]
   cases kK lo 0 hh <;> rfl
def AT (P:Program) (t:TypeId):Option (Nat × Nat):=(zT P (typeInfo t)).map fun i=>(i.size,i.bytes)
theorem DG {t e:TypeId} {z:Value} {zs:List Value} {n bytes:Nat} (hu:zT P (underlying t)=some (.slice e)) (hs:AT P e=some (n,bytes)) (hz:vK P e=some z) (hzs:z.cells.toList=zs) (hn:0 < n) (hb:bytes<=65536) (hl:zs.length=n)
  {k k2:IntKind} {l c:Int} {h:za} (h0:0<=l) (h1:l<=c) (h2:c < 2 ^ 31):Yg P t (.int k l) (.int k2 c) h=some (.slice (some ⟨h.next,0,none⟩) l.toNat (c.toNat + 2),h.push (.cells (jH zs (c.toNat * n)) e)):=by
 unfold AT at hs
 simp only [NO,NB] at hs
 obtain ⟨i,hi,rfl,rfl⟩:=hs
 unfold Yg
 simp only [hu,hi,hz]
 have w:∀ n:Int,0<=n->n < 2 ^ 31->IntKind.i64.wrap n=n:=fun n p q=>by simp only [IntKind.wrap,IntKind.bits,IntKind.signed];simp;omega
 have hm:(i.bytes:Int) * c<=2 ^ 48:=by
  have:(i.bytes:Int) * c<=65536 * c:=Int.mul_le_mul_of_nonneg_right (by omega) (by omega)
  omega
 have hz2:z.cells.size=i.size:=by rw [<- hl,<- hzs];simp
 rw [show (decide (IntKind.i64.wrap l=l) && decide (IntKind.i64.wrap c=c) && decide (0<=l) && decide (l<=c) && decide ((i.bytes:Int) * c<=2 ^ 48) && Nat.beq z.cells.size i.size && Nat.blt 0 i.size)=true by
  simp only [ND,N8,PF,Of]
  exact ⟨⟨⟨⟨⟨⟨w l h0 (by omega),w c (by omega) h2⟩,h0⟩,h1⟩,hm⟩,hz2⟩,hn⟩]
 simp only [NR,hzs]
def Yh (h:za) (elem size bytes n:Nat) (new:List Value) (s:Value):Option (Value × za):=match s with
 | .slice none 0 0=>if n=0 then some (.slice none 0 0,h) else if n * bytes<=2 ^ 48 then some (.slice (some ⟨h.next,0,none⟩) n 1,h.push (.cells new elem)) else none
 | .slice (some ⟨b,off,none⟩) len c=>if n=0 then some (s,h) else (match h.get b with
   | some (.cells cs t)=>if c ≠ 0/\t=elem/\h.ro<=b/\off + len * size<=cs.length/\roomFor c (len + n) bytes=true/\off % size=0 then
     some (.slice (some ⟨h.next,0,none⟩) (len + n) (vP c (len + n)),(h.set b none).push (.cells (((cs.drop off).take (len * size)) ++ new) elem)) else none
   | _=>none)
 | _=>none
theorem jx {sT xT e e2:TypeId} {size bytes:Nat} (h1:zT P (underlying sT)=some (.slice e)) (h2:zT P (underlying xT)=some (.slice e2)) (hs:AT P e=some (size,bytes)) (hz:(vK P e).map (fun z=>z.cells.size)=some size) (hb:0 < bytes)
  {r:TypeId} {v x:Value} {n:Nat} {new:List Value} {h:za} (hn:jK x=some n) (hf:wZ h n size x=some new) (hc:new.all xp=true) (hl:new.length=n * size) :
  zg P .append [sT,xT] r [v,x] h=Yh h e size bytes n new v:=by
 unfold AT at hs
 simp only [NO,NB] at hs hz
 obtain ⟨i,hi,rfl,rfl⟩:=hs
 obtain ⟨z,hz,hz2⟩:=hz
 simp only [zg,Xu,h1,h2,hn,hi,hz,hf]
 rw [show (!JQ (TypeDesc.slice e2) && Nat.blt 0 i.bytes && Nat.beq z.cells.size i.size && new.all xp && Nat.beq new.length (n * i.size))=true by
  simp only [ND,PF,Of]
  exact ⟨⟨⟨⟨rfl,hb⟩,hz2⟩,hc⟩,hl⟩]
 simp only [NR]
 unfold X3 Yh
 split
 ·exact (Yi (p:=n=0) (by simp)).trans (by
   by_cases h0:n=0
   ·rw [NK h0];exact (NK h0).symm
   ·rw [NJ h0];exact (Yi (p:=n * i.bytes<=2 ^ 48) (by simp)).trans (NJ h0).symm)
 ·rename_i b off len c
  refine (Yi (p:=n=0) (by simp)).trans ?_
  by_cases h0:n=0
  ·rw [NK h0];exact (NK h0).symm
  ·rw [NJ h0]
   refine Eq.trans ?_ (NJ h0).symm
   cases hg:h.get b with
   | none=>rfl
   | some o=>
     cases o with
     | cells cs t=>
       refine Yi ?_
       simp only [ND,NN,PF,Po,ne_eq,and_assoc]
       refine and_congr ?_ (Iff.rfl)
       rw [<- Py,PF]
     | _=>rfl
 ·rename_i q1 q2
  split
  ·exact (q1 rfl).elim
  ·exact (q2 _ _ _ _ rfl).elim
  ·rfl
section heaps
variable {h:za} {b c off n:Nat} {cs:List Value} {t:TypeId} {o:wi}
theorem E9 (hb:h.get b=some (.cells cs t)) (off:Nat) (vs:List Value):fO h b off vs=if off + vs.length<=cs.length/\h.ro<=b/\vs.all xp=true then some (h.set b (some (.cells (zt cs off vs) t))) else none:=by simp only [fO,hb]
theorem y6:(h.push o).get h.next=some o:=by rw [za.wT,NK rfl]
theorem aY (hb:b=h.next):(h.push o).get b=some o:=by rw [za.wT,NK hb]
theorem zQ (hb:b < h.next):(h.push o).get b=h.get b:=by rw [za.wT,NJ (by omega)]
theorem kD {x:Option wi}:(h.set b x).get b=x:=by rw [za.yj,NK rfl]
theorem vf {x:Option wi} (hb:¬ c=b):(h.set b x).get c=h.get c:=by rw [za.yj,NJ hb]
theorem K6 (h:za) (b:Nat):h.lock.get b=h.get b:=zK rfl
theorem iO (h:za):h.lock.next=h.next:=zK rfl
theorem AM (h:za):h.lock.ro=h.next:=zK rfl
theorem fy (h:za) (o:wi):(h.push o).next=h.next + 1:=zK rfl
theorem AD (h:za) (b:Nat) (o:Option wi):(h.set b o).next=h.next:=zK rfl
theorem p0 (h:za) (o:wi):(h.push o).ro=h.ro:=zK rfl
theorem AN (h:za) (b:Nat) (o:Option wi):(h.set b o).ro=h.ro:=zK rfl
theorem Ew {a n k:Nat} (h:a < n):(a < n + k)=True:=by simp;omega
theorem Au {n:Nat}:(n < n + 1)=True:=by simp
end heaps
section numbers
variable {t:TypeId} {x y:Operand} {k k':IntKind} {a b:Int}
theorem vX {v:Value} {op:BinOp} {p q:Value} (h:Dr P op t x y p q=some v):zd P op t x y p q=some v:=by unfold zd;rw [h]
theorem GY:zd P .lss t x y (.int k a) (.int k b)=some (.bool (decide (a < b))):=vX (by cases k <;> rfl)
theorem GX:zd P .leq t x y (.int k a) (.int k b)=some (.bool (decide (a<=b))):=vX (by cases k <;> rfl)
theorem GW:zd P .gtr t x y (.int k a) (.int k b)=some (.bool (decide (b < a))):=vX (by cases k <;> rfl)
theorem GV:zd P .geq t x y (.int k a) (.int k b)=some (.bool (decide (b<=a))):=vX (by cases k <;> rfl)
theorem GU:zd P .eql t x y (.int k a) (.int k b)=some (.bool (decide (a=b))):=vX (by cases k <;> rfl)
theorem G0:zd P .neq t x y (.int k a) (.int k b)=some (.bool (!decide (a=b))):=vX (by cases k <;> rfl)
theorem GR:zd P .add t x y (.int k a) (.int k b)=some (.int k (k.wrap (a + b))):=vX (by cases k <;> rfl)
theorem G5:zd P .sub t x y (.int k a) (.int k b)=some (.int k (k.wrap (a - b))):=vX (by cases k <;> rfl)
theorem GZ:zd P .mul t x y (.int k a) (.int k b)=some (.int k (k.wrap (a * b))):=vX (by cases k <;> rfl)
theorem G1 (hb:¬ b=0):zd P .quo t x y (.int k a) (.int k b)=some (.int k (k.wrap (a.tdiv b))):=by
 refine vX ?_
 have:zT P (Op.intDiv .quo k a b)=some (.int k (k.wrap (a.tdiv b))):=by unfold Op.intDiv;rw [NJ hb];rfl
 cases k <;> (show fl (zT P (Op.intDiv .quo _ a b))=_;rw [this];rfl)
theorem G2 (hb:¬ b=0):zd P .rem t x y (.int k a) (.int k b)=some (.int k (a.tmod b)):=by
 refine vX ?_
 have:zT P (Op.intDiv .rem k a b)=some (.int k (a.tmod b)):=by unfold Op.intDiv;rw [NJ hb];rfl
 cases k <;> (show fl (zT P (Op.intDiv .rem _ a b))=_;rw [this];rfl)
theorem GS:zd P .and t x y (.int k a) (.int k b)=some (.int k (k.wrap (BitVec.ofInt k.bits a &&& BitVec.ofInt k.bits b).toNat)):=vX (by cases k <;> rfl)
theorem I0:zd P .or t x y (.int k a) (.int k b)=some (.int k (k.wrap (BitVec.ofInt k.bits a ||| BitVec.ofInt k.bits b).toNat)):=vX (by cases k <;> rfl)
theorem G6:zd P .xor t x y (.int k a) (.int k b)=some (.int k (k.wrap (BitVec.ofInt k.bits a ^^^ BitVec.ofInt k.bits b).toNat)):=vX (by cases k <;> rfl)
theorem oK:zd P .andNot t x y (.int k a) (.int k b)=some (.int k (k.wrap (BitVec.ofInt k.bits a &&& ~~~BitVec.ofInt k.bits b).toNat)):=vX (by cases k <;> rfl)
theorem G3 (hb:0<=b):zd P .shl t x y (.int k a) (.int k' b)=some (.int k (k.wrap (a * 2 ^ (min b.toNat k.bits)))):=by
 refine vX ?_
 have:zT P (Op.shift .shl k a k' b)=some (.int k (k.wrap (a * 2 ^ (min b.toNat k.bits)))):=by unfold Op.shift;rw [NJ (by omega)];rfl
 show fl (zT P (Op.shift .shl k a k' b))=_
 rw [this];rfl
theorem G4 (hb:0<=b):zd P .shr t x y (.int k a) (.int k' b)=some (.int k (a.fdiv (2 ^ (min b.toNat k.bits)))):=by
 refine vX ?_
 have:zT P (Op.shift .shr k a k' b)=some (.int k (a.fdiv (2 ^ (min b.toNat k.bits)))):=by unfold Op.shift;rw [NJ (by omega)];rfl
 show fl (zT P (Op.shift .shr k a k' b))=_
 rw [this];rfl
theorem Ho {c:Bool}:rB P .not (.bool c)=some (.bool (!c)):=zK rfl
theorem Hn:rB P .neg (.int k a)=some (.int k (k.wrap (0 - a))):=by cases k <;> rfl
end numbers
section nils
variable {t e:TypeId} {x y:Operand}
end nils
theorem Wi {α β:Type} (s:Sem α) (f:α->Sem β):zT P (s >>= f)=(zT P s).bind fun a=>zT P (f a):=by
 induction s with
 | pure a=>rfl
 | program k ih=>exact ih P
 | _=>rfl
theorem Wj {α:Type} (a:α):zT P (Pure.pure a:Sem α)=some a:=rfl
def Lp (P:Program) (d:Nat) (xs ys:Array Value):List Field->Option Bool
 | []=>some true
 | f :: fs=>if f.name ≠ "_" then (match zT P (part f.type xs f.offset),zT P (part f.type ys f.offset) with
     | some a,some b=>(match zT P (Op.equalIn d f.type a b) with
       | some r=>cond r (Lp P d xs ys fs) (some false)
       | none=>none)
     | _,_=>none) else Lp P d xs ys fs
theorem Jl {d:Nat} {t:TypeId} {xs ys:Array Value} {fs:Array Field} (hu:P.underlying t=some (.struct fs)) (hp:P.stoodInHeld t=false) :
  zT P (Op.equalIn (d + 1) t (.agg xs) (.agg ys))=Lp P d xs ys fs.toList:=by
 have h2:zT P program=some P:=rfl
 have h1:zT P (underlying t)=some (.struct fs):=by
  unfold underlying
  simp only [Wi,h2,OR,hu]
  rfl
 simp only [Op.equalIn,Wi,h1,h2,OR,hp,On,Oo]
 rw [<- Array.forIn_toList]
 generalize fs.toList=l
 clear hu h1
 induction l with
 | nil=>rfl
 | cons f l ih=>
   simp only [List.forIn_cons,Lp,Wi] at ih ⊢
   by_cases hn:f.name ≠ "_"
   ·rw [NK hn,NK hn]
    simp only [Wi]
    cases zT P (part f.type xs f.offset) with
    | none=>rfl
    | some a=>
      cases zT P (part f.type ys f.offset) with
      | none=>rfl
      | some b=>
        simp only [OR]
        cases zT P (Op.equalIn d f.type a b) with
        | none=>rfl
        | some r=>
          cases r
          ·simp only [OR,Ps,N5,Wj]
           rfl
          ·simp only [OR,Bool.not_true,On,Oo,Wj]
           exact ih
   ·rw [NJ hn,NJ hn]
    simp only [Wj,OR]
    exact ih
theorem lC {t:TypeId} {x y:Operand} {xs ys:Array Value} {fs:Array Field} {r:Bool} (hu:P.underlying t=some (.struct fs)) (hp:P.stoodInHeld t=false) (hg:P.eqGuardType P.depth t=false) (hx:flat (.agg xs)=true) (hy:flat (.agg ys)=true)
  (hr:Lp P 9999 xs ys fs.toList=some r):zd P .eql t x y (.agg xs) (.agg ys)=some (.bool r)/\zd P .neq t x y (.agg xs) (.agg ys)=some (.bool (!r)):=by
 have he:zT P (Op.equal t (.agg xs) (.agg ys))=some r:=(Jl hu hp).trans hr
 have hgd:∀ op:BinOp,zT P (eqGuard op t x y (.agg xs) (.agg ys))=some ():=by
  intro op
  have h2:zT P program=some P:=rfl
  cases op <;> simp [eqGuard,Wi,h2,hg,Wj]
 constructor <;> refine vX ?_ <;> unfold Dr <;> rw [hx,hy] <;> simp only [PL,NR,Wi,hgd,OR,binOp,he,Wj] <;> rfl
section
theorem pG {b}:ya (.bool b)=false:=zK rfl
theorem Az {k n}:ya (.int k n)=false:=zK rfl
theorem fo {s}:ya (.string s)=false:=zK rfl
theorem AB {a}:ya (.pointer a)=false:=zK rfl
theorem iR {a n c}:ya (.slice a n c)=false:=zK rfl
theorem AA {a}:ya (.map a)=false:=zK rfl
theorem pH {f a c}:ya (.func f a c)=false:=zK rfl
theorem pI:ya .nilFunc=false:=zK rfl
theorem iQ {t v}:ya (.iface t v)=false:=zK rfl
theorem pJ:ya .nilIface=false:=zK rfl
theorem Ay {a}:ya (.agg a)=false:=zK rfl
theorem iS {a}:ya (.tuple a)=false:=zK rfl
theorem oS {b}:xp (.bool b)=true:=zK rfl
theorem Aa {k n}:xp (.int k n)=true:=zK rfl
theorem eC {s}:xp (.string s)=true:=zK rfl
theorem Ad {a}:xp (.pointer a)=true:=zK rfl
theorem iC {a n c}:xp (.slice a n c)=true:=zK rfl
theorem Ab {a}:xp (.map a)=true:=zK rfl
theorem oT {f a c}:xp (.func f a c)=true:=zK rfl
end
theorem iT:yB []=true:=zK rfl
theorem fu {v:Value} {l:List Value} (h:ya v=false):yB (v :: l)=yB l:=by simp only [yB,h,N1]
theorem W7 {α:Type} (x:Option α):nb [] x=x:=zK rfl
theorem kO {α:Type} {v:Value} {l:List Value} {x:Option α} (h:ya v=false):nb (v :: l) x=nb l x:=by simp only [nb,yB,h,N1]
theorem th {A B J}:CD (.bool true) A B J=A J:=zK rfl
theorem mN {A B J}:CD (.bool false) A B J=B J:=zK rfl
theorem CS {b want:Bool} {A K h} (e:b=want):GD (.bool b) want A K h=A K:=by
 apply propext;constructor
 ·intro g;exact g.1 e
 ·intro g;exact ⟨fun _=>g,fun ne=>absurd e ne⟩
theorem CR {b want:Bool} {A K h} (e:¬ b=want):GD (.bool b) want A K h=K undef h:=by
 apply propext;constructor
 ·intro g;exact g.2 e
 ·intro g;exact ⟨fun e'=>absurd e' e,fun _=>g⟩
theorem Gy {w A K h}:GD undef w A K h=K undef h:=zK rfl
theorem Gx {A K h}:GD (.bool true) true A K h=A K:=CS rfl
theorem Gu {A K h}:GD (.bool false) false A K h=A K:=CS rfl
theorem Gw {A K h}:GD (.bool true) false A K h=K undef h:=CR (by simp)
theorem Gv {A K h}:GD (.bool false) true A K h=K undef h:=CR (by simp)
theorem AH {a b:Value} (h:ya a=false):pk (.bool true) a b=some a:=by simp only [pk,kO h,W7]
theorem pS {a b:Value} (h:ya b=false):pk (.bool false) a b=some b:=by simp only [pk,kO h,W7]
theorem Aw (a:Addr):Mw (.pointer (some a))=some (.pointer (some a)):=zK rfl
theorem DQ {vs:Array Value} {i:Nat} (h:yB vs.toList=true):gi (.tuple vs) i=vs[i]?:=by simp only [gi,nb,h,NR]
theorem DO {a b:Value} (ha:ya a=false) (hb:ya b=false):gi (.tuple #[a,b]) 0=some a:=(DQ (by simp only [yB,ha,hb,N1])).trans rfl
theorem DP {a b:Value} (ha:ya a=false) (hb:ya b=false):gi (.tuple #[a,b]) 1=some b:=(DQ (by simp only [yB,ha,hb,N1])).trans rfl
theorem ES {v:Value} {h R} (hb:ya v=false):rv [v] h R=R v h:=by
 apply propext;simp only [rv,yB,hb,N1,jM,true_and]
theorem ET {v w:Value} {h R} (hb:ya v=false) (hc:ya w=false):rv [v,w] h R=R (.tuple #[v,w]) h:=by
 apply propext;simp only [rv,yB,hb,hc,N1,jM,true_and]
theorem vp {g:FuncId} {args:List Value} {h:za} {K R:Value->za->Prop} (hc:vL P g=true) (hn:yB args=true) (hT:DC P g args h R) (hk:∀ v h1,R v h1->K v h1):zH P (.func (.func g) #[] #[]) args h K :=
 ⟨hn,by simpa using hn,.inl ⟨hc,by simpa using hT.mono hk⟩⟩
theorem uY {step:List Value->za->(List Value->za->Prop)->Prop} (I:Nat->List Value->za->Prop) (n:Nat) {vs:List Value} {h:za} (h0:I n vs h)
  (hs:∀ n vs h,I n vs h->step vs h (fun vs' h' => ∃ m,m < n/\I m vs' h')):LP step vs h:=⟨I,n,h0,hs⟩
def wV (P:Program) (f:FuncId) (args:List Value) (h:za) (v:Value):Prop:=J6 v=true/\TC P f args h.lock (fun v1 _=>v1=v)
theorem wV.dc {f:FuncId} {args:List Value} {h:za} {v:Value} (q:wV P f args h v):DC P f args h (fun v1 h1=>v1=v/\h1=h):=fun _=>
 ⟨v,h,⟨rfl,rfl⟩,.refl _,(q.2.quiet (fun v1 _ e=>by rw [e];exact q.1)).mono (by rintro v1 h1 ⟨⟨_,e1⟩,e2⟩;exact ⟨e1,e2⟩)⟩
theorem wV.of {f:FuncId} {args:List Value} {h:za} {v:Value} (hs:J6 v=true) (d:DC P f args h.lock (fun v1 _=>v1=v)):wV P f args h v:=⟨hs,d.tc⟩
theorem zJ {g:FuncId} {args:List Value} {h:za} {K:Value->za->Prop} {v:Value} (hc:vL P g=true) (hn:yB args=true) (hq:wV P g args h v) (hk:K v h):zH P (.func (.func g) #[] #[]) args h K :=
 vp hc hn hq.dc (by rintro v1 h1 ⟨rfl,rfl⟩;exact hk)
theorem xW {g:FuncId} {args:List Value} {h:za} {K:Value->Prop} {v:Value} (hc:vL P g=true) (hn:yB args=true) (hq:wV P g args h v) (hk:K v):uj P g args h K :=
 ⟨hc,hn,v,hq.1,hq.2,hk⟩
end
end Go.Ai
