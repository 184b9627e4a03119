/- A part of the proof. -/
import Derived.Test.YtcecapkbglnejaaDoorTD
set_option linter.unusedVariables false
set_option linter.unusedSimpArgs false
set_option maxRecDepth 100000
namespace Go.Ai
noncomputable section
variable {P:Program}
def UL:Nat->Nat
 | 2=>1
 | 3=>2
 | 4=>2
 | _=>3
def xL (q:FuncId->Nat) (o:Oper):Nat:=match o.op with
 | .call { callee := .value (.func g),.. }=>UL (q g)
 | .call { callee := .value _,.. }=>3
 | .call { callee := .builtin b,.. }=>cond (Zn b) 1 3
 | .move _ | .assign _ | .pick _ _ _ | .build _ _ | .nilCheck _ | .binOp _ _ _ _ _ | .unOp _ _ _ | .makeInterface _ _ | .makeFunc _ _ _ | .fieldAddr _ _ _ | .field _ _ _ | .indexAddr _ _ _ | .index _ _ _ | .extract _ _=>0
 | .load _ _ | .lookup _ _ _ _ | .slice _ _ _ _ _ | .entry _=>1
 | .box _ _ | .alloc _ | .buildSlice _ _ _ | .makeSlice _ _ _ | .makeMap _ _ | .convert _ _ _ | .range _ _=>2
 | _=>3
def pX (x y:Nat):Bool:=Nat.beq x 0 || Nat.beq y 0 || (Nat.beq x 1 && Nat.ble y 2) || (Nat.beq x 2 && Nat.beq y 1)
def im (q:FuncId->Nat):List Oper->Nat->List Nat->List (Nat × Nat)->Bool
 | [],_,_,_=>true
 | o :: os,i,ms,prev=>(prev.all fun x=>(yE ms o).testBit x.1 || pX x.2 (xL q o)) && im q os (i + 1) (ms ++ [yE ms o]) ((i,xL q o) :: prev)
def calm (q:FuncId->Nat) (ops:Array Oper):Bool:=ju ops ops.toList 0 [] [] && im q ops.toList 0 [] []
def trim (h:za) (n:Nat):za:=h.XY (List.range' n (h.next - n))
@[simp] theorem Hm (h:za) (n:Nat):(trim h n).next=h.next:=rfl
@[simp] theorem Lj (h:za) (n:Nat):(trim h n).ro=h.ro:=rfl
theorem CP (h:za) (n b:Nat):(trim h n).get b=if n<=b/\b < h.next then none else h.get b:=by
 unfold trim;rw [jn];simp only [qw]
def firstFree (m:Nat):List (Nat × Nat)->Option Nat
 | []=>none
 | (p,n) :: l=>cond (m.testBit p) (firstFree m l) (some n)
def view (m:Nat) (al:List (Nat × Nat)) (h:za):za:=match firstFree m al with
 | none=>h
 | some n=>trim h n
def qX (P:Program) (g:FuncId) (args:List Value) (h:za) (K:Value->Prop):Prop:=wK P g=true/\yV args=true /\ ∃ v,Q1 v=true/\TC P g args h.lock (fun v1 _=>v1=v)/\K v
def J2 (P:Program) (g:FuncId) (args:List Value) (h:za) (K:Value->za->Prop):Prop :=
 wK P g=true/\yV args=true /\ ∃ v h2,TC P g args h.lock (fun v1 h1=>v1=v/\h1=h2)/\AF h.lock h2/\K v (vH h h2)
def jj (P:Program) (g:FuncId) (args:List Value) (h:za) (K:Value->za->Prop):Prop :=
 wK P g=true/\yV args=true/\DC P g args h K
def Fp (P:Program) (g:FuncId) (args:List Value) (h:za) (K:Value->za->Prop):Prop:=yV args=true/\xA (gR P g args h) K
def QJ (P:Program) (f:Value) (args:List Value) (h:za) (K:Value->za->Prop):Prop:=match f with
 | .func (.func g) a c=>yV args=true/\jj P g (a.toList ++ args ++ c.toList) h K
 | _=>False
def Hp (P:Program) (q:FuncId->Nat) (s:Env) (o:Oper) (hv h:za) (K:Value->za->Prop):Prop:=match o.op with
 | .call { callee := .value (.func g),args,argTypes }=>(match q g with
   | 2=>qX P g (U2 s args.toList) hv fun v=>K v h
   | 3=>J2 P g (U2 s args.toList) h K
   | 4=>Fp P g (U2 s args.toList) h K
   | _=>jj P g (U2 s args.toList) h K)
 | .call { callee := .value f,args,argTypes }=>QJ P (ev s f) (U2 s args.toList) h K
 | _=>cond (Nat.beq (xL q o) 1) (Db P s o hv fun v _=>K v h) (Db P s o h K)
def E3 (P:Program) (q:FuncId->Nat) (ops:Array Oper):List Oper->Nat->List Nat->List (Nat × Nat)->Env->za->(Env->za->Prop)->Prop
 | [],_,_,_,s,h,K=>K s h
 | o :: os,i,ms,al,s,h,K=>(match o.guard with
   | none=>Hp P q s o (view (yE ms o) al h) h fun v h1=>(match s.put o.dst v with
     | some s1=>E3 P q ops os (i + 1) (ms ++ [yE ms o]) (cond (Nat.beq (xL q o) 2) (al ++ [(i,h.next)]) al) s1 h1 K
     | none=>False)
   | some (j,want)=>(match (ops[j]?).bind (·.dst) with
     | none=>False
     | some d=>GD (s.get d) want (Hp P q s o (view (yE ms o) al h) h) (fun v h1=>(match s.put o.dst v with
       | some s1=>E3 P q ops os (i + 1) (ms ++ [yE ms o]) (cond (Nat.beq (xL q o) 2) (al ++ [(i,h.next)]) al) s1 h1 K
       | none=>False)) h))
def vG (P:Program) (q:FuncId->Nat) (ops:Array Oper) (s:Env) (h:za) (K:Env->za->Prop):Prop:=cond (calm q ops) (E3 P q ops ops.toList 0 [] [] s h K) False
def Yu:Op->Bool
 | .call { callee := .value _,.. }=>true
 | _=>false
theorem bO {q:FuncId->Nat} {s:Env} {o:Oper} {h h':za} {u:Value} (hk:xL q o=0) (hc:Yu o.op=false) (he:Vf P s o h=some (u,h')):h'=h /\ ∀ g,Vf P s o g=some (u,g):=by
 have key:∀ {x:Option Value},one h x=some (u,h')->h'=h /\ ∀ g,one g x=some (u,g):=fun e=>by
  obtain ⟨e1,e2⟩:=wz e;exact ⟨e2,fun g=>jS e1⟩
 unfold xL at hk
 unfold Vf at he ⊢
 split at he <;> rename_i yB <;> simp only [yB] at hk ⊢ <;> first
  | exact key he
  | (cases he;done)
  | (cases hk;done)
  | skip
 ·split at he
  ·exact key he
  ·exact key he
  ·cases he
 ·split at he
  ·exact key he
  ·cases he
 ·split at he
  ·simp only [My,MC] at he;obtain ⟨rfl,rfl⟩:=he;exact ⟨rfl,fun g=>rfl⟩
  ·simp only [My,MC] at he;obtain ⟨rfl,rfl⟩:=he;exact ⟨rfl,fun g=>rfl⟩
  ·cases he
 ·split at he
  ·exact key he
  ·cases he
 ·split at he
  ·obtain ⟨hf,he⟩:=zt he
   simp only [hf,MV]
   exact key he
  ·cases he
 ·split at he
  ·split at he
   ·simp only [My,MC] at he;obtain ⟨rfl,rfl⟩:=he;exact ⟨rfl,fun g=>rfl⟩
   ·cases he
  ·cases he
 ·split at he
  ·simp only [My,MC] at he;obtain ⟨rfl,rfl⟩:=he;exact ⟨rfl,fun g=>rfl⟩
  ·cases he
 ·split at he
  ·exact key he
  ·cases he
 ·split at he
  ·split at he
   ·split at he
    ·exact key he
    ·cases he
   ·cases he
  ·cases he
 ·split at he
  ·exact key he
  ·cases he
 ·split at he
  ·obtain ⟨hf,he⟩:=zt he
   simp only [hf,MV]
   exact key he
  ·cases he
 ·split at he
  ·exact key he
  ·cases he
 ·exfalso
  rename_i b args ts
  cases hq:Zn b <;> rw [hq] at hk <;> cases hk
theorem Wu {q:FuncId->Nat} {s:Env} {o:Oper} {h h':za} {u:Value} (hk:xL q o=1) (hc:Yu o.op=false) (he:Vf P s o h=some (u,h')):h'=h:=by
 unfold xL at hk
 unfold Vf at he
 split at he <;> rename_i yB <;> simp only [yB] at hk <;> first
  | (cases he;done)
  | (cases hk;done)
  | skip
 ·split at he
  ·exact (wz he).2
  ·cases he
 ·split at he
  ·split at he
   ·simp only [My,MC] at he;exact he.2.symm
   ·cases he
  ·exact (wz he).2
  ·cases he
 ·rename_i b args ts
  split at he
  ·refine X9 ?_ he
   cases hq:Zn b with
   | true=>rfl
   | false=>rw [hq] at hk;cases hk
  ·cases he
 ·split at he
  ·exact (wz he).2
  ·cases he
 ·split at he
  ·exact (wz he).2
  ·cases he
theorem Kl {q:FuncId->Nat} {s:Env} {o:Oper} {h h':za} {u:Value} (hk:xL q o=2) (hc:Yu o.op=false) (he:Vf P s o h=some (u,h')):Still h h':=by
 refine (kY he).2 ?_
 unfold xL at hk
 split at hk <;> rename_i yB <;> first
  | (cases hk;done)
  | (rw [yB] at hc;cases hc;done)
  | (rw [yB];rfl)
  | skip
 rename_i b args ts
 cases hq:Zn b <;> rw [hq] at hk <;> cases hk
end
noncomputable section
variable {P:Program}
theorem ZS {s:Env} {o:Oper} {h h':za} {u:Value} (he:Vf P s o h=some (u,h')):Yu o.op=false:=by
 cases hc:Yu o.op with
 | false=>rfl
 | true=>
   unfold Yu at hc
   split at hc
   ·rename_i yB;unfold Vf at he;simp only [yB] at he;cases he
   ·cases hc
structure RP (q:FuncId->Nat) (x:yp):Prop where
 rd:∀ b,x.rd b=true->b < x.g.next
 k0:xL q x.o=0->∀ b,x.rd b=false
 k1:xL q x.o<=1->∀ b,x.tc b=false
 k2:xL q x.o=2->∀ b,x.tc b=true->x.g.next<=b
structure Next (P:Program) (q:FuncId->Nat) (ops:Array Oper) (s0:Env) (h0:za) (A:List yp) (i:Nat) (o:Oper) (s:Env) (h:za) (u:Value) (h1:za) (bound:Nat) (y:yp):Prop where
 hj:y.j=i
 yB:y.o=o
 LH:y.s=s
 CS:y.v=u
 gn:y.g.next=h.next
 told:Told P ops s0 h0 A y
 rp:RP q y
 rb:xL q o=1->∀ b,y.rd b=true->b < bound
 heap:∀ b,h1.get b=if y.tc b=true then y.g'.get b else h.get b
 ro:h1.ro=h.ro
 next:h.next<=h1.next
 CQ:y.g'.next<=h1.next
 wf:WF h1
section
variable {q:FuncId->Nat} {ops:Array Oper} {s0:Env} {h0:za} {A:List yp} {i:Nat} {o:Oper} {s:Env} {h:za}
theorem QV (F:vm P ops s0 h0 A i s h) (ho:ops[i]? = some o) (hput:∀ d,o.dst=some d->d < s.size) {u:Value} (hs:qz P ops s o (h.pick []) u (h.pick [])) (bound:Nat):∃ y,Next P q ops s0 h0 A i o s h u h bound y:=by
 refine ⟨⟨i,o,u,s,h.pick [],h.pick [],fun _=>false,fun _=>false⟩,rfl,rfl,rfl,rfl,rfl,
  ⟨ho,F.env,F.size,fun b=>by rw [vq];simp,F.ro,F.next,F.nA,MI _,hs,fun d hd=>by rw [<- F.size];exact hput d hd,fun b hb=>(by cases hb),fun b _=>rfl,fun b o' hb=>(by cases hb)⟩,
  ⟨fun b hb=>(by cases hb),fun _ _=>rfl,fun _ _=>rfl,fun _ b hb=>(by cases hb)⟩,fun _ b hb=>(by cases hb),fun b=>by simp,rfl,MI _,MI _,F.wf⟩
theorem fN (F:vm P ops s0 h0 A i s h) (ho:ops[i]? = some o) (hput:∀ d,o.dst=some d->d < s.size) (hk:xL q o=1) {hv:za} {bound:Nat} (hb:bound<=h.next) (hn:hv.next=h.next) (hro:hv.ro=h.ro)
  (hg:∀ b,hv.get b=if b < bound then h.get b else none) {u:Value} (hs:qz P ops s o hv u hv):∃ y,Next P q ops s0 h0 A i o s h u h bound y:=by
 refine ⟨⟨i,o,u,s,hv,hv,fun b=>Nat.blt b bound,fun _=>false⟩,rfl,rfl,rfl,rfl,hn,
  ⟨ho,F.env,F.size,fun b => ?_,hro.trans F.ro,by rw [hn];exact F.next,fun x hx=>by rw [hn];exact F.nA x hx,MI _,hs,fun d hd=>by rw [<- F.size];exact hput d hd,fun b hb=>(by cases hb),fun b _=>rfl,fun b o' hb=>(by cases hb)⟩,
  ⟨fun b hb2=>by have:b < bound:=by simpa [No] using hb2
                 show b < hv.next;omega,fun h=>by simp only at h;omega,fun _ _=>rfl,fun h=>by simp only at h;omega⟩,fun _ b hb2=>by simpa [No] using hb2,fun b=>by simp,rfl,MI _,by rw [hn];exact MI _,F.wf⟩
 show hv.get b=if Nat.blt b bound=true then jo A h0 b else none
 have hbl:(Nat.blt b bound=true) ↔ b < bound:=by rw [No]
 rw [hg]
 by_cases hbb:b < bound
 ·rw [MK hbb,MK (hbl.2 hbb),F.heap]
 ·rw [MJ hbb,MJ (fun e=>hbb (hbl.1 e))]
theorem ja {h:za} (w:WF h) {b:Nat} (hb:¬ b < h.next):h.get b=none:=by
 cases hh:h.get b with | none=>rfl | some o'=>exact absurd (w b o' hh) hb
theorem VP (F:vm P ops s0 h0 A i s h) (ho:ops[i]? = some o) (hput:∀ d,o.dst=some d->d < s.size) (hk:xL q o=2) {h1:za} (hn:h.next<=h1.next) (hro:h1.ro=h.ro) (hold:∀ b,¬ (h.next<=b/\b < h1.next)->h1.get b=h.get b)
  {u:Value} (hs:qz P ops s o h u h1) (bound:Nat):∃ y,Next P q ops s0 h0 A i o s h u h1 bound y:=by
 have hrd:∀ b,(Nat.blt b h.next=true) ↔ b < h.next:=fun b=>by rw [No]
 have htc:∀ b,(decide (h.next<=b/\b < h1.next)=true) ↔ (h.next<=b/\b < h1.next):=fun b=>by simp
 refine ⟨⟨i,o,u,s,h,h1,fun b=>Nat.blt b h.next,fun b=>decide (h.next<=b/\b < h1.next)⟩,rfl,rfl,rfl,rfl,rfl,
  ⟨ho,F.env,F.size,fun b => ?_,F.ro,F.next,F.nA,hn,hs,fun d hd=>by rw [<- F.size];exact hput d hd,fun b hb => .inr ((htc b).1 hb),fun b hb => ?_,fun b o' hb hlt => ?_⟩,
  ⟨fun b hb=>(hrd b).1 hb,fun h=>by simp only at h;omega,fun h=>by simp only at h;omega,fun _ b hb=>((htc b).1 hb).1⟩,fun h=>by omega,fun b => ?_,hro,hn,MI _,fun b o' hb => ?_⟩
 ·show h.get b=if Nat.blt b h.next=true then jo A h0 b else none
  by_cases hb:b < h.next
  ·rw [MK ((hrd b).2 hb),F.heap]
  ·rw [MJ (fun e=>hb ((hrd b).1 e)),ja F.wf hb]
 ·refine hold b (fun e => ?_)
  have:=(htc b).2 e
  rw [show decide (h.next<=b/\b < h1.next)=false from hb] at this
  cases this
 ·have:=((htc b).1 hb).1
  have hlt:b < h.next:=hlt
  omega
 ·show h1.get b=if decide (h.next<=b/\b < h1.next)=true then h1.get b else h.get b
  by_cases hb:h.next<=b/\b < h1.next
  ·rw [MK ((htc b).2 hb)]
  ·rw [MJ (fun e=>hb ((htc b).1 e)),hold b hb]
 ·by_cases hc:h.next<=b/\b < h1.next
  ·exact hc.2
  ·rw [hold b hc] at hb
   exact ML (F.wf b o' hb) hn
theorem VQ (F:vm P ops s0 h0 A i s h) (ho:ops[i]? = some o) (hput:∀ d,o.dst=some d->d < s.size) (hk:xL q o=3) {h1:za} (af:AF h h1)
  {u:Value} (hs:qz P ops s o h u h1) (bound:Nat):∃ y,Next P q ops s0 h0 A i o s h u h1 bound y:=by
 have hrd:∀ n b,(Nat.blt b n=true) ↔ b < n:=fun n b=>by rw [No]
 have hn:h.next<=h1.next:=af.next
 have hwf:WF h1:=F.wf.af af
 refine ⟨⟨i,o,u,s,h,h1,fun b=>Nat.blt b h.next,fun b=>Nat.blt b h1.next⟩,rfl,rfl,rfl,rfl,rfl,
  ⟨ho,F.env,F.size,fun b => ?_,F.ro,F.next,F.nA,hn,hs,fun d hd=>by rw [<- F.size];exact hput d hd,fun b hb => ?_,fun b hb => ?_,fun b o' hb hlt hg => ?_⟩,
  ⟨fun b hb=>(hrd _ b).1 hb,fun h=>by simp only at h;omega,fun h=>by simp only at h;omega,fun h=>by simp only at h;omega⟩,fun h=>by omega,fun b => ?_,af.ro,hn,MI _,hwf⟩
 ·show h.get b=if Nat.blt b h.next=true then jo A h0 b else none
  by_cases hb:b < h.next
  ·rw [MK ((hrd _ b).2 hb),F.heap]
  ·rw [MJ (fun e=>hb ((hrd _ b).1 e)),ja F.wf hb]
 ·have hb:=(hrd _ b).1 hb
  by_cases hlt:b < h.next
  ·exact .inl ((hrd _ b).2 hlt)
  ·exact .inr ⟨Oz hlt,hb⟩
 ·have hb':¬ b < h1.next:=fun e=>by
   have:=(hrd h1.next b).2 e
   rw [show Nat.blt b h1.next=false from hb] at this
   cases this
  show h1.get b=h.get b
  rw [ja hwf hb',ja F.wf (by omega)]
 ·rcases af.alive b o' hg with h2 | ⟨h2,_⟩
  ·exact h2
  ·have hlt:b < h.next:=hlt
   omega
 ·show h1.get b=if Nat.blt b h1.next=true then h1.get b else h.get b
  by_cases hb:b < h1.next
  ·rw [MK ((hrd _ b).2 hb)]
  ·rw [MJ (fun e=>hb ((hrd _ b).1 e)),ja hwf hb,ja F.wf (by omega)]
theorem YC {h h1:za} (st:Still h h1):h.next<=h1.next/\h1.ro=h.ro /\ ∀ b,¬ (h.next<=b/\b < h1.next)->h1.get b=h.get b:=by
 rcases st with rfl | ⟨ob,rfl⟩
 ·exact ⟨MI _,rfl,fun _ _=>rfl⟩
 ·refine ⟨N7 _,rfl,fun b hb => ?_⟩
  rw [za.wN,MJ (fun e=>hb ⟨by omega,by rw [za.WY];omega⟩)]
theorem VV {m:Nat} {al:List (Nat × Nat)} {h:za} (w:WF h) (hal:∀ x,x ∈ al->x.2<=h.next):∃ bound,bound<=h.next/\(view m al h).next=h.next/\(view m al h).ro=h.ro/\(∀ b,(view m al h).get b=if b < bound then h.get b else none) /\ ∀ n,firstFree m al=some n->bound=n:=by
 have mem:∀ (al:List (Nat × Nat)) n,firstFree m al=some n->∃ p,(p,n) ∈ al:=by
  intro al
  induction al with
  | nil=>intro n e;cases e
  | cons x l ih=>
    intro n e
    obtain ⟨p,n'⟩:=x
    simp only [firstFree] at e
    cases hb:m.testBit p with
    | true=>rw [hb] at e;obtain ⟨p',hp⟩:=ih n e;exact ⟨p',by simp [hp]⟩
    | false=>rw [hb] at e;cases e;exact ⟨p,by simp⟩
 unfold view
 cases hf:firstFree m al with
 | none=>exact ⟨h.next,MI _,rfl,rfl,fun b=>by
   by_cases hb:b < h.next
   ·rw [MK hb]
   ·rw [MJ hb,ja w hb],fun n e=>by cases e⟩
 | some n=>
   obtain ⟨p,hp⟩:=mem al n hf
   have hn:n<=h.next:=hal _ hp
   refine ⟨n,hn,rfl,rfl,fun b => ?_,fun n' e=>by cases e;rfl⟩
   simp only [CP]
   by_cases hb:b < n
   ·rw [MJ (by omega),MK hb]
   ·by_cases hb2:b < h.next
    ·rw [MK ⟨by omega,hb2⟩,MJ hb]
    ·rw [MJ (by omega),MJ hb,ja w hb2]
theorem Next.af {u:Value} {h1:za} {bound:Nat} {y:yp} (N:Next P q ops s0 h0 A i o s h u h1 bound y) (F:vm P ops s0 h0 A i s h):AF h h1 :=
 ⟨N.next,N.ro,fun b o hb=>by
  rw [N.heap] at hb
  by_cases ht:y.tc b=true
  ·rw [MK ht] at hb
   by_cases hl:b < y.g.next
   ·have h2:=N.told.Lm b o ht hl hb
    have h3:=N.told.heap b
    rw [h3] at h2
    by_cases hr:y.rd b=true
    ·rw [MK hr,<- F.heap] at h2;exact .inl h2
    ·rw [MJ hr] at h2;exact absurd rfl h2
   ·have hb1:h1.get b=some o:=by rw [N.heap,MK ht];exact hb
    exact .inr ⟨by rw [<- N.gn];omega,N.wf b o hb1⟩
  ·rw [MJ ht] at hb
   exact .inl (by rw [hb];simp)⟩
theorem nj (F:vm P ops s0 h0 A i s h) (hron:h.ro<=h.next) (ho:ops[i]? = some o) (hput:∀ d,o.dst=some d->d < s.size) (hw:yg ops s o=true) {r:Env} (hl:Le r s) {m:Nat} {al:List (Nat × Nat)} (hal:∀ x,x ∈ al->x.2<=h.next)
  {K:Value->za->Prop} (hk:Hp P q r o (view m al h) h K):∃ v u h1 y bound,(yc v=true\/v=u)/\K v h1/\Next P q ops s0 h0 A i o s h u h1 bound y /\ ∀ n,firstFree m al=some n->bound=n:=by
 obtain ⟨bound,hb1,hb2,hb3,hb4,hb5⟩:=VV (m:=m) F.wf hal
 unfold Hp at hk
 split at hk
 ·rename_i g args ts yB
  have ef:uN s (.func g)=some (.func (.func g) #[] #[]):=rfl
  have hkind:xL q o=UL (q g):=by unfold xL;simp only [yB]
  split at hk
  ·rename_i hq
   obtain ⟨hc,hn,v,hsc,hT,hK⟩:=hk
   have hT2:TC P g (U2 r args.toList) (view m al h) (fun v1 h1=>v1=v/\h1=view m al h) :=
    (hT.quiet (fun v1 _ e=>by rw [e];exact hsc)).mono (by rintro v1 h1 ⟨⟨_,e1⟩,e2⟩;exact ⟨e1,e2⟩)
   obtain ⟨y,hy⟩:=fN (q:=q) F ho hput (by rw [hkind,hq];rfl) hb1 hb2 hb3 hb4 (u:=v) (.inr ⟨hw,.inr (.inl ⟨.func g,args,ts,g,#[],#[],_,yB,ef,X1 hl hn,hc,by simpa using hT2⟩)⟩)
   exact ⟨v,v,h,y,bound,.inr rfl,hK,hy,hb5⟩
  ·rename_i hq
   obtain ⟨hc,hn,v,h2,hT,af,hK⟩:=hk
   have hnx:h.next<=h2.next:=af.next
   obtain ⟨y,hy⟩:=VP (q:=q) F ho hput (by rw [hkind,hq];rfl) (h1:=vH h h2) hnx rfl (fun b hb=>by rw [vR];exact MJ hb) (u:=v)
    (.inr ⟨hw,.inr (.inl ⟨.func g,args,ts,g,#[],#[],_,yB,ef,X1 hl hn,hc,by simpa using hT.fresh⟩)⟩) bound
   exact ⟨v,v,_,y,bound,.inr rfl,hK,hy,hb5⟩
  ·rename_i hq
   obtain ⟨hn,hk⟩:=hk
   obtain ⟨v,h2,he,hK⟩:=qR hk
   obtain ⟨f1,f2,f3⟩:=YC (jI he)
   obtain ⟨y,hy⟩:=VP (q:=q) F ho hput (by rw [hkind,hq];rfl) f1 f2 f3 (u:=v) (.inr ⟨hw,.inr (.inr ⟨.func g,args,ts,g,#[],#[],_,yB,ef,X1 hl hn,by simpa using he⟩)⟩) bound
   exact ⟨v,v,_,y,bound,.inr rfl,hK,hy,hb5⟩
  ·rename_i n2 n3 n4
   obtain ⟨hc,hn,hd⟩:=hk
   obtain ⟨v,h2,hK,af,hT⟩:=hd ⟨F.wf,hron⟩
   obtain ⟨y,hy⟩:=VQ (q:=q) F ho hput (by rw [hkind];unfold UL;split <;> first | rfl | (exfalso;simp_all)) af (u:=v)
    (.inr ⟨hw,.inr (.inl ⟨.func g,args,ts,g,#[],#[],_,yB,ef,X1 hl hn,hc,by simpa using hT⟩)⟩) bound
   exact ⟨v,v,_,y,bound,.inr rfl,hK,hy,hb5⟩
 ·rename_i f args ts hnf yB
  unfold QJ at hk
  split at hk
  ·rename_i g a c hf
   have ef:uN s f=some (.func (.func g) a c):=by rw [kA hl (x:=f) (by rw [hf];rfl),hf]
   obtain ⟨hn0,hc,hn,hd⟩:=hk
   obtain ⟨v,h2,hK,af,hT⟩:=hd ⟨F.wf,hron⟩
   have hkind:xL q o=3:=by
    unfold xL
    simp only [yB]
   obtain ⟨y,hy⟩:=VQ (q:=q) F ho hput hkind af (u:=v) (.inr ⟨hw,.inr (.inl ⟨f,args,ts,g,a,c,_,yB,ef,X1 hl hn0,hc,hT⟩)⟩) bound
   exact ⟨v,v,_,y,bound,.inr rfl,hK,hy,hb5⟩
  ·exact hk.elim
 ·rename_i hn1 hn2
  cases h1:Nat.beq (xL q o) 1 with
  | true=>
    rw [h1] at hk
    have h1:=MQ h1
    obtain ⟨v,u,h',he,hv,hK⟩:=qo hl hk
    obtain rfl:=Wu h1 (ZS he) he
    obtain ⟨y,hy⟩:=fN (q:=q) F ho hput h1 hb1 hb2 hb3 hb4 (u:=u) (.inr ⟨hw,.inl he⟩)
    exact ⟨v,u,h,y,bound,hv,hK,hy,hb5⟩
  | false=>
    rw [h1] at hk
    obtain ⟨v,u,h',he,hv,hK⟩:=qo hl hk
    have hnc:=ZS he
    have hkle:xL q o=0\/xL q o=1\/xL q o=2\/xL q o=3:=by
     unfold xL
     split <;> (try simp)
     ·unfold UL;split <;> simp
     ·rename_i b _ _ _;cases Zn b <;> simp
    rcases hkle with h0' | h1' | h2' | h3'
    ·obtain ⟨rfl,hany⟩:=bO h0' hnc he
     obtain ⟨y,hy⟩:=QV (q:=q) F ho hput (u:=u) (.inr ⟨hw,.inl (hany _)⟩) bound
     exact ⟨v,u,h',y,bound,hv,hK,hy,hb5⟩
    ·rw [h1'] at h1;cases h1
    ·obtain ⟨f1,f2,f3⟩:=YC (Kl h2' hnc he)
     obtain ⟨y,hy⟩:=VP (q:=q) F ho hput h2' f1 f2 f3 (u:=u) (.inr ⟨hw,.inl he⟩) bound
     exact ⟨v,u,h',y,bound,hv,hK,hy,hb5⟩
    ·obtain ⟨y,hy⟩:=VQ (q:=q) F ho hput h3' (kY he).1 (u:=u) (.inr ⟨hw,.inl he⟩) bound
     exact ⟨v,u,h',y,bound,hv,hK,hy,hb5⟩
end
def YV (q:FuncId->Nat):List yp->List (Nat × Nat)
 | []=>[]
 | x :: l=>cond (Nat.beq (xL q x.o) 2) ((x.j,x.g.next) :: YV q l) (YV q l)
theorem tV (q:FuncId->Nat) (A:List yp) (y:yp):YV q (A ++ [y])=cond (Nat.beq (xL q y.o) 2) (YV q A ++ [(y.j,y.g.next)]) (YV q A):=by
 induction A with
 | nil=>simp only [List.nil_append,YV]
 | cons x A ih=>
   simp only [List.cons_append,YV,ih]
   cases Nat.beq (xL q x.o) 2 <;> cases Nat.beq (xL q y.o) 2 <;> rfl
theorem CZ {q:FuncId->Nat} {A:List yp} {z:Nat × Nat} (h:z ∈ YV q A):∃ x,x ∈ A/\z=(x.j,x.g.next):=by
 induction A with
 | nil=>cases h
 | cons x A ih=>
   simp only [YV] at h
   cases hb:Nat.beq (xL q x.o) 2 with
   | true=>
     rw [hb] at h
     rcases NJ.1 h with e | h
     ·exact ⟨x,by simp,e⟩
     ·obtain ⟨x',h1,h2⟩:=ih h;exact ⟨x',by simp [h1],h2⟩
   | false=>rw [hb] at h;obtain ⟨x',h1,h2⟩:=ih h;exact ⟨x',by simp [h1],h2⟩
theorem Fu {q:FuncId->Nat} {m:Nat}:∀ {A:List yp},(∀ A1 x A2 y A3,A=A1 ++ x :: (A2 ++ y :: A3)->x.g.next<=y.g.next)->∀ x,x ∈ A->xL q x.o=2->m.testBit x.j=false->∃ n,firstFree m (YV q A)=some n/\n<=x.g.next
 | [],_,x,hx,_,_=>by cases hx
 | z :: A,hm,x,hx,hk,hb=>by
   have rest:x ∈ A->∃ n,firstFree m (YV q A)=some n/\n<=x.g.next:=fun hx=>Fu (fun A1 x A2 y A3 e=>hm (z :: A1) x A2 y A3 (by rw [e];rfl)) x hx hk hb
   simp only [YV]
   cases hz:Nat.beq (xL q z.o) 2 with
   | false=>
     simp only [M7]
     rcases NJ.1 hx with rfl | hx
     ·rw [hk] at hz;cases hz
     ·exact rest hx
   | true=>
     simp only [MV,firstFree]
     cases hbz:m.testBit z.j with
     | true=>
       simp only [MV]
       rcases NJ.1 hx with rfl | hx
       ·rw [hb] at hbz;cases hbz
       ·exact rest hx
     | false=>
       simp only [M7]
       refine ⟨_,rfl,?_⟩
       rcases NJ.1 hx with rfl | hx
       ·exact MI _
       ·obtain ⟨A1,A2,e⟩:=Nl hx
        exact hm [] z A1 x A2 (by rw [e];rfl)
theorem Aw {q:FuncId->Nat} {ops:Array Oper} {x y:yp} (hx:RP q x) (hy:RP q y) (hs:qT ops x.o y.o=true) (hp:pX (xL q x.o) (xL q y.o)=true) (hn:x.g.next<=y.g.next)
  (hb:xL q x.o=2->xL q y.o=1->∀ b,y.rd b=true->b < x.g.next):K7 ops x y:=by
 simp only [qT,MG] at hs
 obtain ⟨h1,h2⟩:=hs
 have d1:∀ d,x.o.dst=some d->d ∉ y.o.looksAt ops/\y.o.dst ≠ some d:=by
  intro d hd
  rw [hd] at h1
  simp only [MG,MU,M6,M8] at h1
  exact ⟨h1.1,h1.2⟩
 have d2:∀ d,y.o.dst=some d->d ∉ x.o.looksAt ops:=by
  intro d hd
  rw [hd] at h2
  simp only [MU,M6,M8] at h2
  exact h2
 have ff:∀ {b:Bool},b ≠ true->b=false:=fun h=>by simpa using h
 simp only [pX,Nt,MG] at hp
 rcases hp with ((h | h) | ⟨h,h'⟩) | ⟨h,h'⟩
 ·have h:=MQ h
  have t:=hx.k1 (by omega)
  have r:=hx.k0 h
  exact ⟨d1,d2,fun b hb=>(by rw [t b] at hb;cases hb),fun b _=>r b⟩
 ·have h:=MQ h
  have t:=hy.k1 (by omega)
  have r:=hy.k0 h
  exact ⟨d1,d2,fun b _=>⟨r b,t b⟩,fun b hb=>by rw [t b] at hb;cases hb⟩
 ·have h:=MQ h
  have h':=M3 h'
  have t:=hx.k1 (by omega)
  refine ⟨d1,d2,fun b hb=>(by rw [t b] at hb;cases hb),fun b hb=>ff (fun hr => ?_)⟩
  have l1:=hx.rd b hr
  by_cases h2:xL q y.o=2
  ·have:=hy.k2 h2 b hb;omega
  ·rw [hy.k1 (by omega) b] at hb;cases hb
 ·have h:=MQ h
  have h':=MQ h'
  have t:=hy.k1 (by omega)
  refine ⟨d1,d2,fun b hb'=>⟨ff (fun hr => ?_),t b⟩,fun b hb=>by rw [t b] at hb;cases hb⟩
  have l1:=hx.k2 h b hb'
  have l2:=hb h h' b hr
  omega
theorem rj {ops:Array Oper} {s0:Env} {h0:za} {A:List yp} {i:Nat} {s:Env} {h:za} (F:vm P ops s0 h0 A i s h):∀ A1 x A2 y A3,A=A1 ++ x :: (A2 ++ y :: A3)->x.g.next<=y.g.next:=by
 intro A1 x A2 y A3 e
 have t1:=F.told A1 x _ e
 have t2:=F.told (A1 ++ x :: A2) y A3 (by rw [e];simp)
 have:=t2.nA x (by simp)
 have:=t1.n1
 omega
theorem DF {q:FuncId->Nat} {ops:Array Oper} {s0:Env} {h0:za} (hro0:h0.ro<=h0.next):∀ (l:List Oper) (i:Nat) (ms:List Nat) (A:List yp) (r s:Env) (h:za) {K:Env->za->Prop},
  ops.toList.drop i=l->i<=ops.size->Vn ops ms->ms.length=i->vm P ops s0 h0 A i s h->(∀ x,x ∈ A->RP q x)->ju ops l i ms (A.reverse.map fun x=>(x.j,x.o))=true->im q l i ms (A.reverse.map fun x=>(x.j,xL q x.o))=true ->
  Le r s->E3 P q ops l i ms (YV q A) r h K->∃ A' r' s' h',vm P ops s0 h0 A' ops.size s' h'/\Le r' s'/\K r' h'/\Fr (YA l) s s'/\AF h h'
 | [],i,ms,A,r,s,h,K,hl,hle,hm,hml,F,hrp,hst,hkd,hle1,hk=>by
   have:i=ops.size:=by
    have:=congrArg List.length hl
    simp at this
    omega
   subst this
   exact ⟨A,r,s,h,F,hle1,hk,.refl _ _,.refl _⟩
 | o :: os,i,ms,A,r,s,h,K,hl,hle,hm,hml,F,hrp,hst,hkd,hle1,hk=>by
   have ho:ops[i]? = some o:=by
    have:=congrArg (fun l=>l[0]?) hl
    simp only [Nn,MD] at this
    simpa using this
   have hlt:i < ops.size:=by
    rcases MX i ops.size with h | h
    ·exact h
    ·rw [M9 h] at ho;cases ho
   have hl':ops.toList.drop (i + 1)=os:=by rw [<- OJ,hl];rfl
   simp only [ju,MG] at hst
   obtain ⟨⟨hedge,hslots⟩,hst⟩:=hst
   simp only [im,MG] at hkd
   obtain ⟨hpair,hkd⟩:=hkd
   have hal:∀ x,x ∈ YV q A->x.2<=h.next:=fun x hx=>by
    obtain ⟨z,hz,rfl⟩:=CZ hx
    have:=F.nA z hz
    obtain ⟨A1,A2,e⟩:=Nl hz
    have:=(F.told A1 z A2 e).n1
    show z.g.next<=h.next
    omega
   have go:∀ (v u:Value) (h1:za) (y:yp) (bound:Nat),(yc v=true\/v=u)->Next P q ops s0 h0 A i o s h u h1 bound y->(∀ n,firstFree (yE ms o) (YV q A)=some n->bound=n) ->
     (match r.put o.dst v with | some s1=>E3 P q ops os (i + 1) (ms ++ [yE ms o]) (cond (Nat.beq (xL q o) 2) (YV q A ++ [(i,h.next)]) (YV q A)) s1 h1 K | none=>False) ->
     ∃ A' r' s' h',vm P ops s0 h0 A' ops.size s' h'/\Le r' s'/\K r' h'/\Fr (YA (o :: os)) s s'/\AF h h':=by
    intro v u h1 y bound hv N hbound hk
    split at hk
    case h_2=>exact hk.elim
    rename_i r1 hp
    obtain ⟨s1,hp1,hl1⟩:=hle1.put hp hv
    have hs1:∀ t,s1.get t=if o.dst=some t then u else s.get t:=by
     intro t
     cases hd:o.dst with
     | none=>rw [hd] at hp1;simp only [Env.put,My] at hp1;subst hp1;simp
     | some d=>
       rw [hd] at hp1
       simp only [Env.put] at hp1
       obtain ⟨_,hp1⟩:=zt hp1
       simp only [My] at hp1
       subst hp1
       rw [Env.yo]
       by_cases e:t=d
       ·subst e;simp
       ·rw [MJ e,MJ (by simp only [My];exact fun h=>e h.symm)]
    have hs1s:s1.size=s.size:=(Fr.put hp1).size
    have hal2:(cond (Nat.beq (xL q o) 2) (YV q A ++ [(i,h.next)]) (YV q A))=YV q (A ++ [y]):=by rw [tV,N.yB,N.hj,N.gn]
    rw [hal2] at hk
    have F1:vm P ops s0 h0 (A ++ [y]) (i + 1) s1 h1:=by
     refine ⟨?_,?_,hs1s.trans F.size,?_,N.ro.trans F.ro,Nm F.next N.next,?_,N.wf,?_,?_,?_⟩
     ·rw [Ov,F.js,List.range_succ];simp [N.hj]
     ·intro t
      rw [hs1,WV,N.yB,N.CS,F.env]
     ·intro b
      rw [N.heap,UK,F.heap]
     ·intro x hx
      rcases Ns.1 hx with hx | hx
      ·exact Nm (F.nA x hx) N.next
      ·simp only [NZ] at hx;subst hx;exact N.CQ
     ·intro A1 r A2 e
      rcases vk e with ⟨_,rfl,rfl⟩ | ⟨A3,_,e3⟩
      ·exact N.told
      ·exact F.told A1 r A3 e3
     ·intro A1 r A2 e ed hed hb
      rcases vk e with ⟨_,rfl,rfl⟩ | ⟨A3,_,e3⟩
      ·rw [N.yB] at hed
       simp only [Ni,Nt,MU,No] at hedge
       rcases hedge ed (by simpa using hed) with h2 | h2
       ·rw [hb] at h2;cases h2
       ·have:ed.on ∈ A1.map (·.j):=by rw [F.js];exact NV.2 h2
        obtain ⟨x,hx,hxj⟩:=NY.1 this
        exact ⟨x,hx,hxj⟩
      ·exact F.YY A1 r A3 e3 ed hed hb
     ·intro A1 x A2 z A3 e
      have e':A ++ [y]=(A1 ++ x :: A2) ++ z :: A3:=by rw [e];simp
      rcases vk e' with ⟨_,e1,rfl⟩ | ⟨A4,_,e3⟩
      ·have hxm:x ∈ A:=by rw [<- e1];simp
       simp only [Ni,Nt] at hpair hslots
       rcases hslots (x.j,x.o) (NY.2 ⟨x,by simpa using hxm,rfl⟩) with h2 | h2
       ·rw [N.hj];exact .inl (v8 hm ho h2)
       ·rcases hpair (x.j,xL q x.o) (NY.2 ⟨x,by simpa using hxm,rfl⟩) with h3 | h3
        ·rw [N.hj];exact .inl (v8 hm ho h3)
        ·by_cases hbit:(yE ms o).testBit x.j=true
         ·rw [N.hj];exact .inl (v8 hm ho hbit)
         ·simp only [OA] at hbit
          refine .inr (Aw (q:=q) (hrp x hxm) N.rp (by rw [N.yB];exact h2) (by rw [N.yB];exact h3) ?_ ?_)
          ·have:=F.nA x hxm
           obtain ⟨B1,B2,eB⟩:=Nl hxm
           have:=(F.told B1 x B2 eB).n1
           rw [N.gn];omega
          ·intro k2 k1 b hrd
           obtain ⟨n,hn,hle2⟩:=Fu (m:=yE ms o) (rj F) x hxm k2 hbit
           have:=N.rb (by rw [<- N.yB];exact k1) b hrd
           have:=hbound n hn
           omega
      ·exact F.apart A1 x A2 z A4 (by rw [e3];simp)
    obtain ⟨A',r',s',h',F',l',k',f',a'⟩:=DF hro0 os (i + 1) (ms ++ [yE ms o]) (A ++ [y]) r1 s1 h1 hl' hlt (Yz hm hml ho) (by simp [hml]) F1
     (fun x hx=>by rcases Ns.1 hx with hx | hx
                   ·exact hrp x hx
                   ·simp only [NZ] at hx;subst hx;exact N.rp)
     (by simpa [N.hj,N.yB] using hst) (by simpa [N.hj,N.yB] using hkd) hl1 hk
    exact ⟨A',r',s',h',F',l',k',(Fr.put hp1).left.trans f'.right,(N.af F).trans a'⟩
   have slot:∀ {v:Value} {h1:za} {al':List (Nat × Nat)},(match r.put o.dst v with | some s1=>E3 P q ops os (i + 1) (ms ++ [yE ms o]) al' s1 h1 K | none=>False)->∀ d,o.dst=some d->d < s.size:=by
    intro v h1 al' hk d hd
    split at hk
    case h_2=>exact hk.elim
    rename_i r1 hp
    rw [hd] at hp
    simp only [Env.put] at hp
    obtain ⟨hb,_⟩:=zt hp
    rw [<- hle1.size]
    simpa [No] using hb
   have hron:h.ro<=h.next:=by rw [F.ro];exact Nm hro0 F.next
   have dstok:∀ {hv:za} {K':Value->za->Prop},Hp P q r o hv h K'->(∀ v h1,K' v h1->∀ d,o.dst=some d->d < s.size)->∀ d,o.dst=some d->d < s.size:=by
    intro hv K' hk hs
    have fromA:∀ {g:za} {K2:Value->za->Prop},Db P r o g K2->(∀ v h1,K2 v h1->∀ d,o.dst=some d->d < s.size)->∀ d,o.dst=some d->d < s.size:=fun hk hs=>by
     obtain ⟨v,u,h',_,_,hK⟩:=qo hle1 hk
     exact hs v h' hK
    unfold Hp at hk
    split at hk
    ·split at hk
     ·obtain ⟨_,_,v,_,_,hK⟩:=hk;exact hs _ _ hK
     ·obtain ⟨_,_,v,h2,_,_,hK⟩:=hk;exact hs _ _ hK
     ·obtain ⟨_,hk⟩:=hk;obtain ⟨v,h2,_,hK⟩:=qR hk;exact hs _ _ hK
     ·obtain ⟨_,_,hd⟩:=hk;obtain ⟨v,h2,hK,_⟩:=hd ⟨F.wf,hron⟩;exact hs _ _ hK
    ·unfold QJ at hk
     split at hk
     ·obtain ⟨_,_,_,hd⟩:=hk;obtain ⟨v,h2,hK,_⟩:=hd ⟨F.wf,hron⟩;exact hs _ _ hK
     ·exact hk.elim
    ·cases h1:Nat.beq (xL q o) 1 with
     | true=>rw [h1] at hk;exact fromA hk (fun v _ q=>hs v _ q)
     | false=>rw [h1] at hk;exact fromA hk hs
   simp only [E3] at hk
   split at hk
   ·rename_i hg
    obtain ⟨v,u,h1,y,bound,hv,hK,N,hb⟩:=nj F hron ho (dstok hk (fun v h1 hK=>slot hK)) (by simp only [yg,hg]) hle1 hal hk
    exact go v u h1 y bound hv N hb hK
   ·rename_i j want hg
    split at hk
    ·exact hk.elim
    ·rename_i d hdst
     unfold GD at hk
     split at hk
     ·rename_i b hb
      have hs:s.get d = .bool b:=by
       rcases hle1.get d with e | e
       ·rw [hb] at e;cases e
       ·rw [<- e,hb]
      have haw:yg ops s o=(b == want):=by simp only [yg,hg,hdst,hs]
      by_cases hbw:b=want
      ·have hk:=hk.1 hbw
       obtain ⟨v,u,h1,y,bound,hv,hK,N,hb⟩:=nj F hron ho (dstok hk (fun v h1 hK=>slot hK)) (by rw [haw,hbw];simp) hle1 hal hk
       exact go v u h1 y bound hv N hb hK
      ·have hk:=hk.2 hbw
       obtain ⟨bound,_,_,_,_,hb5⟩:=VV (m:=yE ms o) F.wf hal
       obtain ⟨y,N⟩:=QV (q:=q) F ho (slot hk) (u:=undef) (.inl ⟨by rw [haw];simpa using hbw,rfl,rfl⟩) bound
       exact go undef undef h y bound (.inr rfl) N hb5 hk
     ·exact hk.elim
     ·rename_i n1 n2
      have hs:s.get d=r.get d:=by
       rcases hle1.get d with e | e
       ·obtain ⟨k,p,q,e2⟩:=Zd e;exact absurd e2 (n2 k p q)
       ·exact e.symm
      have haw:yg ops s o=false:=by
       simp only [yg,hg,hdst,hs]
      obtain ⟨bound,_,_,_,_,hb5⟩:=VV (m:=yE ms o) F.wf hal
      obtain ⟨y,N⟩:=QV (q:=q) F ho (slot hk) (u:=undef) (.inl ⟨haw,rfl,rfl⟩) bound
      exact go undef undef h y bound (.inr rfl) N hb5 hk
theorem mD {q:FuncId->Nat} (hmix:P.follows .mixedOrders=true):Vm P (vG P q):=by
 intro ops r s h K rd id hle wf hk
 unfold vG at hk
 cases hc:calm q ops with
 | false=>rw [hc] at hk;exact hk.elim
 | true=>
   rw [hc] at hk
   have hk:E3 P q ops ops.toList 0 [] [] r h K:=hk
   simp only [calm,MG] at hc
   have F0:vm P ops s h ([]:List yp) 0 s h:=⟨rfl,fun t=>rfl,rfl,fun b=>rfl,rfl,MI _,fun x hx=>(by cases hx),wf.1,
    fun A1 r A2 e=>by simp at e,fun A1 r A2 e=>by simp at e,fun A1 x A2 y A3 e=>by simp at e⟩
   obtain ⟨A,r',s',h',F,hl',hK,hf,af⟩:=DF wf.2 ops.toList 0 [] [] r s h rfl (NG _) (fun k q hq=>by simp at hq) rfl F0 (fun x hx=>(by cases hx)) hc.1 hc.2 hle hk
   have V:Valid P ops s h A:=⟨by rw [F.js];exact List.nodup_range,fun i hi=>by
     have:i ∈ A.map (·.j):=by rw [F.js];exact NV.2 hi
     obtain ⟨r,hr,hj⟩:=NY.1 this
     exact ⟨r,hr,hj⟩,F.told,F.YY,F.apart⟩
   exact ⟨r',s',h',hl',hK,hf,af,Xe hmix V F.env F.size F.heap F.ro F.next F.nA (Q:=fun e s1 h1=>e = .normal/\s1=s'/\h1=h') ⟨rfl,rfl,rfl⟩⟩
theorem xw {q:FuncId->Nat} (hmix:P.follows .mixedOrders=true) {n:Nat} {f:FuncId} {args:List Value} {h:za} {R:Value->za->Prop} (hk:X2 P (vG P q) n f args h R):DC P f args h R:=dp (mD hmix) hk
theorem DC.mono {f:FuncId} {args:List Value} {h:za} {R R':Value->za->Prop} (d:DC P f args h R) (m:∀ v h1,R v h1->R' v h1):DC P f args h R':=fun wf=>by
 obtain ⟨v,h1,a,b,c⟩:=d wf
 exact ⟨v,h1,m v h1 a,b,c⟩
theorem Zq {f:FuncId} {args:List Value} {h:za} {R:Value->za->Prop} (ht:Q7 h->DC P f args h R):DC P f args h R:=fun wf=>ht wf wf
theorem DC.tc {f:FuncId} {args:List Value} {h:za} {R:Value->za->Prop} (d:DC P f args h R):TC P f args h R:=by
 intro ρ w cargs hr hv
 obtain ⟨v,h1,hR,_,t⟩:=d ⟨fun b o hb=>hr.XU b o hb,hr.ro⟩
 exact (t.mono (by rintro v2 h2 ⟨rfl,rfl⟩;exact hR)) ρ w cargs hr hv
theorem Q7.lock {h:za} (w:Q7 h):Q7 h.lock:=⟨w.1,MI _⟩
end
noncomputable section
variable {P:Program}
theorem zI {α:Sort _} {a b:α} (h:a=b):a=b:=h
theorem wL {p:Prop} [Decidable p] (h:p):decide p=true:=decide_eq_true h
theorem wg {p:Prop} [Decidable p] (h:¬p):decide p=false:=decide_eq_false h
def zL (h:za) (b off:Nat):Option Value:=match h.get b with
 | some (.cells c _)=>c[off]?
 | _=>none
def yb (h:za) (b off n:Nat):Option Value:=match h.get b with
 | some (.cells c _)=>if off + n<=c.length then some (.agg ((c.drop off).take n).toArray) else none
 | _=>none
def xU (h:za) (b off:Nat) (vs:List Value):Option za:=match h.get b with
 | some (.cells c t)=>if off + vs.length<=c.length/\h.ro<=b/\vs.all xE=true then some (h.set b (some (.cells (ze c off vs) t))) else none
 | _=>none
theorem jk {α:Type} {b:Bool} {p:Prop} [Decidable p] {x y:α} (h:b=true ↔ p):cond b x y=if p then x else y:=by
 by_cases hp:p
 ·rw [MK hp,h.2 hp];rfl
 ·rw [MJ hp,show b=false by simpa using fun e=>hp (h.1 e)];rfl
theorem yD {t:TypeId} (ha:zU P (isAgg t)=some false) (b off:Nat) (h:za):zd P t (.pointer (some ⟨b,off,none⟩)) h=zL h b off:=by
 unfold zd zL
 simp only [ha]
 cases h.get b with
 | none=>rfl
 | some o=>cases o <;> rfl
theorem v7 {t:TypeId} {n:Nat} (ha:zU P (isAgg t)=some true) (hn:zU P (sizeOf t)=some n) (b off:Nat) (h:za):zd P t (.pointer (some ⟨b,off,none⟩)) h=yb h b off n:=by
 unfold zd yb
 simp only [ha,hn]
 cases h.get b with
 | none=>rfl
 | some o=>
   cases o <;> simp only []
   rw [jk (p:=off + n<=_) (by rw [Ow])]
theorem JY {t:TypeId} {n:Nat} (hn:zU P (sizeOf t)=some n) (b off:Nat) (v:Value) (h:za) (hv:v.cells.size=n):zk P t (.pointer (some ⟨b,off,none⟩)) v h=xU h b off v.cells.toList:=by
 unfold zk xU
 simp only [hn]
 cases h.get b with
 | none=>rfl
 | some o=>
   cases o <;> simp only []
   refine jk ?_
   simp only [MG,Ow,OH,NR,hv,Oq,and_assoc]
theorem wV {t:TypeId} (hn:zU P (sizeOf t)=some 1) (b off:Nat) (v:Value) (h:za) (hv:v.cells = #[v]):zk P t (.pointer (some ⟨b,off,none⟩)) v h=xU h b off [v]:=by
 rw [JY hn b off v h (by rw [hv];rfl),hv]
theorem qb {t:TypeId} {n:Nat} (hn:zU P (sizeOf t)=some n) (b off:Nat) (l:List Value) (h:za) (hv:l.length=n):zk P t (.pointer (some ⟨b,off,none⟩)) (.agg l.toArray) h=xU h b off l:=by
 rw [JY hn b off _ h (by simpa [Value.cells] using hv)];rfl
theorem xN {t e:TypeId} {n:Nat} (hu:zU P (underlying t)=some (.slice e)) (hn:zU P (sizeOf e)=some n) {b off len c:Nat} {k:IntKind} {i:Int} :
  zA P t (.slice (some ⟨b,off,none⟩) len c) (.int k i)=if 0<=i/\i < len then some (.pointer (some ⟨b,off + i.toNat * n,none⟩)) else none:=by
 unfold zA
 simp only [hu,hn]
 exact jk (by simp)
theorem Xr {t e:TypeId} {n len:Nat} (hu:zU P (underlying t)=some (.array len e)) (hn:zU P (sizeOf e)=some n) {b off:Nat} {k:IntKind} {i:Int} :
  zA P t (.pointer (some ⟨b,off,none⟩)) (.int k i)=if 0<=i/\i < len then some (.pointer (some ⟨b,off + i.toNat * n,none⟩)) else none:=by
 unfold zA
 simp only [hu,hn]
 exact jk (by simp)
theorem X8 {d m:Nat}:vL none d m=some d:=zI rfl
theorem ZO {k:IntKind} {i:Int} {d m:Nat}:vL (some (.int k i)) d m=if 0<=i/\i<=m then some i.toNat else none:=jk (by simp)
theorem nh:Da none=true:=zI rfl
theorem US {v:Value} (h:yc v=false):Da (some v)=true:=by simp only [Da,h,Nr]
theorem t8 {t e:TypeId} {n:Nat} (hu:zU P (underlying t)=some (.slice e)) (hn:zU P (sizeOf e)=some n) {b off len c:Nat} {lo hi:Option Value} {h:za} :
  Cf P t (.slice (some ⟨b,off,none⟩) len c) lo hi h=(vL hi len len).bind fun hh=>(vL lo 0 hh).bind fun l=>some (.slice (some ⟨b,off + l * n,none⟩) (hh - l) (cond (wide P h b n) (VD c l) 0)):=by
 simp only [Cf,QG,hu,hn]
 cases vL hi len len with
 | none=>rfl
 | some hh=>
   simp only [Nd]
   cases vL lo 0 hh <;> rfl
theorem tZ {t e:TypeId} {n k:Nat} (hu:zU P (underlying t)=some (.array k e)) (hn:zU P (sizeOf e)=some n) {b off:Nat} {lo hi:Option Value} {h:za} :
  Cf P t (.pointer (some ⟨b,off,none⟩)) lo hi h=(vL hi k k).bind fun hh=>(vL lo 0 hh).bind fun l=>some (.slice (some ⟨b,off + (if k=l then 0 else l * n),none⟩) (hh - l) 0):=by
 simp only [Cf,QG,hu,hn]
 cases vL hi k k with
 | none=>rfl
 | some hh=>
   simp only [Nd]
   cases vL lo 0 hh <;> rfl
theorem E2 {h:za} {b n:Nat} {cs:List Value} {t:TypeId} (hb:h.get b=some (.cells cs t)):wide P h b n=Nat.beq (P.cellsOf t) n:=by simp only [wide,hb]
def sV (P:Program) (t:TypeId):Option (Nat × Nat):=(zU P (typeInfo t)).map fun i=>(i.size,i.bytes)
theorem B8 {t e:TypeId} {z:Value} {zs:List Value} {n bytes:Nat} (hu:zU P (underlying t)=some (.slice e)) (hs:sV P e=some (n,bytes)) (hz:xP P e=some z) (hzs:z.cells.toList=zs) (hn:0 < n) (hb:bytes<=65536) (hl:zs.length=n)
  {k k2:IntKind} {l c:Int} {h:za} (h0:0<=l) (h1:l<=c) (h2:c < 2 ^ 31):Yl P t (.int k l) (.int k2 c) h=some (.slice (some ⟨h.next,0,none⟩) l.toNat (c.toNat + 2),h.push (.cells (q7 zs (c.toNat * n)) e)):=by
 unfold sV at hs
 simp only [MR,MC] at hs
 obtain ⟨i,hi,rfl,rfl⟩:=hs
 unfold Yl
 simp only [hu,hi,hz]
 have w:∀ n:Int,0<=n->n < 2 ^ 31->IntKind.i64.wrap n=n:=fun n p q=>by simp only [IntKind.wrap,IntKind.bits,IntKind.signed];simp;omega
 have hm:(i.bytes:Int) * c<=2 ^ 48:=by
  have:(i.bytes:Int) * c<=65536 * c:=Int.mul_le_mul_of_nonneg_right (by omega) (by omega)
  omega
 have hz2:z.cells.size=i.size:=by rw [<- hl,<- hzs];simp
 rw [show (decide (IntKind.i64.wrap l=l) && decide (IntKind.i64.wrap c=c) && decide (0<=l) && decide (l<=c) && decide ((i.bytes:Int) * c<=2 ^ 48) && Nat.beq z.cells.size i.size && Nat.blt 0 i.size)=true by
  simp only [MG,Nj,OH,No]
  exact ⟨⟨⟨⟨⟨⟨w l h0 (by omega),w c (by omega) h2⟩,h0⟩,h1⟩,hm⟩,hz2⟩,hn⟩]
 simp only [MV,hzs]
def Xv (h:za) (elem size bytes n:Nat) (new:List Value) (s:Value):Option (Value × za):=match s with
 | .slice none 0 0=>if n=0 then some (.slice none 0 0,h) else if n * bytes<=2 ^ 48 then some (.slice (some ⟨h.next,0,none⟩) n 1,h.push (.cells new elem)) else none
 | .slice (some ⟨b,off,none⟩) len c=>if n=0 then some (s,h) else (match h.get b with
   | some (.cells cs t)=>if c ≠ 0/\t=elem/\h.ro<=b/\off + len * size<=cs.length/\roomFor c (len + n) bytes=true/\off % size=0 then
     some (.slice (some ⟨h.next,0,none⟩) (len + n) (uS c (len + n)),(h.set b none).push (.cells (((cs.drop off).take (len * size)) ++ new) elem)) else none
   | _=>none)
 | _=>none
theorem jK {sT xT e e2:TypeId} {size bytes:Nat} (h1:zU P (underlying sT)=some (.slice e)) (h2:zU P (underlying xT)=some (.slice e2)) (hs:sV P e=some (size,bytes)) (hz:(xP P e).map (fun z=>z.cells.size)=some size) (hb:0 < bytes)
  {r:TypeId} {v x:Value} {n:Nat} {new:List Value} {h:za} (hn:ZQ x=some n) (hf:wW h n size x=some new) (hc:new.all xE=true) (hl:new.length=n * size) :
  zo P .append [sT,xT] r [v,x] h=Xv h e size bytes n new v:=by
 unfold sV at hs
 simp only [MR,MC] at hs hz
 obtain ⟨i,hi,rfl,rfl⟩:=hs
 obtain ⟨z,hz,hz2⟩:=hz
 simp only [zo,Yi,h1,h2,hn,hi,hz,hf]
 rw [show (!QQ (TypeDesc.slice e2) && Nat.blt 0 i.bytes && Nat.beq z.cells.size i.size && new.all xE && Nat.beq new.length (n * i.size))=true by
  simp only [MG,OH,No]
  exact ⟨⟨⟨⟨rfl,hb⟩,hz2⟩,hc⟩,hl⟩]
 simp only [MV]
 unfold YS Xv
 split
 ·exact (jk (p:=n=0) (by simp)).trans (by
   by_cases h0:n=0
   ·rw [MK h0];exact (MK h0).symm
   ·rw [MJ h0];exact (jk (p:=n * i.bytes<=2 ^ 48) (by simp)).trans (MJ h0).symm)
 ·rename_i b off len c
  refine (jk (p:=n=0) (by simp)).trans ?_
  by_cases h0:n=0
  ·rw [MK h0];exact (MK h0).symm
  ·rw [MJ h0]
   refine Eq.trans ?_ (MJ h0).symm
   cases hg:h.get b with
   | none=>rfl
   | some o=>
     cases o with
     | cells cs t=>
       refine jk ?_
       simp only [MG,MU,OH,Ow,ne_eq,and_assoc]
       refine and_congr ?_ (Iff.rfl)
       rw [<- OA,OH]
     | _=>rfl
 ·rename_i q1 q2
  split
  ·exact (q1 rfl).elim
  ·exact (q2 _ _ _ _ rfl).elim
  ·rfl
section heaps
variable {h:za} {b c off n:Nat} {cs:List Value} {t:TypeId} {o:xS}
theorem Dx (hb:h.get b=some (.cells cs t)) (off:Nat) (vs:List Value):xU h b off vs=if off + vs.length<=cs.length/\h.ro<=b/\vs.all xE=true then some (h.set b (some (.cells (ze cs off vs) t))) else none:=by simp only [xU,hb]
theorem z7:(h.push o).get h.next=some o:=by rw [za.wN,MK rfl]
theorem zE (hb:b=h.next):(h.push o).get b=some o:=by rw [za.wN,MK hb]
theorem zO (hb:b < h.next):(h.push o).get b=h.get b:=by rw [za.wN,MJ (by omega)]
theorem zZ {x:Option xS}:(h.set b x).get b=x:=by rw [za.yo,MK rfl]
theorem zN {x:Option xS} (hb:¬ c=b):(h.set b x).get c=h.get c:=by rw [za.yo,MJ hb]
theorem UJ (h:za) (b:Nat):h.lock.get b=h.get b:=zI rfl
theorem ZL (h:za):h.lock.next=h.next:=zI rfl
theorem sN (h:za):h.lock.ro=h.next:=zI rfl
theorem yd (h:za) (o:xS):(h.push o).next=h.next + 1:=zI rfl
theorem vM (h:za) (b:Nat) (o:Option xS):(h.set b o).next=h.next:=zI rfl
theorem vr (h:za) (o:xS):(h.push o).ro=h.ro:=zI rfl
theorem W1 (h:za) (b:Nat) (o:Option xS):(h.set b o).ro=h.ro:=zI rfl
theorem QT {a n k:Nat} (h:a < n):(a < n + k)=True:=by simp;omega
theorem K5 {n:Nat}:(n < n + 1)=True:=by simp
end heaps
section numbers
variable {t:TypeId} {x y:Operand} {k k':IntKind} {a b:Int}
theorem wU {v:Value} {op:BinOp} {p q:Value} (h:tS P op t x y p q=some v):zf P op t x y p q=some v:=by unfold zf;rw [h]
theorem vy:zf P .lss t x y (.int k a) (.int k b)=some (.bool (decide (a < b))):=wU (by cases k <;> rfl)
theorem Fl:zf P .leq t x y (.int k a) (.int k b)=some (.bool (decide (a<=b))):=wU (by cases k <;> rfl)
theorem Zr:zf P .gtr t x y (.int k a) (.int k b)=some (.bool (decide (b < a))):=wU (by cases k <;> rfl)
theorem fy:zf P .geq t x y (.int k a) (.int k b)=some (.bool (decide (b<=a))):=wU (by cases k <;> rfl)
theorem jy:zf P .eql t x y (.int k a) (.int k b)=some (.bool (decide (a=b))):=wU (by cases k <;> rfl)
theorem qW:zf P .neq t x y (.int k a) (.int k b)=some (.bool (!decide (a=b))):=wU (by cases k <;> rfl)
theorem qV:zf P .add t x y (.int k a) (.int k b)=some (.int k (k.wrap (a + b))):=wU (by cases k <;> rfl)
theorem j9:zf P .sub t x y (.int k a) (.int k b)=some (.int k (k.wrap (a - b))):=wU (by cases k <;> rfl)
theorem Yn:zf P .mul t x y (.int k a) (.int k b)=some (.int k (k.wrap (a * b))):=wU (by cases k <;> rfl)
theorem Kn (hb:¬ b=0):zf P .quo t x y (.int k a) (.int k b)=some (.int k (k.wrap (a.tdiv b))):=by
 refine wU ?_
 have:zU P (Op.intDiv .quo k a b)=some (.int k (k.wrap (a.tdiv b))):=by unfold Op.intDiv;rw [MJ hb];rfl
 cases k <;> (show fl (zU P (Op.intDiv .quo _ a b))=_;rw [this];rfl)
theorem Vg (hb:¬ b=0):zf P .rem t x y (.int k a) (.int k b)=some (.int k (a.tmod b)):=by
 refine wU ?_
 have:zU P (Op.intDiv .rem k a b)=some (.int k (a.tmod b)):=by unfold Op.intDiv;rw [MJ hb];rfl
 cases k <;> (show fl (zU P (Op.intDiv .rem _ a b))=_;rw [this];rfl)
theorem Fk:zf P .and t x y (.int k a) (.int k b)=some (.int k (k.wrap (BitVec.ofInt k.bits a &&& BitVec.ofInt k.bits b).toNat)):=wU (by cases k <;> rfl)
theorem Af:zf P .or t x y (.int k a) (.int k b)=some (.int k (k.wrap (BitVec.ofInt k.bits a ||| BitVec.ofInt k.bits b).toNat)):=wU (by cases k <;> rfl)
theorem Fm:zf P .xor t x y (.int k a) (.int k b)=some (.int k (k.wrap (BitVec.ofInt k.bits a ^^^ BitVec.ofInt k.bits b).toNat)):=wU (by cases k <;> rfl)
theorem mf:zf P .andNot t x y (.int k a) (.int k b)=some (.int k (k.wrap (BitVec.ofInt k.bits a &&& ~~~BitVec.ofInt k.bits b).toNat)):=wU (by cases k <;> rfl)
theorem fA (hb:0<=b):zf P .shl t x y (.int k a) (.int k' b)=some (.int k (k.wrap (a * 2 ^ (min b.toNat k.bits)))):=by
 refine wU ?_
 have:zU P (Op.shift .shl k a k' b)=some (.int k (k.wrap (a * 2 ^ (min b.toNat k.bits)))):=by unfold Op.shift;rw [MJ (by omega)];rfl
 show fl (zU P (Op.shift .shl k a k' b))=_
 rw [this];rfl
theorem mg (hb:0<=b):zf P .shr t x y (.int k a) (.int k' b)=some (.int k (a.fdiv (2 ^ (min b.toNat k.bits)))):=by
 refine wU ?_
 have:zU P (Op.shift .shr k a k' b)=some (.int k (a.fdiv (2 ^ (min b.toNat k.bits)))):=by unfold Op.shift;rw [MJ (by omega)];rfl
 show fl (zU P (Op.shift .shr k a k' b))=_
 rw [this];rfl
theorem cD {c:Bool}:KE P .not (.bool c)=some (.bool (!c)):=zI rfl
theorem FP:KE P .neg (.int k a)=some (.int k (k.wrap (0 - a))):=by cases k <;> rfl
end numbers
section nils
variable {t e:TypeId} {x y:Operand}
theorem C5 {p q:Value} {r:Bool} (hf:(flat p && flat q)=false) (h:isNil P t p q=some r):zf P .eql t x y p q=some (.bool r)/\zf P .neq t x y p q=some (.bool (!r)):=by
 constructor <;> refine wU ?_ <;> unfold tS <;> rw [hf] <;> simp only [M7,F4,h,NX]
theorem IK (hu:zU P (underlying t)=some (.pointer e)) (a:Addr):zf P .eql t x y (.pointer (some a)) (.pointer none)=some (.bool false):=(C5 (p := .pointer (some a)) (q := .pointer none) (r:=false) rfl (by simp only [isNil,hu])).1
theorem G1 (hu:zU P (underlying t)=some (.slice e)) (a:Addr) (n c:Nat):zf P .eql t x y (.slice (some a) n c) (.slice none 0 0)=some (.bool false):=(C5 (p := .slice (some a) n c) (q := .slice none 0 0) (r:=false) rfl (by simp only [isNil,hu])).1
end nils
theorem Y9 {α β:Type} (s:Sem α) (f:α->Sem β):zU P (s >>= f)=(zU P s).bind fun a=>zU P (f a):=by
 induction s with
 | pure a=>rfl
 | program k ih=>exact ih P
 | _=>rfl
theorem Xa {α:Type} (a:α):zU P (Pure.pure a:Sem α)=some a:=rfl
def HW (P:Program) (d:Nat) (xs ys:Array Value):List Field->Option Bool
 | []=>some true
 | f :: fs=>if f.name ≠ "_" then (match zU P (part f.type xs f.offset),zU P (part f.type ys f.offset) with
     | some a,some b=>(match zU P (Op.equalIn d f.type a b) with
       | some r=>cond r (HW P d xs ys fs) (some false)
       | none=>none)
     | _,_=>none) else HW P d xs ys fs
theorem UZ {d:Nat} {t:TypeId} {xs ys:Array Value} {fs:Array Field} (hu:P.underlying t=some (.struct fs)) (hp:P.stoodInHeld t=false) :
  zU P (Op.equalIn (d + 1) t (.agg xs) (.agg ys))=HW P d xs ys fs.toList:=by
 have h2:zU P program=some P:=rfl
 have h1:zU P (underlying t)=some (.struct fs):=by
  unfold underlying
  simp only [Y9,h2,Nd,hu]
  rfl
 simp only [Op.equalIn,Y9,h1,h2,Nd,hp,Nz,MS]
 rw [<- Array.forIn_toList]
 generalize fs.toList=l
 clear hu h1
 induction l with
 | nil=>rfl
 | cons f l ih=>
   simp only [List.forIn_cons,HW,Y9] at ih ⊢
   by_cases hn:f.name ≠ "_"
   ·rw [MK hn,MK hn]
    simp only [Y9]
    cases zU P (part f.type xs f.offset) with
    | none=>rfl
    | some a=>
      cases zU P (part f.type ys f.offset) with
      | none=>rfl
      | some b=>
        simp only [Nd]
        cases zU P (Op.equalIn d f.type a b) with
        | none=>rfl
        | some r=>
          cases r
          ·simp only [Nd,Nr,MA,Xa]
           rfl
          ·simp only [Nd,NK,Nz,MS,Xa]
           exact ih
   ·rw [MJ hn,MJ hn]
    simp only [Xa,Nd]
    exact ih
theorem ji {t:TypeId} {x y:Operand} {xs ys:Array Value} {fs:Array Field} {r:Bool} (hu:P.underlying t=some (.struct fs)) (hp:P.stoodInHeld t=false) (hg:P.eqGuardType P.depth t=false) (hx:flat (.agg xs)=true) (hy:flat (.agg ys)=true)
  (hr:HW P 9999 xs ys fs.toList=some r):zf P .eql t x y (.agg xs) (.agg ys)=some (.bool r)/\zf P .neq t x y (.agg xs) (.agg ys)=some (.bool (!r)):=by
 have he:zU P (Op.equal t (.agg xs) (.agg ys))=some r:=(UZ hu hp).trans hr
 have hgd:∀ op:BinOp,zU P (eqGuard op t x y (.agg xs) (.agg ys))=some ():=by
  intro op
  have h2:zU P program=some P:=rfl
  cases op <;> simp [eqGuard,Y9,h2,hg,Xa]
 constructor <;> refine wU ?_ <;> unfold tS <;> rw [hx,hy] <;> simp only [ND,MV,Y9,hgd,Nd,binOp,he,Xa] <;> rfl
section
theorem zB {b}:yc (.bool b)=false:=zI rfl
theorem zK {k n}:yc (.int k n)=false:=zI rfl
theorem bK {s}:yc (.string s)=false:=zI rfl
theorem xo {a}:yc (.pointer a)=false:=zI rfl
theorem z8 {a n c}:yc (.slice a n c)=false:=zI rfl
theorem sG {a}:yc (.map a)=false:=zI rfl
theorem nc {f a c}:yc (.func f a c)=false:=zI rfl
theorem nd:yc .nilFunc=false:=zI rfl
theorem fP {t v}:yc (.iface t v)=false:=zI rfl
theorem nf:yc .nilIface=false:=zI rfl
theorem yx {a}:yc (.agg a)=false:=zI rfl
theorem fQ {a}:yc (.tuple a)=false:=zI rfl
theorem mA {b}:xE (.bool b)=true:=zI rfl
theorem vV {k n}:xE (.int k n)=true:=zI rfl
theorem J4 {s}:xE (.string s)=true:=zI rfl
theorem WU {a}:xE (.pointer a)=true:=zI rfl
theorem YX {a n c}:xE (.slice a n c)=true:=zI rfl
theorem sj {a}:xE (.map a)=true:=zI rfl
theorem mB {f a c}:xE (.func f a c)=true:=zI rfl
end
theorem fR:yV []=true:=zI rfl
theorem bM {v:Value} {l:List Value} (h:yc v=false):yV (v :: l)=yV l:=by simp only [yV,h,M7]
theorem zM {α:Type} (x:Option α):nb [] x=x:=zI rfl
theorem zC {α:Type} {v:Value} {l:List Value} {x:Option α} (h:yc v=false):nb (v :: l) x=nb l x:=by simp only [nb,yV,h,M7]
theorem yy {A B J}:CD (.bool true) A B J=A J:=zI rfl
theorem zS {A B J}:CD (.bool false) A B J=B J:=zI rfl
theorem Bf {b want:Bool} {A K h} (e:b=want):GD (.bool b) want A K h=A K:=by
 apply propext;constructor
 ·intro g;exact g.1 e
 ·intro g;exact ⟨fun _=>g,fun ne=>absurd e ne⟩
theorem Be {b want:Bool} {A K h} (e:¬ b=want):GD (.bool b) want A K h=K undef h:=by
 apply propext;constructor
 ·intro g;exact g.2 e
 ·intro g;exact ⟨fun e'=>absurd e' e,fun _=>g⟩
theorem rD {w A K h}:GD undef w A K h=K undef h:=zI rfl
theorem uP {A K h}:GD (.bool true) true A K h=A K:=Bf rfl
theorem vW {A K h}:GD (.bool false) false A K h=A K:=Bf rfl
theorem Yf {A K h}:GD (.bool true) false A K h=K undef h:=Be (by simp)
theorem qq {A K h}:GD (.bool false) true A K h=K undef h:=Be (by simp)
theorem xj {a b:Value} (h:yc a=false):pk (.bool true) a b=some a:=by simp only [pk,zC h,zM]
theorem ye {a b:Value} (h:yc b=false):pk (.bool false) a b=some b:=by simp only [pk,zC h,zM]
theorem xR (a:Addr):xO (.pointer (some a))=some (.pointer (some a)):=zI rfl
theorem J0 {vs:Array Value} {i:Nat} (h:yV vs.toList=true):ZW (.tuple vs) i=vs[i]?:=by simp only [ZW,nb,h,MV]
theorem Xw {a b:Value} (ha:yc a=false) (hb:yc b=false):ZW (.tuple #[a,b]) 0=some a:=(J0 (by simp only [yV,ha,hb,M7])).trans rfl
theorem Xx {a b:Value} (ha:yc a=false) (hb:yc b=false):ZW (.tuple #[a,b]) 1=some b:=(J0 (by simp only [yV,ha,hb,M7])).trans rfl
theorem vN {v:Value} {h R} (hb:yc v=false):rv [v] h R=R v h:=by
 apply propext;simp only [rv,yV,hb,M7,qa,Oq]
theorem wY {v w:Value} {h R} (hb:yc v=false) (hc:yc w=false):rv [v,w] h R=R (.tuple #[v,w]) h:=by
 apply propext;simp only [rv,yV,hb,hc,M7,qa,Oq]
theorem zW {g:FuncId} {args:List Value} {h:za} {K R:Value->za->Prop} (hc:wK P g=true) (hn:yV args=true) (hT:DC P g args h R) (hk:∀ v h1,R v h1->K v h1):zR P (.func (.func g) #[] #[]) args h K :=
 ⟨hn,by simpa using hn,.inl ⟨hc,by simpa using hT.mono hk⟩⟩
theorem vF {g:FuncId} {args:List Value} {h:za} {K R:Value->za->Prop} (hc:wK P g=true) (hn:yV args=true) (hT:DC P g args h R) (hk:∀ v h1,R v h1->K v h1):jj P g args h K :=
 ⟨hc,hn,hT.mono hk⟩
theorem kD {step:List Value->za->(List Value->za->Prop)->Prop} (I:Nat->List Value->za->Prop) (n:Nat) {vs:List Value} {h:za} (h0:I n vs h)
  (hs:∀ n vs h,I n vs h->step vs h (fun vs' h' => ∃ m,m < n/\I m vs' h')):LP step vs h:=⟨I,n,h0,hs⟩
def wS (P:Program) (f:FuncId) (args:List Value) (h:za) (v:Value):Prop:=Q1 v=true/\TC P f args h.lock (fun v1 _=>v1=v)
theorem wS.dc {f:FuncId} {args:List Value} {h:za} {v:Value} (q:wS P f args h v):DC P f args h (fun v1 h1=>v1=v/\h1=h):=fun _=>
 ⟨v,h,⟨rfl,rfl⟩,.refl _,(q.2.quiet (fun v1 _ e=>by rw [e];exact q.1)).mono (by rintro v1 h1 ⟨⟨_,e1⟩,e2⟩;exact ⟨e1,e2⟩)⟩
theorem wS.of {f:FuncId} {args:List Value} {h:za} {v:Value} (hs:Q1 v=true) (d:DC P f args h.lock (fun v1 _=>v1=v)):wS P f args h v:=⟨hs,d.tc⟩
theorem zj {g:FuncId} {args:List Value} {h:za} {K:Value->za->Prop} {v:Value} (hc:wK P g=true) (hn:yV args=true) (hq:wS P g args h v) (hk:K v h):zR P (.func (.func g) #[] #[]) args h K :=
 zW hc hn hq.dc (by rintro v1 h1 ⟨rfl,rfl⟩;exact hk)
theorem vU {g:FuncId} {args:List Value} {h:za} {K:Value->Prop} {v:Value} (hc:wK P g=true) (hn:yV args=true) (hq:wS P g args h v) (hk:K v):qX P g args h K :=
 ⟨hc,hn,v,hq.1,hq.2,hk⟩
end
end Go.Ai
