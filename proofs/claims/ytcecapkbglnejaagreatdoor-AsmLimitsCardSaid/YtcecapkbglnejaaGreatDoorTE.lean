/- A part of the proof. -/
import Derived.Test.YtcecapkbglnejaaGreatDoorTD
set_option linter.unusedVariables false
set_option linter.unusedSimpArgs false
set_option maxRecDepth 100000
namespace Go.Ai
noncomputable section
variable {P:Program}
def aA:Nat->Nat
 | 2=>1
 | 3=>2
 | 4=>2
 | _=>3
def w9 (q:FuncId->Nat) (o:Oper):Nat:=match o.op with
 | .call { callee := .value (.func g),.. }=>aA (q g)
 | .call { callee := .value _,.. }=>3
 | .call { callee := .builtin b,.. }=>cond (XX b) 1 3
 | .move _ | .assign _ | .pick _ _ _ | .build _ _ | .nilCheck _ | .binOp _ _ _ _ _ | .unOp _ _ _ | .makeInterface _ _ | .makeFunc _ _ _ | .fieldAddr _ _ _ | .field _ _ _ | .indexAddr _ _ _ | .index _ _ _ | .extract _ _=>0
 | .load _ _ | .lookup _ _ _ _ | .slice _ _ _ _ _ | .entry _=>1
 | .box _ _ | .alloc _ | .buildSlice _ _ _ | .makeSlice _ _ _ | .makeMap _ _ | .convert _ _ _ | .range _ _=>2
 | _=>3
def Cg (x y:Nat):Bool:=Nat.beq x 0 || Nat.beq y 0 || (Nat.beq x 1 && Nat.ble y 2) || (Nat.beq x 2 && Nat.beq y 1)
def pB (q:FuncId->Nat):List Oper->Nat->List Nat->List (Nat × Nat)->Bool
 | [],_,_,_=>true
 | o :: os,i,ms,prev=>(prev.all fun x=>(y8 ms o).testBit x.1 || Cg x.2 (w9 q o)) && pB q os (i + 1) (ms ++ [y8 ms o]) ((i,w9 q o) :: prev)
def calm (q:FuncId->Nat) (ops:Array Oper):Bool:=YS ops ops.toList 0 [] [] && pB q ops.toList 0 [] []
def trim (h:za) (n:Nat):za:=h.UP (List.range' n (h.next - n))
@[simp] theorem NT (h:za) (n:Nat):(trim h n).next=h.next:=rfl
@[simp] theorem PS (h:za) (n:Nat):(trim h n).ro=h.ro:=rfl
theorem Hd (h:za) (n b:Nat):(trim h n).get b=if n<=b/\b < h.next then none else h.get b:=by
 unfold trim;rw [YN];simp only [j9]
def firstFree (m:Nat):List (Nat × Nat)->Option Nat
 | []=>none
 | (p,n) :: l=>cond (m.testBit p) (firstFree m l) (some n)
def view (m:Nat) (al:List (Nat × Nat)) (h:za):za:=match firstFree m al with
 | none=>h
 | some n=>trim h n
def ZQ (P:Program) (g:FuncId) (args:List Value) (h:za) (K:Value->Prop):Prop:=ux P g=true/\yN args=true /\ ∃ v,cZ v=true/\TC P g args h.lock (fun v1 _=>v1=v)/\K v
def gG (P:Program) (g:FuncId) (args:List Value) (h:za) (K:Value->za->Prop):Prop :=
 ux P g=true/\yN args=true /\ ∃ v h2,TC P g args h.lock (fun v1 h1=>v1=v/\h1=h2)/\AF h.lock h2/\K v (qv h h2)
def YI (P:Program) (g:FuncId) (args:List Value) (h:za) (K:Value->za->Prop):Prop :=
 ux P g=true/\yN args=true/\DC P g args h K
def LX (P:Program) (g:FuncId) (args:List Value) (h:za) (K:Value->za->Prop):Prop:=yN args=true/\xZ (oM P g args h) K
def cI (P:Program) (f:Value) (args:List Value) (h:za) (K:Value->za->Prop):Prop:=match f with
 | .func (.func g) a c=>yN args=true/\YI P g (a.toList ++ args ++ c.toList) h K
 | _=>False
def NU (P:Program) (q:FuncId->Nat) (s:Env) (o:Oper) (hv h:za) (K:Value->za->Prop):Prop:=match o.op with
 | .call { callee := .value (.func g),args,argTypes }=>(match q g with
   | 2=>ZQ P g (aR s args.toList) hv fun v=>K v h
   | 3=>gG P g (aR s args.toList) h K
   | 4=>LX P g (aR s args.toList) h K
   | _=>YI P g (aR s args.toList) h K)
 | .call { callee := .value f,args,argTypes }=>cI P (ev s f) (aR s args.toList) h K
 | _=>cond (Nat.beq (w9 q o) 1) (HC P s o hv fun v _=>K v h) (HC P s o h K)
def LG (P:Program) (q:FuncId->Nat) (ops:Array Oper):List Oper->Nat->List Nat->List (Nat × Nat)->Env->za->(Env->za->Prop)->Prop
 | [],_,_,_,s,h,K=>K s h
 | o :: os,i,ms,al,s,h,K=>(match o.guard with
   | none=>NU P q s o (view (y8 ms o) al h) h fun v h1=>(match s.put o.dst v with
     | some s1=>LG P q ops os (i + 1) (ms ++ [y8 ms o]) (cond (Nat.beq (w9 q o) 2) (al ++ [(i,h.next)]) al) s1 h1 K
     | none=>False)
   | some (j,want)=>(match (ops[j]?).bind (·.dst) with
     | none=>False
     | some d=>GD (s.get d) want (NU P q s o (view (y8 ms o) al h) h) (fun v h1=>(match s.put o.dst v with
       | some s1=>LG P q ops os (i + 1) (ms ++ [y8 ms o]) (cond (Nat.beq (w9 q o) 2) (al ++ [(i,h.next)]) al) s1 h1 K
       | none=>False)) h))
def v7 (P:Program) (q:FuncId->Nat) (ops:Array Oper) (s:Env) (h:za) (K:Env->za->Prop):Prop:=cond (calm q ops) (LG P q ops ops.toList 0 [] [] s h K) False
def Vb:Op->Bool
 | .call { callee := .value _,.. }=>true
 | _=>false
theorem iM {q:FuncId->Nat} {s:Env} {o:Oper} {h h':za} {u:Value} (hk:w9 q o=0) (hc:Vb o.op=false) (he:Kz P s o h=some (u,h')):h'=h /\ ∀ g,Kz P s o g=some (u,g):=by
 have key:∀ {x:Option Value},one h x=some (u,h')->h'=h /\ ∀ g,one g x=some (u,g):=fun e=>by
  obtain ⟨e1,e2⟩:=vM e;exact ⟨e2,fun g=>Xm e1⟩
 unfold w9 at hk
 unfold Kz at he ⊢
 split at he <;> rename_i yU <;> simp only [yU] at hk ⊢ <;> first
  | exact key he
  | (cases he;done)
  | (cases hk;done)
  | skip
 ·split at he
  ·exact key he
  ·exact key he
  ·cases he
 ·split at he
  ·exact key he
  ·cases he
 ·split at he
  ·simp only [Se,Sh] at he;obtain ⟨rfl,rfl⟩:=he;exact ⟨rfl,fun g=>rfl⟩
  ·simp only [Se,Sh] at he;obtain ⟨rfl,rfl⟩:=he;exact ⟨rfl,fun g=>rfl⟩
  ·cases he
 ·split at he
  ·exact key he
  ·cases he
 ·split at he
  ·obtain ⟨hf,he⟩:=zv he
   simp only [hf,SA]
   exact key he
  ·cases he
 ·split at he
  ·split at he
   ·simp only [Se,Sh] at he;obtain ⟨rfl,rfl⟩:=he;exact ⟨rfl,fun g=>rfl⟩
   ·cases he
  ·cases he
 ·split at he
  ·simp only [Se,Sh] at he;obtain ⟨rfl,rfl⟩:=he;exact ⟨rfl,fun g=>rfl⟩
  ·cases he
 ·split at he
  ·exact key he
  ·cases he
 ·split at he
  ·split at he
   ·split at he
    ·exact key he
    ·cases he
   ·cases he
  ·cases he
 ·split at he
  ·exact key he
  ·cases he
 ·split at he
  ·obtain ⟨hf,he⟩:=zv he
   simp only [hf,SA]
   exact key he
  ·cases he
 ·split at he
  ·exact key he
  ·cases he
 ·exfalso
  rename_i b args ts
  cases hq:XX b <;> rw [hq] at hk <;> cases hk
theorem Qt {q:FuncId->Nat} {s:Env} {o:Oper} {h h':za} {u:Value} (hk:w9 q o=1) (hc:Vb o.op=false) (he:Kz P s o h=some (u,h')):h'=h:=by
 unfold w9 at hk
 unfold Kz at he
 split at he <;> rename_i yU <;> simp only [yU] at hk <;> first
  | (cases he;done)
  | (cases hk;done)
  | skip
 ·split at he
  ·exact (vM he).2
  ·cases he
 ·split at he
  ·split at he
   ·simp only [Se,Sh] at he;exact he.2.symm
   ·cases he
  ·exact (vM he).2
  ·cases he
 ·rename_i b args ts
  split at he
  ·refine U8 ?_ he
   cases hq:XX b with
   | true=>rfl
   | false=>rw [hq] at hk;cases hk
  ·cases he
 ·split at he
  ·exact (vM he).2
  ·cases he
 ·split at he
  ·exact (vM he).2
  ·cases he
theorem dC {q:FuncId->Nat} {s:Env} {o:Oper} {h h':za} {u:Value} (hk:w9 q o=2) (hc:Vb o.op=false) (he:Kz P s o h=some (u,h')):Still h h':=by
 refine (Yv he).2 ?_
 unfold w9 at hk
 split at hk <;> rename_i yU <;> first
  | (cases hk;done)
  | (rw [yU] at hc;cases hc;done)
  | (rw [yU];rfl)
  | skip
 rename_i b args ts
 cases hq:XX b <;> rw [hq] at hk <;> cases hk
end
noncomputable section
variable {P:Program}
theorem Wu {s:Env} {o:Oper} {h h':za} {u:Value} (he:Kz P s o h=some (u,h')):Vb o.op=false:=by
 cases hc:Vb o.op with
 | false=>rfl
 | true=>
   unfold Vb at hc
   split at hc
   ·rename_i yU;unfold Kz at he;simp only [yU] at he;cases he
   ·cases hc
structure RP (q:FuncId->Nat) (x:yF):Prop where
 rd:∀ b,x.rd b=true->b < x.g.next
 k0:w9 q x.o=0->∀ b,x.rd b=false
 k1:w9 q x.o<=1->∀ b,x.tc b=false
 k2:w9 q x.o=2->∀ b,x.tc b=true->x.g.next<=b
structure Next (P:Program) (q:FuncId->Nat) (ops:Array Oper) (s0:Env) (h0:za) (A:List yF) (i:Nat) (o:Oper) (s:Env) (h:za) (u:Value) (h1:za) (bound:Nat) (y:yF):Prop where
 hj:y.j=i
 yU:y.o=o
 Rk:y.s=s
 Hg:y.v=u
 gn:y.g.next=h.next
 told:Told P ops s0 h0 A y
 rp:RP q y
 rb:w9 q o=1->∀ b,y.rd b=true->b < bound
 heap:∀ b,h1.get b=if y.tc b=true then y.g'.get b else h.get b
 ro:h1.ro=h.ro
 next:h.next<=h1.next
 He:y.g'.next<=h1.next
 wf:WF h1
section
variable {q:FuncId->Nat} {ops:Array Oper} {s0:Env} {h0:za} {A:List yF} {i:Nat} {o:Oper} {s:Env} {h:za}
theorem cT (F:u4 P ops s0 h0 A i s h) (ho:ops[i]? = some o) (hput:∀ d,o.dst=some d->d < s.size) {u:Value} (hs:Zc P ops s o (h.pick []) u (h.pick [])) (bound:Nat):∃ y,Next P q ops s0 h0 A i o s h u h bound y:=by
 refine ⟨⟨i,o,u,s,h.pick [],h.pick [],fun _=>false,fun _=>false⟩,rfl,rfl,rfl,rfl,rfl,
  ⟨ho,F.env,F.size,fun b=>by rw [qb];simp,F.ro,F.next,F.nA,Sp _,hs,fun d hd=>by rw [<- F.size];exact hput d hd,fun b hb=>(by cases hb),fun b _=>rfl,fun b o' hb=>(by cases hb)⟩,
  ⟨fun b hb=>(by cases hb),fun _ _=>rfl,fun _ _=>rfl,fun _ b hb=>(by cases hb)⟩,fun _ b hb=>(by cases hb),fun b=>by simp,rfl,Sp _,Sp _,F.wf⟩
theorem nL (F:u4 P ops s0 h0 A i s h) (ho:ops[i]? = some o) (hput:∀ d,o.dst=some d->d < s.size) (hk:w9 q o=1) {hv:za} {bound:Nat} (hb:bound<=h.next) (hn:hv.next=h.next) (hro:hv.ro=h.ro)
  (hg:∀ b,hv.get b=if b < bound then h.get b else none) {u:Value} (hs:Zc P ops s o hv u hv):∃ y,Next P q ops s0 h0 A i o s h u h bound y:=by
 refine ⟨⟨i,o,u,s,hv,hv,fun b=>Nat.blt b bound,fun _=>false⟩,rfl,rfl,rfl,rfl,hn,
  ⟨ho,F.env,F.size,fun b => ?_,hro.trans F.ro,by rw [hn];exact F.next,fun x hx=>by rw [hn];exact F.nA x hx,Sp _,hs,fun d hd=>by rw [<- F.size];exact hput d hd,fun b hb=>(by cases hb),fun b _=>rfl,fun b o' hb=>(by cases hb)⟩,
  ⟨fun b hb2=>by have:b < bound:=by simpa [S6] using hb2
                 show b < hv.next;omega,fun h=>by simp only at h;omega,fun _ _=>rfl,fun h=>by simp only at h;omega⟩,fun _ b hb2=>by simpa [S6] using hb2,fun b=>by simp,rfl,Sp _,by rw [hn];exact Sp _,F.wf⟩
 show hv.get b=if Nat.blt b bound=true then YO A h0 b else none
 have hbl:(Nat.blt b bound=true) ↔ b < bound:=by rw [S6]
 rw [hg]
 by_cases hbb:b < bound
 ·rw [Sn hbb,Sn (hbl.2 hbb),F.heap]
 ·rw [Sl hbb,Sl (fun e=>hbb (hbl.1 e))]
theorem Yz {h:za} (w:WF h) {b:Nat} (hb:¬ b < h.next):h.get b=none:=by
 cases hh:h.get b with | none=>rfl | some o'=>exact absurd (w b o' hh) hb
theorem Jk (F:u4 P ops s0 h0 A i s h) (ho:ops[i]? = some o) (hput:∀ d,o.dst=some d->d < s.size) (hk:w9 q o=2) {h1:za} (hn:h.next<=h1.next) (hro:h1.ro=h.ro) (hold:∀ b,¬ (h.next<=b/\b < h1.next)->h1.get b=h.get b)
  {u:Value} (hs:Zc P ops s o h u h1) (bound:Nat):∃ y,Next P q ops s0 h0 A i o s h u h1 bound y:=by
 have hrd:∀ b,(Nat.blt b h.next=true) ↔ b < h.next:=fun b=>by rw [S6]
 have htc:∀ b,(decide (h.next<=b/\b < h1.next)=true) ↔ (h.next<=b/\b < h1.next):=fun b=>by simp
 refine ⟨⟨i,o,u,s,h,h1,fun b=>Nat.blt b h.next,fun b=>decide (h.next<=b/\b < h1.next)⟩,rfl,rfl,rfl,rfl,rfl,
  ⟨ho,F.env,F.size,fun b => ?_,F.ro,F.next,F.nA,hn,hs,fun d hd=>by rw [<- F.size];exact hput d hd,fun b hb => .inr ((htc b).1 hb),fun b hb => ?_,fun b o' hb hlt => ?_⟩,
  ⟨fun b hb=>(hrd b).1 hb,fun h=>by simp only at h;omega,fun h=>by simp only at h;omega,fun _ b hb=>((htc b).1 hb).1⟩,fun h=>by omega,fun b => ?_,hro,hn,Sp _,fun b o' hb => ?_⟩
 ·show h.get b=if Nat.blt b h.next=true then YO A h0 b else none
  by_cases hb:b < h.next
  ·rw [Sn ((hrd b).2 hb),F.heap]
  ·rw [Sl (fun e=>hb ((hrd b).1 e)),Yz F.wf hb]
 ·refine hold b (fun e => ?_)
  have:=(htc b).2 e
  rw [show decide (h.next<=b/\b < h1.next)=false from hb] at this
  cases this
 ·have:=((htc b).1 hb).1
  have hlt:b < h.next:=hlt
  omega
 ·show h1.get b=if decide (h.next<=b/\b < h1.next)=true then h1.get b else h.get b
  by_cases hb:h.next<=b/\b < h1.next
  ·rw [Sn ((htc b).2 hb)]
  ·rw [Sl (fun e=>hb ((htc b).1 e)),hold b hb]
 ·by_cases hc:h.next<=b/\b < h1.next
  ·exact hc.2
  ·rw [hold b hc] at hb
   exact Sq (F.wf b o' hb) hn
theorem Jl (F:u4 P ops s0 h0 A i s h) (ho:ops[i]? = some o) (hput:∀ d,o.dst=some d->d < s.size) (hk:w9 q o=3) {h1:za} (af:AF h h1)
  {u:Value} (hs:Zc P ops s o h u h1) (bound:Nat):∃ y,Next P q ops s0 h0 A i o s h u h1 bound y:=by
 have hrd:∀ n b,(Nat.blt b n=true) ↔ b < n:=fun n b=>by rw [S6]
 have hn:h.next<=h1.next:=af.next
 have hwf:WF h1:=F.wf.af af
 refine ⟨⟨i,o,u,s,h,h1,fun b=>Nat.blt b h.next,fun b=>Nat.blt b h1.next⟩,rfl,rfl,rfl,rfl,rfl,
  ⟨ho,F.env,F.size,fun b => ?_,F.ro,F.next,F.nA,hn,hs,fun d hd=>by rw [<- F.size];exact hput d hd,fun b hb => ?_,fun b hb => ?_,fun b o' hb hlt hg => ?_⟩,
  ⟨fun b hb=>(hrd _ b).1 hb,fun h=>by simp only at h;omega,fun h=>by simp only at h;omega,fun h=>by simp only at h;omega⟩,fun h=>by omega,fun b => ?_,af.ro,hn,Sp _,hwf⟩
 ·show h.get b=if Nat.blt b h.next=true then YO A h0 b else none
  by_cases hb:b < h.next
  ·rw [Sn ((hrd _ b).2 hb),F.heap]
  ·rw [Sl (fun e=>hb ((hrd _ b).1 e)),Yz F.wf hb]
 ·have hb:=(hrd _ b).1 hb
  by_cases hlt:b < h.next
  ·exact .inl ((hrd _ b).2 hlt)
  ·exact .inr ⟨aai hlt,hb⟩
 ·have hb':¬ b < h1.next:=fun e=>by
   have:=(hrd h1.next b).2 e
   rw [show Nat.blt b h1.next=false from hb] at this
   cases this
  show h1.get b=h.get b
  rw [Yz hwf hb',Yz F.wf (by omega)]
 ·rcases af.alive b o' hg with h2 | ⟨h2,_⟩
  ·exact h2
  ·have hlt:b < h.next:=hlt
   omega
 ·show h1.get b=if Nat.blt b h1.next=true then h1.get b else h.get b
  by_cases hb:b < h1.next
  ·rw [Sn ((hrd _ b).2 hb)]
  ·rw [Sl (fun e=>hb ((hrd _ b).1 e)),Yz hwf hb,Yz F.wf (by omega)]
theorem Vj {h h1:za} (st:Still h h1):h.next<=h1.next/\h1.ro=h.ro /\ ∀ b,¬ (h.next<=b/\b < h1.next)->h1.get b=h.get b:=by
 rcases st with rfl | ⟨ob,rfl⟩
 ·exact ⟨Sp _,rfl,fun _ _=>rfl⟩
 ·refine ⟨TR _,rfl,fun b hb => ?_⟩
  rw [za.uA,Sl (fun e=>hb ⟨by omega,by rw [za.Q8];omega⟩)]
theorem Jr {m:Nat} {al:List (Nat × Nat)} {h:za} (w:WF h) (hal:∀ x,x ∈ al->x.2<=h.next):∃ bound,bound<=h.next/\(view m al h).next=h.next/\(view m al h).ro=h.ro/\(∀ b,(view m al h).get b=if b < bound then h.get b else none) /\ ∀ n,firstFree m al=some n->bound=n:=by
 have mem:∀ (al:List (Nat × Nat)) n,firstFree m al=some n->∃ p,(p,n) ∈ al:=by
  intro al
  induction al with
  | nil=>intro n e;cases e
  | cons x l ih=>
    intro n e
    obtain ⟨p,n'⟩:=x
    simp only [firstFree] at e
    cases hb:m.testBit p with
    | true=>rw [hb] at e;obtain ⟨p',hp⟩:=ih n e;exact ⟨p',by simp [hp]⟩
    | false=>rw [hb] at e;cases e;exact ⟨p,by simp⟩
 unfold view
 cases hf:firstFree m al with
 | none=>exact ⟨h.next,Sp _,rfl,rfl,fun b=>by
   by_cases hb:b < h.next
   ·rw [Sn hb]
   ·rw [Sl hb,Yz w hb],fun n e=>by cases e⟩
 | some n=>
   obtain ⟨p,hp⟩:=mem al n hf
   have hn:n<=h.next:=hal _ hp
   refine ⟨n,hn,rfl,rfl,fun b => ?_,fun n' e=>by cases e;rfl⟩
   simp only [Hd]
   by_cases hb:b < n
   ·rw [Sl (by omega),Sn hb]
   ·by_cases hb2:b < h.next
    ·rw [Sn ⟨by omega,hb2⟩,Sl hb]
    ·rw [Sl (by omega),Sl hb,Yz w hb2]
theorem Next.af {u:Value} {h1:za} {bound:Nat} {y:yF} (N:Next P q ops s0 h0 A i o s h u h1 bound y) (F:u4 P ops s0 h0 A i s h):AF h h1 :=
 ⟨N.next,N.ro,fun b o hb=>by
  rw [N.heap] at hb
  by_cases ht:y.tc b=true
  ·rw [Sn ht] at hb
   by_cases hl:b < y.g.next
   ·have h2:=N.told.PU b o ht hl hb
    have h3:=N.told.heap b
    rw [h3] at h2
    by_cases hr:y.rd b=true
    ·rw [Sn hr,<- F.heap] at h2;exact .inl h2
    ·rw [Sl hr] at h2;exact absurd rfl h2
   ·have hb1:h1.get b=some o:=by rw [N.heap,Sn ht];exact hb
    exact .inr ⟨by rw [<- N.gn];omega,N.wf b o hb1⟩
  ·rw [Sl ht] at hb
   exact .inl (by rw [hb];simp)⟩
theorem tZ (F:u4 P ops s0 h0 A i s h) (hron:h.ro<=h.next) (ho:ops[i]? = some o) (hput:∀ d,o.dst=some d->d < s.size) (hw:yw ops s o=true) {r:Env} (hl:Le r s) {m:Nat} {al:List (Nat × Nat)} (hal:∀ x,x ∈ al->x.2<=h.next)
  {K:Value->za->Prop} (hk:NU P q r o (view m al h) h K):∃ v u h1 y bound,(ym v=true\/v=u)/\K v h1/\Next P q ops s0 h0 A i o s h u h1 bound y /\ ∀ n,firstFree m al=some n->bound=n:=by
 obtain ⟨bound,hb1,hb2,hb3,hb4,hb5⟩:=Jr (m:=m) F.wf hal
 unfold NU at hk
 split at hk
 ·rename_i g args ts yU
  have ef:jb s (.func g)=some (.func (.func g) #[] #[]):=rfl
  have hkind:w9 q o=aA (q g):=by unfold w9;simp only [yU]
  split at hk
  ·rename_i hq
   obtain ⟨hc,hn,v,hsc,hT,hK⟩:=hk
   have hT2:TC P g (aR r args.toList) (view m al h) (fun v1 h1=>v1=v/\h1=view m al h) :=
    (hT.quiet (fun v1 _ e=>by rw [e];exact hsc)).mono (by rintro v1 h1 ⟨⟨_,e1⟩,e2⟩;exact ⟨e1,e2⟩)
   obtain ⟨y,hy⟩:=nL (q:=q) F ho hput (by rw [hkind,hq];rfl) hb1 hb2 hb3 hb4 (u:=v) (.inr ⟨hw,.inr (.inl ⟨.func g,args,ts,g,#[],#[],_,yU,ef,US hl hn,hc,by simpa using hT2⟩)⟩)
   exact ⟨v,v,h,y,bound,.inr rfl,hK,hy,hb5⟩
  ·rename_i hq
   obtain ⟨hc,hn,v,h2,hT,af,hK⟩:=hk
   have hnx:h.next<=h2.next:=af.next
   obtain ⟨y,hy⟩:=Jk (q:=q) F ho hput (by rw [hkind,hq];rfl) (h1:=qv h h2) hnx rfl (fun b hb=>by rw [qH];exact Sl hb) (u:=v)
    (.inr ⟨hw,.inr (.inl ⟨.func g,args,ts,g,#[],#[],_,yU,ef,US hl hn,hc,by simpa using hT.fresh⟩)⟩) bound
   exact ⟨v,v,_,y,bound,.inr rfl,hK,hy,hb5⟩
  ·rename_i hq
   obtain ⟨hn,hk⟩:=hk
   obtain ⟨v,h2,he,hK⟩:=ZK hk
   obtain ⟨f1,f2,f3⟩:=Vj (Xb he)
   obtain ⟨y,hy⟩:=Jk (q:=q) F ho hput (by rw [hkind,hq];rfl) f1 f2 f3 (u:=v) (.inr ⟨hw,.inr (.inr ⟨.func g,args,ts,g,#[],#[],_,yU,ef,US hl hn,by simpa using he⟩)⟩) bound
   exact ⟨v,v,_,y,bound,.inr rfl,hK,hy,hb5⟩
  ·rename_i n2 n3 n4
   obtain ⟨hc,hn,hd⟩:=hk
   obtain ⟨v,h2,hK,af,hT⟩:=hd ⟨F.wf,hron⟩
   obtain ⟨y,hy⟩:=Jl (q:=q) F ho hput (by rw [hkind];unfold aA;split <;> first | rfl | (exfalso;simp_all)) af (u:=v)
    (.inr ⟨hw,.inr (.inl ⟨.func g,args,ts,g,#[],#[],_,yU,ef,US hl hn,hc,by simpa using hT⟩)⟩) bound
   exact ⟨v,v,_,y,bound,.inr rfl,hK,hy,hb5⟩
 ·rename_i f args ts hnf yU
  unfold cI at hk
  split at hk
  ·rename_i g a c hf
   have ef:jb s f=some (.func (.func g) a c):=by rw [Z9 hl (x:=f) (by rw [hf];rfl),hf]
   obtain ⟨hn0,hc,hn,hd⟩:=hk
   obtain ⟨v,h2,hK,af,hT⟩:=hd ⟨F.wf,hron⟩
   have hkind:w9 q o=3:=by
    unfold w9
    simp only [yU]
   obtain ⟨y,hy⟩:=Jl (q:=q) F ho hput hkind af (u:=v) (.inr ⟨hw,.inr (.inl ⟨f,args,ts,g,a,c,_,yU,ef,US hl hn0,hc,hT⟩)⟩) bound
   exact ⟨v,v,_,y,bound,.inr rfl,hK,hy,hb5⟩
  ·exact hk.elim
 ·rename_i hn1 hn2
  cases h1:Nat.beq (w9 q o) 1 with
  | true=>
    rw [h1] at hk
    have h1:=Sv h1
    obtain ⟨v,u,h',he,hv,hK⟩:=j5 hl hk
    obtain rfl:=Qt h1 (Wu he) he
    obtain ⟨y,hy⟩:=nL (q:=q) F ho hput h1 hb1 hb2 hb3 hb4 (u:=u) (.inr ⟨hw,.inl he⟩)
    exact ⟨v,u,h,y,bound,hv,hK,hy,hb5⟩
  | false=>
    rw [h1] at hk
    obtain ⟨v,u,h',he,hv,hK⟩:=j5 hl hk
    have hnc:=Wu he
    have hkle:w9 q o=0\/w9 q o=1\/w9 q o=2\/w9 q o=3:=by
     unfold w9
     split <;> (try simp)
     ·unfold aA;split <;> simp
     ·rename_i b _ _ _;cases XX b <;> simp
    rcases hkle with h0' | h1' | h2' | h3'
    ·obtain ⟨rfl,hany⟩:=iM h0' hnc he
     obtain ⟨y,hy⟩:=cT (q:=q) F ho hput (u:=u) (.inr ⟨hw,.inl (hany _)⟩) bound
     exact ⟨v,u,h',y,bound,hv,hK,hy,hb5⟩
    ·rw [h1'] at h1;cases h1
    ·obtain ⟨f1,f2,f3⟩:=Vj (dC h2' hnc he)
     obtain ⟨y,hy⟩:=Jk (q:=q) F ho hput h2' f1 f2 f3 (u:=u) (.inr ⟨hw,.inl he⟩) bound
     exact ⟨v,u,h',y,bound,hv,hK,hy,hb5⟩
    ·obtain ⟨y,hy⟩:=Jl (q:=q) F ho hput h3' (Yv he).1 (u:=u) (.inr ⟨hw,.inl he⟩) bound
     exact ⟨v,u,h',y,bound,hv,hK,hy,hb5⟩
end
def VD (q:FuncId->Nat):List yF->List (Nat × Nat)
 | []=>[]
 | x :: l=>cond (Nat.beq (w9 q x.o) 2) ((x.j,x.g.next) :: VD q l) (VD q l)
theorem Ed (q:FuncId->Nat) (A:List yF) (y:yF):VD q (A ++ [y])=cond (Nat.beq (w9 q y.o) 2) (VD q A ++ [(y.j,y.g.next)]) (VD q A):=by
 induction A with
 | nil=>simp only [List.nil_append,VD]
 | cons x A ih=>
   simp only [List.cons_append,VD,ih]
   cases Nat.beq (w9 q x.o) 2 <;> cases Nat.beq (w9 q y.o) 2 <;> rfl
theorem Hr {q:FuncId->Nat} {A:List yF} {z:Nat × Nat} (h:z ∈ VD q A):∃ x,x ∈ A/\z=(x.j,x.g.next):=by
 induction A with
 | nil=>cases h
 | cons x A ih=>
   simp only [VD] at h
   cases hb:Nat.beq (w9 q x.o) 2 with
   | true=>
     rw [hb] at h
     rcases Tq.1 h with e | h
     ·exact ⟨x,by simp,e⟩
     ·obtain ⟨x',h1,h2⟩:=ih h;exact ⟨x',by simp [h1],h2⟩
   | false=>rw [hb] at h;obtain ⟨x',h1,h2⟩:=ih h;exact ⟨x',by simp [h1],h2⟩
theorem L4 {q:FuncId->Nat} {m:Nat}:∀ {A:List yF},(∀ A1 x A2 y A3,A=A1 ++ x :: (A2 ++ y :: A3)->x.g.next<=y.g.next)->∀ x,x ∈ A->w9 q x.o=2->m.testBit x.j=false->∃ n,firstFree m (VD q A)=some n/\n<=x.g.next
 | [],_,x,hx,_,_=>by cases hx
 | z :: A,hm,x,hx,hk,hb=>by
   have rest:x ∈ A->∃ n,firstFree m (VD q A)=some n/\n<=x.g.next:=fun hx=>L4 (fun A1 x A2 y A3 e=>hm (z :: A1) x A2 y A3 (by rw [e];rfl)) x hx hk hb
   simp only [VD]
   cases hz:Nat.beq (w9 q z.o) 2 with
   | false=>
     simp only [SK]
     rcases Tq.1 hx with rfl | hx
     ·rw [hk] at hz;cases hz
     ·exact rest hx
   | true=>
     simp only [SA,firstFree]
     cases hbz:m.testBit z.j with
     | true=>
       simp only [SA]
       rcases Tq.1 hx with rfl | hx
       ·rw [hb] at hbz;cases hbz
       ·exact rest hx
     | false=>
       simp only [SK]
       refine ⟨_,rfl,?_⟩
       rcases Tq.1 hx with rfl | hx
       ·exact Sp _
       ·obtain ⟨A1,A2,e⟩:=S3 hx
        exact hm [] z A1 x A2 (by rw [e];rfl)
theorem EG {q:FuncId->Nat} {ops:Array Oper} {x y:yF} (hx:RP q x) (hy:RP q y) (hs:ZN ops x.o y.o=true) (hp:Cg (w9 q x.o) (w9 q y.o)=true) (hn:x.g.next<=y.g.next)
  (hb:w9 q x.o=2->w9 q y.o=1->∀ b,y.rd b=true->b < x.g.next):eS ops x y:=by
 simp only [ZN,Sm] at hs
 obtain ⟨h1,h2⟩:=hs
 have d1:∀ d,x.o.dst=some d->d ∉ y.o.looksAt ops/\y.o.dst ≠ some d:=by
  intro d hd
  rw [hd] at h1
  simp only [Sm,Sz,SL,SM] at h1
  exact ⟨h1.1,h1.2⟩
 have d2:∀ d,y.o.dst=some d->d ∉ x.o.looksAt ops:=by
  intro d hd
  rw [hd] at h2
  simp only [Sz,SL,SM] at h2
  exact h2
 have ff:∀ {b:Bool},b ≠ true->b=false:=fun h=>by simpa using h
 simp only [Cg,Tb,Sm] at hp
 rcases hp with ((h | h) | ⟨h,h'⟩) | ⟨h,h'⟩
 ·have h:=Sv h
  have t:=hx.k1 (by omega)
  have r:=hx.k0 h
  exact ⟨d1,d2,fun b hb=>(by rw [t b] at hb;cases hb),fun b _=>r b⟩
 ·have h:=Sv h
  have t:=hy.k1 (by omega)
  have r:=hy.k0 h
  exact ⟨d1,d2,fun b _=>⟨r b,t b⟩,fun b hb=>by rw [t b] at hb;cases hb⟩
 ·have h:=Sv h
  have h':=SH h'
  have t:=hx.k1 (by omega)
  refine ⟨d1,d2,fun b hb=>(by rw [t b] at hb;cases hb),fun b hb=>ff (fun hr => ?_)⟩
  have l1:=hx.rd b hr
  by_cases h2:w9 q y.o=2
  ·have:=hy.k2 h2 b hb;omega
  ·rw [hy.k1 (by omega) b] at hb;cases hb
 ·have h:=Sv h
  have h':=Sv h'
  have t:=hy.k1 (by omega)
  refine ⟨d1,d2,fun b hb'=>⟨ff (fun hr => ?_),t b⟩,fun b hb=>by rw [t b] at hb;cases hb⟩
  have l1:=hx.k2 h b hb'
  have l2:=hb h h' b hr
  omega
theorem Cq {ops:Array Oper} {s0:Env} {h0:za} {A:List yF} {i:Nat} {s:Env} {h:za} (F:u4 P ops s0 h0 A i s h):∀ A1 x A2 y A3,A=A1 ++ x :: (A2 ++ y :: A3)->x.g.next<=y.g.next:=by
 intro A1 x A2 y A3 e
 have t1:=F.told A1 x _ e
 have t2:=F.told (A1 ++ x :: A2) y A3 (by rw [e];simp)
 have:=t2.nA x (by simp)
 have:=t1.n1
 omega
theorem H9 {q:FuncId->Nat} {ops:Array Oper} {s0:Env} {h0:za} (hro0:h0.ro<=h0.next):∀ (l:List Oper) (i:Nat) (ms:List Nat) (A:List yF) (r s:Env) (h:za) {K:Env->za->Prop},
  ops.toList.drop i=l->i<=ops.size->KK ops ms->ms.length=i->u4 P ops s0 h0 A i s h->(∀ x,x ∈ A->RP q x)->YS ops l i ms (A.reverse.map fun x=>(x.j,x.o))=true->pB q l i ms (A.reverse.map fun x=>(x.j,w9 q x.o))=true ->
  Le r s->LG P q ops l i ms (VD q A) r h K->∃ A' r' s' h',u4 P ops s0 h0 A' ops.size s' h'/\Le r' s'/\K r' h'/\Fr (Vh l) s s'/\AF h h'
 | [],i,ms,A,r,s,h,K,hl,hle,hm,hml,F,hrp,hst,hkd,hle1,hk=>by
   have:i=ops.size:=by
    have:=congrArg List.length hl
    simp at this
    omega
   subst this
   exact ⟨A,r,s,h,F,hle1,hk,.refl _ _,.refl _⟩
 | o :: os,i,ms,A,r,s,h,K,hl,hle,hm,hml,F,hrp,hst,hkd,hle1,hk=>by
   have ho:ops[i]? = some o:=by
    have:=congrArg (fun l=>l[0]?) hl
    simp only [S5,Si] at this
    simpa using this
   have hlt:i < ops.size:=by
    rcases SC i ops.size with h | h
    ·exact h
    ·rw [SN h] at ho;cases ho
   have hl':ops.toList.drop (i + 1)=os:=by rw [<- aat,hl];rfl
   simp only [YS,Sm] at hst
   obtain ⟨⟨hedge,hslots⟩,hst⟩:=hst
   simp only [pB,Sm] at hkd
   obtain ⟨hpair,hkd⟩:=hkd
   have hal:∀ x,x ∈ VD q A->x.2<=h.next:=fun x hx=>by
    obtain ⟨z,hz,rfl⟩:=Hr hx
    have:=F.nA z hz
    obtain ⟨A1,A2,e⟩:=S3 hz
    have:=(F.told A1 z A2 e).n1
    show z.g.next<=h.next
    omega
   have go:∀ (v u:Value) (h1:za) (y:yF) (bound:Nat),(ym v=true\/v=u)->Next P q ops s0 h0 A i o s h u h1 bound y->(∀ n,firstFree (y8 ms o) (VD q A)=some n->bound=n) ->
     (match r.put o.dst v with | some s1=>LG P q ops os (i + 1) (ms ++ [y8 ms o]) (cond (Nat.beq (w9 q o) 2) (VD q A ++ [(i,h.next)]) (VD q A)) s1 h1 K | none=>False) ->
     ∃ A' r' s' h',u4 P ops s0 h0 A' ops.size s' h'/\Le r' s'/\K r' h'/\Fr (Vh (o :: os)) s s'/\AF h h':=by
    intro v u h1 y bound hv N hbound hk
    split at hk
    case h_2=>exact hk.elim
    rename_i r1 hp
    obtain ⟨s1,hp1,hl1⟩:=hle1.put hp hv
    have hs1:∀ t,s1.get t=if o.dst=some t then u else s.get t:=by
     intro t
     cases hd:o.dst with
     | none=>rw [hd] at hp1;simp only [Env.put,Se] at hp1;subst hp1;simp
     | some d=>
       rw [hd] at hp1
       simp only [Env.put] at hp1
       obtain ⟨_,hp1⟩:=zv hp1
       simp only [Se] at hp1
       subst hp1
       rw [Env.yD]
       by_cases e:t=d
       ·subst e;simp
       ·rw [Sl e,Sl (by simp only [Se];exact fun h=>e h.symm)]
    have hs1s:s1.size=s.size:=(Fr.put hp1).size
    have hal2:(cond (Nat.beq (w9 q o) 2) (VD q A ++ [(i,h.next)]) (VD q A))=VD q (A ++ [y]):=by rw [Ed,N.yU,N.hj,N.gn]
    rw [hal2] at hk
    have F1:u4 P ops s0 h0 (A ++ [y]) (i + 1) s1 h1:=by
     refine ⟨?_,?_,hs1s.trans F.size,?_,N.ro.trans F.ro,S4 F.next N.next,?_,N.wf,?_,?_,?_⟩
     ·rw [aae,F.js,List.range_succ];simp [N.hj]
     ·intro t
      rw [hs1,Q3,N.yU,N.Hg,F.env]
     ·intro b
      rw [N.heap,J9,F.heap]
     ·intro x hx
      rcases Ta.1 hx with hx | hx
      ·exact S4 (F.nA x hx) N.next
      ·simp only [TI] at hx;subst hx;exact N.He
     ·intro A1 r A2 e
      rcases u3 e with ⟨_,rfl,rfl⟩ | ⟨A3,_,e3⟩
      ·exact N.told
      ·exact F.told A1 r A3 e3
     ·intro A1 r A2 e ed hed hb
      rcases u3 e with ⟨_,rfl,rfl⟩ | ⟨A3,_,e3⟩
      ·rw [N.yU] at hed
       simp only [SV,Tb,Sz,S6] at hedge
       rcases hedge ed (by simpa using hed) with h2 | h2
       ·rw [hb] at h2;cases h2
       ·have:ed.on ∈ A1.map (·.j):=by rw [F.js];exact TE.2 h2
        obtain ⟨x,hx,hxj⟩:=TH.1 this
        exact ⟨x,hx,hxj⟩
      ·exact F.VG A1 r A3 e3 ed hed hb
     ·intro A1 x A2 z A3 e
      have e':A ++ [y]=(A1 ++ x :: A2) ++ z :: A3:=by rw [e];simp
      rcases u3 e' with ⟨_,e1,rfl⟩ | ⟨A4,_,e3⟩
      ·have hxm:x ∈ A:=by rw [<- e1];simp
       simp only [SV,Tb] at hpair hslots
       rcases hslots (x.j,x.o) (TH.2 ⟨x,by simpa using hxm,rfl⟩) with h2 | h2
       ·rw [N.hj];exact .inl (q8 hm ho h2)
       ·rcases hpair (x.j,w9 q x.o) (TH.2 ⟨x,by simpa using hxm,rfl⟩) with h3 | h3
        ·rw [N.hj];exact .inl (q8 hm ho h3)
        ·by_cases hbit:(y8 ms o).testBit x.j=true
         ·rw [N.hj];exact .inl (q8 hm ho hbit)
         ·simp only [aaj] at hbit
          refine .inr (EG (q:=q) (hrp x hxm) N.rp (by rw [N.yU];exact h2) (by rw [N.yU];exact h3) ?_ ?_)
          ·have:=F.nA x hxm
           obtain ⟨B1,B2,eB⟩:=S3 hxm
           have:=(F.told B1 x B2 eB).n1
           rw [N.gn];omega
          ·intro k2 k1 b hrd
           obtain ⟨n,hn,hle2⟩:=L4 (m:=y8 ms o) (Cq F) x hxm k2 hbit
           have:=N.rb (by rw [<- N.yU];exact k1) b hrd
           have:=hbound n hn
           omega
      ·exact F.apart A1 x A2 z A4 (by rw [e3];simp)
    obtain ⟨A',r',s',h',F',l',k',f',a'⟩:=H9 hro0 os (i + 1) (ms ++ [y8 ms o]) (A ++ [y]) r1 s1 h1 hl' hlt (Vg hm hml ho) (by simp [hml]) F1
     (fun x hx=>by rcases Ta.1 hx with hx | hx
                   ·exact hrp x hx
                   ·simp only [TI] at hx;subst hx;exact N.rp)
     (by simpa [N.hj,N.yU] using hst) (by simpa [N.hj,N.yU] using hkd) hl1 hk
    exact ⟨A',r',s',h',F',l',k',(Fr.put hp1).left.trans f'.right,(N.af F).trans a'⟩
   have slot:∀ {v:Value} {h1:za} {al':List (Nat × Nat)},(match r.put o.dst v with | some s1=>LG P q ops os (i + 1) (ms ++ [y8 ms o]) al' s1 h1 K | none=>False)->∀ d,o.dst=some d->d < s.size:=by
    intro v h1 al' hk d hd
    split at hk
    case h_2=>exact hk.elim
    rename_i r1 hp
    rw [hd] at hp
    simp only [Env.put] at hp
    obtain ⟨hb,_⟩:=zv hp
    rw [<- hle1.size]
    simpa [S6] using hb
   have hron:h.ro<=h.next:=by rw [F.ro];exact S4 hro0 F.next
   have dstok:∀ {hv:za} {K':Value->za->Prop},NU P q r o hv h K'->(∀ v h1,K' v h1->∀ d,o.dst=some d->d < s.size)->∀ d,o.dst=some d->d < s.size:=by
    intro hv K' hk hs
    have fromA:∀ {g:za} {K2:Value->za->Prop},HC P r o g K2->(∀ v h1,K2 v h1->∀ d,o.dst=some d->d < s.size)->∀ d,o.dst=some d->d < s.size:=fun hk hs=>by
     obtain ⟨v,u,h',_,_,hK⟩:=j5 hle1 hk
     exact hs v h' hK
    unfold NU at hk
    split at hk
    ·split at hk
     ·obtain ⟨_,_,v,_,_,hK⟩:=hk;exact hs _ _ hK
     ·obtain ⟨_,_,v,h2,_,_,hK⟩:=hk;exact hs _ _ hK
     ·obtain ⟨_,hk⟩:=hk;obtain ⟨v,h2,_,hK⟩:=ZK hk;exact hs _ _ hK
     ·obtain ⟨_,_,hd⟩:=hk;obtain ⟨v,h2,hK,_⟩:=hd ⟨F.wf,hron⟩;exact hs _ _ hK
    ·unfold cI at hk
     split at hk
     ·obtain ⟨_,_,_,hd⟩:=hk;obtain ⟨v,h2,hK,_⟩:=hd ⟨F.wf,hron⟩;exact hs _ _ hK
     ·exact hk.elim
    ·cases h1:Nat.beq (w9 q o) 1 with
     | true=>rw [h1] at hk;exact fromA hk (fun v _ q=>hs v _ q)
     | false=>rw [h1] at hk;exact fromA hk hs
   simp only [LG] at hk
   split at hk
   ·rename_i hg
    obtain ⟨v,u,h1,y,bound,hv,hK,N,hb⟩:=tZ F hron ho (dstok hk (fun v h1 hK=>slot hK)) (by simp only [yw,hg]) hle1 hal hk
    exact go v u h1 y bound hv N hb hK
   ·rename_i j want hg
    split at hk
    ·exact hk.elim
    ·rename_i d hdst
     unfold GD at hk
     split at hk
     ·rename_i b hb
      have hs:s.get d = .bool b:=by
       rcases hle1.get d with e | e
       ·rw [hb] at e;cases e
       ·rw [<- e,hb]
      have haw:yw ops s o=(b == want):=by simp only [yw,hg,hdst,hs]
      by_cases hbw:b=want
      ·have hk:=hk.1 hbw
       obtain ⟨v,u,h1,y,bound,hv,hK,N,hb⟩:=tZ F hron ho (dstok hk (fun v h1 hK=>slot hK)) (by rw [haw,hbw];simp) hle1 hal hk
       exact go v u h1 y bound hv N hb hK
      ·have hk:=hk.2 hbw
       obtain ⟨bound,_,_,_,_,hb5⟩:=Jr (m:=y8 ms o) F.wf hal
       obtain ⟨y,N⟩:=cT (q:=q) F ho (slot hk) (u:=undef) (.inl ⟨by rw [haw];simpa using hbw,rfl,rfl⟩) bound
       exact go undef undef h y bound (.inr rfl) N hb5 hk
     ·exact hk.elim
     ·rename_i n1 n2
      have hs:s.get d=r.get d:=by
       rcases hle1.get d with e | e
       ·obtain ⟨k,p,q,e2⟩:=XO e;exact absurd e2 (n2 k p q)
       ·exact e.symm
      have haw:yw ops s o=false:=by
       simp only [yw,hg,hdst,hs]
      obtain ⟨bound,_,_,_,_,hb5⟩:=Jr (m:=y8 ms o) F.wf hal
      obtain ⟨y,N⟩:=cT (q:=q) F ho (slot hk) (u:=undef) (.inl ⟨haw,rfl,rfl⟩) bound
      exact go undef undef h y bound (.inr rfl) N hb5 hk
theorem ta {q:FuncId->Nat} (hmix:P.follows .mixedOrders=true):KI P (v7 P q):=by
 intro ops r s h K rd id hle wf hk
 unfold v7 at hk
 cases hc:calm q ops with
 | false=>rw [hc] at hk;exact hk.elim
 | true=>
   rw [hc] at hk
   have hk:LG P q ops ops.toList 0 [] [] r h K:=hk
   simp only [calm,Sm] at hc
   have F0:u4 P ops s h ([]:List yF) 0 s h:=⟨rfl,fun t=>rfl,rfl,fun b=>rfl,rfl,Sp _,fun x hx=>(by cases hx),wf.1,
    fun A1 r A2 e=>by simp at e,fun A1 r A2 e=>by simp at e,fun A1 x A2 y A3 e=>by simp at e⟩
   obtain ⟨A,r',s',h',F,hl',hK,hf,af⟩:=H9 wf.2 ops.toList 0 [] [] r s h rfl (Th _) (fun k q hq=>by simp at hq) rfl F0 (fun x hx=>(by cases hx)) hc.1 hc.2 hle hk
   have V:Valid P ops s h A:=⟨by rw [F.js];exact List.nodup_range,fun i hi=>by
     have:i ∈ A.map (·.j):=by rw [F.js];exact TE.2 hi
     obtain ⟨r,hr,hj⟩:=TH.1 this
     exact ⟨r,hr,hj⟩,F.told,F.VG,F.apart⟩
   exact ⟨r',s',h',hl',hK,hf,af,VX hmix V F.env F.size F.heap F.ro F.next F.nA (Q:=fun e s1 h1=>e = .normal/\s1=s'/\h1=h') ⟨rfl,rfl,rfl⟩⟩
theorem yP {q:FuncId->Nat} (hmix:P.follows .mixedOrders=true) {n:Nat} {f:FuncId} {args:List Value} {h:za} {R:Value->za->Prop} (hk:WT P (v7 P q) n f args h R):DC P f args h R:=lJ (ta hmix) hk
theorem DC.mono {f:FuncId} {args:List Value} {h:za} {R R':Value->za->Prop} (d:DC P f args h R) (m:∀ v h1,R v h1->R' v h1):DC P f args h R':=fun wf=>by
 obtain ⟨v,h1,a,b,c⟩:=d wf
 exact ⟨v,h1,m v h1 a,b,c⟩
theorem YA {f:FuncId} {args:List Value} {h:za} {R:Value->za->Prop} (ht:du h->DC P f args h R):DC P f args h R:=fun wf=>ht wf wf
theorem DC.tc {f:FuncId} {args:List Value} {h:za} {R:Value->za->Prop} (d:DC P f args h R):TC P f args h R:=by
 intro ρ w cargs hr hv
 obtain ⟨v,h1,hR,_,t⟩:=d ⟨fun b o hb=>hr.UL b o hb,hr.ro⟩
 exact (t.mono (by rintro v2 h2 ⟨rfl,rfl⟩;exact hR)) ρ w cargs hr hv
theorem du.lock {h:za} (w:du h):du h.lock:=⟨w.1,Sp _⟩
end
noncomputable section
variable {P:Program}
theorem zH {α:Sort _} {a b:α} (h:a=b):a=b:=h
theorem uz {p:Prop} [Decidable p] (h:p):decide p=true:=decide_eq_true h
theorem vE {p:Prop} [Decidable p] (h:¬p):decide p=false:=decide_eq_false h
def zw (h:za) (b off:Nat):Option Value:=match h.get b with
 | some (.cells c _)=>c[off]?
 | _=>none
def ye (h:za) (b off n:Nat):Option Value:=match h.get b with
 | some (.cells c _)=>if off + n<=c.length then some (.agg ((c.drop off).take n).toArray) else none
 | _=>none
def vf (h:za) (b off:Nat) (vs:List Value):Option za:=match h.get b with
 | some (.cells c t)=>if off + vs.length<=c.length/\h.ro<=b/\vs.all wZ=true then some (h.set b (some (.cells (zf c off vs) t))) else none
 | _=>none
theorem YJ {α:Type} {b:Bool} {p:Prop} [Decidable p] {x y:α} (h:b=true ↔ p):cond b x y=if p then x else y:=by
 by_cases hp:p
 ·rw [Sn hp,h.2 hp];rfl
 ·rw [Sl hp,show b=false by simpa using fun e=>hp (h.1 e)];rfl
theorem yn {t:TypeId} (ha:z9 P (isAgg t)=some false) (b off:Nat) (h:za):zd P t (.pointer (some ⟨b,off,none⟩)) h=zw h b off:=by
 unfold zd zw
 simp only [ha]
 cases h.get b with
 | none=>rfl
 | some o=>cases o <;> rfl
theorem qi {t:TypeId} {n:Nat} (ha:z9 P (isAgg t)=some true) (hn:z9 P (sizeOf t)=some n) (b off:Nat) (h:za):zd P t (.pointer (some ⟨b,off,none⟩)) h=ye h b off n:=by
 unfold zd ye
 simp only [ha,hn]
 cases h.get b with
 | none=>rfl
 | some o=>
   cases o <;> simp only []
   rw [YJ (p:=off + n<=_) (by rw [aaf])]
theorem gC {t:TypeId} {n:Nat} (hn:z9 P (sizeOf t)=some n) (b off:Nat) (v:Value) (h:za) (hv:v.cells.size=n):zl P t (.pointer (some ⟨b,off,none⟩)) v h=vf h b off v.cells.toList:=by
 unfold zl vf
 simp only [hn]
 cases h.get b with
 | none=>rfl
 | some o=>
   cases o <;> simp only []
   refine YJ ?_
   simp only [Sm,aaf,aar,Tz,hv,aab,and_assoc]
theorem uI {t:TypeId} (hn:z9 P (sizeOf t)=some 1) (b off:Nat) (v:Value) (h:za) (hv:v.cells = #[v]):zl P t (.pointer (some ⟨b,off,none⟩)) v h=vf h b off [v]:=by
 rw [gC hn b off v h (by rw [hv];rfl),hv]
theorem qP {t:TypeId} {n:Nat} (hn:z9 P (sizeOf t)=some n) (b off:Nat) (l:List Value) (h:za) (hv:l.length=n):zl P t (.pointer (some ⟨b,off,none⟩)) (.agg l.toArray) h=vf h b off l:=by
 rw [gC hn b off _ h (by simpa [Value.cells] using hv)];rfl
theorem wk {t e:TypeId} {n:Nat} (hu:z9 P (underlying t)=some (.slice e)) (hn:z9 P (sizeOf e)=some n) {b off len c:Nat} {k:IntKind} {i:Int} :
  zA P t (.slice (some ⟨b,off,none⟩) len c) (.int k i)=if 0<=i/\i < len then some (.pointer (some ⟨b,off + i.toNat * n,none⟩)) else none:=by
 unfold zA
 simp only [hu,hn]
 exact YJ (by simp)
theorem Ud {t e:TypeId} {n len:Nat} (hu:z9 P (underlying t)=some (.array len e)) (hn:z9 P (sizeOf e)=some n) {b off:Nat} {k:IntKind} {i:Int} :
  zA P t (.pointer (some ⟨b,off,none⟩)) (.int k i)=if 0<=i/\i < len then some (.pointer (some ⟨b,off + i.toNat * n,none⟩)) else none:=by
 unfold zA
 simp only [hu,hn]
 exact YJ (by simp)
theorem U7 {d m:Nat}:qz none d m=some d:=zH rfl
theorem Wr {k:IntKind} {i:Int} {d m:Nat}:qz (some (.int k i)) d m=if 0<=i/\i<=m then some i.toNat else none:=YJ (by simp)
theorem tX:HB none=true:=zH rfl
theorem aI {v:Value} (h:ym v=false):HB (some v)=true:=by simp only [HB,h,S9]
theorem Ei {t e:TypeId} {n:Nat} (hu:z9 P (underlying t)=some (.slice e)) (hn:z9 P (sizeOf e)=some n) {b off len c:Nat} {lo hi:Option Value} {h:za} :
  GC P t (.slice (some ⟨b,off,none⟩) len c) lo hi h=(qz hi len len).bind fun hh=>(qz lo 0 hh).bind fun l=>some (.slice (some ⟨b,off + l * n,none⟩) (hh - l) (cond (wide P h b n) (K8 c l) 0)):=by
 simp only [GC,cH,hu,hn]
 cases qz hi len len with
 | none=>rfl
 | some hh=>
   simp only [SS]
   cases qz lo 0 hh <;> rfl
theorem Eg {t e:TypeId} {n k:Nat} (hu:z9 P (underlying t)=some (.array k e)) (hn:z9 P (sizeOf e)=some n) {b off:Nat} {lo hi:Option Value} {h:za} :
  GC P t (.pointer (some ⟨b,off,none⟩)) lo hi h=(qz hi k k).bind fun hh=>(qz lo 0 hh).bind fun l=>some (.slice (some ⟨b,off + (if k=l then 0 else l * n),none⟩) (hh - l) 0):=by
 simp only [GC,cH,hu,hn]
 cases qz hi k k with
 | none=>rfl
 | some hh=>
   simp only [SS]
   cases qz lo 0 hh <;> rfl
theorem LF {h:za} {b n:Nat} {cs:List Value} {t:TypeId} (hb:h.get b=some (.cells cs t)):wide P h b n=Nat.beq (P.cellsOf t) n:=by simp only [wide,hb]
def Dw (P:Program) (t:TypeId):Option (Nat × Nat):=(z9 P (typeInfo t)).map fun i=>(i.size,i.bytes)
theorem Gu {t e:TypeId} {z:Value} {zs:List Value} {n bytes:Nat} (hu:z9 P (underlying t)=some (.slice e)) (hs:Dw P e=some (n,bytes)) (hz:wY P e=some z) (hzs:z.cells.toList=zs) (hn:0 < n) (hb:bytes<=65536) (hl:zs.length=n)
  {k k2:IntKind} {l c:Int} {h:za} (h0:0<=l) (h1:l<=c) (h2:c < 2 ^ 31):W4 P t (.int k l) (.int k2 c) h=some (.slice (some ⟨h.next,0,none⟩) l.toNat (c.toNat + 2),h.push (.cells (ZV zs (c.toNat * n)) e)):=by
 unfold Dw at hs
 simp only [Sw,Sh] at hs
 obtain ⟨i,hi,rfl,rfl⟩:=hs
 unfold W4
 simp only [hu,hi,hz]
 have w:∀ n:Int,0<=n->n < 2 ^ 31->IntKind.i64.wrap n=n:=fun n p q=>by simp only [IntKind.wrap,IntKind.bits,IntKind.signed];simp;omega
 have hm:(i.bytes:Int) * c<=2 ^ 48:=by
  have:(i.bytes:Int) * c<=65536 * c:=Int.mul_le_mul_of_nonneg_right (by omega) (by omega)
  omega
 have hz2:z.cells.size=i.size:=by rw [<- hl,<- hzs];simp
 rw [show (decide (IntKind.i64.wrap l=l) && decide (IntKind.i64.wrap c=c) && decide (0<=l) && decide (l<=c) && decide ((i.bytes:Int) * c<=2 ^ 48) && Nat.beq z.cells.size i.size && Nat.blt 0 i.size)=true by
  simp only [Sm,SZ,aar,S6]
  exact ⟨⟨⟨⟨⟨⟨w l h0 (by omega),w c (by omega) h2⟩,h0⟩,h1⟩,hm⟩,hz2⟩,hn⟩]
 simp only [SA,hzs]
def Uh (h:za) (elem size bytes n:Nat) (new:List Value) (s:Value):Option (Value × za):=match s with
 | .slice none 0 0=>if n=0 then some (.slice none 0 0,h) else if n * bytes<=2 ^ 48 then some (.slice (some ⟨h.next,0,none⟩) n 1,h.push (.cells new elem)) else none
 | .slice (some ⟨b,off,none⟩) len c=>if n=0 then some (s,h) else (match h.get b with
   | some (.cells cs t)=>if c ≠ 0/\t=elem/\h.ro<=b/\off + len * size<=cs.length/\roomFor c (len + n) bytes=true/\off % size=0 then
     some (.slice (some ⟨h.next,0,none⟩) (len + n) (ji c (len + n)),(h.set b none).push (.cells (((cs.drop off).take (len * size)) ++ new) elem)) else none
   | _=>none)
 | _=>none
theorem Xd {sT xT e e2:TypeId} {size bytes:Nat} (h1:z9 P (underlying sT)=some (.slice e)) (h2:z9 P (underlying xT)=some (.slice e2)) (hs:Dw P e=some (size,bytes)) (hz:(wY P e).map (fun z=>z.cells.size)=some size) (hb:0 < bytes)
  {r:TypeId} {v x:Value} {n:Nat} {new:List Value} {h:za} (hn:Ws x=some n) (hf:uJ h n size x=some new) (hc:new.all wZ=true) (hl:new.length=n * size) :
  zn P .append [sT,xT] r [v,x] h=Uh h e size bytes n new v:=by
 unfold Dw at hs
 simp only [Sw,Sh] at hs hz
 obtain ⟨i,hi,rfl,rfl⟩:=hs
 obtain ⟨z,hz,hz2⟩:=hz
 simp only [zn,W1,h1,h2,hn,hi,hz,hf]
 rw [show (!cP (TypeDesc.slice e2) && Nat.blt 0 i.bytes && Nat.beq z.cells.size i.size && new.all wZ && Nat.beq new.length (n * i.size))=true by
  simp only [Sm,aar,S6]
  exact ⟨⟨⟨⟨rfl,hb⟩,hz2⟩,hc⟩,hl⟩]
 simp only [SA]
 unfold VA Uh
 split
 ·exact (YJ (p:=n=0) (by simp)).trans (by
   by_cases h0:n=0
   ·rw [Sn h0];exact (Sn h0).symm
   ·rw [Sl h0];exact (YJ (p:=n * i.bytes<=2 ^ 48) (by simp)).trans (Sl h0).symm)
 ·rename_i b off len c
  refine (YJ (p:=n=0) (by simp)).trans ?_
  by_cases h0:n=0
  ·rw [Sn h0];exact (Sn h0).symm
  ·rw [Sl h0]
   refine Eq.trans ?_ (Sl h0).symm
   cases hg:h.get b with
   | none=>rfl
   | some o=>
     cases o with
     | cells cs t=>
       refine YJ ?_
       simp only [Sm,Sz,aar,aaf,ne_eq,and_assoc]
       refine and_congr ?_ (Iff.rfl)
       rw [<- aaj,aar]
     | _=>rfl
 ·rename_i q1 q2
  split
  ·exact (q1 rfl).elim
  ·exact (q2 _ _ _ _ rfl).elim
  ·rfl
section heaps
variable {h:za} {b c off n:Nat} {cs:List Value} {t:TypeId} {o:vi}
theorem H2 (hb:h.get b=some (.cells cs t)) (off:Nat) (vs:List Value):vf h b off vs=if off + vs.length<=cs.length/\h.ro<=b/\vs.all wZ=true then some (h.set b (some (.cells (zf cs off vs) t))) else none:=by simp only [vf,hb]
theorem yd:(h.push o).get h.next=some o:=by rw [za.uA,Sn rfl]
theorem zJ (hb:b=h.next):(h.push o).get b=some o:=by rw [za.uA,Sn hb]
theorem zU (hb:b < h.next):(h.push o).get b=h.get b:=by rw [za.uA,Sl (by omega)]
theorem yg {x:Option vi}:(h.set b x).get b=x:=by rw [za.yD,Sn rfl]
theorem zS {x:Option vi} (hb:¬ c=b):(h.set b x).get c=h.get c:=by rw [za.yD,Sl hb]
theorem J8 (h:za) (b:Nat):h.lock.get b=h.get b:=zH rfl
theorem Wi (h:za):h.lock.next=h.next:=zH rfl
theorem Dq (h:za):h.lock.ro=h.next:=zH rfl
theorem yo (h:za) (o:vi):(h.push o).next=h.next + 1:=zH rfl
theorem qA (h:za) (b:Nat) (o:Option vi):(h.set b o).next=h.next:=zH rfl
theorem qd (h:za) (o:vi):(h.push o).ro=h.ro:=zH rfl
theorem Kd (h:za) (b:Nat) (o:Option vi):(h.set b o).ro=h.ro:=zH rfl
theorem cR {a n k:Nat} (h:a < n):(a < n + k)=True:=by simp;omega
theorem eQ {n:Nat}:(n < n + 1)=True:=by simp
end heaps
section numbers
variable {t:TypeId} {x y:Operand} {k k':IntKind} {a b:Int}
theorem uH {v:Value} {op:BinOp} {p q:Value} (h:Ea P op t x y p q=some v):ze P op t x y p q=some v:=by unfold ze;rw [h]
theorem qj:ze P .lss t x y (.int k a) (.int k b)=some (.bool (decide (a < b))):=uH (by cases k <;> rfl)
theorem LU:ze P .leq t x y (.int k a) (.int k b)=some (.bool (decide (a<=b))):=uH (by cases k <;> rfl)
theorem X0:ze P .gtr t x y (.int k a) (.int k b)=some (.bool (decide (b < a))):=uH (by cases k <;> rfl)
theorem nt:ze P .geq t x y (.int k a) (.int k b)=some (.bool (decide (b<=a))):=uH (by cases k <;> rfl)
theorem YX:ze P .eql t x y (.int k a) (.int k b)=some (.bool (decide (a=b))):=uH (by cases k <;> rfl)
theorem ZP:ze P .neq t x y (.int k a) (.int k b)=some (.bool (!decide (a=b))):=uH (by cases k <;> rfl)
theorem ZO:ze P .add t x y (.int k a) (.int k b)=some (.int k (k.wrap (a + b))):=uH (by cases k <;> rfl)
theorem XJ:ze P .sub t x y (.int k a) (.int k b)=some (.int k (k.wrap (a - b))):=uH (by cases k <;> rfl)
theorem W6:ze P .mul t x y (.int k a) (.int k b)=some (.int k (k.wrap (a * b))):=uH (by cases k <;> rfl)
theorem dF (hb:¬ b=0):ze P .quo t x y (.int k a) (.int k b)=some (.int k (k.wrap (a.tdiv b))):=by
 refine uH ?_
 have:z9 P (Op.intDiv .quo k a b)=some (.int k (k.wrap (a.tdiv b))):=by unfold Op.intDiv;rw [Sl hb];rfl
 cases k <;> (show fl (z9 P (Op.intDiv .quo _ a b))=_;rw [this];rfl)
theorem KB (hb:¬ b=0):ze P .rem t x y (.int k a) (.int k b)=some (.int k (a.tmod b)):=by
 refine uH ?_
 have:z9 P (Op.intDiv .rem k a b)=some (.int k (a.tmod b)):=by unfold Op.intDiv;rw [Sl hb];rfl
 cases k <;> (show fl (z9 P (Op.intDiv .rem _ a b))=_;rw [this];rfl)
theorem LS:ze P .and t x y (.int k a) (.int k b)=some (.int k (k.wrap (BitVec.ofInt k.bits a &&& BitVec.ofInt k.bits b).toNat)):=uH (by cases k <;> rfl)
theorem Eo:ze P .or t x y (.int k a) (.int k b)=some (.int k (k.wrap (BitVec.ofInt k.bits a ||| BitVec.ofInt k.bits b).toNat)):=uH (by cases k <;> rfl)
theorem LV:ze P .xor t x y (.int k a) (.int k b)=some (.int k (k.wrap (BitVec.ofInt k.bits a ^^^ BitVec.ofInt k.bits b).toNat)):=uH (by cases k <;> rfl)
theorem sL:ze P .andNot t x y (.int k a) (.int k b)=some (.int k (k.wrap (BitVec.ofInt k.bits a &&& ~~~BitVec.ofInt k.bits b).toNat)):=uH (by cases k <;> rfl)
theorem nu (hb:0<=b):ze P .shl t x y (.int k a) (.int k' b)=some (.int k (k.wrap (a * 2 ^ (min b.toNat k.bits)))):=by
 refine uH ?_
 have:z9 P (Op.shift .shl k a k' b)=some (.int k (k.wrap (a * 2 ^ (min b.toNat k.bits)))):=by unfold Op.shift;rw [Sl (by omega)];rfl
 show fl (z9 P (Op.shift .shl k a k' b))=_
 rw [this];rfl
theorem sN (hb:0<=b):ze P .shr t x y (.int k a) (.int k' b)=some (.int k (a.fdiv (2 ^ (min b.toNat k.bits)))):=by
 refine uH ?_
 have:z9 P (Op.shift .shr k a k' b)=some (.int k (a.fdiv (2 ^ (min b.toNat k.bits)))):=by unfold Op.shift;rw [Sl (by omega)];rfl
 show fl (z9 P (Op.shift .shr k a k' b))=_
 rw [this];rfl
theorem i5 {c:Bool}:JR P .not (.bool c)=some (.bool (!c)):=zH rfl
theorem Mk:JR P .neg (.int k a)=some (.int k (k.wrap (0 - a))):=by cases k <;> rfl
end numbers
section nils
variable {t e:TypeId} {x y:Operand}
theorem Hw {p q:Value} {r:Bool} (hf:(flat p && flat q)=false) (h:isNil P t p q=some r):ze P .eql t x y p q=some (.bool r)/\ze P .neq t x y p q=some (.bool (!r)):=by
 constructor <;> refine uH ?_ <;> unfold Ea <;> rw [hf] <;> simp only [SK,Mu,h,TG]
theorem Pn (hu:z9 P (underlying t)=some (.pointer e)) (a:Addr):ze P .eql t x y (.pointer (some a)) (.pointer none)=some (.bool false):=(Hw (p := .pointer (some a)) (q := .pointer none) (r:=false) rfl (by simp only [isNil,hu])).1
theorem Nx (hu:z9 P (underlying t)=some (.slice e)) (a:Addr) (n c:Nat):ze P .eql t x y (.slice (some a) n c) (.slice none 0 0)=some (.bool false):=(Hw (p := .slice (some a) n c) (q := .slice none 0 0) (r:=false) rfl (by simp only [isNil,hu])).1
end nils
theorem VS {α β:Type} (s:Sem α) (f:α->Sem β):z9 P (s >>= f)=(z9 P s).bind fun a=>z9 P (f a):=by
 induction s with
 | pure a=>rfl
 | program k ih=>exact ih P
 | _=>rfl
theorem VT {α:Type} (a:α):z9 P (Pure.pure a:Sem α)=some a:=rfl
def OC (P:Program) (d:Nat) (xs ys:Array Value):List Field->Option Bool
 | []=>some true
 | f :: fs=>if f.name ≠ "_" then (match z9 P (part f.type xs f.offset),z9 P (part f.type ys f.offset) with
     | some a,some b=>(match z9 P (Op.equalIn d f.type a b) with
       | some r=>cond r (OC P d xs ys fs) (some false)
       | none=>none)
     | _,_=>none) else OC P d xs ys fs
theorem aO {d:Nat} {t:TypeId} {xs ys:Array Value} {fs:Array Field} (hu:P.underlying t=some (.struct fs)) (hp:P.stoodInHeld t=false) :
  z9 P (Op.equalIn (d + 1) t (.agg xs) (.agg ys))=OC P d xs ys fs.toList:=by
 have h2:z9 P program=some P:=rfl
 have h1:z9 P (underlying t)=some (.struct fs):=by
  unfold underlying
  simp only [VS,h2,SS,hu]
  rfl
 simp only [Op.equalIn,VS,h1,h2,SS,hp,Ti,Sx]
 rw [<- Array.forIn_toList]
 generalize fs.toList=l
 clear hu h1
 induction l with
 | nil=>rfl
 | cons f l ih=>
   simp only [List.forIn_cons,OC,VS] at ih ⊢
   by_cases hn:f.name ≠ "_"
   ·rw [Sn hn,Sn hn]
    simp only [VS]
    cases z9 P (part f.type xs f.offset) with
    | none=>rfl
    | some a=>
      cases z9 P (part f.type ys f.offset) with
      | none=>rfl
      | some b=>
        simp only [SS]
        cases z9 P (Op.equalIn d f.type a b) with
        | none=>rfl
        | some r=>
          cases r
          ·simp only [SS,S9,Sf,VT]
           rfl
          ·simp only [SS,Ts,Ti,Sx,VT]
           exact ih
   ·rw [Sl hn,Sl hn]
    simp only [VT,SS]
    exact ih
theorem YH {t:TypeId} {x y:Operand} {xs ys:Array Value} {fs:Array Field} {r:Bool} (hu:P.underlying t=some (.struct fs)) (hp:P.stoodInHeld t=false) (hg:P.eqGuardType P.depth t=false) (hx:flat (.agg xs)=true) (hy:flat (.agg ys)=true)
  (hr:OC P 9999 xs ys fs.toList=some r):ze P .eql t x y (.agg xs) (.agg ys)=some (.bool r)/\ze P .neq t x y (.agg xs) (.agg ys)=some (.bool (!r)):=by
 have he:z9 P (Op.equal t (.agg xs) (.agg ys))=some r:=(aO hu hp).trans hr
 have hgd:∀ op:BinOp,z9 P (eqGuard op t x y (.agg xs) (.agg ys))=some ():=by
  intro op
  have h2:z9 P program=some P:=rfl
  cases op <;> simp [eqGuard,VS,h2,hg,VT]
 constructor <;> refine uH ?_ <;> unfold Ea <;> rw [hx,hy] <;> simp only [Tm,SA,VS,hgd,SS,binOp,he,VT] <;> rfl
section
theorem zF {b}:ym (.bool b)=false:=zH rfl
theorem zP {k n}:ym (.int k n)=false:=zH rfl
theorem iI {s}:ym (.string s)=false:=zH rfl
theorem wy {a}:ym (.pointer a)=false:=zH rfl
theorem yh {a n c}:ym (.slice a n c)=false:=zH rfl
theorem Dh {a}:ym (.map a)=false:=zH rfl
theorem tT {f a c}:ym (.func f a c)=false:=zH rfl
theorem tU:ym .nilFunc=false:=zH rfl
theorem nN {t v}:ym (.iface t v)=false:=zH rfl
theorem tV:ym .nilIface=false:=zH rfl
theorem yK {a}:ym (.agg a)=false:=zH rfl
theorem nO {a}:ym (.tuple a)=false:=zH rfl
theorem sX {b}:wZ (.bool b)=true:=zH rfl
theorem qS {k n}:wZ (.int k n)=true:=zH rfl
theorem gK {s}:wZ (.string s)=true:=zH rfl
theorem Q2 {a}:wZ (.pointer a)=true:=zH rfl
theorem VF {a n c}:wZ (.slice a n c)=true:=zH rfl
theorem C3 {a}:wZ (.map a)=true:=zH rfl
theorem sY {f a c}:wZ (.func f a c)=true:=zH rfl
end
theorem nP:yN []=true:=zH rfl
theorem iK {v:Value} {l:List Value} (h:ym v=false):yN (v :: l)=yN l:=by simp only [yN,h,SK]
theorem zR {α:Type} (x:Option α):nb [] x=x:=zH rfl
theorem zG {α:Type} {v:Value} {l:List Value} {x:Option α} (h:ym v=false):nb (v :: l) x=nb l x:=by simp only [nb,yN,h,SK]
theorem yR {A B J}:CD (.bool true) A B J=A J:=zH rfl
theorem zZ {A B J}:CD (.bool false) A B J=B J:=zH rfl
theorem Fp {b want:Bool} {A K h} (e:b=want):GD (.bool b) want A K h=A K:=by
 apply propext;constructor
 ·intro g;exact g.1 e
 ·intro g;exact ⟨fun _=>g,fun ne=>absurd e ne⟩
theorem Fo {b want:Bool} {A K h} (e:¬ b=want):GD (.bool b) want A K h=K undef h:=by
 apply propext;constructor
 ·intro g;exact g.2 e
 ·intro g;exact ⟨fun e'=>absurd e' e,fun _=>g⟩
theorem Cz {w A K h}:GD undef w A K h=K undef h:=zH rfl
theorem jf {A K h}:GD (.bool true) true A K h=A K:=Fp rfl
theorem qU {A K h}:GD (.bool false) false A K h=A K:=Fp rfl
theorem WU {A K h}:GD (.bool true) false A K h=K undef h:=Fo (by simp)
theorem j6 {A K h}:GD (.bool false) true A K h=K undef h:=Fo (by simp)
theorem wj {a b:Value} (h:ym a=false):pk (.bool true) a b=some a:=by simp only [pk,zG h,zR]
theorem yp {a b:Value} (h:ym b=false):pk (.bool false) a b=some b:=by simp only [pk,zG h,zR]
theorem vh (a:Addr):ve (.pointer (some a))=some (.pointer (some a)):=zH rfl
theorem gE {vs:Array Value} {i:Nat} (h:yN vs.toList=true):YW (.tuple vs) i=vs[i]?:=by simp only [YW,nb,h,SA]
theorem Uj {a b:Value} (ha:ym a=false) (hb:ym b=false):YW (.tuple #[a,b]) 0=some a:=(gE (by simp only [yN,ha,hb,SK])).trans rfl
theorem Uk {a b:Value} (ha:ym a=false) (hb:ym b=false):YW (.tuple #[a,b]) 1=some b:=(gE (by simp only [yN,ha,hb,SK])).trans rfl
theorem qB {v:Value} {h R} (hb:ym v=false):rv [v] h R=R v h:=by
 apply propext;simp only [rv,yN,hb,SK,jT,aab]
theorem uM {v w:Value} {h R} (hb:ym v=false) (hc:ym w=false):rv [v,w] h R=R (.tuple #[v,w]) h:=by
 apply propext;simp only [rv,yN,hb,hc,SK,jT,aab]
theorem z7 {g:FuncId} {args:List Value} {h:za} {K R:Value->za->Prop} (hc:ux P g=true) (hn:yN args=true) (hT:DC P g args h R) (hk:∀ v h1,R v h1->K v h1):zO P (.func (.func g) #[] #[]) args h K :=
 ⟨hn,by simpa using hn,.inl ⟨hc,by simpa using hT.mono hk⟩⟩
theorem qu {g:FuncId} {args:List Value} {h:za} {K R:Value->za->Prop} (hc:ux P g=true) (hn:yN args=true) (hT:DC P g args h R) (hk:∀ v h1,R v h1->K v h1):YI P g args h K :=
 ⟨hc,hn,hT.mono hk⟩
theorem Zb {step:List Value->za->(List Value->za->Prop)->Prop} (I:Nat->List Value->za->Prop) (n:Nat) {vs:List Value} {h:za} (h0:I n vs h)
  (hs:∀ n vs h,I n vs h->step vs h (fun vs' h' => ∃ m,m < n/\I m vs' h')):LP step vs h:=⟨I,n,h0,hs⟩
def vC (P:Program) (f:FuncId) (args:List Value) (h:za) (v:Value):Prop:=cZ v=true/\TC P f args h.lock (fun v1 _=>v1=v)
theorem vC.dc {f:FuncId} {args:List Value} {h:za} {v:Value} (q:vC P f args h v):DC P f args h (fun v1 h1=>v1=v/\h1=h):=fun _=>
 ⟨v,h,⟨rfl,rfl⟩,.refl _,(q.2.quiet (fun v1 _ e=>by rw [e];exact q.1)).mono (by rintro v1 h1 ⟨⟨_,e1⟩,e2⟩;exact ⟨e1,e2⟩)⟩
theorem vC.of {f:FuncId} {args:List Value} {h:za} {v:Value} (hs:cZ v=true) (d:DC P f args h.lock (fun v1 _=>v1=v)):vC P f args h v:=⟨hs,d.tc⟩
theorem zh {g:FuncId} {args:List Value} {h:za} {K:Value->za->Prop} {v:Value} (hc:ux P g=true) (hn:yN args=true) (hq:vC P g args h v) (hk:K v h):zO P (.func (.func g) #[] #[]) args h K :=
 z7 hc hn hq.dc (by rintro v1 h1 ⟨rfl,rfl⟩;exact hk)
theorem qR {g:FuncId} {args:List Value} {h:za} {K:Value->Prop} {v:Value} (hc:ux P g=true) (hn:yN args=true) (hq:vC P g args h v) (hk:K v):ZQ P g args h K :=
 ⟨hc,hn,v,hq.1,hq.2,hk⟩
end
end Go.Ai
