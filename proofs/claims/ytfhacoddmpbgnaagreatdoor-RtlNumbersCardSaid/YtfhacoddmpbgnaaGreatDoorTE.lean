/- A part of the proof. -/
import Derived.Test.YtfhacoddmpbgnaaGreatDoorTD
set_option linter.unusedVariables false
set_option linter.unusedSimpArgs false
set_option maxRecDepth 100000
namespace Go.Ai
noncomputable section
variable {P:Program}
theorem Wa {s:Env} {o:Oper} {h h':za} {u:Value} (he:Jt P s o h=some (u,h')):Vh o.op=false:=by
 cases hc:Vh o.op with
 | false=>rfl
 | true=>
   unfold Vh at hc
   split at hc
   ·rename_i yF;unfold Jt at he;simp only [yF] at he;cases he
   ·cases hc
structure RP (q:FuncId->Nat) (x:yx):Prop where
 rd:∀ b,x.rd b=true->b < x.g.next
 k0:xB q x.o=0->∀ b,x.rd b=false
 k1:xB q x.o<=1->∀ b,x.tc b=false
 k2:xB q x.o=2->∀ b,x.tc b=true->x.g.next<=b
structure Next (P:Program) (q:FuncId->Nat) (ops:Array Oper) (s0:Env) (h0:za) (A:List yx) (i:Nat) (o:Oper) (s:Env) (h:za) (u:Value) (h1:za) (bound:Nat) (y:yx):Prop where
 hj:y.j=i
 yF:y.o=o
 Ta:y.s=s
 LU:y.v=u
 gn:y.g.next=h.next
 told:Told P ops s0 h0 A y
 rp:RP q y
 rb:xB q o=1->∀ b,y.rd b=true->b < bound
 heap:∀ b,h1.get b=if y.tc b=true then y.g'.get b else h.get b
 ro:h1.ro=h.ro
 next:h.next<=h1.next
 LR:y.g'.next<=h1.next
 wf:WF h1
section
variable {q:FuncId->Nat} {ops:Array Oper} {s0:Env} {h0:za} {A:List yx} {i:Nat} {o:Oper} {s:Env} {h:za}
theorem fe (F:vz P ops s0 h0 A i s h) (ho:ops[i]? = some o) (hput:∀ d,o.dst=some d->d < s.size) {u:Value} (hs:kO P ops s o (h.pick []) u (h.pick [])) (bound:Nat):∃ y,Next P q ops s0 h0 A i o s h u h bound y:=by
 refine ⟨⟨i,o,u,s,h.pick [],h.pick [],fun _=>false,fun _=>false⟩,rfl,rfl,rfl,rfl,rfl,
  ⟨ho,F.env,F.size,fun b=>by rw [vM];simp,F.ro,F.next,F.nA,aah _,hs,fun d hd=>by rw [<- F.size];exact hput d hd,fun b hb=>(by cases hb),fun b _=>rfl,fun b o' hb=>(by cases hb)⟩,
  ⟨fun b hb=>(by cases hb),fun _ _=>rfl,fun _ _=>rfl,fun _ b hb=>(by cases hb)⟩,fun _ b hb=>(by cases hb),fun b=>by simp,rfl,aah _,aah _,F.wf⟩
theorem rS (F:vz P ops s0 h0 A i s h) (ho:ops[i]? = some o) (hput:∀ d,o.dst=some d->d < s.size) (hk:xB q o=1) {hv:za} {bound:Nat} (hb:bound<=h.next) (hn:hv.next=h.next) (hro:hv.ro=h.ro)
  (hg:∀ b,hv.get b=if b < bound then h.get b else none) {u:Value} (hs:kO P ops s o hv u hv):∃ y,Next P q ops s0 h0 A i o s h u h bound y:=by
 refine ⟨⟨i,o,u,s,hv,hv,fun b=>Nat.blt b bound,fun _=>false⟩,rfl,rfl,rfl,rfl,hn,
  ⟨ho,F.env,F.size,fun b => ?_,hro.trans F.ro,by rw [hn];exact F.next,fun x hx=>by rw [hn];exact F.nA x hx,aah _,hs,fun d hd=>by rw [<- F.size];exact hput d hd,fun b hb=>(by cases hb),fun b _=>rfl,fun b o' hb=>(by cases hb)⟩,
  ⟨fun b hb2=>by have:b < bound:=by simpa [aaR] using hb2
                 show b < hv.next;omega,fun h=>by simp only at h;omega,fun _ _=>rfl,fun h=>by simp only at h;omega⟩,fun _ b hb2=>by simpa [aaR] using hb2,fun b=>by simp,rfl,aah _,by rw [hn];exact aah _,F.wf⟩
 show hv.get b=if Nat.blt b bound=true then ZN A h0 b else none
 have hbl:(Nat.blt b bound=true) ↔ b < bound:=by rw [aaR]
 rw [hg]
 by_cases hbb:b < bound
 ·rw [if_pos hbb,if_pos (hbl.2 hbb),F.heap]
 ·rw [if_neg hbb,if_neg (fun e=>hbb (hbl.1 e))]
theorem ZD {h:za} (w:WF h) {b:Nat} (hb:¬ b < h.next):h.get b=none:=by
 cases hh:h.get b with | none=>rfl | some o'=>exact absurd (w b o' hh) hb
theorem aJ (F:vz P ops s0 h0 A i s h) (ho:ops[i]? = some o) (hput:∀ d,o.dst=some d->d < s.size) (hk:xB q o=2) {h1:za} (hn:h.next<=h1.next) (hro:h1.ro=h.ro) (hold:∀ b,¬ (h.next<=b/\b < h1.next)->h1.get b=h.get b)
  {u:Value} (hs:kO P ops s o h u h1) (bound:Nat):∃ y,Next P q ops s0 h0 A i o s h u h1 bound y:=by
 have hrd:∀ b,(Nat.blt b h.next=true) ↔ b < h.next:=fun b=>by rw [aaR]
 have htc:∀ b,(decide (h.next<=b/\b < h1.next)=true) ↔ (h.next<=b/\b < h1.next):=fun b=>by simp
 refine ⟨⟨i,o,u,s,h,h1,fun b=>Nat.blt b h.next,fun b=>decide (h.next<=b/\b < h1.next)⟩,rfl,rfl,rfl,rfl,rfl,
  ⟨ho,F.env,F.size,fun b => ?_,F.ro,F.next,F.nA,hn,hs,fun d hd=>by rw [<- F.size];exact hput d hd,fun b hb => .inr ((htc b).1 hb),fun b hb => ?_,fun b o' hb hlt => ?_⟩,
  ⟨fun b hb=>(hrd b).1 hb,fun h=>by simp only at h;omega,fun h=>by simp only at h;omega,fun _ b hb=>((htc b).1 hb).1⟩,fun h=>by omega,fun b => ?_,hro,hn,aah _,fun b o' hb => ?_⟩
 ·show h.get b=if Nat.blt b h.next=true then ZN A h0 b else none
  by_cases hb:b < h.next
  ·rw [if_pos ((hrd b).2 hb),F.heap]
  ·rw [if_neg (fun e=>hb ((hrd b).1 e)),ZD F.wf hb]
 ·refine hold b (fun e => ?_)
  have:=(htc b).2 e
  rw [show decide (h.next<=b/\b < h1.next)=false from hb] at this
  cases this
 ·have:=((htc b).1 hb).1
  have hlt:b < h.next:=hlt
  omega
 ·show h1.get b=if decide (h.next<=b/\b < h1.next)=true then h1.get b else h.get b
  by_cases hb:h.next<=b/\b < h1.next
  ·rw [if_pos ((htc b).2 hb)]
  ·rw [if_neg (fun e=>hb ((htc b).1 e)),hold b hb]
 ·by_cases hc:h.next<=b/\b < h1.next
  ·exact hc.2
  ·rw [hold b hc] at hb
   exact aai (F.wf b o' hb) hn
theorem aK (F:vz P ops s0 h0 A i s h) (ho:ops[i]? = some o) (hput:∀ d,o.dst=some d->d < s.size) (hk:xB q o=3) {h1:za} (af:AF h h1)
  {u:Value} (hs:kO P ops s o h u h1) (bound:Nat):∃ y,Next P q ops s0 h0 A i o s h u h1 bound y:=by
 have hrd:∀ n b,(Nat.blt b n=true) ↔ b < n:=fun n b=>by rw [aaR]
 have hn:h.next<=h1.next:=af.next
 have hwf:WF h1:=F.wf.af af
 refine ⟨⟨i,o,u,s,h,h1,fun b=>Nat.blt b h.next,fun b=>Nat.blt b h1.next⟩,rfl,rfl,rfl,rfl,rfl,
  ⟨ho,F.env,F.size,fun b => ?_,F.ro,F.next,F.nA,hn,hs,fun d hd=>by rw [<- F.size];exact hput d hd,fun b hb => ?_,fun b hb => ?_,fun b o' hb hlt hg => ?_⟩,
  ⟨fun b hb=>(hrd _ b).1 hb,fun h=>by simp only at h;omega,fun h=>by simp only at h;omega,fun h=>by simp only at h;omega⟩,fun h=>by omega,fun b => ?_,af.ro,hn,aah _,hwf⟩
 ·show h.get b=if Nat.blt b h.next=true then ZN A h0 b else none
  by_cases hb:b < h.next
  ·rw [if_pos ((hrd _ b).2 hb),F.heap]
  ·rw [if_neg (fun e=>hb ((hrd _ b).1 e)),ZD F.wf hb]
 ·have hb:=(hrd _ b).1 hb
  by_cases hlt:b < h.next
  ·exact .inl ((hrd _ b).2 hlt)
  ·exact .inr ⟨ack hlt,hb⟩
 ·have hb':¬ b < h1.next:=fun e=>by
   have:=(hrd h1.next b).2 e
   rw [show Nat.blt b h1.next=false from hb] at this
   cases this
  show h1.get b=h.get b
  rw [ZD hwf hb',ZD F.wf (by omega)]
 ·rcases af.alive b o' hg with h2 | ⟨h2,_⟩
  ·exact h2
  ·have hlt:b < h.next:=hlt
   omega
 ·show h1.get b=if Nat.blt b h1.next=true then h1.get b else h.get b
  by_cases hb:b < h1.next
  ·rw [if_pos ((hrd _ b).2 hb)]
  ·rw [if_neg (fun e=>hb ((hrd _ b).1 e)),ZD hwf hb,ZD F.wf (by omega)]
theorem Vr {h h1:za} (st:Still h h1):h.next<=h1.next/\h1.ro=h.ro /\ ∀ b,¬ (h.next<=b/\b < h1.next)->h1.get b=h.get b:=by
 rcases st with rfl | ⟨ob,rfl⟩
 ·exact ⟨aah _,rfl,fun _ _=>rfl⟩
 ·refine ⟨abn _,rfl,fun b hb => ?_⟩
  rw [za.wm,if_neg (fun e=>hb ⟨by omega,by rw [za.Jc];omega⟩)]
theorem aP {m:Nat} {al:List (Nat × Nat)} {h:za} (w:WF h) (hal:∀ x,x ∈ al->x.2<=h.next):∃ bound,bound<=h.next/\(view m al h).next=h.next/\(view m al h).ro=h.ro/\(∀ b,(view m al h).get b=if b < bound then h.get b else none) /\ ∀ n,firstFree m al=some n->bound=n:=by
 have mem:∀ (al:List (Nat × Nat)) n,firstFree m al=some n->∃ p,(p,n) ∈ al:=by
  intro al
  induction al with
  | nil=>intro n e;cases e
  | cons x l ih=>
    intro n e
    obtain ⟨p,n'⟩:=x
    simp only [firstFree] at e
    cases hb:m.testBit p with
    | true=>rw [hb] at e;obtain ⟨p',hp⟩:=ih n e;exact ⟨p',by simp [hp]⟩
    | false=>rw [hb] at e;cases e;exact ⟨p,by simp⟩
 unfold view
 cases hf:firstFree m al with
 | none=>exact ⟨h.next,aah _,rfl,rfl,fun b=>by
   by_cases hb:b < h.next
   ·rw [if_pos hb]
   ·rw [if_neg hb,ZD w hb],fun n e=>by cases e⟩
 | some n=>
   obtain ⟨p,hp⟩:=mem al n hf
   have hn:n<=h.next:=hal _ hp
   refine ⟨n,hn,rfl,rfl,fun b => ?_,fun n' e=>by cases e;rfl⟩
   simp only [LQ]
   by_cases hb:b < n
   ·rw [if_neg (by omega),if_pos hb]
   ·by_cases hb2:b < h.next
    ·rw [if_pos ⟨by omega,hb2⟩,if_neg hb]
    ·rw [if_neg (by omega),if_neg hb,ZD w hb2]
theorem Next.af {u:Value} {h1:za} {bound:Nat} {y:yx} (N:Next P q ops s0 h0 A i o s h u h1 bound y) (F:vz P ops s0 h0 A i s h):AF h h1 :=
 ⟨N.next,N.ro,fun b o hb=>by
  rw [N.heap] at hb
  by_cases ht:y.tc b=true
  ·rw [if_pos ht] at hb
   by_cases hl:b < y.g.next
   ·have h2:=N.told.SU b o ht hl hb
    have h3:=N.told.heap b
    rw [h3] at h2
    by_cases hr:y.rd b=true
    ·rw [if_pos hr,<- F.heap] at h2;exact .inl h2
    ·rw [if_neg hr] at h2;exact absurd rfl h2
   ·have hb1:h1.get b=some o:=by rw [N.heap,if_pos ht];exact hb
    exact .inr ⟨by rw [<- N.gn];omega,N.wf b o hb1⟩
  ·rw [if_neg ht] at hb
   exact .inl (by rw [hb];simp)⟩
theorem Ch (F:vz P ops s0 h0 A i s h) (hron:h.ro<=h.next) (ho:ops[i]? = some o) (hput:∀ d,o.dst=some d->d < s.size) (hw:yh ops s o=true) {r:Env} (hl:Le r s) {m:Nat} {al:List (Nat × Nat)} (hal:∀ x,x ∈ al->x.2<=h.next)
  {K:Value->za->Prop} (hk:Rf P q r o (view m al h) h K):∃ v u h1 y bound,(zP v=true\/v=u)/\K v h1/\Next P q ops s0 h0 A i o s h u h1 bound y /\ ∀ n,firstFree m al=some n->bound=n:=by
 obtain ⟨bound,hb1,hb2,hb3,hb4,hb5⟩:=aP (m:=m) F.wf hal
 unfold Rf at hk
 split at hk
 ·rename_i g args ts yF
  have ef:qP s (.func g)=some (.func (.func g) #[] #[]):=rfl
  have hkind:xB q o=cV (q g):=by unfold xB;simp only [yF]
  split at hk
  ·rename_i hq
   obtain ⟨hc,hn,v,hsc,hT,hK⟩:=hk
   have hT2:TC P g (dC r args.toList) (view m al h) (fun v1 h1=>v1=v/\h1=view m al h) :=
    (hT.quiet (fun v1 _ e=>by rw [e];exact hsc)).mono (by rintro v1 h1 ⟨⟨_,e1⟩,e2⟩;exact ⟨e1,e2⟩)
   obtain ⟨y,hy⟩:=rS (q:=q) F ho hput (by rw [hkind,hq];rfl) hb1 hb2 hb3 hb4 (u:=v) (.inr ⟨hw,.inr (.inl ⟨.func g,args,ts,g,#[],#[],_,yF,ef,Qv hl hn,hc,by simpa using hT2⟩)⟩)
   exact ⟨v,v,h,y,bound,.inr rfl,hK,hy,hb5⟩
  ·rename_i hq
   obtain ⟨hc,hn,v,h2,hT,af,hK⟩:=hk
   have hnx:h.next<=h2.next:=af.next
   obtain ⟨y,hy⟩:=aJ (q:=q) F ho hput (by rw [hkind,hq];rfl) (h1:=wY h h2) hnx rfl (fun b hb=>by rw [vx];exact if_neg hb) (u:=v)
    (.inr ⟨hw,.inr (.inl ⟨.func g,args,ts,g,#[],#[],_,yF,ef,Qv hl hn,hc,by simpa using hT.fresh⟩)⟩) bound
   exact ⟨v,v,_,y,bound,.inr rfl,hK,hy,hb5⟩
  ·rename_i hq
   obtain ⟨hn,hk⟩:=hk
   obtain ⟨v,h2,he,hK⟩:=jH hk
   obtain ⟨f1,f2,f3⟩:=Vr (Yt he)
   obtain ⟨y,hy⟩:=aJ (q:=q) F ho hput (by rw [hkind,hq];rfl) f1 f2 f3 (u:=v) (.inr ⟨hw,.inr (.inr ⟨.func g,args,ts,g,#[],#[],_,yF,ef,Qv hl hn,by simpa using he⟩)⟩) bound
   exact ⟨v,v,_,y,bound,.inr rfl,hK,hy,hb5⟩
  ·rename_i n2 n3 n4
   obtain ⟨hc,hn,hd⟩:=hk
   obtain ⟨v,h2,hK,af,hT⟩:=hd ⟨F.wf,hron⟩
   obtain ⟨y,hy⟩:=aK (q:=q) F ho hput (by rw [hkind];unfold cV;split <;> first | rfl | (exfalso;simp_all)) af (u:=v)
    (.inr ⟨hw,.inr (.inl ⟨.func g,args,ts,g,#[],#[],_,yF,ef,Qv hl hn,hc,by simpa using hT⟩)⟩) bound
   exact ⟨v,v,_,y,bound,.inr rfl,hK,hy,hb5⟩
 ·rename_i f args ts hnf yF
  unfold eQ at hk
  split at hk
  ·rename_i g a c hf
   have ef:qP s f=some (.func (.func g) a c):=by rw [Zh hl (x:=f) (by rw [hf];rfl),hf]
   obtain ⟨hn0,hc,hn,hd⟩:=hk
   obtain ⟨v,h2,hK,af,hT⟩:=hd ⟨F.wf,hron⟩
   have hkind:xB q o=3:=by
    unfold xB
    simp only [yF]
   obtain ⟨y,hy⟩:=aK (q:=q) F ho hput hkind af (u:=v) (.inr ⟨hw,.inr (.inl ⟨f,args,ts,g,a,c,_,yF,ef,Qv hl hn0,hc,hT⟩)⟩) bound
   exact ⟨v,v,_,y,bound,.inr rfl,hK,hy,hb5⟩
  ·exact hk.elim
 ·rename_i hn1 hn2
  cases h1:Nat.beq (xB q o) 1 with
  | true=>
    rw [h1] at hk
    have h1:=aam h1
    obtain ⟨v,u,h',he,hv,hK⟩:=kC hl hk
    obtain rfl:=Ky h1 (Wa he) he
    obtain ⟨y,hy⟩:=rS (q:=q) F ho hput h1 hb1 hb2 hb3 hb4 (u:=u) (.inr ⟨hw,.inl he⟩)
    exact ⟨v,u,h,y,bound,hv,hK,hy,hb5⟩
  | false=>
    rw [h1] at hk
    obtain ⟨v,u,h',he,hv,hK⟩:=kC hl hk
    have hnc:=Wa he
    have hkle:xB q o=0\/xB q o=1\/xB q o=2\/xB q o=3:=by
     unfold xB
     split <;> (try simp)
     ·unfold cV;split <;> simp
     ·rename_i b _ _ _;cases Xo b <;> simp
    rcases hkle with h0' | h1' | h2' | h3'
    ·obtain ⟨rfl,hany⟩:=m7 h0' hnc he
     obtain ⟨y,hy⟩:=fe (q:=q) F ho hput (u:=u) (.inr ⟨hw,.inl (hany _)⟩) bound
     exact ⟨v,u,h',y,bound,hv,hK,hy,hb5⟩
    ·rw [h1'] at h1;cases h1
    ·obtain ⟨f1,f2,f3⟩:=Vr (gF h2' hnc he)
     obtain ⟨y,hy⟩:=aJ (q:=q) F ho hput h2' f1 f2 f3 (u:=u) (.inr ⟨hw,.inl he⟩) bound
     exact ⟨v,u,h',y,bound,hv,hK,hy,hb5⟩
    ·obtain ⟨y,hy⟩:=aK (q:=q) F ho hput h3' (Zz he).1 (u:=u) (.inr ⟨hw,.inl he⟩) bound
     exact ⟨v,u,h',y,bound,hv,hK,hy,hb5⟩
end
def V6 (q:FuncId->Nat):List yx->List (Nat × Nat)
 | []=>[]
 | x :: l=>cond (Nat.beq (xB q x.o) 2) ((x.j,x.g.next) :: V6 q l) (V6 q l)
theorem GH (q:FuncId->Nat) (A:List yx) (y:yx):V6 q (A ++ [y])=cond (Nat.beq (xB q y.o) 2) (V6 q A ++ [(y.j,y.g.next)]) (V6 q A):=by
 induction A with
 | nil=>simp only [abA,V6]
 | cons x A ih=>
   simp only [abM,V6,ih]
   cases Nat.beq (xB q x.o) 2 <;> cases Nat.beq (xB q y.o) 2 <;> rfl
theorem L8 {q:FuncId->Nat} {A:List yx} {z:Nat × Nat} (h:z ∈ V6 q A):∃ x,x ∈ A/\z=(x.j,x.g.next):=by
 induction A with
 | nil=>cases h
 | cons x A ih=>
   simp only [V6] at h
   cases hb:Nat.beq (xB q x.o) 2 with
   | true=>
     rw [hb] at h
     rcases abf.1 h with e | h
     ·exact ⟨x,by simp,e⟩
     ·obtain ⟨x',h1,h2⟩:=ih h;exact ⟨x',by simp [h1],h2⟩
   | false=>rw [hb] at h;obtain ⟨x',h1,h2⟩:=ih h;exact ⟨x',by simp [h1],h2⟩
theorem Oq {q:FuncId->Nat} {m:Nat}:∀ {A:List yx},(∀ A1 x A2 y A3,A=A1 ++ x :: (A2 ++ y :: A3)->x.g.next<=y.g.next)->∀ x,x ∈ A->xB q x.o=2->m.testBit x.j=false->∃ n,firstFree m (V6 q A)=some n/\n<=x.g.next
 | [],_,x,hx,_,_=>by cases hx
 | z :: A,hm,x,hx,hk,hb=>by
   have rest:x ∈ A->∃ n,firstFree m (V6 q A)=some n/\n<=x.g.next:=fun hx=>Oq (fun A1 x A2 y A3 e=>hm (z :: A1) x A2 y A3 (by rw [e];rfl)) x hx hk hb
   simp only [V6]
   cases hz:Nat.beq (xB q z.o) 2 with
   | false=>
     simp only [cond_false]
     rcases abf.1 hx with rfl | hx
     ·rw [hk] at hz;cases hz
     ·exact rest hx
   | true=>
     simp only [cond_true,firstFree]
     cases hbz:m.testBit z.j with
     | true=>
       simp only [cond_true]
       rcases abf.1 hx with rfl | hx
       ·rw [hb] at hbz;cases hbz
       ·exact rest hx
     | false=>
       simp only [cond_false]
       refine ⟨_,rfl,?_⟩
       rcases abf.1 hx with rfl | hx
       ·exact aah _
       ·obtain ⟨A1,A2,e⟩:=aaM hx
        exact hm [] z A1 x A2 (by rw [e];rfl)
theorem Ha {q:FuncId->Nat} {ops:Array Oper} {x y:yx} (hx:RP q x) (hy:RP q y) (hs:jI ops x.o y.o=true) (hp:D7 (xB q x.o) (xB q y.o)=true) (hn:x.g.next<=y.g.next)
  (hb:xB q x.o=2->xB q y.o=1->∀ b,y.rd b=true->b < x.g.next):iK ops x y:=by
 simp only [jI,aac] at hs
 obtain ⟨h1,h2⟩:=hs
 have d1:∀ d,x.o.dst=some d->d ∉ y.o.looksAt ops/\y.o.dst ≠ some d:=by
  intro d hd
  rw [hd] at h1
  simp only [aac,aat,decide_eq_false_iff_not,aaE] at h1
  exact ⟨h1.1,h1.2⟩
 have d2:∀ d,y.o.dst=some d->d ∉ x.o.looksAt ops:=by
  intro d hd
  rw [hd] at h2
  simp only [aat,decide_eq_false_iff_not,aaE] at h2
  exact h2
 have ff:∀ {b:Bool},b ≠ true->b=false:=fun h=>by simpa using h
 simp only [D7,aaV,aac] at hp
 rcases hp with ((h | h) | ⟨h,h'⟩) | ⟨h,h'⟩
 ·have h:=aam h
  have t:=hx.k1 (by omega)
  have r:=hx.k0 h
  exact ⟨d1,d2,fun b hb=>(by rw [t b] at hb;cases hb),fun b _=>r b⟩
 ·have h:=aam h
  have t:=hy.k1 (by omega)
  have r:=hy.k0 h
  exact ⟨d1,d2,fun b _=>⟨r b,t b⟩,fun b hb=>by rw [t b] at hb;cases hb⟩
 ·have h:=aam h
  have h':=aaA h'
  have t:=hx.k1 (by omega)
  refine ⟨d1,d2,fun b hb=>(by rw [t b] at hb;cases hb),fun b hb=>ff (fun hr => ?_)⟩
  have l1:=hx.rd b hr
  by_cases h2:xB q y.o=2
  ·have:=hy.k2 h2 b hb;omega
  ·rw [hy.k1 (by omega) b] at hb;cases hb
 ·have h:=aam h
  have h':=aam h'
  have t:=hy.k1 (by omega)
  refine ⟨d1,d2,fun b hb'=>⟨ff (fun hr => ?_),t b⟩,fun b hb=>by rw [t b] at hb;cases hb⟩
  have l1:=hx.k2 h b hb'
  have l2:=hb h h' b hr
  omega
theorem Ee {ops:Array Oper} {s0:Env} {h0:za} {A:List yx} {i:Nat} {s:Env} {h:za} (F:vz P ops s0 h0 A i s h):∀ A1 x A2 y A3,A=A1 ++ x :: (A2 ++ y :: A3)->x.g.next<=y.g.next:=by
 intro A1 x A2 y A3 e
 have t1:=F.told A1 x _ e
 have t2:=F.told (A1 ++ x :: A2) y A3 (by rw [e];simp)
 have:=t2.nA x (by simp)
 have:=t1.n1
 omega
theorem MV {q:FuncId->Nat} {ops:Array Oper} {s0:Env} {h0:za} (hro0:h0.ro<=h0.next):∀ (l:List Oper) (i:Nat) (ms:List Nat) (A:List yx) (r s:Env) (h:za) {K:Env->za->Prop},
  ops.toList.drop i=l->i<=ops.size->JC ops ms->ms.length=i->vz P ops s0 h0 A i s h->(∀ x,x ∈ A->RP q x)->ZU ops l i ms (A.reverse.map fun x=>(x.j,x.o))=true->tF q l i ms (A.reverse.map fun x=>(x.j,xB q x.o))=true ->
  Le r s->M0 P q ops l i ms (V6 q A) r h K->∃ A' r' s' h',vz P ops s0 h0 A' ops.size s' h'/\Le r' s'/\K r' h'/\Fr (Vo l) s s'/\AF h h'
 | [],i,ms,A,r,s,h,K,hl,hle,hm,hml,F,hrp,hst,hkd,hle1,hk=>by
   have:i=ops.size:=by
    have:=congrArg List.length hl
    simp at this
    omega
   subst this
   exact ⟨A,r,s,h,F,hle1,hk,.refl _ _,.refl _⟩
 | o :: os,i,ms,A,r,s,h,K,hl,hle,hm,hml,F,hrp,hst,hkd,hle1,hk=>by
   have ho:ops[i]? = some o:=by
    have:=congrArg (fun l=>l[0]?) hl
    simp only [aaN,aaf] at this
    simpa using this
   have hlt:i < ops.size:=by
    rcases aar i ops.size with h | h
    ·exact h
    ·rw [aaF h] at ho;cases ho
   have hl':ops.toList.drop (i + 1)=os:=by rw [<- acx,hl];rfl
   simp only [ZU,aac] at hst
   obtain ⟨⟨hedge,hslots⟩,hst⟩:=hst
   simp only [tF,aac] at hkd
   obtain ⟨hpair,hkd⟩:=hkd
   have hal:∀ x,x ∈ V6 q A->x.2<=h.next:=fun x hx=>by
    obtain ⟨z,hz,rfl⟩:=L8 hx
    have:=F.nA z hz
    obtain ⟨A1,A2,e⟩:=aaM hz
    have:=(F.told A1 z A2 e).n1
    show z.g.next<=h.next
    omega
   have go:∀ (v u:Value) (h1:za) (y:yx) (bound:Nat),(zP v=true\/v=u)->Next P q ops s0 h0 A i o s h u h1 bound y->(∀ n,firstFree (yH ms o) (V6 q A)=some n->bound=n) ->
     (match r.put o.dst v with | some s1=>M0 P q ops os (i + 1) (ms ++ [yH ms o]) (cond (Nat.beq (xB q o) 2) (V6 q A ++ [(i,h.next)]) (V6 q A)) s1 h1 K | none=>False) ->
     ∃ A' r' s' h',vz P ops s0 h0 A' ops.size s' h'/\Le r' s'/\K r' h'/\Fr (Vo (o :: os)) s s'/\AF h h':=by
    intro v u h1 y bound hv N hbound hk
    split at hk
    case h_2=>exact hk.elim
    rename_i r1 hp
    obtain ⟨s1,hp1,hl1⟩:=hle1.put hp hv
    have hs1:∀ t,s1.get t=if o.dst=some t then u else s.get t:=by
     intro t
     cases hd:o.dst with
     | none=>rw [hd] at hp1;simp only [Env.put,aaa] at hp1;subst hp1;simp
     | some d=>
       rw [hd] at hp1
       simp only [Env.put] at hp1
       obtain ⟨_,hp1⟩:=zv hp1
       simp only [aaa] at hp1
       subst hp1
       rw [Env.yb]
       by_cases e:t=d
       ·subst e;simp
       ·rw [if_neg e,if_neg (by simp only [aaa];exact fun h=>e h.symm)]
    have hs1s:s1.size=s.size:=(Fr.put hp1).size
    have hal2:(cond (Nat.beq (xB q o) 2) (V6 q A ++ [(i,h.next)]) (V6 q A))=V6 q (A ++ [y]):=by rw [GH,N.yF,N.hj,N.gn]
    rw [hal2] at hk
    have F1:vz P ops s0 h0 (A ++ [y]) (i + 1) s1 h1:=by
     refine ⟨?_,?_,hs1s.trans F.size,?_,N.ro.trans F.ro,aaH F.next N.next,?_,N.wf,?_,?_,?_⟩
     ·rw [aaU,F.js,acr];simp [N.hj]
     ·intro t
      rw [hs1,Ja,N.yF,N.LU,F.env]
     ·intro b
      rw [N.heap,cU,F.heap]
     ·intro x hx
      rcases aaP.1 hx with hx | hx
      ·exact aaH (F.nA x hx) N.next
      ·simp only [aaS] at hx;subst hx;exact N.LR
     ·intro A1 r A2 e
      rcases vy e with ⟨_,rfl,rfl⟩ | ⟨A3,_,e3⟩
      ·exact N.told
      ·exact F.told A1 r A3 e3
     ·intro A1 r A2 e ed hed hb
      rcases vy e with ⟨_,rfl,rfl⟩ | ⟨A3,_,e3⟩
      ·rw [N.yF] at hed
       simp only [aas,aaV,aat,aaR] at hedge
       rcases hedge ed (by simpa using hed) with h2 | h2
       ·rw [hb] at h2;cases h2
       ·have:ed.on ∈ A1.map (·.j):=by rw [F.js];exact aa7.2 h2
        obtain ⟨x,hx,hxj⟩:=aba.1 this
        exact ⟨x,hx,hxj⟩
      ·exact F.Ub A1 r A3 e3 ed hed hb
     ·intro A1 x A2 z A3 e
      have e':A ++ [y]=(A1 ++ x :: A2) ++ z :: A3:=by rw [e];simp
      rcases vy e' with ⟨_,e1,rfl⟩ | ⟨A4,_,e3⟩
      ·have hxm:x ∈ A:=by rw [<- e1];simp
       simp only [aas,aaV] at hpair hslots
       rcases hslots (x.j,x.o) (aba.2 ⟨x,by simpa using hxm,rfl⟩) with h2 | h2
       ·rw [N.hj];exact .inl (uY hm ho h2)
       ·rcases hpair (x.j,xB q x.o) (aba.2 ⟨x,by simpa using hxm,rfl⟩) with h3 | h3
        ·rw [N.hj];exact .inl (uY hm ho h3)
        ·by_cases hbit:(yH ms o).testBit x.j=true
         ·rw [N.hj];exact .inl (uY hm ho hbit)
         ·simp only [acm] at hbit
          refine .inr (Ha (q:=q) (hrp x hxm) N.rp (by rw [N.yF];exact h2) (by rw [N.yF];exact h3) ?_ ?_)
          ·have:=F.nA x hxm
           obtain ⟨B1,B2,eB⟩:=aaM hxm
           have:=(F.told B1 x B2 eB).n1
           rw [N.gn];omega
          ·intro k2 k1 b hrd
           obtain ⟨n,hn,hle2⟩:=Oq (m:=yH ms o) (Ee F) x hxm k2 hbit
           have:=N.rb (by rw [<- N.yF];exact k1) b hrd
           have:=hbound n hn
           omega
      ·exact F.apart A1 x A2 z A4 (by rw [e3];simp)
    obtain ⟨A',r',s',h',F',l',k',f',a'⟩:=MV hro0 os (i + 1) (ms ++ [yH ms o]) (A ++ [y]) r1 s1 h1 hl' hlt (Vn hm hml ho) (by simp [hml]) F1
     (fun x hx=>by rcases aaP.1 hx with hx | hx
                   ·exact hrp x hx
                   ·simp only [aaS] at hx;subst hx;exact N.rp)
     (by simpa [N.hj,N.yF] using hst) (by simpa [N.hj,N.yF] using hkd) hl1 hk
    exact ⟨A',r',s',h',F',l',k',(Fr.put hp1).left.trans f'.right,(N.af F).trans a'⟩
   have slot:∀ {v:Value} {h1:za} {al':List (Nat × Nat)},(match r.put o.dst v with | some s1=>M0 P q ops os (i + 1) (ms ++ [yH ms o]) al' s1 h1 K | none=>False)->∀ d,o.dst=some d->d < s.size:=by
    intro v h1 al' hk d hd
    split at hk
    case h_2=>exact hk.elim
    rename_i r1 hp
    rw [hd] at hp
    simp only [Env.put] at hp
    obtain ⟨hb,_⟩:=zv hp
    rw [<- hle1.size]
    simpa [aaR] using hb
   have hron:h.ro<=h.next:=by rw [F.ro];exact aaH hro0 F.next
   have dstok:∀ {hv:za} {K':Value->za->Prop},Rf P q r o hv h K'->(∀ v h1,K' v h1->∀ d,o.dst=some d->d < s.size)->∀ d,o.dst=some d->d < s.size:=by
    intro hv K' hk hs
    have fromA:∀ {g:za} {K2:Value->za->Prop},Mi P r o g K2->(∀ v h1,K2 v h1->∀ d,o.dst=some d->d < s.size)->∀ d,o.dst=some d->d < s.size:=fun hk hs=>by
     obtain ⟨v,u,h',_,_,hK⟩:=kC hle1 hk
     exact hs v h' hK
    unfold Rf at hk
    split at hk
    ·split at hk
     ·obtain ⟨_,_,v,_,_,hK⟩:=hk;exact hs _ _ hK
     ·obtain ⟨_,_,v,h2,_,_,hK⟩:=hk;exact hs _ _ hK
     ·obtain ⟨_,hk⟩:=hk;obtain ⟨v,h2,_,hK⟩:=jH hk;exact hs _ _ hK
     ·obtain ⟨_,_,hd⟩:=hk;obtain ⟨v,h2,hK,_⟩:=hd ⟨F.wf,hron⟩;exact hs _ _ hK
    ·unfold eQ at hk
     split at hk
     ·obtain ⟨_,_,_,hd⟩:=hk;obtain ⟨v,h2,hK,_⟩:=hd ⟨F.wf,hron⟩;exact hs _ _ hK
     ·exact hk.elim
    ·cases h1:Nat.beq (xB q o) 1 with
     | true=>rw [h1] at hk;exact fromA hk (fun v _ q=>hs v _ q)
     | false=>rw [h1] at hk;exact fromA hk hs
   simp only [M0] at hk
   split at hk
   ·rename_i hg
    obtain ⟨v,u,h1,y,bound,hv,hK,N,hb⟩:=Ch F hron ho (dstok hk (fun v h1 hK=>slot hK)) (by simp only [yh,hg]) hle1 hal hk
    exact go v u h1 y bound hv N hb hK
   ·rename_i j want hg
    split at hk
    ·exact hk.elim
    ·rename_i d hdst
     unfold GD at hk
     split at hk
     ·rename_i b hb
      have hs:s.get d = .bool b:=by
       rcases hle1.get d with e | e
       ·rw [hb] at e;cases e
       ·rw [<- e,hb]
      have haw:yh ops s o=(b == want):=by simp only [yh,hg,hdst,hs]
      by_cases hbw:b=want
      ·have hk:=hk.1 hbw
       obtain ⟨v,u,h1,y,bound,hv,hK,N,hb⟩:=Ch F hron ho (dstok hk (fun v h1 hK=>slot hK)) (by rw [haw,hbw];simp) hle1 hal hk
       exact go v u h1 y bound hv N hb hK
      ·have hk:=hk.2 hbw
       obtain ⟨bound,_,_,_,_,hb5⟩:=aP (m:=yH ms o) F.wf hal
       obtain ⟨y,N⟩:=fe (q:=q) F ho (slot hk) (u:=undef) (.inl ⟨by rw [haw];simpa using hbw,rfl,rfl⟩) bound
       exact go undef undef h y bound (.inr rfl) N hb5 hk
     ·exact hk.elim
     ·rename_i n1 n2
      have hs:s.get d=r.get d:=by
       rcases hle1.get d with e | e
       ·obtain ⟨k,p,q,e2⟩:=Y9 e;exact absurd e2 (n2 k p q)
       ·exact e.symm
      have haw:yh ops s o=false:=by
       simp only [yh,hg,hdst,hs]
      obtain ⟨bound,_,_,_,_,hb5⟩:=aP (m:=yH ms o) F.wf hal
      obtain ⟨y,N⟩:=fe (q:=q) F ho (slot hk) (u:=undef) (.inl ⟨haw,rfl,rfl⟩) bound
      exact go undef undef h y bound (.inr rfl) N hb5 hk
theorem Kh {q:FuncId->Nat} (hmix:P.follows .mixedOrders=true):Vs P (cK P q):=by
 intro ops r s h K rd id hle wf hk
 unfold cK at hk
 cases hc:calm q ops with
 | false=>rw [hc] at hk;exact hk.elim
 | true=>
   rw [hc] at hk
   have hk:M0 P q ops ops.toList 0 [] [] r h K:=hk
   simp only [calm,aac] at hc
   have F0:vz P ops s h ([]:List yx) 0 s h:=⟨rfl,fun t=>rfl,rfl,fun b=>rfl,rfl,aah _,fun x hx=>(by cases hx),wf.1,
    fun A1 r A2 e=>by simp at e,fun A1 r A2 e=>by simp at e,fun A1 x A2 y A3 e=>by simp at e⟩
   obtain ⟨A,r',s',h',F,hl',hK,hf,af⟩:=MV wf.2 ops.toList 0 [] [] r s h rfl (aa0 _) (fun k q hq=>by simp at hq) rfl F0 (fun x hx=>(by cases hx)) hc.1 hc.2 hle hk
   have V:Valid P ops s h A:=⟨by rw [F.js];exact List.nodup_range,fun i hi=>by
     have:i ∈ A.map (·.j):=by rw [F.js];exact aa7.2 hi
     obtain ⟨r,hr,hj⟩:=aba.1 this
     exact ⟨r,hr,hj⟩,F.told,F.Ub,F.apart⟩
   exact ⟨r',s',h',hl',hK,hf,af,Us hmix V F.env F.size F.heap F.ro F.next F.nA (Q:=fun e s1 h1=>e = .normal/\s1=s'/\h1=h') ⟨rfl,rfl,rfl⟩⟩
theorem zL {q:FuncId->Nat} (hmix:P.follows .mixedOrders=true) {n:Nat} {f:FuncId} {args:List Value} {h:za} {R:Value->za->Prop} (hk:Ro P (cK P q) n f args h R):DC P f args h R:=KE (Kh hmix) hk
theorem DC.mono {f:FuncId} {args:List Value} {h:za} {R R':Value->za->Prop} (d:DC P f args h R) (m:∀ v h1,R v h1->R' v h1):DC P f args h R':=fun wf=>by
 obtain ⟨v,h1,a,b,c⟩:=d wf
 exact ⟨v,h1,m v h1 a,b,c⟩
theorem jO {f:FuncId} {args:List Value} {h:za} {R:Value->za->Prop} (ht:VJ h->DC P f args h R):DC P f args h R:=fun wf=>ht wf wf
theorem DC.tc {f:FuncId} {args:List Value} {h:za} {R:Value->za->Prop} (d:DC P f args h R):TC P f args h R:=by
 intro ρ w cargs hr hv
 obtain ⟨v,h1,hR,_,t⟩:=d ⟨fun b o hb=>hr.Qs b o hb,hr.ro⟩
 exact (t.mono (by rintro v2 h2 ⟨rfl,rfl⟩;exact hR)) ρ w cargs hr hv
theorem VJ.lock {h:za} (w:VJ h):VJ h.lock:=⟨w.1,aah _⟩
end
noncomputable section
variable {P:Program}
theorem zB {α:Sort _} {a b:α} (h:a=b):a=b:=h
theorem wV {p:Prop} [Decidable p] (h:p):decide p=true:=decide_eq_true h
theorem wg {p:Prop} [Decidable p] (h:¬p):decide p=false:=decide_eq_false h
def zC (h:za) (b off:Nat):Option Value:=match h.get b with
 | some (.cells c _)=>c[off]?
 | _=>none
def zZ (h:za) (b off n:Nat):Option Value:=match h.get b with
 | some (.cells c _)=>if off + n<=c.length then some (.agg ((c.drop off).take n).toArray) else none
 | _=>none
def yU (h:za) (b off:Nat) (vs:List Value):Option za:=match h.get b with
 | some (.cells c t)=>if off + vs.length<=c.length/\h.ro<=b/\vs.all cellOk=true then some (h.set b (some (.cells (zf c off vs) t))) else none
 | _=>none
theorem ZI {α:Type} {b:Bool} {p:Prop} [Decidable p] {x y:α} (h:b=true ↔ p):cond b x y=if p then x else y:=by
 by_cases hp:p
 ·rw [if_pos hp,h.2 hp];rfl
 ·rw [if_neg hp,show b=false by simpa using fun e=>hp (h.1 e)];rfl
theorem yd {t:TypeId} (ha:yi P (isAgg t)=some false) (b off:Nat) (h:za):zd P t (.pointer (some ⟨b,off,none⟩)) h=zC h b off:=by
 unfold zd zC
 simp only [ha]
 cases h.get b with
 | none=>rfl
 | some o=>cases o <;> rfl
theorem vh {t:TypeId} {n:Nat} (ha:yi P (isAgg t)=some true) (hn:yi P (sizeOf t)=some n) (b off:Nat) (h:za):zd P t (.pointer (some ⟨b,off,none⟩)) h=zZ h b off n:=by
 unfold zd zZ
 simp only [ha,hn]
 cases h.get b with
 | none=>rfl
 | some o=>
   cases o <;> simp only []
   rw [ZI (p:=off + n<=_) (by rw [abY])]
theorem l7 {t:TypeId} {n:Nat} (hn:yi P (sizeOf t)=some n) (b off:Nat) (v:Value) (h:za) (hv:v.cells.size=n):zh P t (.pointer (some ⟨b,off,none⟩)) v h=yU h b off v.cells.toList:=by
 unfold zh yU
 simp only [hn]
 cases h.get b with
 | none=>rfl
 | some o=>
   cases o <;> simp only []
   refine ZI ?_
   simp only [aac,abY,acv,abt,hv,true_and,and_assoc]
theorem xI {t:TypeId} (hn:yi P (sizeOf t)=some 1) (b off:Nat) (v:Value) (h:za) (hv:v.cells = #[v]):zh P t (.pointer (some ⟨b,off,none⟩)) v h=yU h b off [v]:=by
 rw [l7 hn b off v h (by rw [hv];rfl),hv]
theorem vw {t:TypeId} {n:Nat} (hn:yi P (sizeOf t)=some n) (b off:Nat) (l:List Value) (h:za) (hv:l.length=n):zh P t (.pointer (some ⟨b,off,none⟩)) (.agg l.toArray) h=yU h b off l:=by
 rw [l7 hn b off _ h (by simpa [Value.cells] using hv)];rfl
theorem y4 {t e:TypeId} {n:Nat} (hu:yi P (underlying t)=some (.slice e)) (hn:yi P (sizeOf e)=some n) {b off len c:Nat} {k:IntKind} {i:Int} :
  zw P t (.slice (some ⟨b,off,none⟩) len c) (.int k i)=if 0<=i/\i < len then some (.pointer (some ⟨b,off + i.toNat * n,none⟩)) else none:=by
 unfold zw
 simp only [hu,hn]
 exact ZI (by simp)
theorem sV {t e:TypeId} {n len:Nat} (hu:yi P (underlying t)=some (.array len e)) (hn:yi P (sizeOf e)=some n) {b off:Nat} {k:IntKind} {i:Int} :
  zw P t (.pointer (some ⟨b,off,none⟩)) (.int k i)=if 0<=i/\i < len then some (.pointer (some ⟨b,off + i.toNat * n,none⟩)) else none:=by
 unfold zw
 simp only [hu,hn]
 exact ZI (by simp)
theorem gy {d m:Nat}:v9 none d m=some d:=zB rfl
theorem UW {k:IntKind} {i:Int} {d m:Nat}:v9 (some (.int k i)) d m=if 0<=i/\i<=m then some i.toNat else none:=ZI (by simp)
theorem Ce:Mh none=true:=zB rfl
theorem dp {v:Value} (h:zP v=false):Mh (some v)=true:=by simp only [Mh,h,aaO]
theorem GO {t e:TypeId} {n:Nat} (hu:yi P (underlying t)=some (.slice e)) (hn:yi P (sizeOf e)=some n) {b off len c:Nat} {lo hi:Option Value} {h:za} :
  MY P t (.slice (some ⟨b,off,none⟩) len c) lo hi h=(v9 hi len len).bind fun hh=>(v9 lo 0 hh).bind fun l=>some (.slice (some ⟨b,off + l * n,none⟩) (hh - l) (cond (wide P h b n) (J7 c l) 0)):=by
 simp only [MY,eL,hu,hn]
 cases v9 hi len len with
 | none=>rfl
 | some hh=>
   simp only [aaC]
   cases v9 lo 0 hh <;> rfl
theorem GN {t e:TypeId} {n k:Nat} (hu:yi P (underlying t)=some (.array k e)) (hn:yi P (sizeOf e)=some n) {b off:Nat} {lo hi:Option Value} {h:za} :
  MY P t (.pointer (some ⟨b,off,none⟩)) lo hi h=(v9 hi k k).bind fun hh=>(v9 lo 0 hh).bind fun l=>some (.slice (some ⟨b,off + (if k=l then 0 else l * n),none⟩) (hh - l) 0):=by
 simp only [MY,eL,hu,hn]
 cases v9 hi k k with
 | none=>rfl
 | some hh=>
   simp only [aaC]
   cases v9 lo 0 hh <;> rfl
theorem FQ {h:za} {b n:Nat} {cs:List Value} {t:TypeId} (hb:h.get b=some (.cells cs t)):wide P h b n=Nat.beq (P.cellsOf t) n:=by simp only [wide,hb]
def FO (P:Program) (t:TypeId):Option (Nat × Nat):=(yi P (typeInfo t)).map fun i=>(i.size,i.bytes)
theorem lX {t e:TypeId} {z:Value} {zs:List Value} {n bytes:Nat} (hu:yi P (underlying t)=some (.slice e)) (hs:FO P e=some (n,bytes)) (hz:yV P e=some z) (hzs:z.cells.toList=zs) (hn:0 < n) (hb:bytes<=65536) (hl:zs.length=n)
  {k k2:IntKind} {l c:Int} {h:za} (h0:0<=l) (h1:l<=c) (h2:c < 2 ^ 31):ZY P t (.int k l) (.int k2 c) h=some (.slice (some ⟨h.next,0,none⟩) l.toNat (c.toNat + 2),h.push (.cells (uJ zs (c.toNat * n)) e)):=by
 unfold FO at hs
 simp only [aao,aae] at hs
 obtain ⟨i,hi,rfl,rfl⟩:=hs
 unfold ZY
 simp only [hu,hi,hz]
 have w:∀ n:Int,0<=n->n < 2 ^ 31->IntKind.i64.wrap n=n:=fun n p q=>by simp only [IntKind.wrap,IntKind.bits,IntKind.signed];simp;omega
 have hm:(i.bytes:Int) * c<=2 ^ 48:=by
  have:(i.bytes:Int) * c<=65536 * c:=Int.mul_le_mul_of_nonneg_right (by omega) (by omega)
  omega
 have hz2:z.cells.size=i.size:=by rw [<- hl,<- hzs];simp
 rw [show (decide (IntKind.i64.wrap l=l) && decide (IntKind.i64.wrap c=c) && decide (0<=l) && decide (l<=c) && decide ((i.bytes:Int) * c<=2 ^ 48) && Nat.beq z.cells.size i.size && Nat.blt 0 i.size)=true by
  simp only [aac,decide_eq_true_eq,acv,aaR]
  exact ⟨⟨⟨⟨⟨⟨w l h0 (by omega),w c (by omega) h2⟩,h0⟩,h1⟩,hm⟩,hz2⟩,hn⟩]
 simp only [cond_true,hzs]
def Ze (h:za) (elem size bytes n:Nat) (new:List Value) (s:Value):Option (Value × za):=match s with
 | .slice none 0 0=>if n=0 then some (.slice none 0 0,h) else if n * bytes<=2 ^ 48 then some (.slice (some ⟨h.next,0,none⟩) n 1,h.push (.cells new elem)) else none
 | .slice (some ⟨b,off,none⟩) len c=>if n=0 then some (s,h) else (match h.get b with
   | some (.cells cs t)=>if c ≠ 0/\t=elem/\h.ro<=b/\off + len * size<=cs.length/\roomFor c (len + n) bytes=true/\off % size=0 then
     some (.slice (some ⟨h.next,0,none⟩) (len + n) (w8 c (len + n)),(h.set b none).push (.cells (((cs.drop off).take (len * size)) ++ new) elem)) else none
   | _=>none)
 | _=>none
theorem kA {sT xT e e2:TypeId} {size bytes:Nat} (h1:yi P (underlying sT)=some (.slice e)) (h2:yi P (underlying xT)=some (.slice e2)) (hs:FO P e=some (size,bytes)) (hz:(yV P e).map (fun z=>z.cells.size)=some size) (hb:0 < bytes)
  {r:TypeId} {v x:Value} {n:Nat} {new:List Value} {h:za} (hn:Zy x=some n) (hf:xA h n size x=some new) (hc:new.all cellOk=true) (hl:new.length=n * size) :
  zg P .append [sT,xT] r [v,x] h=Ze h e size bytes n new v:=by
 unfold FO at hs
 simp only [aao,aae] at hs hz
 obtain ⟨i,hi,rfl,rfl⟩:=hs
 obtain ⟨z,hz,hz2⟩:=hz
 simp only [zg,Vb,h1,h2,hn,hi,hz,hf]
 rw [show (!eX (TypeDesc.slice e2) && Nat.blt 0 i.bytes && Nat.beq z.cells.size i.size && new.all cellOk && Nat.beq new.length (n * i.size))=true by
  simp only [aac,acv,aaR]
  exact ⟨⟨⟨⟨rfl,hb⟩,hz2⟩,hc⟩,hl⟩]
 simp only [cond_true]
 unfold V3 Ze
 split
 ·exact (ZI (p:=n=0) (by simp)).trans (by
   by_cases h0:n=0
   ·rw [if_pos h0];exact (if_pos h0).symm
   ·rw [if_neg h0];exact (ZI (p:=n * i.bytes<=2 ^ 48) (by simp)).trans (if_neg h0).symm)
 ·rename_i b off len c
  refine (ZI (p:=n=0) (by simp)).trans ?_
  by_cases h0:n=0
  ·rw [if_pos h0];exact (if_pos h0).symm
  ·rw [if_neg h0]
   refine Eq.trans ?_ (if_neg h0).symm
   cases hg:h.get b with
   | none=>rfl
   | some o=>
     cases o with
     | cells cs t=>
       refine ZI ?_
       simp only [aac,aat,acv,abY,ne_eq,and_assoc]
       refine and_congr ?_ (Iff.rfl)
       rw [<- acm,acv]
     | _=>rfl
 ·rename_i q1 q2
  split
  ·exact (q1 rfl).elim
  ·exact (q2 _ _ _ _ rfl).elim
  ·rfl
section heaps
variable {h:za} {b c off n:Nat} {cs:List Value} {t:TypeId} {o:xE}
theorem tW (hb:h.get b=some (.cells cs t)) (off:Nat) (vs:List Value):yU h b off vs=if off + vs.length<=cs.length/\h.ro<=b/\vs.all cellOk=true then some (h.set b (some (.cells (zf cs off vs) t))) else none:=by simp only [yU,hb]
theorem zo:(h.push o).get h.next=some o:=by rw [za.wm,if_pos rfl]
theorem zD (hb:b=h.next):(h.push o).get b=some o:=by rw [za.wm,if_pos hb]
theorem zt (hb:b < h.next):(h.push o).get b=h.get b:=by rw [za.wm,if_neg (by omega)]
theorem zM {x:Option xE}:(h.set b x).get b=x:=by rw [za.yb,if_pos rfl]
theorem zE {x:Option xE} (hb:¬ c=b):(h.set b x).get c=h.get c:=by rw [za.yb,if_neg hb]
theorem Km (h:za) (b:Nat):h.lock.get b=h.get b:=zB rfl
theorem XJ (h:za):h.lock.next=h.next:=zB rfl
theorem FE (h:za):h.lock.ro=h.next:=zB rfl
theorem z9 (h:za) (o:xE):(h.push o).next=h.next + 1:=zB rfl
theorem ua (h:za) (b:Nat) (o:Option xE):(h.set b o).next=h.next:=zB rfl
theorem vN (h:za) (o:xE):(h.push o).ro=h.ro:=zB rfl
theorem Jf (h:za) (b:Nat) (o:Option xE):(h.set b o).ro=h.ro:=zB rfl
theorem eZ {a n k:Nat} (h:a < n):(a < n + k)=True:=by simp;omega
theorem iI {n:Nat}:(n < n + 1)=True:=by simp
end heaps
section numbers
variable {t:TypeId} {x y:Operand} {k k':IntKind} {a b:Int}
theorem w7 {v:Value} {op:BinOp} {p q:Value} (h:GC P op t x y p q=some v):ze P op t x y p q=some v:=by unfold ze;rw [h]
theorem vR:ze P .lss t x y (.int k a) (.int k b)=some (.bool (decide (a < b))):=w7 (by cases k <;> rfl)
theorem Oh:ze P .leq t x y (.int k a) (.int k b)=some (.bool (decide (a<=b))):=w7 (by cases k <;> rfl)
theorem Xr:ze P .gtr t x y (.int k a) (.int k b)=some (.bool (decide (b < a))):=w7 (by cases k <;> rfl)
theorem ri:ze P .geq t x y (.int k a) (.int k b)=some (.bool (decide (b<=a))):=w7 (by cases k <;> rfl)
theorem ZZ:ze P .eql t x y (.int k a) (.int k b)=some (.bool (decide (a=b))):=w7 (by cases k <;> rfl)
theorem jK:ze P .neq t x y (.int k a) (.int k b)=some (.bool (!decide (a=b))):=w7 (by cases k <;> rfl)
theorem jJ:ze P .add t x y (.int k a) (.int k b)=some (.int k (k.wrap (a + b))):=w7 (by cases k <;> rfl)
theorem Y7:ze P .sub t x y (.int k a) (.int k b)=some (.int k (k.wrap (a - b))):=w7 (by cases k <;> rfl)
theorem Vd:ze P .mul t x y (.int k a) (.int k b)=some (.int k (k.wrap (a * b))):=w7 (by cases k <;> rfl)
theorem gK (hb:¬ b=0):ze P .quo t x y (.int k a) (.int k b)=some (.int k (k.wrap (a.tdiv b))):=by
 refine w7 ?_
 have:yi P (Op.intDiv .quo k a b)=some (.int k (k.wrap (a.tdiv b))):=by unfold Op.intDiv;rw [if_neg hb];rfl
 cases k <;> (show fl (yi P (Op.intDiv .quo _ a b))=_;rw [this];rfl)
theorem Jv (hb:¬ b=0):ze P .rem t x y (.int k a) (.int k b)=some (.int k (a.tmod b)):=by
 refine w7 ?_
 have:yi P (Op.intDiv .rem k a b)=some (.int k (a.tmod b)):=by unfold Op.intDiv;rw [if_neg hb];rfl
 cases k <;> (show fl (yi P (Op.intDiv .rem _ a b))=_;rw [this];rfl)
theorem Og:ze P .and t x y (.int k a) (.int k b)=some (.int k (k.wrap (BitVec.ofInt k.bits a &&& BitVec.ofInt k.bits b).toNat)):=w7 (by cases k <;> rfl)
theorem GU:ze P .or t x y (.int k a) (.int k b)=some (.int k (k.wrap (BitVec.ofInt k.bits a ||| BitVec.ofInt k.bits b).toNat)):=w7 (by cases k <;> rfl)
theorem Oi:ze P .xor t x y (.int k a) (.int k b)=some (.int k (k.wrap (BitVec.ofInt k.bits a ^^^ BitVec.ofInt k.bits b).toNat)):=w7 (by cases k <;> rfl)
theorem Bq:ze P .andNot t x y (.int k a) (.int k b)=some (.int k (k.wrap (BitVec.ofInt k.bits a &&& ~~~BitVec.ofInt k.bits b).toNat)):=w7 (by cases k <;> rfl)
theorem rj (hb:0<=b):ze P .shl t x y (.int k a) (.int k' b)=some (.int k (k.wrap (a * 2 ^ (min b.toNat k.bits)))):=by
 refine w7 ?_
 have:yi P (Op.shift .shl k a k' b)=some (.int k (k.wrap (a * 2 ^ (min b.toNat k.bits)))):=by unfold Op.shift;rw [if_neg (by omega)];rfl
 show fl (yi P (Op.shift .shl k a k' b))=_
 rw [this];rfl
theorem Br (hb:0<=b):ze P .shr t x y (.int k a) (.int k' b)=some (.int k (a.fdiv (2 ^ (min b.toNat k.bits)))):=by
 refine w7 ?_
 have:yi P (Op.shift .shr k a k' b)=some (.int k (a.fdiv (2 ^ (min b.toNat k.bits)))):=by unfold Op.shift;rw [if_neg (by omega)];rfl
 show fl (yi P (Op.shift .shr k a k' b))=_
 rw [this];rfl
theorem nk {c:Bool}:Wz P .not (.bool c)=some (.bool (!c)):=zB rfl
theorem OE:Wz P .neg (.int k a)=some (.int k (k.wrap (0 - a))):=by cases k <;> rfl
end numbers
section nils
variable {t e:TypeId} {x y:Operand}
theorem Mc {p q:Value} {r:Bool} (hf:(flat p && flat q)=false) (h:isNil P t p q=some r):ze P .eql t x y p q=some (.bool r)/\ze P .neq t x y p q=some (.bool (!r)):=by
 constructor <;> refine w7 ?_ <;> unfold GC <;> rw [hf] <;> simp only [cond_false,OP,h,abz]
theorem Sw (hu:yi P (underlying t)=some (.pointer e)) (a:Addr):ze P .eql t x y (.pointer (some a)) (.pointer none)=some (.bool false):=(Mc (p := .pointer (some a)) (q := .pointer none) (r:=false) rfl (by simp only [isNil,hu])).1
theorem PL (hu:yi P (underlying t)=some (.slice e)) (a:Addr) (n c:Nat):ze P .eql t x y (.slice (some a) n c) (.slice none 0 0)=some (.bool false):=(Mc (p := .slice (some a) n c) (q := .slice none 0 0) (r:=false) rfl (by simp only [isNil,hu])).1
end nils
theorem Uo {α β:Type} (s:Sem α) (f:α->Sem β):yi P (s >>= f)=(yi P s).bind fun a=>yi P (f a):=by
 induction s with
 | pure a=>rfl
 | program k ih=>exact ih P
 | _=>rfl
theorem Up {α:Type} (a:α):yi P (Pure.pure a:Sem α)=some a:=rfl
def R5 (P:Program) (d:Nat) (xs ys:Array Value):List Field->Option Bool
 | []=>some true
 | f :: fs=>if f.name ≠ "_" then (match yi P (part f.type xs f.offset),yi P (part f.type ys f.offset) with
     | some a,some b=>(match yi P (Op.equalIn d f.type a b) with
       | some r=>cond r (R5 P d xs ys fs) (some false)
       | none=>none)
     | _,_=>none) else R5 P d xs ys fs
theorem dv {d:Nat} {t:TypeId} {xs ys:Array Value} {fs:Array Field} (hu:P.underlying t=some (.struct fs)) (hp:P.stoodInHeld t=false) :
  yi P (Op.equalIn (d + 1) t (.agg xs) (.agg ys))=R5 P d xs ys fs.toList:=by
 have h2:yi P program=some P:=rfl
 have h1:yi P (underlying t)=some (.struct fs):=by
  unfold underlying
  simp only [Uo,h2,aaC,hu]
  rfl
 simp only [Op.equalIn,Uo,h1,h2,aaC,hp,aa8,if_false]
 rw [<- Array.forIn_toList]
 generalize fs.toList=l
 clear hu h1
 induction l with
 | nil=>rfl
 | cons f l ih=>
   simp only [List.forIn_cons,R5,Uo] at ih ⊢
   by_cases hn:f.name ≠ "_"
   ·rw [if_pos hn,if_pos hn]
    simp only [Uo]
    cases yi P (part f.type xs f.offset) with
    | none=>rfl
    | some a=>
      cases yi P (part f.type ys f.offset) with
      | none=>rfl
      | some b=>
        simp only [aaC]
        cases yi P (Op.equalIn d f.type a b) with
        | none=>rfl
        | some r=>
          cases r
          ·simp only [aaC,aaO,if_true,Up]
           rfl
          ·simp only [aaC,aa4,aa8,if_false,Up]
           exact ih
   ·rw [if_neg hn,if_neg hn]
    simp only [Up,aaC]
    exact ih
theorem Xt {t:TypeId} {x y:Operand} {xs ys:Array Value} {fs:Array Field} {r:Bool} (hu:P.underlying t=some (.struct fs)) (hp:P.stoodInHeld t=false) (hg:P.eqGuardType P.depth t=false) (hx:flat (.agg xs)=true) (hy:flat (.agg ys)=true)
  (hr:R5 P 9999 xs ys fs.toList=some r):ze P .eql t x y (.agg xs) (.agg ys)=some (.bool r)/\ze P .neq t x y (.agg xs) (.agg ys)=some (.bool (!r)):=by
 have he:yi P (Op.equal t (.agg xs) (.agg ys))=some r:=(dv hu hp).trans hr
 have hgd:∀ op:BinOp,yi P (eqGuard op t x y (.agg xs) (.agg ys))=some ():=by
  intro op
  have h2:yi P program=some P:=rfl
  cases op <;> simp [eqGuard,Uo,h2,hg,Up]
 constructor <;> refine w7 ?_ <;> unfold GC <;> rw [hx,hy] <;> simp only [aaZ,cond_true,Uo,hgd,aaC,binOp,he,Up] <;> rfl
section
theorem zF {b}:zP (.bool b)=false:=zB rfl
theorem zQ {k n}:zP (.int k n)=false:=zB rfl
theorem mX {s}:zP (.string s)=false:=zB rfl
theorem yP {a}:zP (.pointer a)=false:=zB rfl
theorem ya {a n c}:zP (.slice a n c)=false:=zB rfl
theorem Fz {a}:zP (.map a)=false:=zB rfl
theorem Ca {f a c}:zP (.func f a c)=false:=zB rfl
theorem Cb:zP .nilFunc=false:=zB rfl
theorem rT {t v}:zP (.iface t v)=false:=zB rfl
theorem Cc:zP .nilIface=false:=zB rfl
theorem yc {a}:zP (.agg a)=false:=zB rfl
theorem rU {a}:zP (.tuple a)=false:=zB rfl
theorem BC {b}:cellOk (.bool b)=true:=zB rfl
theorem vS {k n}:cellOk (.int k n)=true:=zB rfl
theorem mf {s}:cellOk (.string s)=true:=zB rfl
theorem K9 {a}:cellOk (.pointer a)=true:=zB rfl
theorem V9 {a n c}:cellOk (.slice a n c)=true:=zB rfl
theorem Fc {a}:cellOk (.map a)=true:=zB rfl
theorem BD {f a c}:cellOk (.func f a c)=true:=zB rfl
end
theorem rV:yC []=true:=zB rfl
theorem mZ {v:Value} {l:List Value} (h:zP v=false):yC (v :: l)=yC l:=by simp only [yC,h,cond_false]
theorem zR {α:Type} (x:Option α):nb [] x=x:=zB rfl
theorem zG {α:Type} {v:Value} {l:List Value} {x:Option α} (h:zP v=false):nb (v :: l) x=nb l x:=by simp only [nb,yC,h,cond_false]
theorem yD {A B J}:CD (.bool true) A B J=A J:=zB rfl
theorem zU {A B J}:CD (.bool false) A B J=B J:=zB rfl
theorem HU {b want:Bool} {A K h} (e:b=want):GD (.bool b) want A K h=A K:=by
 apply propext;constructor
 ·intro g;exact g.1 e
 ·intro g;exact ⟨fun _=>g,fun ne=>absurd e ne⟩
theorem HT {b want:Bool} {A K h} (e:¬ b=want):GD (.bool b) want A K h=K undef h:=by
 apply propext;constructor
 ·intro g;exact g.2 e
 ·intro g;exact ⟨fun e'=>absurd e' e,fun _=>g⟩
theorem En {w A K h}:GD undef w A K h=K undef h:=zB rfl
theorem qS {A K h}:GD (.bool true) true A K h=A K:=HU rfl
theorem uM {A K h}:GD (.bool false) false A K h=A K:=HU rfl
theorem WA {A K h}:GD (.bool true) false A K h=K undef h:=HT (by simp)
theorem kF {A K h}:GD (.bool false) true A K h=K undef h:=HT (by simp)
theorem yT {a b:Value} (h:zP a=false):pk (.bool true) a b=some a:=by simp only [pk,zG h,zR]
theorem yf {a b:Value} (h:zP b=false):pk (.bool false) a b=some b:=by simp only [pk,zG h,zR]
theorem xG (a:Addr):uk (.pointer (some a))=some (.pointer (some a)):=zB rfl
theorem l8 {vs:Array Value} {i:Nat} (h:yC vs.toList=true):Wf (.tuple vs) i=vs[i]?:=by simp only [Wf,nb,h,cond_true]
theorem U1 {a b:Value} (ha:zP a=false) (hb:zP b=false):Wf (.tuple #[a,b]) 0=some a:=(l8 (by simp only [yC,ha,hb,cond_false])).trans rfl
theorem U2 {a b:Value} (ha:zP a=false) (hb:zP b=false):Wf (.tuple #[a,b]) 1=some b:=(l8 (by simp only [yC,ha,hb,cond_false])).trans rfl
theorem vO {v:Value} {h R} (hb:zP v=false):rv [v] h R=R v h:=by
 apply propext;simp only [rv,yC,hb,cond_false,jF,true_and]
theorem ve {v w:Value} {h R} (hb:zP v=false) (hc:zP w=false):rv [v,w] h R=R (.tuple #[v,w]) h:=by
 apply propext;simp only [rv,yC,hb,hc,cond_false,jF,true_and]
theorem zT {g:FuncId} {args:List Value} {h:za} {K R:Value->za->Prop} (hc:x9 P g=true) (hn:yC args=true) (hT:DC P g args h R) (hk:∀ v h1,R v h1->K v h1):zH P (.func (.func g) #[] #[]) args h K :=
 ⟨hn,by simpa using hn,.inl ⟨hc,by simpa using hT.mono hk⟩⟩
theorem qm {g:FuncId} {args:List Value} {h:za} {K R:Value->za->Prop} (hc:x9 P g=true) (hn:yC args=true) (hT:DC P g args h R) (hk:∀ v h1,R v h1->K v h1):Y8 P g args h K :=
 ⟨hc,hn,hT.mono hk⟩
theorem kj {step:List Value->za->(List Value->za->Prop)->Prop} (I:Nat->List Value->za->Prop) (n:Nat) {vs:List Value} {h:za} (h0:I n vs h)
  (hs:∀ n vs h,I n vs h->step vs h (fun vs' h' => ∃ m,m < n/\I m vs' h')):LP step vs h:=⟨I,n,h0,hs⟩
def xx (P:Program) (f:FuncId) (args:List Value) (h:za) (v:Value):Prop:=fy v=true/\TC P f args h.lock (fun v1 _=>v1=v)
theorem xx.dc {f:FuncId} {args:List Value} {h:za} {v:Value} (q:xx P f args h v):DC P f args h (fun v1 h1=>v1=v/\h1=h):=fun _=>
 ⟨v,h,⟨rfl,rfl⟩,.refl _,(q.2.quiet (fun v1 _ e=>by rw [e];exact q.1)).mono (by rintro v1 h1 ⟨⟨_,e1⟩,e2⟩;exact ⟨e1,e2⟩)⟩
theorem xx.of {f:FuncId} {args:List Value} {h:za} {v:Value} (hs:fy v=true) (d:DC P f args h.lock (fun v1 _=>v1=v)):xx P f args h v:=⟨hs,d.tc⟩
theorem zi {g:FuncId} {args:List Value} {h:za} {K:Value->za->Prop} {v:Value} (hc:x9 P g=true) (hn:yC args=true) (hq:xx P g args h v) (hk:K v h):zH P (.func (.func g) #[] #[]) args h K :=
 zT hc hn hq.dc (by rintro v1 h1 ⟨rfl,rfl⟩;exact hk)
theorem vn {g:FuncId} {args:List Value} {h:za} {K:Value->Prop} {v:Value} (hc:x9 P g=true) (hn:yC args=true) (hq:xx P g args h v) (hk:K v):qN P g args h K :=
 ⟨hc,hn,v,hq.1,hq.2,hk⟩
end
end Go.Ai
