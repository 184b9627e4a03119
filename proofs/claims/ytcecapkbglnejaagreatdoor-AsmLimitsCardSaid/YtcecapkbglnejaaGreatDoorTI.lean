/- A part of the proof. -/
import Derived.Test.YtcecapkbglnejaaGreatDoorTH
import Derived.Test.YtcecapkbglnejaaGreatDoorTE
set_option linter.unusedVariables false
set_option linter.unusedSimpArgs false
set_option maxRecDepth 100000
namespace Go.Ai
noncomputable section
variable {P:Program}
def qV (q:FuncId->Nat) (o:Oper):Nat:=match o.op with
 | .load _ _=>1
 | .store _ _ _=>2
 | _=>(match w9 q o with
   | 0=>0
   | 1=>3
   | _=>4)
def HF (x y:Nat):Bool:=Nat.beq x 0 || Nat.beq y 0 || ((Nat.beq x 1 || Nat.beq x 3) && (Nat.beq y 1 || Nat.beq y 3)) || (Nat.beq x 1 && Nat.beq y 2) || (Nat.beq x 2 && Nat.beq y 1)
def eP (q:FuncId->Nat):List Oper->List Nat->List (Nat × Nat)->Bool
 | [],_,_=>true
 | o :: os,ms,prev=>Nat.ble (qV q o) 3 && (prev.all fun x=>(y8 ms o).testBit x.1 || HF x.2 (qV q o)) && eP q os (ms ++ [y8 ms o]) ((ms.length,qV q o) :: prev)
def GP (q:FuncId->Nat) (ops:Array Oper):Bool:=YS ops ops.toList 0 [] [] && eP q ops.toList [] []
def Ib (P:Program) (t:TypeId):Nat:=match z9 P (isAgg t) with
 | some true=>(match z9 P (sizeOf t) with
   | some n=>n
   | none=>0)
 | _=>1
def Mj (P:Program) (t:TypeId):Nat:=match z9 P (sizeOf t) with
 | some n=>n
 | none=>0
def Fl (n:Nat) (a:Value) (m:Nat) (c:Value):Prop:=match a,c with
 | .pointer (some ⟨b,o,none⟩),.pointer (some ⟨c,p,none⟩)=>b ≠ c\/o + n<=p\/p + m<=o
 | _,_=>False
theorem sK {n m b o c p:Nat}:Fl n (.pointer (some ⟨b,o,none⟩)) m (.pointer (some ⟨c,p,none⟩))=(b ≠ c\/o + n<=p\/p + m<=o):=rfl
def JT (m:Nat) (st:Bool) (n:Nat) (a:Value):List (Nat × Bool × Nat × Value)->Prop->Prop
 | [],Q=>Q
 | x :: l,Q=>Mh (m.testBit x.1 || (st == x.2.1)) (JT m st n a l Q) (Fl n a x.2.2.1 x.2.2.2/\JT m st n a l Q)
def E3 (P:Program) (s:Env) (o:Oper) (m:Nat) (fl:List (Nat × Bool × Nat × Value)) (h:za) (K:Value->za->Prop):Prop:=match o.op with
 | .load t a=>JT m false (Ib P t) (ev s a) fl (opt (zd P t (ev s a) h) fun v=>K v h)
 | .store t a x=>JT m true (Mj P t) (ev s a) fl (opt (nb [ev s x] (zl P t (ev s a) (ev s x) h)) fun h'=>K undef h')
 | .call { callee := .value (.func g),args,argTypes }=>ZQ P g (aR s args.toList) h fun v=>K v h
 | _=>HC P s o h K
def Ax (P:Program) (s:Env) (o:Oper) (i:Nat) (fl:List (Nat × Bool × Nat × Value)):List (Nat × Bool × Nat × Value):=match o.op with
 | .load t a=>fl ++ [(i,false,Ib P t,ev s a)]
 | .store t a _=>fl ++ [(i,true,Mj P t,ev s a)]
 | _=>fl
def Aw (P:Program) (ops:Array Oper):List Oper->Nat->List Nat->List (Nat × Bool × Nat × Value)->Env->za->(Env->za->Prop)->Prop
 | [],_,_,_,s,h,K=>K s h
 | o :: os,i,ms,fl,s,h,K=>(match o.guard with
   | none=>E3 P s o (y8 ms o) fl h fun v h1=>(match s.put o.dst v with
     | some s1=>Aw P ops os (i + 1) (ms ++ [y8 ms o]) (Ax P s o i fl) s1 h1 K
     | none=>False)
   | some (j,want)=>(match (ops[j]?).bind (·.dst) with
     | none=>False
     | some d=>GD (s.get d) want (E3 P s o (y8 ms o) fl h) (fun v h1=>(match s.put o.dst v with
       | some s1=>Aw P ops os (i + 1) (ms ++ [y8 ms o]) (Ax P s o i fl) s1 h1 K
       | none=>False)) h))
def C5 (P:Program) (q:FuncId->Nat) (ops:Array Oper) (s:Env) (h:za) (K:Env->za->Prop):Prop:=Mh (GP q ops) (Aw P ops ops.toList 0 [] [] s h K) False
theorem Q1 {m:Nat} {st:Bool} {n:Nat} {a:Value}:∀ {l:List (Nat × Bool × Nat × Value)} {Q:Prop},JT m st n a l Q->Q /\ ∀ x,x ∈ l->m.testBit x.1=false->x.2.1 ≠ st->Fl n a x.2.2.1 x.2.2.2
 | [],Q,h=>⟨h,fun x hx=>(by cases hx)⟩
 | y :: l,Q,h=>by
   unfold JT at h
   cases hb:(m.testBit y.1 || (st == y.2.1)) with
   | true=>
     rw [hb] at h
     obtain ⟨h1,h2⟩:=Q1 (l:=l) h
     refine ⟨h1,fun x hx hm hs => ?_⟩
     rcases Tq.1 hx with rfl | hx
     ·rw [hm,Bool.false_or,beq_iff_eq] at hb;exact absurd hb.symm hs
     ·exact h2 x hx hm hs
   | false=>
     rw [hb] at h
     obtain ⟨h0,h⟩:=h
     obtain ⟨h1,h2⟩:=Q1 (l:=l) h
     refine ⟨h1,fun x hx hm hs => ?_⟩
     rcases Tq.1 hx with rfl | hx
     ·exact h0
     ·exact h2 x hx hm hs
theorem dX (vs:List Value):∀ (c:List Value) (o k:Nat),k < o\/o + vs.length<=k->(zf c o vs)[k]? = c[k]?:=by
 induction vs with
 | nil=>intro c o k _;rfl
 | cons v vs ih=>
   intro c o k hk
   simp only [zf]
   simp only [SD] at hk
   rw [ih _ _ _ (by omega),TA (by omega)]
theorem dQ {c vs:List Value} {t:TypeId} {o off n:Nat} (h:off + n<=o\/o + vs.length<=off):aS (some (.cells (zf c o vs) t)) off n=aS (some (.cells c t)) off n:=by
 simp only [aS,jk]
 by_cases hl:off + n<=c.length
 ·rw [Sn hl,Sn hl]
  congr 1
  apply TK
  intro k
  by_cases hk:k < n
  ·rw [Td hk,Td hk,S5,S5,dX _ _ _ _ (by omega)]
  ·rw [Sr (by simp;omega),Sr (by simp;omega)]
 ·rw [Sl hl,Sl hl]
theorem Ee {t:TypeId} {b off:Nat} {g g2:za} {v:Value} (h:zd P t (.pointer (some ⟨b,off,none⟩)) g=some v) (e:aS (g2.get b) off (Ib P t)=aS (g.get b) off (Ib P t)):zd P t (.pointer (some ⟨b,off,none⟩)) g2=some v:=by
 unfold zd Ib at *
 simp only at *
 cases hg:g.get b with
 | none=>rw [hg] at h;cases h
 | some ob=>
   rw [hg] at h e
   cases ob with
   | cells c t1=>
     simp only at h
     cases ha:z9 P (isAgg t) with
     | none=>rw [ha] at h;cases h
     | some ag=>
       rw [ha] at h e
       cases ag with
       | true=>
         simp only at h e
         cases hs:z9 P (sizeOf t) with
         | none=>rw [hs] at h;cases h
         | some n=>
           rw [hs] at h e
           simp only at h e
           obtain ⟨hle,h⟩:=zv h
           rw [aaf] at hle
           simp only [aS,Sn hle] at e
           cases hg2:g2.get b with
           | none=>rw [hg2] at e;cases e
           | some ob2=>
             rw [hg2] at e
             cases ob2 with
             | cells c2 t2=>
               simp only at e
               split at e
               ·rename_i hle2
                simp only [Se] at e
                simp only [show Nat.ble (off + n) c2.length=true by rw [aaf];exact hle2,SA,e]
                exact h
               ·cases e
             | _=>simp at e
       | false=>
         simp only at h e
         have hlt:off < c.length:=by
          rcases SC off c.length with q | q
          ·exact q
          ·rw [Sr q] at h;cases h
         simp only [aS,Sn (show off + 1<=c.length from hlt)] at e
         cases hg2:g2.get b with
         | none=>rw [hg2] at e;cases e
         | some ob2=>
           rw [hg2] at e
           cases ob2 with
           | cells c2 t2=>
             simp only at e
             split at e
             ·simp only [Se] at e
              have:=congrArg (fun l=>l[0]?) e
              simp only [Td (Nat.zero_lt_one),S5,aag] at this
              exact this.trans h
             ·cases e
           | _=>simp at e
   | _=>simp at h
def ER (P:Program) (ops:Array Oper) (x:yF):Option (Nat × Nat × Nat):=match x.o.op with
 | .load t a=>(match jb x.s a with
   | some (.pointer (some ⟨b,off,none⟩))=>cond (yw ops x.s x.o) (some (b,off,Ib P t)) none
   | _=>none)
 | _=>none
structure RZ (P:Program) (q:FuncId->Nat) (ops:Array Oper) (fl:List (Nat × Bool × Nat × Value)) (x:yF):Prop where
 k0:qV q x.o=0->(∀ b,x.rd b=false) /\ ∀ b,x.tc b=false
 OT:qV q x.o=1\/qV q x.o=3->∀ b,x.tc b=false
 k1:qV q x.o=1->(∀ b,x.rd b=false) \/ ∃ b off sp n,(∀ c,x.rd c=true->c=b)/\(sp=none->ER P ops x=some (b,off,n))/\(x.j,false,n,Value.pointer (some ⟨b,off,sp⟩)) ∈ fl
 k2:qV q x.o=2->((∀ b,x.rd b=false) /\ ∀ b,x.tc b=false) \/ ∃ b off n c vs t,(∀ d,x.rd d=true ↔ d=b)/\(∀ d,x.tc d=true ↔ d=b)/\x.g.get b=some (.cells c t)/\x.g'.get b=some (.cells (zf c off vs) t)/\vs.length=n/\(x.j,true,n,Value.pointer (some ⟨b,off,none⟩)) ∈ fl
theorem RZ.mono {q:FuncId->Nat} {ops:Array Oper} {fl fl':List (Nat × Bool × Nat × Value)} {x:yF} (r:RZ P q ops fl x) (h:∀ e,e ∈ fl->e ∈ fl'):RZ P q ops fl' x :=
 ⟨r.k0,r.OT,fun e=>by
  rcases r.k1 e with h1 | ⟨b,off,sp,n,h1,h2,h3⟩
  ·exact .inl h1
  ·exact .inr ⟨b,off,sp,n,h1,h2,h _ h3⟩,fun e=>by
  rcases r.k2 e with h1 | ⟨b,off,n,c,vs,t,h1,h2,h3,h4,h5,h6⟩
  ·exact .inl h1
  ·exact .inr ⟨b,off,n,c,vs,t,h1,h2,h3,h4,h5,h _ h6⟩⟩
structure XT (P:Program) (ops:Array Oper) (s0:Env) (h0:za) (A:List yF) (i:Nat) (s:Env) (h:za):Prop where
 js:A.map (·.j)=List.range i
 env:∀ t,s.get t=Vm A s0 t
 size:s.size=s0.size
 heap:∀ b,h.get b=YO A h0 b
 ro:h.ro=h0.ro
 next:h.next=h0.next
 wf:WF h
 told:∀ A1 r A2,A=A1 ++ r :: A2->FA (ER P ops) P ops s0 h0 A1 r
 VG:∀ A1 r A2,A=A1 ++ r :: A2->∀ e,e ∈ r.o.after->Region.binds .any e=true->∃ x,x ∈ A1/\x.j=e.on
 apart:∀ A1 x A2 y A3,A=A1 ++ x :: (A2 ++ y :: A3)->Prec ops x.j y.j\/Wj (ER P ops) ops x y
structure eT (P:Program) (q:FuncId->Nat) (ops:Array Oper) (s0:Env) (h0:za) (A:List yF) (i:Nat) (o:Oper) (s:Env) (h:za) (u:Value) (h1:za) (m:Nat) (fl fl1:List (Nat × Bool × Nat × Value)) (y:yF):Prop where
 hj:y.j=i
 yU:y.o=o
 Hg:y.v=u
 told:FA (ER P ops) P ops s0 h0 A y
 rz:RZ P q ops fl1 y
 heap:∀ b,h1.get b=if y.tc b=true then y.g'.get b else h.get b
 ro:h1.ro=h.ro
 next:h1.next=h.next
 wf:WF h1
 af:AF h h1
 JT:∀ e,e ∈ fl->m.testBit e.1=false->(qV q o=1/\e.2.1=true->((∀ b,y.rd b=false) \/ ∃ b off sp n,(∀ c,y.rd c=true->c=b)/\(sp=none->ER P ops y=some (b,off,n))/\Fl n (.pointer (some ⟨b,off,sp⟩)) e.2.2.1 e.2.2.2)) /\
  (qV q o=2/\e.2.1=false->((∀ b,y.tc b=false) \/ ∃ b off n c vs t,(∀ d,y.rd d=true ↔ d=b)/\(∀ d,y.tc d=true ↔ d=b)/\y.g.get b=some (.cells c t)/\y.g'.get b=some (.cells (zf c off vs) t)/\vs.length=n/\Fl n (.pointer (some ⟨b,off,none⟩)) e.2.2.1 e.2.2.2))
section
variable {q:FuncId->Nat} {ops:Array Oper} {s0:Env} {h0:za} {A:List yF} {i:Nat} {o:Oper} {s:Env} {h:za} {m:Nat} {fl fl1:List (Nat × Bool × Nat × Value)}
theorem Jj (F:XT P ops s0 h0 A i s h) (ho:ops[i]? = some o) (hput:∀ d,o.dst=some d->d < s.size) {u:Value} (hs:Zc P ops s o (h.pick []) u (h.pick [])) (hlk:∀ t a,o.op = .load t a->yw ops s o=false):∃ y,eT P q ops s0 h0 A i o s h u h m fl fl1 y:=by
 refine ⟨⟨i,o,u,s,h.pick [],h.pick [],fun _=>false,fun _=>false⟩,rfl,rfl,rfl,
  ⟨⟨ho,F.env,F.size,fun b=>by rw [qb];simp,F.ro,by show h0.next<=h.next;rw [F.next];exact Sp _,fun x hx => ?_,Sp _,hs,fun d hd=>by rw [<- F.size];exact hput d hd,fun b hb=>(by cases hb),fun b _=>rfl,fun b o' hb=>(by cases hb)⟩,⟨F.next,F.next⟩,fun b0 off n e => ?_⟩,
  ⟨fun _=>⟨fun _=>rfl,fun _=>rfl⟩,fun _ _=>rfl,fun _ => .inl fun _=>rfl,fun _ => .inl ⟨fun _=>rfl,fun _=>rfl⟩⟩,fun b=>by simp,rfl,rfl,F.wf,.refl _,fun e he hm=>⟨fun _ => .inl fun _=>rfl,fun _ => .inl fun _=>rfl⟩⟩
 ·obtain ⟨A1,A2,rfl⟩:=S3 hx
  have:=(F.told A1 x A2 rfl).still.2
  show x.g'.next<=h.next
  rw [this,F.next];exact Sp _
 ·exfalso
  unfold ER at e
  simp only at e
  split at e
  ·rename_i t a yU
   split at e
   ·rw [hlk t a yU] at e;cases e
   ·cases e
  ·cases e
theorem Df (F:XT P ops s0 h0 A i s h):∀ x,x ∈ A->x.g'.next<=h.next:=fun x hx=>by
 obtain ⟨A1,A2,rfl⟩:=S3 hx
 have:=(F.told A1 x A2 rfl).still.2
 rw [this,F.next];exact Sp _
theorem Hu (F:XT P ops s0 h0 A i s h):h0.next<=h.next:=by rw [F.next];exact Sp _
theorem NP {h:za} (w:WF h) {b:Nat} (hb:¬ b < h.next):h.get b=none:=by
 cases hh:h.get b with | none=>rfl | some o'=>exact absurd (w b o' hh) hb
theorem iH (F:XT P ops s0 h0 A i s h) (ho:ops[i]? = some o) (hput:∀ d,o.dst=some d->d < s.size) {u:Value} (hs:Zc P ops s o h u h) (hk:qV q o=3):∃ y,eT P q ops s0 h0 A i o s h u h m fl fl1 y:=by
 have hrd:∀ b,(Nat.blt b h.next=true) ↔ b < h.next:=fun b=>by rw [S6]
 have nl:∀ t a,o.op = .load t a->False:=fun t a e=>by unfold qV at hk;rw [e] at hk;cases hk
 refine ⟨⟨i,o,u,s,h,h,fun b=>Nat.blt b h.next,fun _=>false⟩,rfl,rfl,rfl,
  ⟨⟨ho,F.env,F.size,fun b => ?_,F.ro,Hu F,Df F,Sp _,hs,fun d hd=>by rw [<- F.size];exact hput d hd,fun b hb=>(by cases hb),fun b _=>rfl,fun b o' hb=>(by cases hb)⟩,⟨F.next,F.next⟩,fun b0 off n e => ?_⟩,
  ⟨fun e=>by simp only at e;omega,fun _ _=>rfl,fun e=>by simp only at e;omega,fun e=>by simp only at e;omega⟩,fun b=>by simp,rfl,rfl,F.wf,.refl _,fun e he hm=>⟨fun ⟨e,_⟩=>by omega,fun ⟨e,_⟩=>by omega⟩⟩
 ·show h.get b=if Nat.blt b h.next=true then YO A h0 b else none
  by_cases hb:b < h.next
  ·rw [Sn ((hrd b).2 hb),F.heap]
  ·rw [Sl (fun e=>hb ((hrd b).1 e)),NP F.wf hb]
 ·exfalso
  unfold ER at e
  cases yU:o.op <;> simp only [yU] at e <;> first | (cases e;done) | exact nl _ _ yU
theorem Cb (F:XT P ops s0 h0 A i s h) (ho:ops[i]? = some o) (hput:∀ d,o.dst=some d->d < s.size) (hw:yw ops s o=true) {t:TypeId} {a:Operand} (yU:o.op = .load t a) {av u:Value} (hav:jb s a=some av) (hl:zd P t av h=some u)
  (hcl:∀ e,e ∈ fl->m.testBit e.1=false->e.2.1 ≠ false->Fl (Ib P t) av e.2.2.1 e.2.2.2):∃ y,eT P q ops s0 h0 A i o s h u h m fl (fl ++ [(i,false,Ib P t,av)]) y:=by
 have hk1:qV q o=1:=by unfold qV;rw [yU]
 obtain ⟨b,off,sp,rfl,hsp⟩:∃ b off sp,av = .pointer (some ⟨b,off,sp⟩) /\ ∀ g:za,g.get b=h.get b->zd P t av g=some u:=by
  unfold zd at hl
  split at hl
  ·rename_i b off
   exact ⟨b,off,none,rfl,fun g hg=>by unfold zd;simp only;rw [hg];exact hl⟩
  ·rename_i b off
   exact ⟨b,off,some 0,rfl,fun g hg=>by unfold zd;simp only;rw [hg];exact hl⟩
  ·cases hl
 have PC:∀ g:za,zd P t (.pointer (some ⟨b,off,sp⟩)) g=some u->Zc P ops s o g u g:=fun g hg => .inr ⟨hw,.inl (by unfold Kz;simp only [yU,hav,hg,one])⟩
 refine ⟨⟨i,o,u,s,h.pick [b],h.pick [b],fun c=>decide (c=b),fun _=>false⟩,rfl,rfl,rfl,
  ⟨⟨ho,F.env,F.size,fun c => ?_,F.ro,(Hu F:h0.next<=h.next),fun x hx=>Df F x hx,Sp _,PC _ (hsp _ (by rw [qb,Sn (by simp)])),fun d hd=>by rw [<- F.size];exact hput d hd,fun b hb=>(by cases hb),fun b _=>rfl,fun b o' hb=>(by cases hb)⟩,⟨F.next,F.next⟩,fun b0 off0 n e => ?_⟩,
  ⟨fun e=>by simp only at e;omega,fun _ _=>rfl,fun _ => .inr ⟨b,off,sp,Ib P t,fun c hc=>by simpa using hc,fun hsp0 => ?_,by simp⟩,fun e=>by simp only at e;omega⟩,fun b=>by simp,rfl,rfl,F.wf,.refl _,fun e he hm=>⟨fun ⟨_,h1⟩ => .inr ⟨b,off,sp,Ib P t,fun c hc=>by simpa using hc,fun hsp0 => ?_,hcl e he hm (by rw [h1];simp)⟩,fun ⟨e,_⟩=>by omega⟩⟩
 ·show (h.pick [b]).get c=if decide (c=b)=true then YO A h0 c else none
  rw [qb]
  by_cases e:c=b
  ·subst e;simp [F.heap]
  ·simp [e]
 ·unfold ER at e
  simp only [yU,hav] at e
  cases sp with
  | some k=>simp at e
  | none=>
    simp only [hw,SA,Se,Sh] at e
    obtain ⟨rfl,rfl,rfl⟩:=e
    exact ⟨by simp,fun c hc=>by simpa using hc,fun _=>rfl,fun g hg=>PC g (Ee (hsp _ (by rw [qb,Sn (by simp)])) hg)⟩
 ·subst hsp0;unfold ER;simp only [yU,hav,hw,SA]
 ·subst hsp0;unfold ER;simp only [yU,hav,hw,SA]
theorem tS (F:XT P ops s0 h0 A i s h) (ho:ops[i]? = some o) (hput:∀ d,o.dst=some d->d < s.size) (hw:yw ops s o=true) {t:TypeId} {a x:Operand} (yU:o.op = .store t a x) {av xv:Value} (hav:jb s a=some av) (hxv:jb s x=some xv) {h1:za} (hl:zl P t av xv h=some h1)
  (hcl:∀ e,e ∈ fl->m.testBit e.1=false->e.2.1 ≠ true->Fl (Mj P t) av e.2.2.1 e.2.2.2):∃ y,eT P q ops s0 h0 A i o s h undef h1 m fl (fl ++ [(i,true,Mj P t,av)]) y:=by
 have hk2:qV q o=2:=by unfold qV;rw [yU]
 have af:=nn hl
 obtain ⟨b,off,c,t',rfl,hg,hn,hh1,hst⟩:∃ b off c t',av = .pointer (some ⟨b,off,none⟩)/\h.get b=some (.cells c t')/\xv.cells.size=Mj P t/\h1=h.set b (some (.cells (zf c off xv.cells.toList) t')) /\
   ∀ g:za,g.get b=h.get b->g.ro=h.ro->zl P t av xv g=some (g.set b (some (.cells (zf c off xv.cells.toList) t'))):=by
  unfold zl at hl
  split at hl
  ·rename_i b off
   split at hl
   ·cases hl
   ·rename_i c t' hg
    split at hl
    ·cases hl
    ·rename_i n hs
     obtain ⟨hc,hl⟩:=zv hl
     simp only [Se] at hl
     have hc':=hc
     simp only [Sm,aar] at hc'
     refine ⟨b,off,c,t',rfl,hg,?_,hl.symm,fun g hgg hro => ?_⟩
     ·unfold Mj;rw [hs];exact hc'.1.1.1
     ·unfold zl;simp only;rw [hgg,hg];simp only [hs,hro,hc,SA]
   ·cases hl
  ·cases hl
 subst hh1
 have eq1:∀ d,(decide (d=b)=true) ↔ d=b:=fun d=>by simp
 have g2:((h.pick [b]).set b (some (.cells (zf c off xv.cells.toList) t'))).get b=some (.cells (zf c off xv.cells.toList) t'):=by rw [za.yD,Sn rfl]
 have g1:(h.pick [b]).get b=some (.cells c t'):=by rw [qb,Sn (by simp)];exact hg
 refine ⟨⟨i,o,undef,s,h.pick [b],(h.pick [b]).set b (some (.cells (zf c off xv.cells.toList) t')),fun d=>decide (d=b),fun d=>decide (d=b)⟩,rfl,rfl,rfl,
  ⟨⟨ho,F.env,F.size,fun d => ?_,F.ro,(Hu F:h0.next<=h.next),fun x hx=>Df F x hx,Sp _,.inr ⟨hw,.inl ?_⟩,fun d hd=>by rw [<- F.size];exact hput d hd,fun d hd => .inl hd,fun d hd => ?_,fun d o' hd _ _ => ?_⟩,⟨F.next,F.next⟩,fun b0 off0 n e => ?_⟩,
  ⟨fun e=>by simp only at e;omega,fun e=>by simp only at e;omega,fun e=>by simp only at e;omega,fun _ => .inr ⟨b,off,Mj P t,c,xv.cells.toList,t',eq1,eq1,g1,g2,by simpa using hn,by simp⟩⟩,fun d => ?_,rfl,rfl,fun d o' hd => ?_,af,fun e he hm=>⟨fun ⟨e,_⟩=>by omega,fun ⟨_,h1⟩ => .inr ⟨b,off,Mj P t,c,xv.cells.toList,t',eq1,eq1,g1,g2,by simpa using hn,hcl e he hm (by rw [h1];simp)⟩⟩⟩
 ·show (h.pick [b]).get d=if decide (d=b)=true then YO A h0 d else none
  rw [qb]
  by_cases e:d=b
  ·subst e;simp [F.heap]
  ·simp [e]
 ·unfold Kz;simp only [yU,hav,hxv,hst (h.pick [b]) (by rw [qb,Sn (by simp)]) rfl]
 ·have hd:decide (d=b)=false:=hd
  have:d ≠ b:=fun e=>by rw [(eq1 d).2 e] at hd;cases hd
  rw [za.yD,Sl this]
 ·have:=(eq1 d).1 hd;subst this;rw [g1];simp
 ·exfalso;unfold ER at e;simp only [yU] at e;cases e
 ·show (h.set b _).get d=if decide (d=b)=true then _ else _
  by_cases e:d=b
  ·subst e;rw [Sn (by simp),za.yD,Sn rfl,za.yD,Sn rfl]
  ·rw [Sl (by simp [e]),za.yD,Sl e]
 ·rw [za.yD] at hd
  show d < h.next
  split at hd
  ·rename_i e;subst e;exact F.wf _ _ hg
  ·exact F.wf _ _ hd
theorem nS (F:XT P ops s0 h0 A i s h) (hron:h.ro<=h.next) (ho:ops[i]? = some o) (hput:∀ d,o.dst=some d->d < s.size) (hw:yw ops s o=true) (hkz:qV q o<=3) {r:Env} (hl:Le r s)
  {K:Value->za->Prop} (hk:E3 P r o m fl h K):∃ v u h1 y,(ym v=true\/v=u)/\K v h1/\eT P q ops s0 h0 A i o s h u h1 m fl (Ax P r o i fl) y:=by
 unfold E3 at hk
 split at hk
 ·rename_i t a yU
  obtain ⟨hk,hc⟩:=Q1 hk
  obtain ⟨v,he,hK⟩:=qt hk
  have hnb:ym (ev r a)=false:=by
   cases hb:ym (ev r a) with
   | false=>rfl
   | true=>obtain ⟨k,p,z,e2⟩:=XO hb;rw [e2] at he;cases he
  have hav:=Z9 hl hnb
  obtain ⟨y,hy⟩:=Cb (q:=q) (m:=m) (fl:=fl) F ho hput hw yU hav he hc
  exact ⟨v,v,h,y,.inr rfl,hK,by unfold Ax;simp only [yU];exact hy⟩
 ·rename_i t a x yU
  obtain ⟨hk,hc⟩:=Q1 hk
  obtain ⟨h1,he,hK⟩:=qt hk
  obtain ⟨hn,he⟩:=qk he
  have hnx:ym (ev r x)=false:=by
   cases hb:ym (ev r x) with
   | false=>rfl
   | true=>simp only [yN,hb,SA] at hn;cases hn
  have hnb:ym (ev r a)=false:=by
   cases hb:ym (ev r a) with
   | false=>rfl
   | true=>obtain ⟨k,p,z,e2⟩:=XO hb;rw [e2] at he;cases he
  obtain ⟨y,hy⟩:=tS (q:=q) (m:=m) (fl:=fl) F ho hput hw yU (Z9 hl hnb) (Z9 hl hnx) he hc
  exact ⟨undef,undef,h1,y,.inr rfl,hK,by unfold Ax;simp only [yU];exact hy⟩
 ·rename_i g args ts yU
  obtain ⟨hc,hn,v,hsc,hT,hK⟩:=hk
  have ef:jb s (.func g)=some (.func (.func g) #[] #[]):=rfl
  have hT2:TC P g (aR r args.toList) h (fun v1 h1=>v1=v/\h1=h) :=
   (hT.quiet (fun v1 _ e=>by rw [e];exact hsc)).mono (by rintro v1 h1 ⟨⟨_,e1⟩,e2⟩;exact ⟨e1,e2⟩)
  have hk3:qV q o=3:=by
   unfold qV at hkz ⊢
   simp only [yU] at hkz ⊢
   have:w9 q o=aA (q g):=by unfold w9;simp only [yU]
   rw [this] at hkz ⊢
   have kc:aA (q g)=1\/aA (q g)=2\/aA (q g)=3:=by unfold aA;split <;> simp
   rcases kc with e | e | e <;> rw [e] at hkz ⊢ <;> simp at hkz ⊢
  obtain ⟨y,hy⟩:=iH (q:=q) (m:=m) (fl:=fl) (fl1:=Ax P r o i fl) F ho hput (u:=v) (.inr ⟨hw,.inr (.inl ⟨.func g,args,ts,g,#[],#[],_,yU,ef,US hl hn,hc,by simpa using hT2⟩)⟩) hk3
  exact ⟨v,v,h,y,.inr rfl,hK,hy⟩
 ·rename_i n1 n2 n3
  obtain ⟨v,u,h',he,hv,hK⟩:=j5 hl hk
  have hnc:=Wu he
  have hkk:qV q o=(match w9 q o with
   | 0=>0
   | 1=>3
   | _=>4):=by
   unfold qV
   split
   ·rename_i t a yU;exact absurd yU (n1 t a)
   ·rename_i t a x yU;exact absurd yU (n2 t a x)
   ·rfl
  have hcase:w9 q o=0\/w9 q o=1:=by
   rw [hkk] at hkz
   split at hkz
   ·left;assumption
   ·right;assumption
   ·omega
  rcases hcase with h0' | h1'
  ·obtain ⟨rfl,hany⟩:=iM h0' hnc he
   obtain ⟨y,hy⟩:=Jj (q:=q) (m:=m) (fl:=fl) (fl1:=Ax P r o i fl) F ho hput (u:=u) (.inr ⟨hw,.inl (hany _)⟩) (fun t a e=>absurd e (n1 t a))
   exact ⟨v,u,h',y,hv,hK,hy⟩
  ·obtain rfl:=Qt h1' hnc he
   obtain ⟨y,hy⟩:=iH (q:=q) (m:=m) (fl:=fl) (fl1:=Ax P r o i fl) F ho hput (u:=u) (.inr ⟨hw,.inl he⟩) (by rw [hkk,h1'];rfl)
   exact ⟨v,u,h',y,hv,hK,hy⟩
theorem It {n m b o c p k:Nat} {l vs:List Value} {t:TypeId} (h:Fl n (.pointer (some ⟨b,o,none⟩)) m (.pointer (some ⟨c,p,none⟩))) (e:b=c) (hv:vs.length=m):aS (some (.cells (zf l p vs) t)) o n=aS (some (.cells l t)) o n:=by
 rw [sK] at h
 exact dQ (by omega)
theorem Gy {n m b o c p:Nat} {l vs:List Value} {t:TypeId} (h:Fl m (.pointer (some ⟨c,p,none⟩)) n (.pointer (some ⟨b,o,none⟩))) (e:b=c) (hv:vs.length=m):aS (some (.cells (zf l p vs) t)) o n=aS (some (.cells l t)) o n:=by
 rw [sK] at h
 exact dQ (by omega)
theorem BR {u:Value} {h1:za} {x y:yF} (hxA:x ∈ A) (hx:RZ P q ops fl x) (N:eT P q ops s0 h0 A i o s h u h1 m fl fl1 y) (hkx:qV q x.o<=3) (hky:qV q o<=3)
  (hs:ZN ops x.o y.o=true) (hbit:m.testBit x.j=false) (hp:HF (qV q x.o) (qV q o)=true):Wj (ER P ops) ops x y:=by
 have ff:∀ {b:Bool},b ≠ true->b=false:=fun h=>by simpa using h
 simp only [ZN,Sm] at hs
 obtain ⟨a1,a2⟩:=hs
 have d1:∀ d,x.o.dst=some d->d ∉ y.o.looksAt ops/\y.o.dst ≠ some d:=by
  intro d hd
  rw [hd] at a1
  simp only [Sm,Sz,SL,SM] at a1
  exact ⟨a1.1,a1.2⟩
 have d2:∀ d,y.o.dst=some d->d ∉ x.o.looksAt ops:=by
  intro d hd
  rw [hd] at a2
  simp only [Sz,SL,SM] at a2
  exact a2
 have hyo:=N.yU
 have hy:=N.rz
 unfold HF at hp
 simp only [Tb,Sm,aar] at hp
 rcases hp with (((hp | hp) | ⟨hp,hq⟩) | ⟨hp,hq⟩) | ⟨hp,hq⟩
 ·obtain ⟨r,t⟩:=hx.k0 hp
  exact ⟨d1,d2,fun b hb=>(by rw [t b] at hb;cases hb),fun b _ => .inl (r b)⟩
 ·obtain ⟨r,t⟩:=hy.k0 (by rw [hyo];exact hp)
  exact ⟨d1,d2,fun b _=>⟨t b,.inl (r b)⟩,fun b hb=>(by rw [t b] at hb;cases hb)⟩
 ·have tx:=hx.OT hp
  have ty:=hy.OT (by rw [hyo];exact hq)
  exact ⟨d1,d2,fun b hb=>(by rw [tx b] at hb;cases hb),fun b hb=>(by rw [ty b] at hb;cases hb)⟩
 ·
  have tx:=hx.OT (.inl hp)
  refine ⟨d1,d2,fun b hb=>(by rw [tx b] at hb;cases hb),fun b hb => ?_⟩
  rcases hx.k1 hp with hn | ⟨bx,ox,sp,nx,c1,c2,c3⟩
  ·exact .inl (hn b)
  ·rcases (N.JT _ c3 hbit).2 ⟨hq,rfl⟩ with hn | ⟨by',oy,ny,c,vs,t,e1,e2,e3,e4,e5,e6⟩
   ·rw [hn b] at hb;cases hb
   ·have hb':=(e2 b).1 hb
    subst hb'
    cases hr:x.rd b with
    | false=>exact .inl rfl
    | true=>
      have hbx:=c1 b hr
      cases sp with
      | some k=>exact e6.elim
      | none=>
        refine .inr ⟨ox,nx,by rw [c2 rfl,hbx],(e1 b).2 rfl,?_⟩
        rw [e3,e4]
        exact Gy e6 hbx.symm e5
 ·
  have ty:=hy.OT (.inl (by rw [hyo];exact hq))
  refine ⟨d1,d2,fun b hb=>⟨ty b,?_⟩,fun b hb=>(by rw [ty b] at hb;cases hb)⟩
  rcases hx.k2 hp with ⟨_,hn⟩ | ⟨bx,ox,nx,c,vs,t,e1,e2,e3,e4,e5,e6⟩
  ·rw [hn b] at hb;cases hb
  ·have hb':=(e2 b).1 hb
   subst hb'
   rcases (N.JT _ e6 hbit).1 ⟨hq,rfl⟩ with hn | ⟨by',oy,sp,ny,c1,c2,c3⟩
   ·exact .inl (hn b)
   ·cases hr:y.rd b with
    | false=>exact .inl rfl
    | true=>
      have hby:=c1 b hr
      cases sp with
      | some k=>exact c3.elim
      | none=>
        refine .inr ⟨oy,ny,by rw [c2 rfl,hby],(e1 b).2 rfl,?_⟩
        rw [e3,e4]
        exact It (k:=0) c3 hby.symm e5
end
theorem Dy {q:FuncId->Nat} {ops:Array Oper} {s0:Env} {h0:za} (hro0:h0.ro<=h0.next):∀ (l:List Oper) (i:Nat) (ms:List Nat) (A:List yF) (prev:List (Nat × Nat)) (fl:List (Nat × Bool × Nat × Value)) (r s:Env) (h:za) {K:Env->za->Prop},
  ops.toList.drop i=l->i<=ops.size->KK ops ms->ms.length=i->XT P ops s0 h0 A i s h->(∀ x,x ∈ A->(x.j,qV q x.o) ∈ prev/\qV q x.o<=3/\RZ P q ops fl x)->YS ops l i ms (A.reverse.map fun x=>(x.j,x.o))=true->eP q l ms prev=true ->
  Le r s->Aw P ops l i ms fl r h K->∃ A' r' s' h',XT P ops s0 h0 A' ops.size s' h'/\Le r' s'/\K r' h'/\Fr (Vh l) s s'/\AF h h'
 | [],i,ms,A,prev,fl,r,s,h,K,hl,hle,hm,hml,F,hrp,hst,hkd,hle1,hk=>by
   have:i=ops.size:=by
    have:=congrArg List.length hl
    simp at this
    omega
   subst this
   exact ⟨A,r,s,h,F,hle1,hk,.refl _ _,.refl _⟩
 | o :: os,i,ms,A,prev,fl,r,s,h,K,hl,hle,hm,hml,F,hrp,hst,hkd,hle1,hk=>by
   have ho:ops[i]? = some o:=by
    have:=congrArg (fun l=>l[0]?) hl
    simp only [S5,Si] at this
    simpa using this
   have hlt:i < ops.size:=by
    rcases SC i ops.size with h | h
    ·exact h
    ·rw [SN h] at ho;cases ho
   have hl':ops.toList.drop (i + 1)=os:=by rw [<- aat,hl];rfl
   simp only [YS,Sm] at hst
   obtain ⟨⟨hedge,hslots⟩,hst⟩:=hst
   simp only [eP,Sm,aaf] at hkd
   obtain ⟨⟨hkz,hpair⟩,hkd⟩:=hkd
   have go:∀ (v u:Value) (h1:za) (y:yF),(ym v=true\/v=u)->eT P q ops s0 h0 A i o s h u h1 (y8 ms o) fl (Ax P r o i fl) y ->
     (match r.put o.dst v with | some s1=>Aw P ops os (i + 1) (ms ++ [y8 ms o]) (Ax P r o i fl) s1 h1 K | none=>False) ->
     ∃ A' r' s' h',XT P ops s0 h0 A' ops.size s' h'/\Le r' s'/\K r' h'/\Fr (Vh (o :: os)) s s'/\AF h h':=by
    intro v u h1 y hv N hk
    split at hk
    case h_2=>exact hk.elim
    rename_i r1 hp
    obtain ⟨s1,hp1,hl1⟩:=hle1.put hp hv
    have hs1:∀ t,s1.get t=if o.dst=some t then u else s.get t:=by
     intro t
     cases hd:o.dst with
     | none=>rw [hd] at hp1;simp only [Env.put,Se] at hp1;subst hp1;simp
     | some d=>
       rw [hd] at hp1
       simp only [Env.put] at hp1
       obtain ⟨_,hp1⟩:=zv hp1
       simp only [Se] at hp1
       subst hp1
       rw [Env.yD]
       by_cases e:t=d
       ·subst e;simp
       ·rw [Sl e,Sl (by simp only [Se];exact fun h=>e h.symm)]
    have hs1s:s1.size=s.size:=(Fr.put hp1).size
    have F1:XT P ops s0 h0 (A ++ [y]) (i + 1) s1 h1:=by
     refine ⟨?_,?_,hs1s.trans F.size,?_,N.ro.trans F.ro,N.next.trans F.next,N.wf,?_,?_,?_⟩
     ·rw [aae,F.js,List.range_succ];simp [N.hj]
     ·intro t
      rw [hs1,Q3,N.yU,N.Hg,F.env]
     ·intro b
      rw [N.heap,J9,F.heap]
     ·intro A1 r A2 e
      rcases u3 e with ⟨_,rfl,rfl⟩ | ⟨A3,_,e3⟩
      ·exact N.told
      ·exact F.told A1 r A3 e3
     ·intro A1 r A2 e ed hed hb
      rcases u3 e with ⟨_,rfl,rfl⟩ | ⟨A3,_,e3⟩
      ·rw [N.yU] at hed
       simp only [SV,Tb,Sz,S6] at hedge
       rcases hedge ed (by simpa using hed) with h2 | h2
       ·rw [hb] at h2;cases h2
       ·have:ed.on ∈ A1.map (·.j):=by rw [F.js];exact TE.2 h2
        obtain ⟨x,hx,hxj⟩:=TH.1 this
        exact ⟨x,hx,hxj⟩
      ·exact F.VG A1 r A3 e3 ed hed hb
     ·intro A1 x A2 z A3 e
      have e':A ++ [y]=(A1 ++ x :: A2) ++ z :: A3:=by rw [e];simp
      rcases u3 e' with ⟨_,e1,rfl⟩ | ⟨A4,_,e3⟩
      ·have hxm:x ∈ A:=by rw [<- e1];simp
       obtain ⟨hpm,hkx,hrx⟩:=hrp x hxm
       simp only [SV,Tb] at hpair hslots
       rcases hslots (x.j,x.o) (TH.2 ⟨x,by simpa using hxm,rfl⟩) with h2 | h2
       ·rw [N.hj];exact .inl (q8 hm ho h2)
       ·rcases hpair _ hpm with h3 | h3
        ·rw [N.hj];exact .inl (q8 hm ho h3)
        ·by_cases hbit:(y8 ms o).testBit x.j=true
         ·rw [N.hj];exact .inl (q8 hm ho hbit)
         ·simp only [aaj] at hbit
          exact .inr (BR hxm hrx N hkx hkz (by rw [N.yU];exact h2) hbit h3)
      ·exact F.apart A1 x A2 z A4 (by rw [e3];simp)
    have hfl:∀ e,e ∈ fl->e ∈ Ax P r o i fl:=fun e he=>by
     unfold Ax;split <;> simp [he]
    have hrp1:∀ x,x ∈ A ++ [y]->(x.j,qV q x.o) ∈ (ms.length,qV q o) :: prev/\qV q x.o<=3/\RZ P q ops (Ax P r o i fl) x:=by
     intro x hx
     rcases Ta.1 hx with hx | hx
     ·obtain ⟨h1,h2,h3⟩:=hrp x hx
      exact ⟨List.mem_cons_of_mem _ h1,h2,h3.mono hfl⟩
     ·simp only [TI] at hx;subst hx
      exact ⟨by rw [N.hj,N.yU,hml];simp,by rw [N.yU];exact hkz,N.rz⟩
    obtain ⟨A',r',s',h',F',l',k',f',a'⟩:=Dy hro0 os (i + 1) (ms ++ [y8 ms o]) (A ++ [y]) _ _ r1 s1 h1 hl' hlt (Vg hm hml ho) (by simp [hml]) F1 hrp1
     (by simpa [N.hj,N.yU] using hst) hkd hl1 hk
    exact ⟨A',r',s',h',F',l',k',(Fr.put hp1).left.trans f'.right,N.af.trans a'⟩
   have slot:∀ {v:Value} {h1:za},(match r.put o.dst v with | some s1=>Aw P ops os (i + 1) (ms ++ [y8 ms o]) (Ax P r o i fl) s1 h1 K | none=>False)->∀ d,o.dst=some d->d < s.size:=by
    intro v h1 hk d hd
    split at hk
    case h_2=>exact hk.elim
    rename_i r1 hp
    rw [hd] at hp
    simp only [Env.put] at hp
    obtain ⟨hb,_⟩:=zv hp
    rw [<- hle1.size]
    simpa [S6] using hb
   have hron:h.ro<=h.next:=by rw [F.ro,F.next];exact hro0
   have dstok:∀ {K':Value->za->Prop},E3 P r o (y8 ms o) fl h K'->(∀ v h1,K' v h1->∀ d,o.dst=some d->d < s.size)->∀ d,o.dst=some d->d < s.size:=by
    intro K' hk hs
    unfold E3 at hk
    split at hk
    ·obtain ⟨v,_,hK⟩:=qt (Q1 hk).1;exact hs _ _ hK
    ·obtain ⟨v,_,hK⟩:=qt (Q1 hk).1;exact hs _ _ hK
    ·obtain ⟨_,_,v,_,_,hK⟩:=hk;exact hs _ _ hK
    ·obtain ⟨v,u,h',_,_,hK⟩:=j5 hle1 hk;exact hs v h' hK
   simp only [Aw] at hk
   split at hk
   ·rename_i hg
    obtain ⟨v,u,h1,y,hv,hK,N⟩:=nS (q:=q) F hron ho (dstok hk (fun v h1 hK=>slot hK)) (by simp only [yw,hg]) hkz hle1 hk
    exact go v u h1 y hv N hK
   ·rename_i j want hg
    split at hk
    ·exact hk.elim
    ·rename_i d hdst
     unfold GD at hk
     split at hk
     ·rename_i b hb
      have hs:s.get d = .bool b:=by
       rcases hle1.get d with e | e
       ·rw [hb] at e;cases e
       ·rw [<- e,hb]
      have haw:yw ops s o=(b == want):=by simp only [yw,hg,hdst,hs]
      by_cases hbw:b=want
      ·have hk:=hk.1 hbw
       obtain ⟨v,u,h1,y,hv,hK,N⟩:=nS (q:=q) F hron ho (dstok hk (fun v h1 hK=>slot hK)) (by rw [haw,hbw];simp) hkz hle1 hk
       exact go v u h1 y hv N hK
      ·have hk:=hk.2 hbw
       obtain ⟨y,N⟩:=Jj (q:=q) (m:=y8 ms o) (fl:=fl) (fl1:=Ax P r o i fl) F ho (slot hk) (u:=undef) (.inl ⟨by rw [haw];simpa using hbw,rfl,rfl⟩) (fun _ _ _=>by rw [haw];simpa using hbw)
       exact go undef undef h y (.inr rfl) N hk
     ·exact hk.elim
     ·rename_i n1 n2
      have hs:s.get d=r.get d:=by
       rcases hle1.get d with e | e
       ·obtain ⟨k,p,q,e2⟩:=XO e;exact absurd e2 (n2 k p q)
       ·exact e.symm
      have haw:yw ops s o=false:=by
       simp only [yw,hg,hdst,hs]
      obtain ⟨y,N⟩:=Jj (q:=q) (m:=y8 ms o) (fl:=fl) (fl1:=Ax P r o i fl) F ho (slot hk) (u:=undef) (.inl ⟨haw,rfl,rfl⟩) (fun _ _ _=>haw)
      exact go undef undef h y (.inr rfl) N hk
theorem G0 {q:FuncId->Nat} (hmix:P.follows .mixedOrders=true):KI P (C5 P q):=by
 intro ops r s h K rd id hle wf hk
 unfold C5 at hk
 cases hc:GP q ops with
 | false=>rw [hc] at hk;exact hk.elim
 | true=>
   rw [hc] at hk
   have hk:Aw P ops ops.toList 0 [] [] r h K:=hk
   simp only [GP,Sm] at hc
   have F0:XT P ops s h ([]:List yF) 0 s h:=⟨rfl,fun t=>rfl,rfl,fun b=>rfl,rfl,rfl,wf.1,
    fun A1 r A2 e=>by simp at e,fun A1 r A2 e=>by simp at e,fun A1 x A2 y A3 e=>by simp at e⟩
   obtain ⟨A,r',s',h',F,hl',hK,hf,af⟩:=Dy (q:=q) wf.2 ops.toList 0 [] [] [] [] r s h rfl (Th _) (fun k q hq=>by simp at hq) rfl F0 (fun x e=>by simp at e) hc.1 hc.2 hle hk
   have V:YC (ER P ops) P ops s h A:=⟨by rw [F.js];exact List.nodup_range,fun i hi=>by
     have:i ∈ A.map (·.j):=by rw [F.js];exact TE.2 hi
     obtain ⟨r,hr,hj⟩:=TH.1 this
     exact ⟨r,hr,hj⟩,F.told,F.VG,F.apart⟩
   exact ⟨r',s',h',hl',hK,hf,af,la hmix V F.env F.size F.heap F.ro (by rw [F.next];exact Sp _) (fun x hx=>Df F x hx) F.next (Q:=fun e s1 h1=>e = .normal/\s1=s'/\h1=h') ⟨rfl,rfl,rfl⟩⟩
def nD (P:Program) (q:FuncId->Nat) (ops:Array Oper) (s:Env) (h:za) (K:Env->za->Prop):Prop:=Mh (calm q ops) (LG P q ops ops.toList 0 [] [] s h K) (Mh (nz q ops) (C4 P q ops s h K) (C5 P q ops s h K))
theorem GZ {q:FuncId->Nat} (hmix:P.follows .mixedOrders=true):KI P (nD P q):=by
 intro ops r s h K rd id hle wf hk
 unfold nD at hk
 cases hc:calm q ops with
 | true=>
   rw [hc] at hk
   exact ta hmix ops r s h K rd id hle wf (by unfold v7;rw [hc];exact hk)
 | false=>
   rw [hc] at hk
   have hk:Mh (nz q ops) (C4 P q ops r h K) (C5 P q ops r h K):=hk
   cases hv:nz q ops with
   | true=>rw [hv] at hk;exact GY hmix ops r s h K rd id hle wf hk
   | false=>rw [hv] at hk;exact G0 hmix ops r s h K rd id hle wf hk
theorem aU {q:FuncId->Nat} (hmix:P.follows .mixedOrders=true) {n:Nat} {f:FuncId} {args:List Value} {h:za} {R:Value->za->Prop} (hk:WT P (nD P q) n f args h R):DC P f args h R:=lJ (GZ hmix) hk
end
noncomputable section
abbrev Part:=Nat->Option vi
structure yV where
 get:Nat->Option (Option vi)
 ro:Nat
def yV.un (lo:yV) (a:Part):yV:=⟨fun x=>match a x with
 | some o=>some (some o)
 | none=>lo.get x,lo.ro⟩
def yV.of (h:za):yV:=⟨fun b=>if b < h.next then some (h.get b) else none,h.ro⟩
def yV.dj (lo:yV) (a:Part):Prop := ∀ x o,a x=some o->lo.get x=none
structure yV.Le (lo lo':yV):Prop where
 ro:lo'.ro=lo.ro
 get:∀ b x,lo.get b=some x->lo'.get b=some x
structure dS (lo:yV) (h:za):Prop where
 ro:h.ro=lo.ro
 Cm:h.ro<=h.next
 get:∀ b x,lo.get b=some x->h.get b=x/\b < h.next
abbrev HP:=Part->Prop
def Sat (lo:yV) (h:za):List HP->Prop
 | []=>dS lo h
 | A :: L => ∃ a,A a/\lo.dj a/\(∀ b o,a b=some o->lo.ro<=b)/\Sat (lo.un a) h L
theorem yV.Le.refl (lo:yV):lo.Le lo:=⟨rfl,fun _ _ h=>h⟩
theorem yV.Le.trans {a b c:yV} (x:a.Le b) (y:b.Le c):a.Le c:=⟨y.ro.trans x.ro,fun i o h=>y.get i o (x.get i o h)⟩
theorem yV.KE {lo:yV} {a:Part} (d:lo.dj a):lo.Le (lo.un a):=⟨rfl,fun b x h=>by
 unfold yV.un
 cases e:a b with
 | none=>simp only [e];exact h
 | some o=>rw [d b o e] at h;cases h⟩
theorem yV.v5 {lo:yV} {a:Part} {b:Nat} {o:vi} (e:a b=some o):(lo.un a).get b=some (some o):=by simp only [yV.un,e]
theorem yV.uT {lo:yV} {a:Part} {b:Nat} (e:a b=none):(lo.un a).get b=lo.get b:=by simp only [yV.un,e]
theorem yV.LC {lo:yV} {a c:Part} (d:(lo.un a).dj c):(lo.un a).un c=(lo.un c).un a:=by
 unfold yV.un
 congr 1
 funext x
 cases e:c x with
 | none=>simp only [e]
 | some o=>
   have:=d x o e
   simp only [yV.un] at this
   cases e2:a x with
   | none=>simp only [e]
   | some p=>rw [e2] at this;cases this
theorem yV.GX {lo:yV} {a c:Part} (d:lo.dj a) (k:(lo.un a).dj c):lo.dj c:=fun x o e=>by
 cases e2:lo.get x with
 | none=>rfl
 | some p=>rw [<- k x o e,(yV.KE d).get x p e2]
theorem yV.IF {lo:yV} {a c:Part} (d:lo.dj a) (k:(lo.un a).dj c):(lo.un c).dj a:=fun x o e=>by
 cases e2:c x with
 | none=>rw [yV.uT e2];exact d x o e
 | some p=>have:=k x p e2;rw [yV.v5 e] at this;cases this
theorem yV.Le.dj {lo lo':yV} (l:lo.Le lo') {a:Part} (d:lo'.dj a):lo.dj a:=fun x o e=>by
 cases e2:lo.get x with
 | none=>rfl
 | some p=>rw [<- d x o e,l.get x p e2]
theorem yV.Le.un {lo lo':yV} (l:lo.Le lo') (a:Part):(lo.un a).Le (lo'.un a):=⟨l.ro,fun b x h=>by
 cases e:a b with
 | none=>rw [yV.uT e] at h ⊢;exact l.get b x h
 | some o=>rw [yV.v5 e] at h ⊢;exact h⟩
theorem dS.mono {lo lo':yV} {h:za} (l:lo.Le lo') (x:dS lo' h):dS lo h:=⟨x.ro.trans l.ro,x.Cm,fun b y e=>x.get b y (l.get b y e)⟩
theorem Sat.mono {h:za}:∀ {L:List HP} {lo lo':yV},lo.Le lo'->Sat lo' h L->Sat lo h L
 | [],lo,lo',l,x=>dS.mono l x
 | A :: L,lo,lo',l,⟨a,ha,d,w,x⟩=>⟨a,ha,l.dj d,fun b o e=>by rw [<- l.ro];exact w b o e,Sat.mono (l.un a) x⟩
theorem Sat.base {h:za}:∀ {L:List HP} {lo:yV},Sat lo h L->dS lo h
 | [],_,x=>x
 | A :: L,_,⟨_,_,d,_,x⟩=>(Sat.base x).mono (yV.KE d)
theorem Sat.part {h:za} {A:HP}:∀ {L:List HP} {lo:yV},Sat lo h L->A ∈ L->∃ a,A a/\lo.dj a /\ ∀ b o,a b=some o->h.get b=some o/\h.ro<=b/\b < h.next
 | B :: L,lo,⟨a,ha,d,w,x⟩,hm=>by
   rcases Tq.1 hm with rfl | hm
   ·refine ⟨a,ha,d,fun b o e => ?_⟩
    have bs:=Sat.base x
    obtain ⟨g1,g2⟩:=bs.get b _ (yV.v5 e)
    exact ⟨g1,by rw [bs.ro];exact w b o e,g2⟩
   ·obtain ⟨c,hc,dc,g⟩:=Sat.part x hm
    exact ⟨c,hc,yV.GX d dc,g⟩
theorem Sat.swap {h:za} {A B:HP} {L:List HP} {lo:yV} (x:Sat lo h (A :: B :: L)):Sat lo h (B :: A :: L):=by
 obtain ⟨a,ha,d,w,c,hc,dc,wc,x⟩:=x
 exact ⟨c,hc,yV.GX d dc,wc,a,ha,yV.IF d dc,w,by rw [<- yV.LC dc];exact x⟩
theorem Sat.cons {h:za} {A:HP} {L L':List HP} (f:∀ lo,Sat lo h L->Sat lo h L') {lo:yV} (x:Sat lo h (A :: L)):Sat lo h (A :: L'):=by
 obtain ⟨a,ha,d,w,x⟩:=x
 exact ⟨a,ha,d,w,f _ x⟩
theorem Sat.perm {h:za} {L L':List HP} (p:L.Perm L'):∀ {lo:yV},Sat lo h L->Sat lo h L':=by
 induction p with
 | nil=>exact fun x=>x
 | cons A p ih=>exact fun x=>x.cons fun lo=>ih
 | swap A B L=>exact fun x=>x.swap
 | trans p q ih1 ih2=>exact fun x=>ih2 (ih1 x)
theorem Sat.drop {h:za} {A:HP} {L:List HP} {lo:yV} (x:Sat lo h (A :: L)):Sat lo h L:=by
 obtain ⟨a,ha,d,w,x⟩:=x
 exact x.mono (yV.KE d)
theorem Sat.LZ {h:za} {L':List HP} {lo:yV}:∀ {L:List HP},Sat lo h (L ++ L')->Sat lo h L'
 | [],x=>x
 | A :: L,x=>Sat.LZ (L:=L) x.drop
def cV:Nat->List HP->List HP
 | 0,L=>L
 | _ + 1,[]=>[]
 | i + 1,A :: L=>match cV i L with
   | []=>[A]
   | B :: L'=>B :: A :: L'
theorem cU:∀ (i:Nat) (L:List HP),L.Perm (cV i L)
 | 0,L=>List.Perm.refl _
 | _ + 1,[]=>List.Perm.refl _
 | i + 1,A :: L=>by
   have ih:=cU i L
   unfold cV
   split
   ·rename_i e;rw [e] at ih;exact ih.cons A
   ·rename_i B L' e;rw [e] at ih;exact (ih.cons A).trans (List.Perm.swap _ _ _)
theorem Sat.p {h:za} {L:List HP} {lo:yV} (x:Sat lo h L) (i:Nat):Sat lo h (cV i L):=x.perm (cU i L)
def L7:List Nat->List HP->List HP
 | [],L=>L
 | i :: is,L=>L7 is (cV i L)
theorem Sat.ps {h:za} {lo:yV}:∀ (is:List Nat) {L:List HP},Sat lo h L->Sat lo h (L7 is L)
 | [],_,x=>x
 | i :: is,_,x=>Sat.ps is (x.p i)
def eN:List Nat->List Nat->List HP->List HP
 | [],_,L=>L
 | i :: is,prev,L=>match cV (i - (prev.filter fun j=>Nat.blt j i).length) L with
   | []=>[]
   | A :: L'=>A :: eN is (i :: prev) L'
def front (is:List Nat) (L:List HP):List HP:=eN is [] L
theorem aJ:∀ (is prev:List Nat) (L:List HP),L.Perm (eN is prev L)
 | [],_,L=>List.Perm.refl _
 | i :: is,prev,L=>by
   have p:=cU (i - (prev.filter fun j=>Nat.blt j i).length) L
   unfold eN
   split
   ·rename_i e;rw [e] at p;exact p
   ·rename_i A L' e;rw [e] at p;exact p.trans ((aJ _ _ L').cons A)
theorem Ch (is:List Nat) (L:List HP):L.Perm (front is L):=aJ _ _ _
theorem Sat.f {h:za} {L:List HP} {lo:yV} (x:Sat lo h L) (is:List Nat):Sat lo h (front is L):=x.perm (Ch is L)
theorem Sat.zH {h:za} {L:List HP} {lo:yV} (x:Sat lo h L) (n:Nat):Sat lo h (L.take n):=by
 have q:(L.take n ++ L.drop n).Perm (L.drop n ++ L.take n):=List.perm_append_comm
 rw [List.take_append_drop] at q
 exact (x.perm q).LZ
theorem Sat.k {h:za} {L:List HP} {lo:yV} (x:Sat lo h L) (is:List Nat):Sat lo h ((front is L).take is.length):=(x.f is).zH _
theorem Sat.to {h h':za}:∀ {L:List HP} {lo lo':yV},Sat lo h L->(∀ b,b < h.next->lo.get b=none->lo'.get b=none)->dS lo' h'->lo'.ro=lo.ro->h.next<=h'.next->(∀ b,b < h.next->lo.get b=none->h'.get b=h.get b)->Sat lo' h' L
 | [],_,_,_,_,b,_,_,_=>b
 | A :: L,lo,lo',⟨a,ha,d,w,x⟩,k,b,r,n,g=>by
   have bs:=Sat.base x
   have lt:∀ y o,a y=some o->y < h.next:=fun y o e=>(bs.get y _ (yV.v5 e)).2
   have dn:∀ y,(lo.un a).get y=none->a y=none/\lo.get y=none:=fun y e=>by
    cases e2:a y with
    | none=>rw [yV.uT e2] at e;exact ⟨rfl,e⟩
    | some o=>rw [yV.v5 e2] at e;cases e
   refine ⟨a,ha,fun y o e=>k y (lt y o e) (d y o e),fun y o e=>by rw [r];exact w y o e,Sat.to x (fun y hy e => ?_) ?_ r n fun y hy e => ?_⟩
   ·rw [yV.uT (dn y e).1];exact k y hy (dn y e).2
   ·refine ⟨b.ro,b.Cm,fun y z e => ?_⟩
    cases e2:a y with
    | none=>rw [yV.uT e2] at e;exact b.get y z e
    | some o=>
      rw [yV.v5 e2] at e
      cases e
      exact ⟨(g y (lt y o e2) (d y o e2)).trans (bs.get y _ (yV.v5 e2)).1,Sq (lt y o e2) n⟩
   ·exact g y hy (dn y e).2
theorem Sat.Ol {h:za} {L2:List HP}:∀ {L1:List HP} {lo:yV},Sat lo h (L1 ++ L2)->∃ lo1,lo.Le lo1/\Sat lo1 h L2 /\ ∀ h' L',Sat lo1 h' L'->Sat lo h' (L1 ++ L')
 | [],lo,x=>⟨lo,.refl lo,x,fun _ _ y=>y⟩
 | A :: L1,lo,⟨a,ha,d,w,x⟩=>by
   obtain ⟨lo1,l,s,f⟩:=Sat.Ol (L1:=L1) x
   exact ⟨lo1,(yV.KE d).trans l,s,fun h' L' y=>⟨a,ha,d,w,f h' L' y⟩⟩
theorem Sat.call {h:za} {L1 L2:List HP} {lo:yV} (x:Sat lo h (L2 ++ L1)):∃ lo1,lo.Le lo1/\Sat lo1 h L2 /\ ∀ h' L',Sat lo1 h' L'->Sat lo h' (L' ++ L1):=by
 obtain ⟨lo1,l,s,f⟩:=Sat.Ol (x.perm List.perm_append_comm)
 exact ⟨lo1,l,s,fun h' L' y=>(f h' L' y).perm List.perm_append_comm⟩
def pt (b:Nat) (o:vi):HP:=fun m => ∀ x,m x=if x=b then some o else none
theorem Sat.M3 {h:za} {L:List HP} {lo:yV} (x:Sat lo h L) {b:Nat} {o:vi} (hm:pt b o ∈ L):h.get b=some o/\h.ro<=b/\b < h.next:=by
 obtain ⟨a,ha,_,g⟩:=x.part hm
 exact g b o (by rw [ha b,Sn rfl])
theorem Sat.get {h:za} {L:List HP} {lo:yV} {b:Nat} {o:vi} (x:Sat lo h (pt b o :: L)):h.get b=some o:=(x.M3 (List.mem_cons_self ..)).1
theorem Sat.wr {h:za} {L:List HP} {lo:yV} {b:Nat} {o:vi} (x:Sat lo h (pt b o :: L)):h.ro<=b:=(x.M3 (List.mem_cons_self ..)).2.1
theorem Sat.lt {h:za} {L:List HP} {lo:yV} {b:Nat} {o:vi} (x:Sat lo h (pt b o :: L)):b < h.next:=(x.M3 (List.mem_cons_self ..)).2.2
theorem Sat.ne {h:za} {L:List HP} {lo:yV} {b c:Nat} {o o':vi} (x:Sat lo h (pt b o :: pt c o' :: L)):¬ b=c:=by
 rintro rfl
 obtain ⟨a,ha,d,w,e,he,de,we,x⟩:=x
 have:=de b o' (by rw [he,Sn rfl])
 rw [yV.v5 (o:=o) (by rw [ha,Sn rfl])] at this
 cases this
theorem Sat.push {h:za} {L:List HP} {lo:yV} (x:Sat lo h L) (o:vi):Sat lo (h.push o) (pt h.next o :: L):=by
 have bs:=x.base
 have hn:lo.get h.next=none:=by
  cases e:lo.get h.next with
  | none=>rfl
  | some y=>exact absurd (bs.get _ _ e).2 (Nat.lt_irrefl _)
 refine ⟨fun y=>if y=h.next then some o else none,fun _=>rfl,fun y p e => ?_,fun y p e => ?_,x.to (fun y hy e => ?_) ⟨bs.ro,Nat.le_succ_of_le bs.Cm,fun y z e => ?_⟩ rfl (TR _) fun y hy _=>zU hy⟩
 ·dsimp only at e;split at e
  ·rename_i q;rw [q];exact hn
  ·cases e
 ·dsimp only at e;split at e
  ·rename_i q;rw [q,<- bs.ro];exact bs.Cm
  ·cases e
 ·rw [yV.uT (by rw [Sl (by omega)])];exact e
 ·by_cases q:y=h.next
  ·subst q
   rw [yV.v5 (o:=o) (by rw [Sn rfl])] at e
   cases e
   exact ⟨yd,Tv _⟩
  ·rw [yV.uT (by rw [Sl q])] at e
   obtain ⟨g1,g2⟩:=bs.get y z e
   exact ⟨(zU g2).trans g1,aas g2⟩
theorem Sat.set {h:za} {L:List HP} {lo:yV} {b:Nat} {o:vi} (x:Sat lo h (pt b o :: L)) (o':vi):Sat lo (h.set b (some o')) (pt b o' :: L):=by
 obtain ⟨a,ha,d,w,x⟩:=x
 have hb:lo.get b=none:=d b o (by rw [ha b,Sn rfl])
 have bs:=x.base
 refine ⟨fun y=>if y=b then some o' else none,fun _=>rfl,fun y p e => ?_,fun y p e => ?_,x.to (fun y hy e => ?_) ⟨bs.ro,bs.Cm,fun y z e => ?_⟩ rfl (Sp _) fun y hy e => ?_⟩
 ·dsimp only at e;split at e
  ·rename_i q;rw [q];exact hb
  ·cases e
 ·dsimp only at e;split at e
  ·rename_i q;rw [q];exact w b o (by rw [ha b,Sn rfl])
  ·cases e
 ·have q:y ≠ b:=by rintro rfl;rw [yV.v5 (o:=o) (by rw [ha,Sn rfl])] at e;cases e
  rw [yV.uT (by rw [ha,Sl q])] at e
  rw [yV.uT (by rw [Sl q])];exact e
 ·by_cases q:y=b
  ·subst q
   rw [yV.v5 (o:=o') (by rw [Sn rfl])] at e
   cases e
   exact ⟨yg,(bs.get y _ (yV.v5 (o:=o) (by rw [ha,Sn rfl]))).2⟩
  ·rw [yV.uT (by rw [Sl q])] at e
   obtain ⟨g1,g2⟩:=bs.get y z (by rw [yV.uT (by rw [ha,Sl q])];exact e)
   exact ⟨(zS q).trans g1,g2⟩
 ·have q:y ≠ b:=by rintro rfl;rw [yV.v5 (o:=o) (by rw [ha,Sn rfl])] at e;cases e
  exact zS q
theorem Sat.forget {h:za} {L:List HP} {lo:yV} {b:Nat} {o:vi} (x:Sat lo h (pt b o :: L)) (z:Option vi):Sat lo (h.set b z) L:=by
 obtain ⟨a,ha,d,w,x⟩:=x
 have hb:lo.get b=none:=d b o (by rw [ha b,Sn rfl])
 have bs:=x.base
 refine x.to (fun y hy e => ?_) ⟨bs.ro,bs.Cm,fun y z e => ?_⟩ rfl (Sp _) fun y hy e => ?_
 ·cases q:lo.get y with
  | none=>rfl
  | some v=>rw [(yV.KE d).get y v q] at e;cases e
 ·have q:y ≠ b:=by rintro rfl;rw [hb] at e;cases e
  obtain ⟨g1,g2⟩:=bs.get y z ((yV.KE d).get y z e)
  exact ⟨(zS q).trans g1,g2⟩
 ·have q:y ≠ b:=by rintro rfl;rw [yV.v5 (o:=o) (by rw [ha,Sn rfl])] at e;cases e
  exact zS q
theorem vy {h:za} {L:List HP} {lo:yV} {c:List Value} {t:TypeId} {K:Value->za->Prop} (s:Sat lo h L) (k:∀ b h',Sat lo h' (pt b (.cells c t) :: L)->K (.pointer (some ⟨b,0,none⟩)) h'):nw h c t K:=k _ _ (s.push _)
theorem wx {h:za} {L:List HP} {lo:yV} {b off:Nat} {cs vs:List Value} {t:TypeId} {K:za->Prop} (s:Sat lo h (pt b (.cells cs t) :: L)) (hl:off + vs.length<=cs.length) (hc:vs.all wZ=true) (k:∀ h',Sat lo h' (pt b (.cells (zf cs off vs) t) :: L)->K h'):opt (vf h b off vs) K:=by
 rw [H2 s.get,Sn ⟨hl,s.wr,hc⟩]
 exact k _ (s.set _)
theorem UF {h:za} {R:Value->za->Prop}:rv [] h R=R (jT []) h:=by
 unfold rv
 simp only [yN,aab]
theorem Sat.Rl {h h':za} {L:List HP} {lo:yV} (x:Sat lo h L) (hn:h.next<=h'.next) (hr:h'.ro=h.ro) (hg:∀ b,b < h.next->h'.get b=h.get b):Sat lo h' L:=by
 have bs:=x.base
 exact x.to (fun _ _ e=>e) ⟨hr.trans bs.ro,by rw [hr];exact S4 bs.Cm hn,fun b y e=>⟨(hg b (bs.get b y e).2).trans (bs.get b y e).1,Sq (bs.get b y e).2 hn⟩⟩ rfl hn fun b hb _=>hg b hb
def ex {α:Type} (f:α->HP):HP:=fun m => ∃ x,f x m
theorem yV.pW {lo:yV} {a:Part} (e:∀ x,a x=none):lo.un a=lo:=by
 unfold yV.un
 cases lo
 congr 1
 funext x
 simp only [e x]
def HZ:List HP->HP
 | []=>fun m => ∀ x,m x=none
 | A :: L=>fun m => ∃ a b,A a/\HZ L b/\(∀ x o,b x=some o->a x=none) /\ ∀ x,m x=match b x with
   | some o=>some o
   | none=>a x
theorem yV.Ml {lo:yV} {a b m:Part} (hm:∀ x,m x=match b x with
  | some o=>some o
  | none=>a x):lo.un m=(lo.un a).un b:=by
 unfold yV.un
 congr 1
 funext x
 rw [hm x]
 cases b x <;> rfl
theorem Sat.dm {h:za} {L:List HP}:∀ {M:List HP} {lo:yV},Sat lo h (HZ M :: L) ↔ Sat lo h (M ++ L)
 | [],lo=>⟨fun ⟨a,ha,d,w,s⟩=>by rw [yV.pW ha] at s;exact s,fun s=>⟨fun _=>none,fun _=>rfl,fun _ _ e=>(by cases e),fun _ _ e=>(by cases e),by rw [yV.pW fun _=>rfl];exact s⟩⟩
 | A :: M,lo=>by
   constructor
   ·rintro ⟨m,⟨a,b,ha,hb,dab,hm⟩,d,w,s⟩
    have da:lo.dj a:=fun x o e=>by
     cases q:b x with
     | none=>exact d x o (by rw [hm x,q];exact e)
     | some p=>rw [dab x p q] at e;cases e
    refine ⟨a,ha,da,fun x o e => ?_,Sat.dm.1 ⟨b,hb,fun x o e => ?_,fun x o e => ?_,?_⟩⟩
    ·cases q:b x with
     | none=>exact w x o (by rw [hm x,q];exact e)
     | some p=>rw [dab x p q] at e;cases e
    ·rw [yV.uT (dab x o e)];exact d x o (by rw [hm x,e])
    ·exact w x o (by rw [hm x,e])
    ·rw [<- yV.Ml hm];exact s
   ·rintro ⟨a,ha,d,w,s⟩
    obtain ⟨b,hb,db,wb,s⟩:=Sat.dm.2 s
    refine ⟨fun x=>match b x with
     | some o=>some o
     | none=>a x,⟨a,b,ha,hb,fun x o e => ?_,fun _=>rfl⟩,fun x o e => ?_,fun x o e => ?_,?_⟩
    ·cases q:a x with
     | none=>rfl
     | some p=>have:=db x o e;rw [yV.v5 q] at this;cases this
    ·dsimp only at e;split at e
     ·rename_i p q;exact yV.GX d db x p q
     ·exact d x o e
    ·dsimp only at e;split at e
     ·rename_i p q;exact wb x p q
     ·exact w x o e
    ·rw [yV.Ml (a:=a) (b:=b) fun _=>rfl];exact s
theorem Sat.open {h:za} {M L:List HP} {lo:yV} (s:Sat lo h (HZ M :: L)):Sat lo h (M ++ L):=Sat.dm.1 s
theorem Sat.self {h:za} (hr:h.ro<=h.next):Sat (.of h) h []:=⟨rfl,hr,fun b x e=>by
 unfold yV.of at e
 dsimp only at e
 split at e
 ·cases e;exact ⟨rfl,by assumption⟩
 ·cases e⟩
theorem Sat.join {h h':za} {L L':List HP} {lo:yV} (x:Sat lo h L) (y:Sat (.of h) h' L'):Sat lo h' (L' ++ L):=by
 have bx:=x.base
 have by':=y.base
 have get:∀ b,b < h.next->h'.get b=h.get b/\b < h'.next:=fun b hb=>by'.get b _ (by unfold yV.of;dsimp only;rw [Sn hb])
 have hn:h.next<=h'.next:=by
  rcases aac h.next with e | e
  ·omega
  ·have:=(get (h.next - 1) (by omega)).2;omega
 have key:∀ (L':List HP) (lo lo2:yV),Sat lo2 h' L'->lo2.ro=lo.ro->(∀ b,b < h.next->lo2.get b ≠ none)->(∀ b,h.next<=b->lo.get b=lo2.get b)->dS lo h' ->
   (∀ lo3,yV.Le lo lo3->(∀ b,b < h.next->lo3.get b=lo.get b)->dS lo3 h'->Sat lo3 h' L)->Sat lo h' (L' ++ L):=by
  intro L'
  induction L' with
  | nil=>intro lo lo2 _ _ _ _ b k;exact k lo (.refl lo) (fun _ _=>rfl) b
  | cons A L' ih=>
    rintro lo lo2 ⟨a,ha,d,w,s⟩ r f e b k
    have up:∀ y o,a y=some o->h.next<=y:=fun y o q=>by
     rcases SC y h.next with z | z
     ·exact absurd (d y o q) (f y z)
     ·exact z
    have bs:=s.base
    have dl:lo.dj a:=fun y o q=>by rw [e y (up y o q)];exact d y o q
    refine ⟨a,ha,dl,fun y o q=>by rw [<- r];exact w y o q,ih (lo.un a) (lo2.un a) s r (fun y hy => ?_) (fun y hy => ?_) ⟨b.ro,b.Cm,fun y z q => ?_⟩ fun lo3 l3 q3 b3=>k lo3 ((yV.KE dl).trans l3) (fun y hy => ?_) b3⟩
    ·cases q:a y with
     | none=>rw [yV.uT q];exact f y hy
     | some o=>rw [yV.v5 q];simp
    ·cases q:a y with
     | none=>rw [yV.uT q,yV.uT q];exact e y hy
     | some o=>rw [yV.v5 q,yV.v5 q]
    ·cases q2:a y with
     | none=>rw [yV.uT q2] at q;exact b.get y z q
     | some o=>rw [yV.v5 q2] at q;cases q;exact bs.get y _ (yV.v5 q2)
    ·rw [q3 y hy]
     cases q:a y with
     | none=>rw [yV.uT q]
     | some o=>have:=up y o q;omega
 have rr:(yV.of h).ro=lo.ro:=bx.ro
 refine key L' lo (.of h) y rr (fun b hb=>by unfold yV.of;dsimp only;rw [Sn hb];simp) (fun b hb => ?_) ⟨by rw [by'.ro];exact rr,by'.Cm,fun b z e => ?_⟩ fun lo3 l3 q3 b3 => ?_
 ·unfold yV.of;dsimp only;rw [Sl (by omega)]
  cases e:lo.get b with
  | none=>rfl
  | some z=>have:=(bx.get b z e).2;omega
 ·obtain ⟨g1,g2⟩:=bx.get b z e
  exact ⟨(get b g2).1.trans g1,(get b g2).2⟩
 ·exact x.to (fun b hb e=>by rw [q3 b hb];exact e) b3 l3.ro hn fun b hb _=>(get b hb).1
theorem Sat.Mf {h h':za}:∀ {L:List HP} {lo lo':yV},Sat lo h L->lo'.get=lo.get->lo'.ro<=lo.ro->h'.ro=lo'.ro->h'.ro<=h'.next->h.next<=h'.next->(∀ b,b < h.next->h'.get b=h.get b)->Sat lo' h' L
 | [],lo,lo',x,g,r,e,k,n,he=>⟨e,k,fun b z hz=>by
   rw [g] at hz
   obtain ⟨h1,h2⟩:=dS.get x b z hz
   exact ⟨(he b h2).trans h1,Sq h2 n⟩⟩
 | A :: L,lo,lo',⟨a,ha,d,w,x⟩,g,r,e,k,n,he=>
   ⟨a,ha,fun y o q=>by rw [g];exact d y o q,fun b o q=>S4 r (w b o q),Sat.Mf x (by unfold yV.un;rw [g]) r e k n he⟩
theorem Sat.qv {h h2:za} {L L':List HP} {lo:yV} (s:Sat lo h L) (s2:Sat (.of h.lock) h2 L'):Sat lo (Go.Ai.qv h h2) (L' ++ L):=by
 have b1:=s.base
 have b2:=s2.base
 have old:∀ b,b < h.next->h2.get b=h.get b/\b < h2.next:=fun b hb=>b2.get b _ (by unfold yV.of;dsimp only;rw [Sn (by exact hb)];rfl)
 have hn:h.next<=h2.next:=by
  rcases aac h.next with e | e
  ·omega
  ·have:=(old (h.next - 1) (by omega)).2;omega
 have gr:(Go.Ai.qv h h2).ro=h.ro:=rfl
 have gn:(Go.Ai.qv h h2).next=h2.next:=rfl
 refine s.join (s2.Mf (lo' := .of h) rfl b1.Cm gr (by rw [gr,gn];exact S4 b1.Cm hn) (by rw [gn];exact Sp _) fun b hb => ?_)
 rw [qH]
 by_cases q:h.next<=b
 ·rw [Sn ⟨q,hb⟩]
 ·rw [Sl (by omega),(old b (by omega)).1]
theorem Di {h:za} {L:List HP} {lo:yV} {c:List Value} {t:TypeId} {K:Value->za->Prop} (s:Sat lo h L) (wf:du h) (k:∀ b h',du h'->Sat lo h' (pt b (.cells c t) :: L)->K (.pointer (some ⟨b,0,none⟩)) h'):nw h c t K:=k _ _ (At wf _) (s.push _)
theorem oZ {P:Program} {g:FuncId} {args:List Value} {h:za} {L:List HP} {lo:yV} {K R:Value->za->Prop} (hc:ux P g=true) (hn:yN args=true) (wf:du h) (s:Sat lo h L) (d:DC P g args h.lock R) (hk:∀ v h2,R v h2->(∀ L',Sat (.of h.lock) h2 L'->Sat lo (qv h h2) (L' ++ L))->du (qv h h2)->K v (qv h h2)):gG P g args h K:=by
 have wl:du h.lock:=⟨wf.1,Sp _⟩
 obtain ⟨v,h1,r,af,t⟩:=d wl
 refine ⟨hc,hn,v,h1,t,af,hk v h1 r (fun L' s2=>s.qv s2) ?_⟩
 have w1:=wl.af af
 have hn:h.next<=h1.next:=af.next
 refine ⟨fun b o hb => ?_,?_⟩
 ·rw [qH] at hb
  show b < h1.next
  split at hb
  ·omega
  ·exact Sq (wf.1 b o hb) hn
 ·show h.ro<=h1.next
  exact S4 wf.2 hn
theorem DC.OY {P:Program} {f:FuncId} {args:List Value} {h:za} {R R':Value->za->Prop} (d:DC P f args h R) (m:∀ v h1,R v h1->du h1->R' v h1):DC P f args h R':=fun wf=>by
 obtain ⟨v,h1,r,af,t⟩:=d wf
 exact ⟨v,h1,m v h1 r (wf.af af),af,t⟩
def own (X:za->(Nat->Prop)->Prop):HP:=fun m => ∃ g,X g (fun b=>m b ≠ none) /\ ∀ b o,m b=some o->g.get b=some o
def Mv (X:za->(Nat->Prop)->Prop):Prop := ∀ g h F G,X g F->(∀ b o,F b->g.get b=some o->h.get b=some o/\G b)->(∀ b,G b->h.ro<=b/\b < h.next)->X h G
theorem Sat.Qs {h:za} {L:List HP} {lo:yV} {X:za->(Nat->Prop)->Prop} (hX:Mv X) (s:Sat lo h (own X :: L)):∃ F:Nat->Prop,X h F/\(∀ b,F b->lo.get b=none/\h.ro<=b/\b < h.next) /\ ∀ h1 F' X',Mv X'->h.next<=h1.next->h1.ro=h.ro->(∀ b,¬ F b->b < h.next->h1.get b=h.get b)->X' h1 F'->(∀ b,F' b->F b\/h.next<=b)->(∀ b,F' b->h1.ro<=b/\b < h1.next)->Sat lo h1 (own X' :: L):=by
 obtain ⟨a,⟨g,hx,hg⟩,d,w,s⟩:=s
 have bs:=s.base
 have bl:=bs.mono (yV.KE d)
 have hF:∀ b,a b ≠ none->lo.get b=none/\h.ro<=b/\b < h.next /\ ∃ o,a b=some o/\h.get b=some o:=fun b hb=>by
  cases e:a b with
  | none=>exact absurd e hb
  | some o=>
    obtain ⟨g1,g2⟩:=bs.get b _ (yV.v5 e)
    exact ⟨d b o e,by rw [bs.ro];exact w b o e,g2,o,rfl,g1⟩
 refine ⟨fun b=>a b ≠ none,hX g h _ _ hx (fun b o hb hgb => ?_) (fun b hb=>⟨(hF b hb).2.1,(hF b hb).2.2.1⟩),fun b hb=>⟨(hF b hb).1,(hF b hb).2.1,(hF b hb).2.2.1⟩,fun h1 F' X' hX' hn hr hget hx' hsub hok => ?_⟩
 ·obtain ⟨_,_,_,o',e,g1⟩:=hF b hb
  rw [hg b o' e] at hgb
  cases hgb
  exact ⟨g1,hb⟩
 ·classical
  let a':Part:=fun b=>if F' b then h1.get b else none
  have ha':∀ b o,a' b=some o->F' b/\h1.get b=some o:=fun b o e=>by
   have e:(if F' b then h1.get b else none)=some o:=e
   split at e
   ·rename_i q;exact ⟨q,e⟩
   ·cases e
  have out:∀ b o,a' b=some o->lo.get b=none:=fun b o e=>by
   rcases hsub b (ha' b o e).1 with q | q
   ·exact (hF b q).1
   ·cases e2:lo.get b with
    | none=>rfl
    | some z=>have:=(bl.get b z e2).2;omega
  refine ⟨a',⟨h1,hX' h1 h1 F' _ hx' (fun b o hb e=>⟨e,by show (if F' b then h1.get b else none) ≠ none;rw [Sn hb,e];simp⟩) (fun b hb => ?_),fun b o e=>(ha' b o e).2⟩,out,fun b o e => ?_,s.to (fun b hb e => ?_) ⟨by rw [hr];exact bs.ro,?_,fun b z e => ?_⟩ rfl hn fun b hb e => ?_⟩
  ·cases e:a' b with
   | none=>exact absurd e hb
   | some o=>exact hok b (ha' b o e).1
  ·have:=(hok b (ha' b o e).1).1
   rw [hr,bl.ro] at this;exact this
  ·cases e2:a b with
   | some o=>rw [yV.v5 e2] at e;cases e
   | none=>
     rw [yV.uT e2] at e
     cases e3:a' b with
     | none=>rw [yV.uT e3];exact e
     | some o=>
       rcases hsub b (ha' b o e3).1 with q | q
       ·exact absurd e2 q
       ·omega
  ·rw [hr];exact S4 bs.Cm hn
  ·cases e3:a' b with
   | some o=>
     rw [yV.v5 e3] at e;cases e
     exact ⟨(ha' b o e3).2,(hok b (ha' b o e3).1).2⟩
   | none=>
     rw [yV.uT e3] at e
     obtain ⟨g1,g2⟩:=bl.get b z e
     refine ⟨(hget b (fun q => ?_) g2).trans g1,Sq g2 hn⟩
     rw [(hF b q).1] at e;cases e
  ·cases e2:a b with
   | some o=>rw [yV.v5 e2] at e;cases e
   | none=>exact hget b (fun q=>q e2) hb
theorem Sat.Li {h h1:za} {L:List HP} {lo:yV} {X:za->(Nat->Prop)->Prop} {F:Nat->Prop} (hX:Mv X) (s:Sat lo h L) (hn:h.next<=h1.next) (hr:h1.ro=h.ro) (hget:∀ b,b < h.next->h1.get b=h.get b) (hx:X h1 F) (hF:∀ b,F b->h.next<=b/\b < h1.next):Sat lo h1 (own X :: L):=by
 classical
 have bl:=s.base
 let a:Part:=fun b=>if F b then h1.get b else none
 have ha:∀ b o,a b=some o->F b/\h1.get b=some o:=fun b o e=>by
  have e:(if F b then h1.get b else none)=some o:=e
  split at e
  ·rename_i q;exact ⟨q,e⟩
  ·cases e
 have out:∀ b o,a b=some o->lo.get b=none:=fun b o e=>by
  have:=(hF b (ha b o e).1).1
  cases e2:lo.get b with
  | none=>rfl
  | some z=>have:=(bl.get b z e2).2;omega
 have Cm:h1.ro<=h.next:=by rw [hr];exact bl.Cm
 refine ⟨a,⟨h1,hX h1 h1 F _ hx (fun b o hb e=>⟨e,by show (if F b then h1.get b else none) ≠ none;rw [Sn hb,e];simp⟩) (fun b hb => ?_),fun b o e=>(ha b o e).2⟩,out,fun b o e => ?_,s.to (fun b hb e => ?_) ⟨by rw [hr];exact bl.ro,S4 Cm hn,fun b z e => ?_⟩ rfl hn fun b hb e=>hget b hb⟩
 ·cases e:a b with
  | none=>exact absurd e hb
  | some o=>have:=hF b (ha b o e).1;omega
 ·have:=hF b (ha b o e).1
  have:=bl.ro
  omega
 ·cases e3:a b with
  | none=>rw [yV.uT e3];exact e
  | some o=>have:=hF b (ha b o e3).1;omega
 ·cases e3:a b with
  | some o=>
    rw [yV.v5 e3] at e;cases e
    exact ⟨(ha b o e3).2,(hF b (ha b o e3).1).2⟩
  | none=>
    rw [yV.uT e3] at e
    obtain ⟨g1,g2⟩:=bl.get b z e
    exact ⟨(hget b g2).trans g1,Sq g2 hn⟩
structure yV.Has (lo:yV) (h0:za):Prop where
 ro:lo.ro=h0.ro
 get:∀ b,b < h0.next->lo.get b=some (h0.get b)
theorem yV.Has.mono {lo lo':yV} {h0:za} (x:lo.Has h0) (l:lo.Le lo'):lo'.Has h0:=⟨l.ro.trans x.ro,fun b hb=>l.get b _ (x.get b hb)⟩
theorem yV.qc (h:za):(yV.of h).Has h:=⟨rfl,fun b hb=>by unfold yV.of;dsimp only;rw [Sn hb]⟩
theorem yV.Has.old {lo:yV} {h0 h:za} (x:lo.Has h0) (b:dS lo h):h0.next<=h.next/\h.ro=h0.ro /\ ∀ c,c < h0.next->h.get c=h0.get c:=by
 refine ⟨?_,b.ro.trans x.ro,fun c hc=>(b.get c _ (x.get c hc)).1⟩
 rcases aac h0.next with e | e
 ·omega
 ·have:=(b.get (h0.next - 1) _ (x.get _ (by omega))).2;omega
end
theorem yL (A:(List Value->za->Prop)->Prop) (J:List Value->za->Prop):BK A J=A J:=rfl
end Go.Ai
