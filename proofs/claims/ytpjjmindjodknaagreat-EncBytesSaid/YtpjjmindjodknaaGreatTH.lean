import Derived.Test.YtpjjmindjodknaaGreatTG
set_option linter.unusedVariables false
set_option linter.unusedSimpArgs false
set_option maxRecDepth 100000
namespace Go.Ai
noncomputable section
variable {P:Program}
def uQ (q:FuncId->Nat) (o:Oper):Nat:=match o.op with
 | .load _ _=>1
 | .store _ _ _=>2
 | _=>(match xZ q o with
   | 0=>0
   | 1=>3
   | _=>4)
def EN (x y:Nat):Bool:=Nat.beq x 0 || Nat.beq y 0 || ((Nat.beq x 1 || Nat.beq x 3) && (Nat.beq y 1 || Nat.beq y 3)) || (Nat.beq x 1 && Nat.beq y 2) || (Nat.beq x 2 && Nat.beq y 1)
def bR (q:FuncId->Nat):List Oper->List Nat->List (Nat × Nat)->Bool
 | [],_,_=>true
 | o :: os,ms,prev=>Nat.ble (uQ q o) 3 && (prev.all fun x=>(yN ms o).testBit x.1 || EN x.2 (uQ q o)) && bR q os (ms ++ [yN ms o]) ((ms.length,uQ q o) :: prev)
def DX (q:FuncId->Nat) (ops:Array Oper):Bool:=ZD ops ops.toList 0 [] [] && bR q ops.toList [] []
def Fk (P:Program) (t:TypeId):Nat:=match zT P (isAgg t) with
 | some true=>(match zT P (sizeOf t) with
   | some n=>n
   | none=>0)
 | _=>1
def Hm (P:Program) (t:TypeId):Nat:=match zT P (sizeOf t) with
 | some n=>n
 | none=>0
def Ft (n:Nat) (a:Value) (m:Nat) (c:Value):Prop:=match a,c with
 | .pointer (some ⟨b,o,none⟩),.pointer (some ⟨c,p,none⟩)=>b ≠ c\/o + n<=p\/p + m<=o
 | _,_=>False
theorem GO {n m b o c p:Nat}:Ft n (.pointer (some ⟨b,o,none⟩)) m (.pointer (some ⟨c,p,none⟩))=(b ≠ c\/o + n<=p\/p + m<=o):=rfl
def KU (m:Nat) (st:Bool) (n:Nat) (a:Value):List (Nat × Bool × Nat × Value)->Prop->Prop
 | [],Q=>Q
 | x :: l,Q=>Hl (m.testBit x.1 || (st == x.2.1)) (KU m st n a l Q) (Ft n a x.2.2.1 x.2.2.2/\KU m st n a l Q)
def Cx (P:Program) (s:Env) (o:Oper) (m:Nat) (fl:List (Nat × Bool × Nat × Value)) (h:za) (K:Value->za->Prop):Prop:=match o.op with
 | .load t a=>KU m false (Fk P t) (ev s a) fl (opt (zc P t (ev s a) h) fun v=>K v h)
 | .store t a x=>KU m true (Hm P t) (ev s a) fl (opt (nb [ev s x] (zZ P t (ev s a) (ev s x) h)) fun h'=>K undef h')
 | .call { callee := .value (.func g),args,argTypes }=>uj P g (Jm s args.toList) h fun v=>K v h
 | _=>EJ P s o h K
def rC (P:Program) (s:Env) (o:Oper) (i:Nat) (fl:List (Nat × Bool × Nat × Value)):List (Nat × Bool × Nat × Value):=match o.op with
 | .load t a=>fl ++ [(i,false,Fk P t,ev s a)]
 | .store t a _=>fl ++ [(i,true,Hm P t,ev s a)]
 | _=>fl
def rA (P:Program) (ops:Array Oper):List Oper->Nat->List Nat->List (Nat × Bool × Nat × Value)->Env->za->(Env->za->Prop)->Prop
 | [],_,_,_,s,h,K=>K s h
 | o :: os,i,ms,fl,s,h,K=>(match o.guard with
   | none=>Cx P s o (yN ms o) fl h fun v h1=>(match s.put o.dst v with
     | some s1=>rA P ops os (i + 1) (ms ++ [yN ms o]) (rC P s o i fl) s1 h1 K
     | none=>False)
   | some (j,want)=>(match (ops[j]?).bind (·.dst) with
     | none=>False
     | some d=>GD (s.get d) want (Cx P s o (yN ms o) fl h) (fun v h1=>(match s.put o.dst v with
       | some s1=>rA P ops os (i + 1) (ms ++ [yN ms o]) (rC P s o i fl) s1 h1 K
       | none=>False)) h))
def Ae (P:Program) (q:FuncId->Nat) (ops:Array Oper) (s:Env) (h:za) (K:Env->za->Prop):Prop:=Hl (DX q ops) (rA P ops ops.toList 0 [] [] s h K) False
theorem Uo {m:Nat} {st:Bool} {n:Nat} {a:Value}:∀ {l:List (Nat × Bool × Nat × Value)} {Q:Prop},KU m st n a l Q->Q /\ ∀ x,x ∈ l->m.testBit x.1=false->x.2.1 ≠ st->Ft n a x.2.2.1 x.2.2.2
 | [],Q,h=>⟨h,fun x hx=>(by cases hx)⟩
 | y :: l,Q,h=>by
   unfold KU at h
   cases hb:(m.testBit y.1 || (st == y.2.1)) with
   | true=>
     rw [hb] at h
     obtain ⟨h1,h2⟩:=Uo (l:=l) h
     refine ⟨h1,fun x hx hm hs => ?_⟩
     rcases Ox.1 hx with rfl | hx
     ·rw [hm,Bool.false_or,beq_iff_eq] at hb;exact absurd hb.symm hs
     ·exact h2 x hx hm hs
   | false=>
     rw [hb] at h
     obtain ⟨h0,h⟩:=h
     obtain ⟨h1,h2⟩:=Uo (l:=l) h
     refine ⟨h1,fun x hx hm hs => ?_⟩
     rcases Ox.1 hx with rfl | hx
     ·exact h0
     ·exact h2 x hx hm hs
theorem br (vs:List Value):∀ (c:List Value) (o k:Nat),k < o\/o + vs.length<=k->(zt c o vs)[k]? = c[k]?:=by
 induction vs with
 | nil=>intro c o k _;rfl
 | cons v vs ih=>
   intro c o k hk
   simp only [zt]
   simp only [OM] at hk
   rw [ih _ _ _ (by omega),OY (by omega)]
theorem bc {c vs:List Value} {t:TypeId} {o off n:Nat} (h:off + n<=o\/o + vs.length<=off):Jn (some (.cells (zt c o vs) t)) off n=Jn (some (.cells c t)) off n:=by
 simp only [Jn,Xc]
 by_cases hl:off + n<=c.length
 ·rw [NK hl,NK hl]
  congr 1
  apply O2
  intro k
  by_cases hk:k < n
  ·rw [Ob hk,Ob hk,Od,Od,br _ _ _ _ (by omega)]
  ·rw [NM (by simp;omega),NM (by simp;omega)]
 ·rw [NJ hl,NJ hl]
theorem BS {t:TypeId} {b off:Nat} {g g2:za} {v:Value} (h:zc P t (.pointer (some ⟨b,off,none⟩)) g=some v) (e:Jn (g2.get b) off (Fk P t)=Jn (g.get b) off (Fk P t)):zc P t (.pointer (some ⟨b,off,none⟩)) g2=some v:=by
 unfold zc Fk at *
 simp only at *
 cases hg:g.get b with
 | none=>rw [hg] at h;cases h
 | some ob=>
   rw [hg] at h e
   cases ob with
   | cells c t1=>
     simp only at h
     cases ha:zT P (isAgg t) with
     | none=>rw [ha] at h;cases h
     | some ag=>
       rw [ha] at h e
       cases ag with
       | true=>
         simp only at h e
         cases hs:zT P (sizeOf t) with
         | none=>rw [hs] at h;cases h
         | some n=>
           rw [hs] at h e
           simp only at h e
           obtain ⟨hle,h⟩:=zn h
           rw [Po] at hle
           simp only [Jn,NK hle] at e
           cases hg2:g2.get b with
           | none=>rw [hg2] at e;cases e
           | some ob2=>
             rw [hg2] at e
             cases ob2 with
             | cells c2 t2=>
               simp only at e
               split at e
               ·rename_i hle2
                simp only [Nz] at e
                simp only [show Nat.ble (off + n) c2.length=true by rw [Po];exact hle2,NR,e]
                exact h
               ·cases e
             | _=>simp at e
       | false=>
         simp only at h e
         have hlt:off < c.length:=by
          rcases NZ off c.length with q | q
          ·exact q
          ·rw [NM q] at h;cases h
         simp only [Jn,NK (show off + 1<=c.length from hlt)] at e
         cases hg2:g2.get b with
         | none=>rw [hg2] at e;cases e
         | some ob2=>
           rw [hg2] at e
           cases ob2 with
           | cells c2 t2=>
             simp only at e
             split at e
             ·simp only [Nz] at e
              have:=congrArg (fun l=>l[0]?) e
              simp only [Ob (Nat.zero_lt_one),Od,Nat.add_zero] at this
              exact this.trans h
             ·cases e
           | _=>simp at e
   | _=>simp at h
def Cq (P:Program) (ops:Array Oper) (x:yr):Option (Nat × Nat × Nat):=match x.o.op with
 | .load t a=>(match qI x.s a with
   | some (.pointer (some ⟨b,off,none⟩))=>cond (yi ops x.s x.o) (some (b,off,Fk P t)) none
   | _=>none)
 | _=>none
structure RZ (P:Program) (q:FuncId->Nat) (ops:Array Oper) (fl:List (Nat × Bool × Nat × Value)) (x:yr):Prop where
 k0:uQ q x.o=0->(∀ b,x.rd b=false) /\ ∀ b,x.tc b=false
 LL:uQ q x.o=1\/uQ q x.o=3->∀ b,x.tc b=false
 k1:uQ q x.o=1->(∀ b,x.rd b=false) \/ ∃ b off sp n,(∀ c,x.rd c=true->c=b)/\(sp=none->Cq P ops x=some (b,off,n))/\(x.j,false,n,Value.pointer (some ⟨b,off,sp⟩)) ∈ fl
 k2:uQ q x.o=2->((∀ b,x.rd b=false) /\ ∀ b,x.tc b=false) \/ ∃ b off n c vs t,(∀ d,x.rd d=true ↔ d=b)/\(∀ d,x.tc d=true ↔ d=b)/\x.g.get b=some (.cells c t)/\x.g'.get b=some (.cells (zt c off vs) t)/\vs.length=n/\(x.j,true,n,Value.pointer (some ⟨b,off,none⟩)) ∈ fl
theorem RZ.mono {q:FuncId->Nat} {ops:Array Oper} {fl fl':List (Nat × Bool × Nat × Value)} {x:yr} (r:RZ P q ops fl x) (h:∀ e,e ∈ fl->e ∈ fl'):RZ P q ops fl' x :=
 ⟨r.k0,r.LL,fun e=>by
  rcases r.k1 e with h1 | ⟨b,off,sp,n,h1,h2,h3⟩
  ·exact .inl h1
  ·exact .inr ⟨b,off,sp,n,h1,h2,h _ h3⟩,fun e=>by
  rcases r.k2 e with h1 | ⟨b,off,n,c,vs,t,h1,h2,h3,h4,h5,h6⟩
  ·exact .inl h1
  ·exact .inr ⟨b,off,n,c,vs,t,h1,h2,h3,h4,h5,h _ h6⟩⟩
structure Yo (P:Program) (ops:Array Oper) (s0:Env) (h0:za) (A:List yr) (i:Nat) (s:Env) (h:za):Prop where
 js:A.map (·.j)=List.range i
 env:∀ t,s.get t=XO A s0 t
 size:s.size=s0.size
 heap:∀ b,h.get b=ZA A h0 b
 ro:h.ro=h0.ro
 next:h.next=h0.next
 wf:WF h
 told:∀ A1 r A2,A=A1 ++ r :: A2->C1 (Cq P ops) P ops s0 h0 A1 r
 X9:∀ A1 r A2,A=A1 ++ r :: A2->∀ e,e ∈ r.o.after->Region.binds .any e=true->∃ x,x ∈ A1/\x.j=e.on
 apart:∀ A1 x A2 y A3,A=A1 ++ x :: (A2 ++ y :: A3)->Prec ops x.j y.j\/YK (Cq P ops) ops x y
structure bV (P:Program) (q:FuncId->Nat) (ops:Array Oper) (s0:Env) (h0:za) (A:List yr) (i:Nat) (o:Oper) (s:Env) (h:za) (u:Value) (h1:za) (m:Nat) (fl fl1:List (Nat × Bool × Nat × Value)) (y:yr):Prop where
 hj:y.j=i
 yz:y.o=o
 Ef:y.v=u
 told:C1 (Cq P ops) P ops s0 h0 A y
 rz:RZ P q ops fl1 y
 heap:∀ b,h1.get b=if y.tc b=true then y.g'.get b else h.get b
 ro:h1.ro=h.ro
 next:h1.next=h.next
 wf:WF h1
 af:AF h h1
 KU:∀ e,e ∈ fl->m.testBit e.1=false->(uQ q o=1/\e.2.1=true->((∀ b,y.rd b=false) \/ ∃ b off sp n,(∀ c,y.rd c=true->c=b)/\(sp=none->Cq P ops y=some (b,off,n))/\Ft n (.pointer (some ⟨b,off,sp⟩)) e.2.2.1 e.2.2.2)) /\
  (uQ q o=2/\e.2.1=false->((∀ b,y.tc b=false) \/ ∃ b off n c vs t,(∀ d,y.rd d=true ↔ d=b)/\(∀ d,y.tc d=true ↔ d=b)/\y.g.get b=some (.cells c t)/\y.g'.get b=some (.cells (zt c off vs) t)/\vs.length=n/\Ft n (.pointer (some ⟨b,off,none⟩)) e.2.2.1 e.2.2.2))
section
variable {q:FuncId->Nat} {ops:Array Oper} {s0:Env} {h0:za} {A:List yr} {i:Nat} {o:Oper} {s:Env} {h:za} {m:Nat} {fl fl1:List (Nat × Bool × Nat × Value)}
theorem QR (F:Yo P ops s0 h0 A i s h) (ho:ops[i]? = some o) (hput:∀ d,o.dst=some d->d < s.size) {u:Value} (hs:kP P ops s o (h.pick []) u (h.pick [])) (hlk:∀ t a,o.op = .load t a->yi ops s o=false):∃ y,bV P q ops s0 h0 A i o s h u h m fl fl1 y:=by
 refine ⟨⟨i,o,u,s,h.pick [],h.pick [],fun _=>false,fun _=>false⟩,rfl,rfl,rfl,
  ⟨⟨ho,F.env,F.size,fun b=>by rw [uk];simp,F.ro,by show h0.next<=h.next;rw [F.next];exact NG _,fun x hx => ?_,NG _,hs,fun d hd=>by rw [<- F.size];exact hput d hd,fun b hb=>(by cases hb),fun b _=>rfl,fun b o' hb=>(by cases hb)⟩,⟨F.next,F.next⟩,fun b0 off n e => ?_⟩,
  ⟨fun _=>⟨fun _=>rfl,fun _=>rfl⟩,fun _ _=>rfl,fun _ => .inl fun _=>rfl,fun _ => .inl ⟨fun _=>rfl,fun _=>rfl⟩⟩,fun b=>by simp,rfl,rfl,F.wf,.refl _,fun e he hm=>⟨fun _ => .inl fun _=>rfl,fun _ => .inl fun _=>rfl⟩⟩
 ·obtain ⟨A1,A2,rfl⟩:=N9 hx
  have:=(F.told A1 x A2 rfl).still.2
  show x.g'.next<=h.next
  rw [this,F.next];exact NG _
 ·exfalso
  unfold Cq at e
  simp only at e
  split at e
  ·rename_i t a yz
   split at e
   ·rw [hlk t a yz] at e;cases e
   ·cases e
  ·cases e
theorem Av (F:Yo P ops s0 h0 A i s h):∀ x,x ∈ A->x.g'.next<=h.next:=fun x hx=>by
 obtain ⟨A1,A2,rfl⟩:=N9 hx
 have:=(F.told A1 x A2 rfl).still.2
 rw [this,F.next];exact NG _
theorem EB (F:Yo P ops s0 h0 A i s h):h0.next<=h.next:=by rw [F.next];exact NG _
theorem Iy {h:za} (w:WF h) {b:Nat} (hb:¬ b < h.next):h.get b=none:=by
 cases hh:h.get b with | none=>rfl | some o'=>exact absurd (w b o' hh) hb
theorem fk (F:Yo P ops s0 h0 A i s h) (ho:ops[i]? = some o) (hput:∀ d,o.dst=some d->d < s.size) {u:Value} (hs:kP P ops s o h u h) (hk:uQ q o=3):∃ y,bV P q ops s0 h0 A i o s h u h m fl fl1 y:=by
 have hrd:∀ b,(Nat.blt b h.next=true) ↔ b < h.next:=fun b=>by rw [Of]
 have nl:∀ t a,o.op = .load t a->False:=fun t a e=>by unfold uQ at hk;rw [e] at hk;cases hk
 refine ⟨⟨i,o,u,s,h,h,fun b=>Nat.blt b h.next,fun _=>false⟩,rfl,rfl,rfl,
  ⟨⟨ho,F.env,F.size,fun b => ?_,F.ro,EB F,Av F,NG _,hs,fun d hd=>by rw [<- F.size];exact hput d hd,fun b hb=>(by cases hb),fun b _=>rfl,fun b o' hb=>(by cases hb)⟩,⟨F.next,F.next⟩,fun b0 off n e => ?_⟩,
  ⟨fun e=>by simp only at e;omega,fun _ _=>rfl,fun e=>by simp only at e;omega,fun e=>by simp only at e;omega⟩,fun b=>by simp,rfl,rfl,F.wf,.refl _,fun e he hm=>⟨fun ⟨e,_⟩=>by omega,fun ⟨e,_⟩=>by omega⟩⟩
 ·show h.get b=if Nat.blt b h.next=true then ZA A h0 b else none
  by_cases hb:b < h.next
  ·rw [NK ((hrd b).2 hb),F.heap]
  ·rw [NJ (fun e=>hb ((hrd b).1 e)),Iy F.wf hb]
 ·exfalso
  unfold Cq at e
  cases yz:o.op <;> simp only [yz] at e <;> first | (cases e;done) | exact nl _ _ yz
theorem sE (F:Yo P ops s0 h0 A i s h) (ho:ops[i]? = some o) (hput:∀ d,o.dst=some d->d < s.size) (hw:yi ops s o=true) {t:TypeId} {a:Operand} (yz:o.op = .load t a) {av u:Value} (hav:qI s a=some av) (hl:zc P t av h=some u)
  (hcl:∀ e,e ∈ fl->m.testBit e.1=false->e.2.1 ≠ false->Ft (Fk P t) av e.2.2.1 e.2.2.2):∃ y,bV P q ops s0 h0 A i o s h u h m fl (fl ++ [(i,false,Fk P t,av)]) y:=by
 have hk1:uQ q o=1:=by unfold uQ;rw [yz]
 obtain ⟨b,off,sp,rfl,hsp⟩:∃ b off sp,av = .pointer (some ⟨b,off,sp⟩) /\ ∀ g:za,g.get b=h.get b->zc P t av g=some u:=by
  unfold zc at hl
  split at hl
  ·rename_i b off
   exact ⟨b,off,none,rfl,fun g hg=>by unfold zc;simp only;rw [hg];exact hl⟩
  ·rename_i b off
   exact ⟨b,off,some 0,rfl,fun g hg=>by unfold zc;simp only;rw [hg];exact hl⟩
  ·cases hl
 have Mi:∀ g:za,zc P t (.pointer (some ⟨b,off,sp⟩)) g=some u->kP P ops s o g u g:=fun g hg => .inr ⟨hw,.inl (by unfold VL;simp only [yz,hav,hg,one])⟩
 refine ⟨⟨i,o,u,s,h.pick [b],h.pick [b],fun c=>decide (c=b),fun _=>false⟩,rfl,rfl,rfl,
  ⟨⟨ho,F.env,F.size,fun c => ?_,F.ro,(EB F:h0.next<=h.next),fun x hx=>Av F x hx,NG _,Mi _ (hsp _ (by rw [uk,NK (by simp)])),fun d hd=>by rw [<- F.size];exact hput d hd,fun b hb=>(by cases hb),fun b _=>rfl,fun b o' hb=>(by cases hb)⟩,⟨F.next,F.next⟩,fun b0 off0 n e => ?_⟩,
  ⟨fun e=>by simp only at e;omega,fun _ _=>rfl,fun _ => .inr ⟨b,off,sp,Fk P t,fun c hc=>by simpa using hc,fun hsp0 => ?_,by simp⟩,fun e=>by simp only at e;omega⟩,fun b=>by simp,rfl,rfl,F.wf,.refl _,fun e he hm=>⟨fun ⟨_,h1⟩ => .inr ⟨b,off,sp,Fk P t,fun c hc=>by simpa using hc,fun hsp0 => ?_,hcl e he hm (by rw [h1];simp)⟩,fun ⟨e,_⟩=>by omega⟩⟩
 ·show (h.pick [b]).get c=if decide (c=b)=true then ZA A h0 c else none
  rw [uk]
  by_cases e:c=b
  ·subst e;simp [F.heap]
  ·simp [e]
 ·unfold Cq at e
  simp only [yz,hav] at e
  cases sp with
  | some k=>simp at e
  | none=>
    simp only [hw,NR,Nz,NB] at e
    obtain ⟨rfl,rfl,rfl⟩:=e
    exact ⟨by simp,fun c hc=>by simpa using hc,fun _=>rfl,fun g hg=>Mi g (BS (hsp _ (by rw [uk,NK (by simp)])) hg)⟩
 ·subst hsp0;unfold Cq;simp only [yz,hav,hw,NR]
 ·subst hsp0;unfold Cq;simp only [yz,hav,hw,NR]
theorem pF (F:Yo P ops s0 h0 A i s h) (ho:ops[i]? = some o) (hput:∀ d,o.dst=some d->d < s.size) (hw:yi ops s o=true) {t:TypeId} {a x:Operand} (yz:o.op = .store t a x) {av xv:Value} (hav:qI s a=some av) (hxv:qI s x=some xv) {h1:za} (hl:zZ P t av xv h=some h1)
  (hcl:∀ e,e ∈ fl->m.testBit e.1=false->e.2.1 ≠ true->Ft (Hm P t) av e.2.2.1 e.2.2.2):∃ y,bV P q ops s0 h0 A i o s h undef h1 m fl (fl ++ [(i,true,Hm P t,av)]) y:=by
 have hk2:uQ q o=2:=by unfold uQ;rw [yz]
 have af:=iu hl
 obtain ⟨b,off,c,t',rfl,hg,hn,hh1,hst⟩:∃ b off c t',av = .pointer (some ⟨b,off,none⟩)/\h.get b=some (.cells c t')/\xv.cells.size=Hm P t/\h1=h.set b (some (.cells (zt c off xv.cells.toList) t')) /\
   ∀ g:za,g.get b=h.get b->g.ro=h.ro->zZ P t av xv g=some (g.set b (some (.cells (zt c off xv.cells.toList) t'))):=by
  unfold zZ at hl
  split at hl
  ·rename_i b off
   split at hl
   ·cases hl
   ·rename_i c t' hg
    split at hl
    ·cases hl
    ·rename_i n hs
     obtain ⟨hc,hl⟩:=zn hl
     simp only [Nz] at hl
     have hc':=hc
     simp only [ND,PF] at hc'
     refine ⟨b,off,c,t',rfl,hg,?_,hl.symm,fun g hgg hro => ?_⟩
     ·unfold Hm;rw [hs];exact hc'.1.1.1
     ·unfold zZ;simp only;rw [hgg,hg];simp only [hs,hro,hc,NR]
   ·cases hl
  ·cases hl
 subst hh1
 have eq1:∀ d,(decide (d=b)=true) ↔ d=b:=fun d=>by simp
 have g2:((h.pick [b]).set b (some (.cells (zt c off xv.cells.toList) t'))).get b=some (.cells (zt c off xv.cells.toList) t'):=by rw [za.yj,NK rfl]
 have g1:(h.pick [b]).get b=some (.cells c t'):=by rw [uk,NK (by simp)];exact hg
 refine ⟨⟨i,o,undef,s,h.pick [b],(h.pick [b]).set b (some (.cells (zt c off xv.cells.toList) t')),fun d=>decide (d=b),fun d=>decide (d=b)⟩,rfl,rfl,rfl,
  ⟨⟨ho,F.env,F.size,fun d => ?_,F.ro,(EB F:h0.next<=h.next),fun x hx=>Av F x hx,NG _,.inr ⟨hw,.inl ?_⟩,fun d hd=>by rw [<- F.size];exact hput d hd,fun d hd => .inl hd,fun d hd => ?_,fun d o' hd _ _ => ?_⟩,⟨F.next,F.next⟩,fun b0 off0 n e => ?_⟩,
  ⟨fun e=>by simp only at e;omega,fun e=>by simp only at e;omega,fun e=>by simp only at e;omega,fun _ => .inr ⟨b,off,Hm P t,c,xv.cells.toList,t',eq1,eq1,g1,g2,by simpa using hn,by simp⟩⟩,fun d => ?_,rfl,rfl,fun d o' hd => ?_,af,fun e he hm=>⟨fun ⟨e,_⟩=>by omega,fun ⟨_,h1⟩ => .inr ⟨b,off,Hm P t,c,xv.cells.toList,t',eq1,eq1,g1,g2,by simpa using hn,hcl e he hm (by rw [h1];simp)⟩⟩⟩
 ·show (h.pick [b]).get d=if decide (d=b)=true then ZA A h0 d else none
  rw [uk]
  by_cases e:d=b
  ·subst e;simp [F.heap]
  ·simp [e]
 ·unfold VL;simp only [yz,hav,hxv,hst (h.pick [b]) (by rw [uk,NK (by simp)]) rfl]
 ·have hd:decide (d=b)=false:=hd
  have:d ≠ b:=fun e=>by rw [(eq1 d).2 e] at hd;cases hd
  rw [za.yj,NJ this]
 ·have:=(eq1 d).1 hd;subst this;rw [g1];simp
 ·exfalso;unfold Cq at e;simp only [yz] at e;cases e
 ·show (h.set b _).get d=if decide (d=b)=true then _ else _
  by_cases e:d=b
  ·subst e;rw [NK (by simp),za.yj,NK rfl,za.yj,NK rfl]
  ·rw [NJ (by simp [e]),za.yj,NJ e]
 ·rw [za.yj] at hd
  show d < h.next
  split at hd
  ·rename_i e;subst e;exact F.wf _ _ hg
  ·exact F.wf _ _ hd
theorem iW (F:Yo P ops s0 h0 A i s h) (hron:h.ro<=h.next) (ho:ops[i]? = some o) (hput:∀ d,o.dst=some d->d < s.size) (hw:yi ops s o=true) (hkz:uQ q o<=3) {r:Env} (hl:Le r s)
  {K:Value->za->Prop} (hk:Cx P r o m fl h K):∃ v u h1 y,(ya v=true\/v=u)/\K v h1/\bV P q ops s0 h0 A i o s h u h1 m fl (rC P r o i fl) y:=by
 unfold Cx at hk
 split at hk
 ·rename_i t a yz
  obtain ⟨hk,hc⟩:=Uo hk
  obtain ⟨v,he,hK⟩:=uB hk
  have hnb:ya (ev r a)=false:=by
   cases hb:ya (ev r a) with
   | false=>rfl
   | true=>obtain ⟨k,p,z,e2⟩:=Yl hb;rw [e2] at he;cases he
  have hav:=jW hl hnb
  obtain ⟨y,hy⟩:=sE (q:=q) (m:=m) (fl:=fl) F ho hput hw yz hav he hc
  exact ⟨v,v,h,y,.inr rfl,hK,by unfold rC;simp only [yz];exact hy⟩
 ·rename_i t a x yz
  obtain ⟨hk,hc⟩:=Uo hk
  obtain ⟨h1,he,hK⟩:=uB hk
  obtain ⟨hn,he⟩:=uv he
  have hnx:ya (ev r x)=false:=by
   cases hb:ya (ev r x) with
   | false=>rfl
   | true=>simp only [yB,hb,NR] at hn;cases hn
  have hnb:ya (ev r a)=false:=by
   cases hb:ya (ev r a) with
   | false=>rfl
   | true=>obtain ⟨k,p,z,e2⟩:=Yl hb;rw [e2] at he;cases he
  obtain ⟨y,hy⟩:=pF (q:=q) (m:=m) (fl:=fl) F ho hput hw yz (jW hl hnb) (jW hl hnx) he hc
  exact ⟨undef,undef,h1,y,.inr rfl,hK,by unfold rC;simp only [yz];exact hy⟩
 ·rename_i g args ts yz
  obtain ⟨hc,hn,v,hsc,hT,hK⟩:=hk
  have ef:qI s (.func g)=some (.func (.func g) #[] #[]):=rfl
  have hT2:TC P g (Jm r args.toList) h (fun v1 h1=>v1=v/\h1=h) :=
   (hT.quiet (fun v1 _ e=>by rw [e];exact hsc)).mono (by rintro v1 h1 ⟨⟨_,e1⟩,e2⟩;exact ⟨e1,e2⟩)
  have hk3:uQ q o=3:=by
   unfold uQ at hkz ⊢
   simp only [yz] at hkz ⊢
   have:xZ q o=Ja (q g):=by unfold xZ;simp only [yz]
   rw [this] at hkz ⊢
   have kc:Ja (q g)=1\/Ja (q g)=2\/Ja (q g)=3:=by unfold Ja;split <;> simp
   rcases kc with e | e | e <;> rw [e] at hkz ⊢ <;> simp at hkz ⊢
  obtain ⟨y,hy⟩:=fk (q:=q) (m:=m) (fl:=fl) (fl1:=rC P r o i fl) F ho hput (u:=v) (.inr ⟨hw,.inr (.inl ⟨.func g,args,ts,g,#[],#[],_,yz,ef,Vr hl hn,hc,by simpa using hT2⟩)⟩) hk3
  exact ⟨v,v,h,y,.inr rfl,hK,hy⟩
 ·rename_i n1 n2 n3
  obtain ⟨v,u,h',he,hv,hK⟩:=kJ hl hk
  have hnc:=YX he
  have hkk:uQ q o=(match xZ q o with
   | 0=>0
   | 1=>3
   | _=>4):=by
   unfold uQ
   split
   ·rename_i t a yz;exact absurd yz (n1 t a)
   ·rename_i t a x yz;exact absurd yz (n2 t a x)
   ·rfl
  have hcase:xZ q o=0\/xZ q o=1:=by
   rw [hkk] at hkz
   split at hkz
   ·left;assumption
   ·right;assumption
   ·omega
  rcases hcase with h0' | h1'
  ·obtain ⟨rfl,hany⟩:=fC h0' hnc he
   obtain ⟨y,hy⟩:=QR (q:=q) (m:=m) (fl:=fl) (fl1:=rC P r o i fl) F ho hput (u:=u) (.inr ⟨hw,.inl (hany _)⟩) (fun t a e=>absurd e (n1 t a))
   exact ⟨v,u,h',y,hv,hK,hy⟩
  ·obtain rfl:=V0 h1' hnc he
   obtain ⟨y,hy⟩:=fk (q:=q) (m:=m) (fl:=fl) (fl1:=rC P r o i fl) F ho hput (u:=u) (.inr ⟨hw,.inl he⟩) (by rw [hkk,h1'];rfl)
   exact ⟨v,u,h',y,hv,hK,hy⟩
theorem Fu {n m b o c p k:Nat} {l vs:List Value} {t:TypeId} (h:Ft n (.pointer (some ⟨b,o,none⟩)) m (.pointer (some ⟨c,p,none⟩))) (e:b=c) (hv:vs.length=m):Jn (some (.cells (zt l p vs) t)) o n=Jn (some (.cells l t)) o n:=by
 rw [GO] at h
 exact bc (by omega)
theorem DL {n m b o c p:Nat} {l vs:List Value} {t:TypeId} (h:Ft m (.pointer (some ⟨c,p,none⟩)) n (.pointer (some ⟨b,o,none⟩))) (e:b=c) (hv:vs.length=m):Jn (some (.cells (zt l p vs) t)) o n=Jn (some (.cells l t)) o n:=by
 rw [GO] at h
 exact bc (by omega)
theorem sq {u:Value} {h1:za} {x y:yr} (hxA:x ∈ A) (hx:RZ P q ops fl x) (N:bV P q ops s0 h0 A i o s h u h1 m fl fl1 y) (hkx:uQ q x.o<=3) (hky:uQ q o<=3)
  (hs:jA ops x.o y.o=true) (hbit:m.testBit x.j=false) (hp:EN (uQ q x.o) (uQ q o)=true):YK (Cq P ops) ops x y:=by
 have ff:∀ {b:Bool},b ≠ true->b=false:=fun h=>by simpa using h
 simp only [jA,ND] at hs
 obtain ⟨a1,a2⟩:=hs
 have d1:∀ d,x.o.dst=some d->d ∉ y.o.looksAt ops/\y.o.dst ≠ some d:=by
  intro d hd
  rw [hd] at a1
  simp only [ND,NN,NP,N2] at a1
  exact ⟨a1.1,a1.2⟩
 have d2:∀ d,y.o.dst=some d->d ∉ x.o.looksAt ops:=by
  intro d hd
  rw [hd] at a2
  simp only [NN,NP,N2] at a2
  exact a2
 have hyo:=N.yz
 have hy:=N.rz
 unfold EN at hp
 simp only [Og,ND,PF] at hp
 rcases hp with (((hp | hp) | ⟨hp,hq⟩) | ⟨hp,hq⟩) | ⟨hp,hq⟩
 ·obtain ⟨r,t⟩:=hx.k0 hp
  exact ⟨d1,d2,fun b hb=>(by rw [t b] at hb;cases hb),fun b _ => .inl (r b)⟩
 ·obtain ⟨r,t⟩:=hy.k0 (by rw [hyo];exact hp)
  exact ⟨d1,d2,fun b _=>⟨t b,.inl (r b)⟩,fun b hb=>(by rw [t b] at hb;cases hb)⟩
 ·have tx:=hx.LL hp
  have ty:=hy.LL (by rw [hyo];exact hq)
  exact ⟨d1,d2,fun b hb=>(by rw [tx b] at hb;cases hb),fun b hb=>(by rw [ty b] at hb;cases hb)⟩
 ·
  have tx:=hx.LL (.inl hp)
  refine ⟨d1,d2,fun b hb=>(by rw [tx b] at hb;cases hb),fun b hb => ?_⟩
  rcases hx.k1 hp with hn | ⟨bx,ox,sp,nx,c1,c2,c3⟩
  ·exact .inl (hn b)
  ·rcases (N.KU _ c3 hbit).2 ⟨hq,rfl⟩ with hn | ⟨by',oy,ny,c,vs,t,e1,e2,e3,e4,e5,e6⟩
   ·rw [hn b] at hb;cases hb
   ·have hb':=(e2 b).1 hb
    subst hb'
    cases hr:x.rd b with
    | false=>exact .inl rfl
    | true=>
      have hbx:=c1 b hr
      cases sp with
      | some k=>exact e6.elim
      | none=>
        refine .inr ⟨ox,nx,by rw [c2 rfl,hbx],(e1 b).2 rfl,?_⟩
        rw [e3,e4]
        exact DL e6 hbx.symm e5
 ·
  have ty:=hy.LL (.inl (by rw [hyo];exact hq))
  refine ⟨d1,d2,fun b hb=>⟨ty b,?_⟩,fun b hb=>(by rw [ty b] at hb;cases hb)⟩
  rcases hx.k2 hp with ⟨_,hn⟩ | ⟨bx,ox,nx,c,vs,t,e1,e2,e3,e4,e5,e6⟩
  ·rw [hn b] at hb;cases hb
  ·have hb':=(e2 b).1 hb
   subst hb'
   rcases (N.KU _ e6 hbit).1 ⟨hq,rfl⟩ with hn | ⟨by',oy,sp,ny,c1,c2,c3⟩
   ·exact .inl (hn b)
   ·cases hr:y.rd b with
    | false=>exact .inl rfl
    | true=>
      have hby:=c1 b hr
      cases sp with
      | some k=>exact c3.elim
      | none=>
        refine .inr ⟨oy,ny,by rw [c2 rfl,hby],(e1 b).2 rfl,?_⟩
        rw [e3,e4]
        exact Fu (k:=0) c3 hby.symm e5
end
theorem AX {q:FuncId->Nat} {ops:Array Oper} {s0:Env} {h0:za} (hro0:h0.ro<=h0.next):∀ (l:List Oper) (i:Nat) (ms:List Nat) (A:List yr) (prev:List (Nat × Nat)) (fl:List (Nat × Bool × Nat × Value)) (r s:Env) (h:za) {K:Env->za->Prop},
  ops.toList.drop i=l->i<=ops.size->Qf ops ms->ms.length=i->Yo P ops s0 h0 A i s h->(∀ x,x ∈ A->(x.j,uQ q x.o) ∈ prev/\uQ q x.o<=3/\RZ P q ops fl x)->ZD ops l i ms (A.reverse.map fun x=>(x.j,x.o))=true->bR q l ms prev=true ->
  Le r s->rA P ops l i ms fl r h K->∃ A' r' s' h',Yo P ops s0 h0 A' ops.size s' h'/\Le r' s'/\K r' h'/\Fr (XD l) s s'/\AF h h'
 | [],i,ms,A,prev,fl,r,s,h,K,hl,hle,hm,hml,F,hrp,hst,hkd,hle1,hk=>by
   have:i=ops.size:=by
    have:=congrArg List.length hl
    simp at this
    omega
   subst this
   exact ⟨A,r,s,h,F,hle1,hk,.refl _ _,.refl _⟩
 | o :: os,i,ms,A,prev,fl,r,s,h,K,hl,hle,hm,hml,F,hrp,hst,hkd,hle1,hk=>by
   have ho:ops[i]? = some o:=by
    have:=congrArg (fun l=>l[0]?) hl
    simp only [Od,NV] at this
    simpa using this
   have hlt:i < ops.size:=by
    rcases NZ i ops.size with h | h
    ·exact h
    ·rw [N3 h] at ho;cases ho
   have hl':ops.toList.drop (i + 1)=os:=by rw [<- PG,hl];rfl
   simp only [ZD,ND] at hst
   obtain ⟨⟨hedge,hslots⟩,hst⟩:=hst
   simp only [bR,ND,Po] at hkd
   obtain ⟨⟨hkz,hpair⟩,hkd⟩:=hkd
   have go:∀ (v u:Value) (h1:za) (y:yr),(ya v=true\/v=u)->bV P q ops s0 h0 A i o s h u h1 (yN ms o) fl (rC P r o i fl) y ->
     (match r.put o.dst v with | some s1=>rA P ops os (i + 1) (ms ++ [yN ms o]) (rC P r o i fl) s1 h1 K | none=>False) ->
     ∃ A' r' s' h',Yo P ops s0 h0 A' ops.size s' h'/\Le r' s'/\K r' h'/\Fr (XD (o :: os)) s s'/\AF h h':=by
    intro v u h1 y hv N hk
    split at hk
    case h_2=>exact hk.elim
    rename_i r1 hp
    obtain ⟨s1,hp1,hl1⟩:=hle1.put hp hv
    have hs1:∀ t,s1.get t=if o.dst=some t then u else s.get t:=by
     intro t
     cases hd:o.dst with
     | none=>rw [hd] at hp1;simp only [Env.put,Nz] at hp1;subst hp1;simp
     | some d=>
       rw [hd] at hp1
       simp only [Env.put] at hp1
       obtain ⟨_,hp1⟩:=zn hp1
       simp only [Nz] at hp1
       subst hp1
       rw [Env.yj]
       by_cases e:t=d
       ·subst e;simp
       ·rw [NJ e,NJ (by simp only [Nz];exact fun h=>e h.symm)]
    have hs1s:s1.size=s.size:=(Fr.put hp1).size
    have F1:Yo P ops s0 h0 (A ++ [y]) (i + 1) s1 h1:=by
     refine ⟨?_,?_,hs1s.trans F.size,?_,N.ro.trans F.ro,N.next.trans F.next,N.wf,?_,?_,?_⟩
     ·rw [Ou,F.js,List.range_succ];simp [N.hj]
     ·intro t
      rw [hs1,Ur,N.yz,N.Ef,F.env]
     ·intro b
      rw [N.heap,K9,F.heap]
     ·intro A1 r A2 e
      rcases uc e with ⟨_,rfl,rfl⟩ | ⟨A3,_,e3⟩
      ·exact N.told
      ·exact F.told A1 r A3 e3
     ·intro A1 r A2 e ed hed hb
      rcases uc e with ⟨_,rfl,rfl⟩ | ⟨A3,_,e3⟩
      ·rw [N.yz] at hed
       simp only [NY,Og,NN,Of] at hedge
       rcases hedge ed (by simpa using hed) with h2 | h2
       ·rw [hb] at h2;cases h2
       ·have:ed.on ∈ A1.map (·.j):=by rw [F.js];exact ON.2 h2
        obtain ⟨x,hx,hxj⟩:=OJ.1 this
        exact ⟨x,hx,hxj⟩
      ·exact F.X9 A1 r A3 e3 ed hed hb
     ·intro A1 x A2 z A3 e
      have e':A ++ [y]=(A1 ++ x :: A2) ++ z :: A3:=by rw [e];simp
      rcases uc e' with ⟨_,e1,rfl⟩ | ⟨A4,_,e3⟩
      ·have hxm:x ∈ A:=by rw [<- e1];simp
       obtain ⟨hpm,hkx,hrx⟩:=hrp x hxm
       simp only [NY,Og] at hpair hslots
       rcases hslots (x.j,x.o) (OJ.2 ⟨x,by simpa using hxm,rfl⟩) with h2 | h2
       ·rw [N.hj];exact .inl (uX hm ho h2)
       ·rcases hpair _ hpm with h3 | h3
        ·rw [N.hj];exact .inl (uX hm ho h3)
        ·by_cases hbit:(yN ms o).testBit x.j=true
         ·rw [N.hj];exact .inl (uX hm ho hbit)
         ·simp only [Py] at hbit
          exact .inr (sq hxm hrx N hkx hkz (by rw [N.yz];exact h2) hbit h3)
      ·exact F.apart A1 x A2 z A4 (by rw [e3];simp)
    have hfl:∀ e,e ∈ fl->e ∈ rC P r o i fl:=fun e he=>by
     unfold rC;split <;> simp [he]
    have hrp1:∀ x,x ∈ A ++ [y]->(x.j,uQ q x.o) ∈ (ms.length,uQ q o) :: prev/\uQ q x.o<=3/\RZ P q ops (rC P r o i fl) x:=by
     intro x hx
     rcases Om.1 hx with hx | hx
     ·obtain ⟨h1,h2,h3⟩:=hrp x hx
      exact ⟨OD _ h1,h2,h3.mono hfl⟩
     ·simp only [N7] at hx;subst hx
      exact ⟨by rw [N.hj,N.yz,hml];simp,by rw [N.yz];exact hkz,N.rz⟩
    obtain ⟨A',r',s',h',F',l',k',f',a'⟩:=AX hro0 os (i + 1) (ms ++ [yN ms o]) (A ++ [y]) _ _ r1 s1 h1 hl' hlt (XC hm hml ho) (by simp [hml]) F1 hrp1
     (by simpa [N.hj,N.yz] using hst) hkd hl1 hk
    exact ⟨A',r',s',h',F',l',k',(Fr.put hp1).left.trans f'.right,N.af.trans a'⟩
   have slot:∀ {v:Value} {h1:za},(match r.put o.dst v with | some s1=>rA P ops os (i + 1) (ms ++ [yN ms o]) (rC P r o i fl) s1 h1 K | none=>False)->∀ d,o.dst=some d->d < s.size:=by
    intro v h1 hk d hd
    split at hk
    case h_2=>exact hk.elim
    rename_i r1 hp
    rw [hd] at hp
    simp only [Env.put] at hp
    obtain ⟨hb,_⟩:=zn hp
    rw [<- hle1.size]
    simpa [Of] using hb
   have hron:h.ro<=h.next:=by rw [F.ro,F.next];exact hro0
   have dstok:∀ {K':Value->za->Prop},Cx P r o (yN ms o) fl h K'->(∀ v h1,K' v h1->∀ d,o.dst=some d->d < s.size)->∀ d,o.dst=some d->d < s.size:=by
    intro K' hk hs
    unfold Cx at hk
    split at hk
    ·obtain ⟨v,_,hK⟩:=uB (Uo hk).1;exact hs _ _ hK
    ·obtain ⟨v,_,hK⟩:=uB (Uo hk).1;exact hs _ _ hK
    ·obtain ⟨_,_,v,_,_,hK⟩:=hk;exact hs _ _ hK
    ·obtain ⟨v,u,h',_,_,hK⟩:=kJ hle1 hk;exact hs v h' hK
   simp only [rA] at hk
   split at hk
   ·rename_i hg
    obtain ⟨v,u,h1,y,hv,hK,N⟩:=iW (q:=q) F hron ho (dstok hk (fun v h1 hK=>slot hK)) (by simp only [yi,hg]) hkz hle1 hk
    exact go v u h1 y hv N hK
   ·rename_i j want hg
    split at hk
    ·exact hk.elim
    ·rename_i d hdst
     unfold GD at hk
     split at hk
     ·rename_i b hb
      have hs:s.get d = .bool b:=by
       rcases hle1.get d with e | e
       ·rw [hb] at e;cases e
       ·rw [<- e,hb]
      have haw:yi ops s o=(b == want):=by simp only [yi,hg,hdst,hs]
      by_cases hbw:b=want
      ·have hk:=hk.1 hbw
       obtain ⟨v,u,h1,y,hv,hK,N⟩:=iW (q:=q) F hron ho (dstok hk (fun v h1 hK=>slot hK)) (by rw [haw,hbw];simp) hkz hle1 hk
       exact go v u h1 y hv N hK
      ·have hk:=hk.2 hbw
       obtain ⟨y,N⟩:=QR (q:=q) (m:=yN ms o) (fl:=fl) (fl1:=rC P r o i fl) F ho (slot hk) (u:=undef) (.inl ⟨by rw [haw];simpa using hbw,rfl,rfl⟩) (fun _ _ _=>by rw [haw];simpa using hbw)
       exact go undef undef h y (.inr rfl) N hk
     ·exact hk.elim
     ·rename_i n1 n2
      have hs:s.get d=r.get d:=by
       rcases hle1.get d with e | e
       ·obtain ⟨k,p,q,e2⟩:=Yl e;exact absurd e2 (n2 k p q)
       ·exact e.symm
      have haw:yi ops s o=false:=by
       simp only [yi,hg,hdst,hs]
      obtain ⟨y,N⟩:=QR (q:=q) (m:=yN ms o) (fl:=fl) (fl1:=rC P r o i fl) F ho (slot hk) (u:=undef) (.inl ⟨haw,rfl,rfl⟩) (fun _ _ _=>haw)
      exact go undef undef h y (.inr rfl) N hk
theorem D5 {q:FuncId->Nat} (hmix:P.follows .mixedOrders=true):Qe P (Ae P q):=by
 intro ops r s h K rd id hle wf hk
 unfold Ae at hk
 cases hc:DX q ops with
 | false=>rw [hc] at hk;exact hk.elim
 | true=>
   rw [hc] at hk
   have hk:rA P ops ops.toList 0 [] [] r h K:=hk
   simp only [DX,ND] at hc
   have F0:Yo P ops s h ([]:List yr) 0 s h:=⟨rfl,fun t=>rfl,rfl,fun b=>rfl,rfl,rfl,wf.1,
    fun A1 r A2 e=>by simp at e,fun A1 r A2 e=>by simp at e,fun A1 x A2 y A3 e=>by simp at e⟩
   obtain ⟨A,r',s',h',F,hl',hK,hf,af⟩:=AX (q:=q) wf.2 ops.toList 0 [] [] [] [] r s h rfl (Oe _) (fun k q hq=>by simp at hq) rfl F0 (fun x e=>by simp at e) hc.1 hc.2 hle hk
   have V:Zs (Cq P ops) P ops s h A:=⟨by rw [F.js];exact List.nodup_range,fun i hi=>by
     have:i ∈ A.map (·.j):=by rw [F.js];exact ON.2 hi
     obtain ⟨r,hr,hj⟩:=OJ.1 this
     exact ⟨r,hr,hj⟩,F.told,F.X9,F.apart⟩
   exact ⟨r',s',h',hl',hK,hf,af,fQ hmix V F.env F.size F.heap F.ro (by rw [F.next];exact NG _) (fun x hx=>Av F x hx) F.next (Q:=fun e s1 h1=>e = .normal/\s1=s'/\h1=h') ⟨rfl,rfl,rfl⟩⟩
def D3 (P:Program) (q:FuncId->Nat) (ops:Array Oper) (s:Env) (h:za) (K:Env->za->Prop):Prop:=Hl (calm q ops) (Gt P q ops ops.toList 0 [] [] s h K) (Hl (iA P q ops) (oV P q ops s h K) (Ae P q ops s h K))
theorem D4 {q:FuncId->Nat} (hmix:P.follows .mixedOrders=true):Qe P (D3 P q):=by
 intro ops r s h K rd id hle wf hk
 unfold D3 at hk
 cases hc:calm q ops with
 | true=>
   rw [hc] at hk
   exact oX hmix ops r s h K rd id hle wf (by unfold U8;rw [hc];exact hk)
 | false=>
   rw [hc] at hk
   have hk:Hl (iA P q ops) (oV P q ops r h K) (Ae P q ops r h K):=hk
   cases hv:iA P q ops with
   | true=>rw [hv] at hk;exact oW hmix ops r s h K rd id hle wf hk
   | false=>rw [hv] at hk;exact D5 hmix ops r s h K rd id hle wf hk
theorem V6 {q:FuncId->Nat} (hmix:P.follows .mixedOrders=true) {n:Nat} {f:FuncId} {args:List Value} {h:za} {R:Value->za->Prop} (hk:Fi P (D3 P q) n f args h R):DC P f args h R:=Jo (D4 hmix) hk
end
noncomputable section
abbrev Part:=Nat->Option wi
structure y5 where
 get:Nat->Option (Option wi)
 ro:Nat
def y5.un (lo:y5) (a:Part):y5:=⟨fun x=>match a x with
 | some o=>some (some o)
 | none=>lo.get x,lo.ro⟩
def y5.of (h:za):y5:=⟨fun b=>if b < h.next then some (h.get b) else none,h.ro⟩
def y5.dj (lo:y5) (a:Part):Prop := ∀ x o,a x=some o->lo.get x=none
structure y5.Le (lo lo':y5):Prop where
 ro:lo'.ro=lo.ro
 get:∀ b x,lo.get b=some x->lo'.get b=some x
structure bk (lo:y5) (h:za):Prop where
 ro:h.ro=lo.ro
 p6:h.ro<=h.next
 get:∀ b x,lo.get b=some x->h.get b=x/\b < h.next
abbrev HP:=Part->Prop
def Sat (lo:y5) (h:za):List HP->Prop
 | []=>bk lo h
 | A :: L => ∃ a,A a/\lo.dj a/\(∀ b o,a b=some o->lo.ro<=b)/\Sat (lo.un a) h L
theorem y5.Le.refl (lo:y5):lo.Le lo:=⟨rfl,fun _ _ h=>h⟩
theorem y5.Le.trans {a b c:y5} (x:a.Le b) (y:b.Le c):a.Le c:=⟨y.ro.trans x.ro,fun i o h=>y.get i o (x.get i o h)⟩
theorem y5.Jb {lo:y5} {a:Part} (d:lo.dj a):lo.Le (lo.un a):=⟨rfl,fun b x h=>by
 unfold y5.un
 cases e:a b with
 | none=>simp only [e];exact h
 | some o=>rw [d b o e] at h;cases h⟩
theorem y5.uh {lo:y5} {a:Part} {b:Nat} {o:wi} (e:a b=some o):(lo.un a).get b=some (some o):=by simp only [y5.un,e]
theorem y5.uO {lo:y5} {a:Part} {b:Nat} (e:a b=none):(lo.un a).get b=lo.get b:=by simp only [y5.un,e]
theorem y5.Gs {lo:y5} {a c:Part} (d:(lo.un a).dj c):(lo.un a).un c=(lo.un c).un a:=by
 unfold y5.un
 congr 1
 funext x
 cases e:c x with
 | none=>simp only [e]
 | some o=>
   have:=d x o e
   simp only [y5.un] at this
   cases e2:a x with
   | none=>simp only [e]
   | some p=>rw [e2] at this;cases this
theorem y5.D2 {lo:y5} {a c:Part} (d:lo.dj a) (k:(lo.un a).dj c):lo.dj c:=fun x o e=>by
 cases e2:lo.get x with
 | none=>rfl
 | some p=>rw [<- k x o e,(y5.Jb d).get x p e2]
theorem y5.FD {lo:y5} {a c:Part} (d:lo.dj a) (k:(lo.un a).dj c):(lo.un c).dj a:=fun x o e=>by
 cases e2:c x with
 | none=>rw [y5.uO e2];exact d x o e
 | some p=>have:=k x p e2;rw [y5.uh e] at this;cases this
theorem y5.Le.dj {lo lo':y5} (l:lo.Le lo') {a:Part} (d:lo'.dj a):lo.dj a:=fun x o e=>by
 cases e2:lo.get x with
 | none=>rfl
 | some p=>rw [<- d x o e,l.get x p e2]
theorem y5.Le.un {lo lo':y5} (l:lo.Le lo') (a:Part):(lo.un a).Le (lo'.un a):=⟨l.ro,fun b x h=>by
 cases e:a b with
 | none=>rw [y5.uO e] at h ⊢;exact l.get b x h
 | some o=>rw [y5.uh e] at h ⊢;exact h⟩
theorem bk.mono {lo lo':y5} {h:za} (l:lo.Le lo') (x:bk lo' h):bk lo h:=⟨x.ro.trans l.ro,x.p6,fun b y e=>x.get b y (l.get b y e)⟩
theorem Sat.mono {h:za}:∀ {L:List HP} {lo lo':y5},lo.Le lo'->Sat lo' h L->Sat lo h L
 | [],lo,lo',l,x=>bk.mono l x
 | A :: L,lo,lo',l,⟨a,ha,d,w,x⟩=>⟨a,ha,l.dj d,fun b o e=>by rw [<- l.ro];exact w b o e,Sat.mono (l.un a) x⟩
theorem Sat.base {h:za}:∀ {L:List HP} {lo:y5},Sat lo h L->bk lo h
 | [],_,x=>x
 | A :: L,_,⟨_,_,d,_,x⟩=>(Sat.base x).mono (y5.Jb d)
theorem Sat.part {h:za} {A:HP}:∀ {L:List HP} {lo:y5},Sat lo h L->A ∈ L->∃ a,A a/\lo.dj a /\ ∀ b o,a b=some o->h.get b=some o/\h.ro<=b/\b < h.next
 | B :: L,lo,⟨a,ha,d,w,x⟩,hm=>by
   rcases Ox.1 hm with rfl | hm
   ·refine ⟨a,ha,d,fun b o e => ?_⟩
    have bs:=Sat.base x
    obtain ⟨g1,g2⟩:=bs.get b _ (y5.uh e)
    exact ⟨g1,by rw [bs.ro];exact w b o e,g2⟩
   ·obtain ⟨c,hc,dc,g⟩:=Sat.part x hm
    exact ⟨c,hc,y5.D2 d dc,g⟩
theorem Sat.swap {h:za} {A B:HP} {L:List HP} {lo:y5} (x:Sat lo h (A :: B :: L)):Sat lo h (B :: A :: L):=by
 obtain ⟨a,ha,d,w,c,hc,dc,wc,x⟩:=x
 exact ⟨c,hc,y5.D2 d dc,wc,a,ha,y5.FD d dc,w,by rw [<- y5.Gs dc];exact x⟩
theorem Sat.cons {h:za} {A:HP} {L L':List HP} (f:∀ lo,Sat lo h L->Sat lo h L') {lo:y5} (x:Sat lo h (A :: L)):Sat lo h (A :: L'):=by
 obtain ⟨a,ha,d,w,x⟩:=x
 exact ⟨a,ha,d,w,f _ x⟩
theorem Sat.perm {h:za} {L L':List HP} (p:L.Perm L'):∀ {lo:y5},Sat lo h L->Sat lo h L':=by
 induction p with
 | nil=>exact fun x=>x
 | cons A p ih=>exact fun x=>x.cons fun lo=>ih
 | swap A B L=>exact fun x=>x.swap
 | trans p q ih1 ih2=>exact fun x=>ih2 (ih1 x)
theorem Sat.drop {h:za} {A:HP} {L:List HP} {lo:y5} (x:Sat lo h (A :: L)):Sat lo h L:=by
 obtain ⟨a,ha,d,w,x⟩:=x
 exact x.mono (y5.Jb d)
theorem Sat.Hb {h:za} {L':List HP} {lo:y5}:∀ {L:List HP},Sat lo h (L ++ L')->Sat lo h L'
 | [],x=>x
 | A :: L,x=>Sat.Hb (L:=L) x.drop
def J2:Nat->List HP->List HP
 | 0,L=>L
 | _ + 1,[]=>[]
 | i + 1,A :: L=>match J2 i L with
   | []=>[A]
   | B :: L'=>B :: A :: L'
theorem JY:∀ (i:Nat) (L:List HP),L.Perm (J2 i L)
 | 0,L=>List.Perm.refl _
 | _ + 1,[]=>List.Perm.refl _
 | i + 1,A :: L=>by
   have ih:=JY i L
   unfold J2
   split
   ·rename_i e;rw [e] at ih;exact ih.cons A
   ·rename_i B L' e;rw [e] at ih;exact (ih.cons A).trans (List.Perm.swap _ _ _)
theorem Sat.p {h:za} {L:List HP} {lo:y5} (x:Sat lo h L) (i:Nat):Sat lo h (J2 i L):=x.perm (JY i L)
def Hj:List Nat->List HP->List HP
 | [],L=>L
 | i :: is,L=>Hj is (J2 i L)
theorem Sat.ps {h:za} {lo:y5}:∀ (is:List Nat) {L:List HP},Sat lo h L->Sat lo h (Hj is L)
 | [],_,x=>x
 | i :: is,_,x=>Sat.ps is (x.p i)
def bO:List Nat->List Nat->List HP->List HP
 | [],_,L=>L
 | i :: is,prev,L=>match J2 (i - (prev.filter fun j=>Nat.blt j i).length) L with
   | []=>[]
   | A :: L'=>A :: bO is (i :: prev) L'
def front (is:List Nat) (L:List HP):List HP:=bO is [] L
theorem Jh:∀ (is prev:List Nat) (L:List HP),L.Perm (bO is prev L)
 | [],_,L=>List.Perm.refl _
 | i :: is,prev,L=>by
   have p:=JY (i - (prev.filter fun j=>Nat.blt j i).length) L
   unfold bO
   split
   ·rename_i e;rw [e] at p;exact p
   ·rename_i A L' e;rw [e] at p;exact p.trans ((Jh _ _ L').cons A)
theorem sJ (is:List Nat) (L:List HP):L.Perm (front is L):=Jh _ _ _
theorem Sat.f {h:za} {L:List HP} {lo:y5} (x:Sat lo h L) (is:List Nat):Sat lo h (front is L):=x.perm (sJ is L)
theorem Sat.zK {h:za} {L:List HP} {lo:y5} (x:Sat lo h L) (n:Nat):Sat lo h (L.take n):=by
 have q:(L.take n ++ L.drop n).Perm (L.drop n ++ L.take n):=List.perm_append_comm
 rw [O9] at q
 exact (x.perm q).Hb
theorem Sat.k {h:za} {L:List HP} {lo:y5} (x:Sat lo h L) (is:List Nat):Sat lo h ((front is L).take is.length):=(x.f is).zK _
theorem Sat.to {h h':za}:∀ {L:List HP} {lo lo':y5},Sat lo h L->(∀ b,b < h.next->lo.get b=none->lo'.get b=none)->bk lo' h'->lo'.ro=lo.ro->h.next<=h'.next->(∀ b,b < h.next->lo.get b=none->h'.get b=h.get b)->Sat lo' h' L
 | [],_,_,_,_,b,_,_,_=>b
 | A :: L,lo,lo',⟨a,ha,d,w,x⟩,k,b,r,n,g=>by
   have bs:=Sat.base x
   have lt:∀ y o,a y=some o->y < h.next:=fun y o e=>(bs.get y _ (y5.uh e)).2
   have dn:∀ y,(lo.un a).get y=none->a y=none/\lo.get y=none:=fun y e=>by
    cases e2:a y with
    | none=>rw [y5.uO e2] at e;exact ⟨rfl,e⟩
    | some o=>rw [y5.uh e2] at e;cases e
   refine ⟨a,ha,fun y o e=>k y (lt y o e) (d y o e),fun y o e=>by rw [r];exact w y o e,Sat.to x (fun y hy e => ?_) ?_ r n fun y hy e => ?_⟩
   ·rw [y5.uO (dn y e).1];exact k y hy (dn y e).2
   ·refine ⟨b.ro,b.p6,fun y z e => ?_⟩
    cases e2:a y with
    | none=>rw [y5.uO e2] at e;exact b.get y z e
    | some o=>
      rw [y5.uh e2] at e
      cases e
      exact ⟨(g y (lt y o e2) (d y o e2)).trans (bs.get y _ (y5.uh e2)).1,NH (lt y o e2) n⟩
   ·exact g y hy (dn y e).2
theorem Sat.IZ {h:za} {L2:List HP}:∀ {L1:List HP} {lo:y5},Sat lo h (L1 ++ L2)->∃ lo1,lo.Le lo1/\Sat lo1 h L2 /\ ∀ h' L',Sat lo1 h' L'->Sat lo h' (L1 ++ L')
 | [],lo,x=>⟨lo,.refl lo,x,fun _ _ y=>y⟩
 | A :: L1,lo,⟨a,ha,d,w,x⟩=>by
   obtain ⟨lo1,l,s,f⟩:=Sat.IZ (L1:=L1) x
   exact ⟨lo1,(y5.Jb d).trans l,s,fun h' L' y=>⟨a,ha,d,w,f h' L' y⟩⟩
theorem Sat.call {h:za} {L1 L2:List HP} {lo:y5} (x:Sat lo h (L2 ++ L1)):∃ lo1,lo.Le lo1/\Sat lo1 h L2 /\ ∀ h' L',Sat lo1 h' L'->Sat lo h' (L' ++ L1):=by
 obtain ⟨lo1,l,s,f⟩:=Sat.IZ (x.perm List.perm_append_comm)
 exact ⟨lo1,l,s,fun h' L' y=>(f h' L' y).perm List.perm_append_comm⟩
def pt (b:Nat) (o:wi):HP:=fun m => ∀ x,m x=if x=b then some o else none
theorem Sat.HW {h:za} {L:List HP} {lo:y5} (x:Sat lo h L) {b:Nat} {o:wi} (hm:pt b o ∈ L):h.get b=some o/\h.ro<=b/\b < h.next:=by
 obtain ⟨a,ha,_,g⟩:=x.part hm
 exact g b o (by rw [ha b,NK rfl])
theorem Sat.get {h:za} {L:List HP} {lo:y5} {b:Nat} {o:wi} (x:Sat lo h (pt b o :: L)):h.get b=some o:=(x.HW (NT ..)).1
theorem Sat.wr {h:za} {L:List HP} {lo:y5} {b:Nat} {o:wi} (x:Sat lo h (pt b o :: L)):h.ro<=b:=(x.HW (NT ..)).2.1
theorem Sat.lt {h:za} {L:List HP} {lo:y5} {b:Nat} {o:wi} (x:Sat lo h (pt b o :: L)):b < h.next:=(x.HW (NT ..)).2.2
theorem Sat.ne {h:za} {L:List HP} {lo:y5} {b c:Nat} {o o':wi} (x:Sat lo h (pt b o :: pt c o' :: L)):¬ b=c:=by
 rintro rfl
 obtain ⟨a,ha,d,w,e,he,de,we,x⟩:=x
 have:=de b o' (by rw [he,NK rfl])
 rw [y5.uh (o:=o) (by rw [ha,NK rfl])] at this
 cases this
theorem Sat.push {h:za} {L:List HP} {lo:y5} (x:Sat lo h L) (o:wi):Sat lo (h.push o) (pt h.next o :: L):=by
 have bs:=x.base
 have hn:lo.get h.next=none:=by
  cases e:lo.get h.next with
  | none=>rfl
  | some y=>exact absurd (bs.get _ _ e).2 (Nat.lt_irrefl _)
 refine ⟨fun y=>if y=h.next then some o else none,fun _=>rfl,fun y p e => ?_,fun y p e => ?_,x.to (fun y hy e => ?_) ⟨bs.ro,OS bs.p6,fun y z e => ?_⟩ rfl (OP _) fun y hy _=>zQ hy⟩
 ·dsimp only at e;split at e
  ·rename_i q;rw [q];exact hn
  ·cases e
 ·dsimp only at e;split at e
  ·rename_i q;rw [q,<- bs.ro];exact bs.p6
  ·cases e
 ·rw [y5.uO (by rw [NJ (by omega)])];exact e
 ·by_cases q:y=h.next
  ·subst q
   rw [y5.uh (o:=o) (by rw [NK rfl])] at e
   cases e
   exact ⟨y6,N0 _⟩
  ·rw [y5.uO (by rw [NJ q])] at e
   obtain ⟨g1,g2⟩:=bs.get y z e
   exact ⟨(zQ g2).trans g1,O1 g2⟩
theorem Sat.set {h:za} {L:List HP} {lo:y5} {b:Nat} {o:wi} (x:Sat lo h (pt b o :: L)) (o':wi):Sat lo (h.set b (some o')) (pt b o' :: L):=by
 obtain ⟨a,ha,d,w,x⟩:=x
 have hb:lo.get b=none:=d b o (by rw [ha b,NK rfl])
 have bs:=x.base
 refine ⟨fun y=>if y=b then some o' else none,fun _=>rfl,fun y p e => ?_,fun y p e => ?_,x.to (fun y hy e => ?_) ⟨bs.ro,bs.p6,fun y z e => ?_⟩ rfl (NG _) fun y hy e => ?_⟩
 ·dsimp only at e;split at e
  ·rename_i q;rw [q];exact hb
  ·cases e
 ·dsimp only at e;split at e
  ·rename_i q;rw [q];exact w b o (by rw [ha b,NK rfl])
  ·cases e
 ·have q:y ≠ b:=by rintro rfl;rw [y5.uh (o:=o) (by rw [ha,NK rfl])] at e;cases e
  rw [y5.uO (by rw [ha,NJ q])] at e
  rw [y5.uO (by rw [NJ q])];exact e
 ·by_cases q:y=b
  ·subst q
   rw [y5.uh (o:=o') (by rw [NK rfl])] at e
   cases e
   exact ⟨kD,(bs.get y _ (y5.uh (o:=o) (by rw [ha,NK rfl]))).2⟩
  ·rw [y5.uO (by rw [NJ q])] at e
   obtain ⟨g1,g2⟩:=bs.get y z (by rw [y5.uO (by rw [ha,NJ q])];exact e)
   exact ⟨(vf q).trans g1,g2⟩
 ·have q:y ≠ b:=by rintro rfl;rw [y5.uh (o:=o) (by rw [ha,NK rfl])] at e;cases e
  exact vf q
theorem Sat.forget {h:za} {L:List HP} {lo:y5} {b:Nat} {o:wi} (x:Sat lo h (pt b o :: L)) (z:Option wi):Sat lo (h.set b z) L:=by
 obtain ⟨a,ha,d,w,x⟩:=x
 have hb:lo.get b=none:=d b o (by rw [ha b,NK rfl])
 have bs:=x.base
 refine x.to (fun y hy e => ?_) ⟨bs.ro,bs.p6,fun y z e => ?_⟩ rfl (NG _) fun y hy e => ?_
 ·cases q:lo.get y with
  | none=>rfl
  | some v=>rw [(y5.Jb d).get y v q] at e;cases e
 ·have q:y ≠ b:=by rintro rfl;rw [hb] at e;cases e
  obtain ⟨g1,g2⟩:=bs.get y z ((y5.Jb d).get y z e)
  exact ⟨(vf q).trans g1,g2⟩
 ·have q:y ≠ b:=by rintro rfl;rw [y5.uh (o:=o) (by rw [ha,NK rfl])] at e;cases e
  exact vf q
theorem ZY {h:za} {L:List HP} {lo:y5} {c:List Value} {t:TypeId} {K:Value->za->Prop} (s:Sat lo h L) (k:∀ b h',Sat lo h' (pt b (.cells c t) :: L)->K (.pointer (some ⟨b,0,none⟩)) h'):nw h c t K:=k _ _ (s.push _)
theorem ZJ {h:za} {L:List HP} {lo:y5} {b off:Nat} {cs vs:List Value} {t:TypeId} {K:za->Prop} (s:Sat lo h (pt b (.cells cs t) :: L)) (hl:off + vs.length<=cs.length) (hc:vs.all xp=true) (k:∀ h',Sat lo h' (pt b (.cells (zt cs off vs) t) :: L)->K h'):opt (fO h b off vs) K:=by
 rw [E9 s.get,NK ⟨hl,s.wr,hc⟩]
 exact k _ (s.set _)
theorem Sat.Et {h h':za} {L:List HP} {lo:y5} (x:Sat lo h L) (hn:h.next<=h'.next) (hr:h'.ro=h.ro) (hg:∀ b,b < h.next->h'.get b=h.get b):Sat lo h' L:=by
 have bs:=x.base
 exact x.to (fun _ _ e=>e) ⟨hr.trans bs.ro,by rw [hr];exact Oc bs.p6 hn,fun b y e=>⟨(hg b (bs.get b y e).2).trans (bs.get b y e).1,NH (bs.get b y e).2 hn⟩⟩ rfl hn fun b hb _=>hg b hb
def ex {α:Type} (f:α->HP):HP:=fun m => ∃ x,f x m
theorem y5.mI {lo:y5} {a:Part} (e:∀ x,a x=none):lo.un a=lo:=by
 unfold y5.un
 cases lo
 congr 1
 funext x
 simp only [e x]
def Wk:List HP->HP
 | []=>fun m => ∀ x,m x=none
 | A :: L=>fun m => ∃ a b,A a/\Wk L b/\(∀ x o,b x=some o->a x=none) /\ ∀ x,m x=match b x with
   | some o=>some o
   | none=>a x
theorem y5.Hp {lo:y5} {a b m:Part} (hm:∀ x,m x=match b x with
  | some o=>some o
  | none=>a x):lo.un m=(lo.un a).un b:=by
 unfold y5.un
 congr 1
 funext x
 rw [hm x]
 cases b x <;> rfl
theorem Sat.Uz {h:za} {L:List HP}:∀ {M:List HP} {lo:y5},Sat lo h (Wk M :: L) ↔ Sat lo h (M ++ L)
 | [],lo=>⟨fun ⟨a,ha,d,w,s⟩=>by rw [y5.mI ha] at s;exact s,fun s=>⟨fun _=>none,fun _=>rfl,fun _ _ e=>(by cases e),fun _ _ e=>(by cases e),by rw [y5.mI fun _=>rfl];exact s⟩⟩
 | A :: M,lo=>by
   constructor
   ·rintro ⟨m,⟨a,b,ha,hb,dab,hm⟩,d,w,s⟩
    have da:lo.dj a:=fun x o e=>by
     cases q:b x with
     | none=>exact d x o (by rw [hm x,q];exact e)
     | some p=>rw [dab x p q] at e;cases e
    refine ⟨a,ha,da,fun x o e => ?_,Sat.Uz.1 ⟨b,hb,fun x o e => ?_,fun x o e => ?_,?_⟩⟩
    ·cases q:b x with
     | none=>exact w x o (by rw [hm x,q];exact e)
     | some p=>rw [dab x p q] at e;cases e
    ·rw [y5.uO (dab x o e)];exact d x o (by rw [hm x,e])
    ·exact w x o (by rw [hm x,e])
    ·rw [<- y5.Hp hm];exact s
   ·rintro ⟨a,ha,d,w,s⟩
    obtain ⟨b,hb,db,wb,s⟩:=Sat.Uz.2 s
    refine ⟨fun x=>match b x with
     | some o=>some o
     | none=>a x,⟨a,b,ha,hb,fun x o e => ?_,fun _=>rfl⟩,fun x o e => ?_,fun x o e => ?_,?_⟩
    ·cases q:a x with
     | none=>rfl
     | some p=>have:=db x o e;rw [y5.uh q] at this;cases this
    ·dsimp only at e;split at e
     ·rename_i p q;exact y5.D2 d db x p q
     ·exact d x o e
    ·dsimp only at e;split at e
     ·rename_i p q;exact wb x p q
     ·exact w x o e
    ·rw [y5.Hp (a:=a) (b:=b) fun _=>rfl];exact s
theorem Sat.open {h:za} {M L:List HP} {lo:y5} (s:Sat lo h (Wk M :: L)):Sat lo h (M ++ L):=Sat.Uz.1 s
theorem Sat.close {h:za} {M L:List HP} {lo:y5} (s:Sat lo h (M ++ L)):Sat lo h (Wk M :: L):=Sat.Uz.2 s
theorem Sat.self {h:za} (hr:h.ro<=h.next):Sat (.of h) h []:=⟨rfl,hr,fun b x e=>by
 unfold y5.of at e
 dsimp only at e
 split at e
 ·cases e;exact ⟨rfl,by assumption⟩
 ·cases e⟩
theorem Sat.join {h h':za} {L L':List HP} {lo:y5} (x:Sat lo h L) (y:Sat (.of h) h' L'):Sat lo h' (L' ++ L):=by
 have bx:=x.base
 have by':=y.base
 have get:∀ b,b < h.next->h'.get b=h.get b/\b < h'.next:=fun b hb=>by'.get b _ (by unfold y5.of;dsimp only;rw [NK hb])
 have hn:h.next<=h'.next:=by
  rcases Pr h.next with e | e
  ·omega
  ·have:=(get (h.next - 1) (by omega)).2;omega
 have key:∀ (L':List HP) (lo lo2:y5),Sat lo2 h' L'->lo2.ro=lo.ro->(∀ b,b < h.next->lo2.get b ≠ none)->(∀ b,h.next<=b->lo.get b=lo2.get b)->bk lo h' ->
   (∀ lo3,y5.Le lo lo3->(∀ b,b < h.next->lo3.get b=lo.get b)->bk lo3 h'->Sat lo3 h' L)->Sat lo h' (L' ++ L):=by
  intro L'
  induction L' with
  | nil=>intro lo lo2 _ _ _ _ b k;exact k lo (.refl lo) (fun _ _=>rfl) b
  | cons A L' ih=>
    rintro lo lo2 ⟨a,ha,d,w,s⟩ r f e b k
    have up:∀ y o,a y=some o->h.next<=y:=fun y o q=>by
     rcases NZ y h.next with z | z
     ·exact absurd (d y o q) (f y z)
     ·exact z
    have bs:=s.base
    have dl:lo.dj a:=fun y o q=>by rw [e y (up y o q)];exact d y o q
    refine ⟨a,ha,dl,fun y o q=>by rw [<- r];exact w y o q,ih (lo.un a) (lo2.un a) s r (fun y hy => ?_) (fun y hy => ?_) ⟨b.ro,b.p6,fun y z q => ?_⟩ fun lo3 l3 q3 b3=>k lo3 ((y5.Jb dl).trans l3) (fun y hy => ?_) b3⟩
    ·cases q:a y with
     | none=>rw [y5.uO q];exact f y hy
     | some o=>rw [y5.uh q];simp
    ·cases q:a y with
     | none=>rw [y5.uO q,y5.uO q];exact e y hy
     | some o=>rw [y5.uh q,y5.uh q]
    ·cases q2:a y with
     | none=>rw [y5.uO q2] at q;exact b.get y z q
     | some o=>rw [y5.uh q2] at q;cases q;exact bs.get y _ (y5.uh q2)
    ·rw [q3 y hy]
     cases q:a y with
     | none=>rw [y5.uO q]
     | some o=>have:=up y o q;omega
 have rr:(y5.of h).ro=lo.ro:=bx.ro
 refine key L' lo (.of h) y rr (fun b hb=>by unfold y5.of;dsimp only;rw [NK hb];simp) (fun b hb => ?_) ⟨by rw [by'.ro];exact rr,by'.p6,fun b z e => ?_⟩ fun lo3 l3 q3 b3 => ?_
 ·unfold y5.of;dsimp only;rw [NJ (by omega)]
  cases e:lo.get b with
  | none=>rfl
  | some z=>have:=(bx.get b z e).2;omega
 ·obtain ⟨g1,g2⟩:=bx.get b z e
  exact ⟨(get b g2).1.trans g1,(get b g2).2⟩
 ·exact x.to (fun b hb e=>by rw [q3 b hb];exact e) b3 l3.ro hn fun b hb _=>(get b hb).1
theorem Sat.Hk {h h':za}:∀ {L:List HP} {lo lo':y5},Sat lo h L->lo'.get=lo.get->lo'.ro<=lo.ro->h'.ro=lo'.ro->h'.ro<=h'.next->h.next<=h'.next->(∀ b,b < h.next->h'.get b=h.get b)->Sat lo' h' L
 | [],lo,lo',x,g,r,e,k,n,he=>⟨e,k,fun b z hz=>by
   rw [g] at hz
   obtain ⟨h1,h2⟩:=bk.get x b z hz
   exact ⟨(he b h2).trans h1,NH h2 n⟩⟩
 | A :: L,lo,lo',⟨a,ha,d,w,x⟩,g,r,e,k,n,he=>
   ⟨a,ha,fun y o q=>by rw [g];exact d y o q,fun b o q=>Oc r (w b o q),Sat.Hk x (by unfold y5.un;rw [g]) r e k n he⟩
theorem Sat.wU {h h2:za} {L L':List HP} {lo:y5} (s:Sat lo h L) (s2:Sat (.of h.lock) h2 L'):Sat lo (Go.Ai.wU h h2) (L' ++ L):=by
 have b1:=s.base
 have b2:=s2.base
 have old:∀ b,b < h.next->h2.get b=h.get b/\b < h2.next:=fun b hb=>b2.get b _ (by unfold y5.of;dsimp only;rw [NK (by exact hb)];rfl)
 have hn:h.next<=h2.next:=by
  rcases Pr h.next with e | e
  ·omega
  ·have:=(old (h.next - 1) (by omega)).2;omega
 have gr:(Go.Ai.wU h h2).ro=h.ro:=rfl
 have gn:(Go.Ai.wU h h2).next=h2.next:=rfl
 refine s.join (s2.Hk (lo' := .of h) rfl b1.p6 gr (by rw [gr,gn];exact Oc b1.p6 hn) (by rw [gn];exact NG _) fun b hb => ?_)
 rw [x7]
 by_cases q:h.next<=b
 ·rw [NK ⟨q,hb⟩]
 ·rw [NJ (by omega),(old b (by omega)).1]
theorem fw {h:za} {L:List HP} {lo:y5} {c:List Value} {t:TypeId} {K:Value->za->Prop} (s:Sat lo h L) (wf:w9 h) (k:∀ b h',w9 h'->Sat lo h' (pt b (.cells c t) :: L)->K (.pointer (some ⟨b,0,none⟩)) h'):nw h c t K:=k _ _ (rq wf _) (s.push _)
theorem l6 {P:Program} {g:FuncId} {args:List Value} {h:za} {L:List HP} {lo:y5} {K R:Value->za->Prop} (hc:vL P g=true) (hn:yB args=true) (wf:w9 h) (s:Sat lo h L) (d:DC P g args h.lock R) (hk:∀ v h2,R v h2->(∀ L',Sat (.of h.lock) h2 L'->Sat lo (wU h h2) (L' ++ L))->w9 (wU h h2)->K v (wU h h2)):Y3 P g args h K:=by
 have wl:w9 h.lock:=⟨wf.1,NG _⟩
 obtain ⟨v,h1,r,af,t⟩:=d wl
 refine ⟨hc,hn,v,h1,t,af,hk v h1 r (fun L' s2=>s.wU s2) ?_⟩
 have w1:=wl.af af
 have hn:h.next<=h1.next:=af.next
 refine ⟨fun b o hb => ?_,?_⟩
 ·rw [x7] at hb
  show b < h1.next
  split at hb
  ·omega
  ·exact NH (wf.1 b o hb) hn
 ·show h.ro<=h1.next
  exact Oc wf.2 hn
theorem DC.L3 {P:Program} {f:FuncId} {args:List Value} {h:za} {R R':Value->za->Prop} (d:DC P f args h R) (m:∀ v h1,R v h1->w9 h1->R' v h1):DC P f args h R':=fun wf=>by
 obtain ⟨v,h1,r,af,t⟩:=d wf
 exact ⟨v,h1,m v h1 r (wf.af af),af,t⟩
def own (X:za->(Nat->Prop)->Prop):HP:=fun m => ∃ g,X g (fun b=>m b ≠ none) /\ ∀ b o,m b=some o->g.get b=some o
structure y5.Has (lo:y5) (h0:za):Prop where
 ro:lo.ro=h0.ro
 get:∀ b,b < h0.next->lo.get b=some (h0.get b)
theorem y5.Has.mono {lo lo':y5} {h0:za} (x:lo.Has h0) (l:lo.Le lo'):lo'.Has h0:=⟨l.ro.trans x.ro,fun b hb=>l.get b _ (x.get b hb)⟩
theorem y5.Zz (h:za):(y5.of h).Has h:=⟨rfl,fun b hb=>by unfold y5.of;dsimp only;rw [NK hb]⟩
theorem y5.Has.old {lo:y5} {h0 h:za} (x:lo.Has h0) (b:bk lo h):h0.next<=h.next/\h.ro=h0.ro /\ ∀ c,c < h0.next->h.get c=h0.get c:=by
 refine ⟨?_,b.ro.trans x.ro,fun c hc=>(b.get c _ (x.get c hc)).1⟩
 rcases Pr h0.next with e | e
 ·omega
 ·have:=(b.get (h0.next - 1) _ (x.get _ (by omega))).2;omega
end
theorem z7 (A:(List Value->za->Prop)->Prop) (J:List Value->za->Prop):BK A J=A J:=rfl
end Go.Ai
