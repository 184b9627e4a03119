import Derived.Test.YtpjjmindjodknaaGreatTC
set_option linter.unusedVariables false
set_option linter.unusedSimpArgs false
set_option maxRecDepth 100000
namespace Go.Ai
noncomputable section
variable {P:Program}
def RT(d:Option Nat):Nat:=match d with
 |some d=>1 <<< d
 |none=>0
def Vy:List Oper->Nat
 |[]=>0
 |o::os=>RT o.dst ||| Vy os
def Yi:Code->Nat
 | .region _ ops _=>Vy ops.toList
 | .seq a b=>Yi a ||| Yi b
 | .cond _ a b=>Yi a ||| Yi b
 | .block _ a=>Yi a
 | .scope a=>Yi a
 | .loop a=>Yi a
 |_=>0
def zby(x:Operand):Nat:=match x with
 | .tmp t=>1 <<< t
 |_=>0
def zcZ:List Operand->Nat
 |[]=>0
 |x::l=>zby x ||| zcZ l
def zc0(d:Nat):List Oper->Nat
 |[]=>0
 |o::os=>(Nat.xor (zcZ o.op.operands.toList ||| d) d) ||| zc0 (d ||| RT o.dst) os
def dfn:Code->Nat
 | .region _ ops _=>Vy ops.toList
 | .seq a b=>dfn a ||| dfn b
 | .cond _ a b=>Nat.land (dfn a) (dfn b)
 | .scope a=>dfn a
 |_=>0
def CF:Code->Nat
 | .region _ ops _=>zc0 0 ops.toList
 | .seq a b=>CF a ||| Nat.xor (CF b ||| dfn a) (dfn a)
 | .cond x a b=>zby x ||| CF a ||| CF b
 | .block _ a=>CF a
 | .scope a=>CF a
 | .loop a=>CF a
 | .rangeFunc f _ a b=>zby f ||| CF a ||| CF b
 |_=>0
def bits(m n:Nat):List Nat:=(List.range n).filter λt=>m.testBit t
theorem Pn{m n t:Nat}:t∈bits m n ↔ t<n/\m.testBit t=true:=by simp[bits]
structure Fr (m:Nat) (s s1:Env):Prop where
 size:s1.size=s.size
 get:∀t,m.testBit t=false->s1.get t=s.get t
 out:∀t,s.size<=t->s1.get t=s.get t
theorem Fr.refl(m:Nat)(s:Env):Fr m s s:=⟨rfl,λ_ _=>rfl,λ_ _=>rfl⟩
theorem Fr.trans{m:Nat}{a b c:Env}(h:Fr m a b)(k:Fr m b c):Fr m a c :=
 ⟨k.size.trans h.size,λt ht=>(k.get t ht).trans (h.get t ht),λt ht=>(k.out t (by rw[h.size];exact ht)).trans (h.out t ht)⟩
theorem Fr.left{m n:Nat}{a b:Env}(h:Fr m a b):Fr (m ||| n) a b:=⟨h.size,λt ht=>h.get t (by rw[Nat.testBit_or]at ht;simp only[aba]at ht;exact ht.1),h.out⟩
theorem Fr.right{m n:Nat}{a b:Env}(h:Fr n a b):Fr (m ||| n) a b:=⟨h.size,λt ht=>h.get t (by rw[Nat.testBit_or]at ht;simp only[aba]at ht;exact ht.2),h.out⟩
theorem Fr.put{s s1:Env}{d:Option Nat}{v:aaa}(h:s.put d v=some s1):Fr (RT d) s s1:=by
 cases d with
 |none=>simp only[Env.put,aab]at h;subst h;exact .refl _ _
 |some d=>
  simp only[Env.put]at h;obtain⟨hd,h⟩:=zq h;simp only[aab]at h;subst h;have hd:d<s.size:=by simpa [aaN] using hd
  refine⟨rfl,λt ht=>?_,λt ht=>?_⟩
  ·rw[Env.yq];simp only[RT,Nat.testBit_shiftLeft]at ht;rw[aae (by intro e;subst e;simp at ht)]
  ·rw[Env.yq,aae (by omega)]
def nth:List aaa->Nat->aaa
 |[],_=>bot
 |a::_,0=>a
 |_::l,n+1=>nth l n
def VC(lv:Nat)(s:Env):List Nat->List aaa
 |[]=>[]
 |t::ts=>cond (lv.testBit t) (s.get t::VC lv s ts) (VC lv s ts)
def Kg(lv:Nat)(vs:List aaa):List Nat->Nat->Env->Env
 |[],_,s=>s
 |t::ts,i,s=>cond (lv.testBit t) (Kg lv vs ts (i+1) (s.set t (nth vs i))) (Kg lv vs ts i (s.set t bot))
theorem iw{lv:Nat}{vs:List aaa}{r1 s1:Env}(h1:Le r1 s1):∀(ts:List Nat) (i:Nat) (r:Env),r.size=s1.size->(∀k,nth vs (i+k)=nth (VC lv r1 ts) k)->(∀t,t∈ts\/zR (r.get t)=true\/r.get t=s1.get t)->Le (Kg lv vs ts i r) s1
 |[],i,r,hz,_,h=>⟨hz,λt=>by rcases h t with h|h; · cases h
                            ·exact h⟩
 |t::ts,i,r,hz,hv,h=>by
  simp only[Kg];cases hb:lv.testBit t with
  |true=>
   simp only[aaw];have e0:nth vs i=r1.get t:=by have:=hv 0;simp only[VC,hb,aaw]at this;exact this
   refine iw h1 ts (i+1) _ hz (λk=>?_) (λt'=>?_)
   ·have:=hv (k+1);simp only[VC,hb,aaw]at this;rw[show i+1+k=i+(k+1) by omega];exact this
   ·rw[Env.yq,e0];by_cases e:t'=t
    ·subst e;rw[aah rfl];exact .inr (h1.get t')
    ·rw[aae e];rcases h t' with h2|h2
     ·rcases aaz.1 h2 with h3|h3
      ·exact absurd h3 e
      ·exact .inl h3
     ·exact .inr h2
  |false=>
   simp only[aaH];refine iw h1 ts i _ hz (λk=>?_) (λt'=>?_)
   ·have:=hv k;simp only[VC,hb,aaH]at this;exact this
   ·rw[Env.yq];by_cases e:t'=t
    ·rw[aah e];exact .inr (.inl rfl)
    ·rw[aae e];rcases h t' with h2|h2
     ·rcases aaz.1 h2 with h3|h3
      ·exact absurd h3 e
      ·exact .inl h3
     ·exact .inr h2
theorem join_le{lv m:Nat}{r s r1 s1:Env}(h:Le r s)(h1:Le r1 s1)(f:Fr m s s1):Le (Kg lv (VC lv r1 (bits m r.size)) (bits m r.size) 0 r) s1:=by
 refine iw h1 _ _ _ (h.size.trans f.size.symm) (λk=>by rw[abf]) (λt=>?_);by_cases hm:m.testBit t=true
 ·by_cases hz:t<r.size
  ·exact .inl (Pn.2 ⟨hz,hm⟩)
  ·
   rcases h.get t with e|e
   ·exact .inr (.inl e)
   ·exact .inr (.inr (e.trans (f.out t (by rw[<- h.size];omega)).symm))
 ·simp only[ab4]at hm;rcases h.get t with e|e
  ·exact .inr (.inl e)
  ·exact .inr (.inr (e.trans (f.get t hm).symm))
def opW(P:Program)(s:Env)(o:Oper)(h:za)(K:aaa->za->Prop):Prop:=match o.op with
 | .call {callee := .value f,args,argTypes}=>zL P (ev s f) (dm s args.toList) h K
 |_=>MH P s o h K
def GD(g:aaa)(want:Bool)(A:(aaa->za->Prop)->Prop)(K:aaa->za->Prop)(h:za):Prop:=match g with
 | .bool b=>(b=want->A K)/\(b≠want->K undef h)
 | .complex _ _ _=>False
 |_=>K undef h
def RB(P:Program)(ops:Array Oper):List Oper->Env->za->(Env->za->Prop)->Prop
 |[],s,h,K=>K s h
 |o::os,s,h,K=>(match o.guard with
  |none=>opW P s o h λv h1=>(match s.put o.dst v with
   |some s1=>RB P ops os s1 h1 K
   |none=>False)
  |some (j,want)=>(match (ops[j]?).bind (·.dst) with
   |none=>False
   |some d=>GD (s.get d) want (opW P s o h) (λv h1=>(match s.put o.dst v with
    |some s1=>RB P ops os s1 h1 K
    |none=>False)) h))
theorem qC.af{h h':za}(w:qC h)(a:AF h h'):qC h' :=
 ⟨λb o hb=>by
  rcases a.alive b o hb with e|e
  ·cases hh:h.get b with
   |none=>exact absurd hh e
   |some o'=>exact aap (w.1 b o' hh) a.next
  ·exact e.2,by rw[a.ro];exact aaU w.2 a.next⟩
theorem Ou{ops:Array Oper}{r s:Env}{h:za}{o:Oper}{f:Operand}{args:Array Operand}{ts:Array TypeId}{K:aaa->za->Prop}
  (hw:yw ops s o=true) (hl:Le r s) (wf:qC h) (yj:o.op=.call {callee := .value f,args:=args,argTypes:=ts}) (hk:zL P (ev r f) (dm r args.toList) h K) :
  ∃v h1,K v h1/\AF h h1 /\ ∀(i:Nat) (rest:List Nat) (s1:Env) (Q:Env->za->Prop),ops[i]? = some o->s.put o.dst v=some s1->TO P ops rest s1 h1 Q->TO P ops (i::rest) s h Q:=by
 unfold zL at hk;split at hk
 ·rename_i g a c hf;have ef:kT s f=some (.func (.func g) a c):=by rw[Yg hl (x:=f) (by rw[hf];rfl),hf]
  obtain⟨hn0,hn,hk⟩:=hk;have ea:=Q9 hl hn0;rcases hk with⟨hc,hd⟩|hk
  ·obtain⟨v,h1,hK,af,hT⟩:=hd wf;exact⟨v,h1,hK,af,λi rest s1 Q ho hp ht=>Hu ho hw yj ef ea hc hT (by rintro v2 h2 ⟨rfl,rfl⟩;exact⟨s1,hp,ht⟩)⟩
  ·obtain⟨v,g',e,hk⟩:=Zm hk;exact⟨v,g',hk,(Xz e).af,λi rest s1 Q ho hp ht=>Ty ho hw (by rw[yj];rfl) (λρ w a hr hs=>BC yj ef ea e hr hs) hp ht⟩
 ·rename_i L a c hf;obtain⟨ha,hc,hn,hk⟩:=hk;obtain⟨v,h1,hK,af,hT⟩:=hk wf;subst ha hc;have ef:kT s f=some (.func (.yield L) #[] #[]):=by rw[Yg hl (x:=f) (by rw[hf];rfl),hf]
  exact⟨v,h1,hK,af,λi rest s1 Q ho hp ht=>CM ho hw yj ef (Q9 hl hn) hT (by rintro v2 h2 ⟨rfl,rfl⟩;exact⟨s1,hp,ht⟩)⟩
 ·exact hk.elim
theorem zbg{ops:Array Oper}{r s:Env}{h:za}{o:Oper}{K:aaa->za->Prop}(hw:yw ops s o=true)(hl:Le r s)(wf:qC h)(hk:opW P r o h K) :
  ∃v u h1,K v h1/\(zR v=true\/v=u)/\AF h h1 /\ ∀(i:Nat) (rest:List Nat) (s1:Env) (Q:Env->za->Prop),ops[i]? = some o->s.put o.dst u=some s1->TO P ops rest s1 h1 Q->TO P ops (i::rest) s h Q:=by
 unfold opW at hk;split at hk
 ·rename_i f args ts yj;obtain⟨v,h1,hK,af,go⟩:=Ou (ops:=ops) hw hl wf yj hk;exact⟨v,v,h1,hK,.inr rfl,af,go⟩
 ·obtain⟨v,u,h',e,hv,hk⟩:=qX hl hk;exact⟨v,u,h',hk,hv,(Z2 e).1,λi rest s1 Q ho hp ht=>Tz ho hw e hp ht⟩
theorem Bc{ops:Array Oper}:∀(l:List Oper) (i:Nat) {r s:Env} {h:za} {K:Env->za->Prop},ops.toList.drop i=l->Le r s->qC h->RB P ops l r h K ->
  ∃r' s' h',Le r' s'/\K r' h'/\Fr (Vy l) s s'/\AF h h'/\TO P ops (List.range' i l.length) s h (λs1 h1=>s1=s'/\h1=h')
 |[],i,r,s,h,K,_,hl,wf,hk=>⟨r,s,h,hl,hk,.refl _ _,.refl _,Np ⟨rfl,rfl⟩⟩
 |o::os,i,r,s,h,K,hd,hl,wf,hk=>by
  have ho:ops[i]? = some o:=by
   have:=congrArg (λl=>l[0]?) hd;simp only[aaQ,aaC]at this;simpa using this
  have hd':ops.toList.drop (i+1)=os:=by rw[<- acm,hd];rfl
  rw[abc,List.range'_succ]
  have next:∀v u h1,AF h h1->(match r.put o.dst v with|some s1=>RB P ops os s1 h1 K|none=>False)->(zR v=true\/v=u)->∃s1 r' s' h',s.put o.dst u=some s1/\Le r' s'/\K r' h'/\Fr (Vy (o::os)) s s'/\AF h h' /\
    TO P ops (List.range' (i+1) os.length) s1 h1 (λs1 h1=>s1=s'/\h1=h'):=by
   intro v u h1 af hk hv;split at hk
   ·rename_i r1 hp;obtain⟨s1,hp1,hl1⟩:=hl.put hp hv;obtain⟨r',s',h',l',k',f',a',t'⟩:=Bc os (i+1) hd' hl1 (wf.af af) hk;exact⟨s1,r',s',h',hp1,l',k',(Fr.put hp1).left.trans f'.right,af.trans a',t'⟩
   ·exact hk.elim
  have run:yw ops s o=true->opW P r o h (λv h1=>match r.put o.dst v with|some s1=>RB P ops os s1 h1 K|none=>False) ->
    ∃r' s' h',Le r' s'/\K r' h'/\Fr (Vy (o::os)) s s'/\AF h h'/\TO P ops (i::List.range' (i+1) os.length) s h (λs1 h1=>s1=s'/\h1=h'):=by
   intro hw hk;obtain⟨v,u,h1,hK,hv,af,go⟩:=zbg (ops:=ops) hw hl wf hk;obtain⟨s1,r',s',h',hp,l',k',f',a',t'⟩:=next v u h1 af hK hv;exact⟨r',s',h',l',k',f',a',go i _ s1 _ ho hp t'⟩
  have skip:yw ops s o=false->(match r.put o.dst undef with|some s1=>RB P ops os s1 h K|none=>False) ->
    ∃r' s' h',Le r' s'/\K r' h'/\Fr (Vy (o::os)) s s'/\AF h h'/\TO P ops (i::List.range' (i+1) os.length) s h (λs1 h1=>s1=s'/\h1=h'):=by
   intro hw hk;obtain⟨s1,r',s',h',hp,l',k',f',a',t'⟩:=next undef undef h (.refl _) hk (.inr rfl);exact⟨r',s',h',l',k',f',a',Hv ho hw hp t'⟩
  simp only[RB]at hk;split at hk
  ·rename_i hg;exact run (by simp only[yw,hg]) hk
  ·rename_i j want hg;split at hk
   ·exact hk.elim
   ·rename_i d hdst;unfold GD at hk;split at hk
    ·rename_i b hb
     have hs:s.get d=.bool b:=by
      rcases hl.get d with e|e
      ·rw[hb]at e;cases e
      ·rw[<- e,hb]
     have haw:yw ops s o=(b == want):=(by simp only[yw,hg,hdst,hs]);by_cases hbw:b=want
     ·exact run (by rw[haw,hbw];simp) (hk.1 hbw)
     ·exact skip (by rw[haw];simpa using hbw) (hk.2 hbw)
    ·exact hk.elim
    ·rename_i n1 n2
     have hs:s.get d=r.get d:=by
      rcases hl.get d with e|e
      ·obtain⟨k,p,q,e2⟩:=Xf e;exact absurd e2 (n2 k p q)
      ·exact e.symm
     have haw:yw ops s o=false:=by
      simp only[yw,hg,hdst,hs]
     exact skip haw hk
structure Ks where
 sP:Env->za->Prop
 ret:Env->za->Prop
 ext:Nat->Env->za->Prop
def Ks.on(K:Ks):Ex->Env->za->Prop
 | .normal=>K.sP
 | .ret=>K.ret
 | .exit id=>K.ext id
def Ks.with(K:Ks)(n:Env->za->Prop):Ks:=⟨n,K.ret,K.ext⟩
def CD(g:aaa)(A B:(List aaa->za->Prop)->Prop)(J:List aaa->za->Prop):Prop:=match g with
 | .bool true=>A J
 | .bool false=>B J
 |_=>False
def BK(A:(List aaa->za->Prop)->Prop)(J:List aaa->za->Prop):Prop:=A J
def LP(step:List aaa->za->(List aaa->za->Prop)->Prop)(vs:List aaa)(h:za):Prop :=
 ∃(I:Nat->List aaa->za->Prop) (n:Nat),I n vs h /\ ∀n vs h,I n vs h->step vs h (λvs' h'=>∃m,m<n/\I m vs' h')
def za9:Unit:=(λ(_:Prop)=>()) (∀(P:Program) (ops:Array Oper) (l:List Oper) (s:Env) (h:za) (K:Env->za->Prop) (A B:(List aaa->za->Prop)->Prop) (J:List aaa->za->Prop) (g:aaa) (st:List aaa->za->(List aaa->za->Prop)->Prop) (vs:List aaa),RB P ops l s h K/\CD g A B J/\BK A J/\LP st vs h)
def Nh(b:Bool)(x y:Prop):Prop:=Function.const Unit (cond b x y) za9
abbrev TB:=Nat->Code->Env->za->Ks->Prop
def wpB(P:Program)(D:Array Oper->Env->za->(Env->za->Prop)->Prop)(rec:TB):TB:=λlv c s h K=>match c with
 | .skip=>K.sP s h
 | .label _=>K.sP s h
 | .exit id=>K.ext id s h
 | .ret=>K.ret s h
 | .seq a b=>rec (lv ||| CF b) a s h (K.with λs1 h1=>rec lv b s1 h1 K)
 | .cond x a b=>CD (ev s x) (λj=>rec lv a s h (K.with λs1 h1=>j (VC lv s1 (bits (Yi a ||| Yi b) s.size)) h1)) (λj=>rec lv b s h (K.with λs1 h1=>j (VC lv s1 (bits (Yi a ||| Yi b) s.size)) h1))
   (λvs h1=>K.sP (Kg lv vs (bits (Yi a ||| Yi b) s.size) 0 s) h1)
 | .block id a=>BK (λj=>rec lv a s h ⟨λs1 h1=>j (VC lv s1 (bits (Yi a) s.size)) h1,K.ret,λi s1 h1=>cond (Nat.beq i id) (j (VC lv s1 (bits (Yi a) s.size)) h1) (K.ext i s1 h1)⟩)
   (λvs h1=>K.sP (Kg lv vs (bits (Yi a) s.size) 0 s) h1)
 | .scope a=>rec lv a s h K
 | .loop a=>LP (λvs h1 j=>rec (lv ||| CF a) a (Kg (lv ||| CF a) vs (bits (Yi a) s.size) 0 s) h1 (K.with λs1 h2=>j (VC (lv ||| CF a) s1 (bits (Yi a) s.size)) h2))
   (VC (lv ||| CF a) s (bits (Yi a) s.size)) h
 | .region _ ops draw=>Nh draw (D ops s h K.sP) (RB P ops ops.toList s h K.sP)
 |_=>False
def wp(P:Program)(D:Array Oper->Env->za->(Env->za->Prop)->Prop)(n:Nat):TB:=Nat.rec (λ_ _ _ _ _=>False) (λ_ rec=>wpB P D rec) n
def Uv(P:Program)(D:Array Oper->Env->za->(Env->za->Prop)->Prop):Prop :=
 ∀ops r s h K rd id,Le r s->qC h->D ops r h K->∃r' s' h',Le r' s'/\K r' h'/\Fr (Vy ops.toList) s s'/\AF h h'/\T P rd (.region id ops true) s h (λe s1 h1=>e=.normal/\s1=s'/\h1=h')
def Good(P:Program)(rd:Option Nat)(rec:TB):Prop := ∀lv c r s h K,Le r s->qC h->rec lv c r h K->∃e r' s' h',Le r' s'/\K.on e r' h'/\Fr (Yi c) s s'/\AF h h'/\T P rd c s h (λe1 s1 h1=>e1=e/\s1=s'/\h1=h')
theorem FR{D:Array Oper->Env->za->(Env->za->Prop)->Prop}(hD:Uv P D){rd:Option Nat}{rec:TB}(G:Good P rd rec):Good P rd (wpB P D rec):=by
 intro lv c r s h K hl wf hk;cases c with
 |skip=>exact⟨.normal,r,s,h,hl,hk,.refl _ _,.refl _,Nr ⟨rfl,rfl,rfl⟩⟩
 |label l=>exact⟨.normal,r,s,h,hl,hk,.refl _ _,.refl _,Hx ⟨rfl,rfl,rfl⟩⟩
 |exit id=>exact⟨.exit id,r,s,h,hl,hk,.refl _ _,.refl _,Nq ⟨rfl,rfl,rfl⟩⟩
 |ret=>exact⟨.ret,r,s,h,hl,hk,.refl _ _,.refl _,TA ⟨rfl,rfl,rfl⟩⟩
 |seq a b=>
  obtain⟨e,r1,s1,h1,l1,k1,f1,a1,t1⟩:=G _ _ _ _ _ _ hl wf hk;cases e with
  |normal=>
   obtain⟨e2,r2,s2,h2,l2,k2,f2,a2,t2⟩:=G _ _ _ _ _ _ l1 (wf.af a1) k1;refine⟨e2,r2,s2,h2,l2,k2,f1.left.trans f2.right,a1.trans a2,Hz (t1.mono ?_)⟩;rintro e s3 h3 ⟨rfl,rfl,rfl⟩;exact t2
  |ret=>
   refine⟨.ret,r1,s1,h1,l1,k1,f1.left,a1,Hz (t1.mono ?_)⟩;rintro e s3 h3 ⟨rfl,rfl,rfl⟩;exact⟨rfl,rfl,rfl⟩
  |exit id=>
   refine⟨.exit id,r1,s1,h1,l1,k1,f1.left,a1,Hz (t1.mono ?_)⟩;rintro e s3 h3 ⟨rfl,rfl,rfl⟩;exact⟨rfl,rfl,rfl⟩
 |cond x a b=>
  have fin:∀(c:Code),(∀s s1,Fr (Yi c) s s1->Fr (Yi a ||| Yi b) s s1)->rec lv c r h (K.with λs1 h1=>(λvs h1=>K.sP (Kg lv vs (bits (Yi a ||| Yi b) r.size) 0 r) h1) (VC lv s1 (bits (Yi a ||| Yi b) r.size)) h1) ->
    ∃e r' s' h',Le r' s'/\K.on e r' h'/\Fr (Yi a ||| Yi b) s s'/\AF h h'/\T P rd c s h (λe1 s1 h1=>e1=e/\s1=s'/\h1=h'):=by
   intro c hf hk;obtain⟨e,r1,s1,h1,l1,k1,f1,a1,t1⟩:=G _ _ _ _ _ _ hl wf hk;have f2:=hf _ _ f1;cases e with
   |normal=>exact⟨.normal,_,s1,h1,join_le hl l1 f2,k1,f2,a1,t1⟩
   |ret=>exact⟨.ret,r1,s1,h1,l1,k1,f2,a1,t1⟩
   |exit id=>exact⟨.exit id,r1,s1,h1,l1,k1,f2,a1,t1⟩
  unfold wpB at hk;dsimp only at hk;unfold CD at hk;split at hk
  ·rename_i hx;obtain⟨e,r',s',h',q1,q2,q3,q4,t⟩:=fin a (λ_ _ f=>f.left) hk;exact⟨e,r',s',h',q1,q2,q3,q4,Bf (t:=true) (by rw[Yg hl (x:=x) (by rw[hx];rfl),hx]) t⟩
  ·rename_i hx;obtain⟨e,r',s',h',q1,q2,q3,q4,t⟩:=fin b (λ_ _ f=>f.right) hk;exact⟨e,r',s',h',q1,q2,q3,q4,Bf (t:=false) (by rw[Yg hl (x:=x) (by rw[hx];rfl),hx]) t⟩
  ·exact hk.elim
 |block id a=>
  have hk:rec lv a r h _:=hk;obtain⟨e,r1,s1,h1,l1,k1,f1,a1,t1⟩:=G _ _ _ _ _ _ hl wf hk;cases e with
  |normal=>
   refine⟨.normal,_,s1,h1,join_le hl l1 f1,k1,f1,a1,dq (t1.mono ?_)⟩;rintro e s3 h3 ⟨rfl,rfl,rfl⟩;rw[aae (by simp)];exact⟨rfl,rfl,rfl⟩
  |ret=>
   refine⟨.ret,r1,s1,h1,l1,k1,f1,a1,dq (t1.mono ?_)⟩;rintro e s3 h3 ⟨rfl,rfl,rfl⟩;rw[aae (by simp)];exact⟨rfl,rfl,rfl⟩
  |exit i=>
   simp only[Ks.on]at k1;by_cases hi:i=id
   ·subst hi;rw[show Nat.beq i i=true from ab5 i]at k1;refine⟨.normal,_,s1,h1,join_le hl l1 f1,k1,f1,a1,dq (t1.mono ?_)⟩;rintro e s3 h3 ⟨rfl,rfl,rfl⟩;rw[aah rfl];exact⟨rfl,rfl,rfl⟩
   ·rw[Tr.beq_false hi]at k1;refine⟨.exit i,r1,s1,h1,l1,k1,f1,a1,dq (t1.mono ?_)⟩;rintro e s3 h3 ⟨rfl,rfl,rfl⟩;rw[aae (by simpa using hi)];exact⟨rfl,rfl,rfl⟩
 |scope a=>
  obtain⟨e,r1,s1,h1,l1,k1,f1,a1,t1⟩:=G _ _ _ _ _ _ hl wf hk;exact⟨e,r1,s1,h1,l1,k1,f1,a1,Hy t1⟩
 |loop a=>
  unfold wpB at hk;dsimp only at hk;obtain⟨I,n,h0,hI⟩:=hk
  have key:∀n r1 s1 h1,Le r1 s1->qC h1->Fr (Yi a) s s1->I n (VC (lv ||| CF a) r1 (bits (Yi a) r.size)) h1 ->
    ∃e r' s' h',Le r' s'/\K.on e r' h'/\Fr (Yi a) s s'/\AF h1 h'/\T P rd (.loop a) s1 h1 (λe1 s2 h2=>e1=e/\s2=s'/\h2=h'):=by
   intro n
   induction n using Nat.strongRecOn with
   |_ n ih=>
    intro r1 s1 h1 l1 wf1 f1 hn;have hstep:=hI n _ h1 hn;obtain⟨e,r2,s2,h2,l2,k2,f2,a2,t2⟩:=G _ _ _ _ _ _ (join_le hl l1 f1) wf1 hstep;cases e with
    |normal=>
     obtain⟨m,hm,k2⟩:=k2;obtain⟨e3,r3,s3,h3,l3,k3,f3,a3,t3⟩:=ih m hm r2 s2 h2 l2 (wf1.af a2) (f1.trans f2) k2;refine⟨e3,r3,s3,h3,l3,k3,f3,a2.trans a3,VR (t2.mono ?_)⟩;rintro e s4 h4 ⟨rfl,rfl,rfl⟩;exact t3
    |ret=>
     refine⟨.ret,r2,s2,h2,l2,k2,f1.trans f2,a2,VR (t2.mono ?_)⟩;rintro e s4 h4 ⟨rfl,rfl,rfl⟩;exact⟨rfl,rfl,rfl⟩
    |exit i=>
     refine⟨.exit i,r2,s2,h2,l2,k2,f1.trans f2,a2,VR (t2.mono ?_)⟩;rintro e s4 h4 ⟨rfl,rfl,rfl⟩;exact⟨rfl,rfl,rfl⟩
  exact key n r s h hl wf (.refl _ _) h0
 |region id ops draw=>
  cases draw with
  |true=>
   obtain⟨r',s',h',q1,q2,q3,q4,t⟩:=hD ops r s h K.sP rd id hl wf hk;exact⟨.normal,r',s',h',q1,q2,q3,q4,t⟩
  |false=>
   have hk:RB P ops ops.toList r h K.sP:=hk;obtain⟨r',s',h',q1,q2,q3,q4,t⟩:=Bc ops.toList 0 (abG) hl wf hk;refine⟨.normal,r',s',h',q1,q2,q3,q4,CN ?_⟩;rw[List.range_eq_range'];rw[abp]at t
   exact(λρ w tm ds hr hs b k cs=>by
    obtain⟨s1,h1,ρ1,w1,tm1,⟨e1,e2⟩,rest⟩:=t ρ w tm ds hr hs b k cs;exact⟨s1,h1,ρ1,w1,tm1,⟨rfl,e1,e2⟩,rest⟩)
 |_=>exact hk.elim
theorem CE{D:Array Oper->Env->za->(Env->za->Prop)->Prop}(hD:Uv P D){rd:Option Nat}:∀n,Good P rd (wp P D n)
 |0=>λ_ _ _ _ _ _ _ _ hk=>hk.elim
 |n+1=>FR hD (CE hD n)
def RK(sP ret:za->Prop)(ext:Nat->za->Prop)(e:Ex)(h:za):Prop:=match e with
 | .normal=>sP h
 | .ret=>ret h
 | .exit i=>ext i h
def RF(P:Program)(f:aaa)(params:Array Tmp)(as bd:Code)(s:Env)(h:za)(sP ret:za->Prop)(ext:Nat->za->Prop):Prop:=match f with
 | .func (.func g) a c=>xW P g=true /\ ∀s1,Le s s1->DC P g (a.toList++[.func (.yield h.next) #[] #[]]++c.toList) (h.push (.loop {state := .ready,pending:=none,s:=s1,params:=params,assign:=as,body:=bd}))
   (λ_ h1=>∃A,h1.get h.next=some (.loop A)/\(A.state == .busy)=false/\h1.ro<=h.next /\ ∃e,XF e=A.pending/\RK sP ret ext e (h1.set h.next none))
 |_=>False
def zdC(P:Program)(D:Array Oper->Env->za->(Env->za->Prop)->Prop)(rec:TB):TB:=λlv c s h K=>match c with
 | .rangeFunc f params as bd=>RF P (ev s f) params as bd s h (λh1=>K.sP s h1) (λh1=>K.ret s h1) (λi h1=>K.ext i s h1)
 |c=>wpB P D rec lv c s h K
def wp0(P:Program)(D:Array Oper->Env->za->(Env->za->Prop)->Prop)(n:Nat):TB:=Nat.rec (λ_ _ _ _ _=>False) (λ_ rec=>zdC P D rec) n
theorem FO{h:za}(w:qC h)(o:wS):qC (h.push o):=⟨λb x hb=>by
 rw[za.vJ]at hb;show b<h.next+1;split at hb
 ·rename_i e;omega
 ·have:=w.1 b x hb;omega,abN w.2⟩
theorem No{f:Operand}{params:Array Tmp}{as bd:Code}{r s:Env}{h:za}{sP ret:za->Prop}{ext:Nat->za->Prop}(hl:Le r s)(wf:qC h)(hk:RF P (ev r f) params as bd r h sP ret ext) :
  ∃e h',RK sP ret ext e h'/\AF h h'/\T P none (.rangeFunc f params as bd) s h (λe1 s1 h1=>e1=e/\s1=s/\h1=h'):=by
 unfold RF at hk;split at hk
 case h_2=>exact hk.elim
 rename_i g a c hf;obtain⟨hc,hd⟩:=hk;obtain⟨v,h1,⟨A,gA,bA,ro,e,je,kk⟩,af,t⟩:=hd s hl (FO wf _);have ef:kT s f=some (.func (.func g) a c):=by rw[Yg hl (x:=f) (by rw[hf];rfl),hf]
 refine⟨e,h1.set h.next none,kk,⟨?_,af.ro,λb o hb=>?_⟩,iF ef hc (λL q=>by cases q) (t.mono ?_)⟩
 ·have:=af.next;show h.next<=h1.next;have e1:(h.push (.loop {state := .ready,pending:=none,s:=s,params:=params,assign:=as,body:=bd})).next=h.next+1:=rfl;omega
 ·rw[za.yq]at hb;split at hb
  ·cases hb
  ·rename_i hne;rcases af.alive b o hb with q|q
   ·rw[za.vJ,aae hne]at q;exact .inl q
   ·have e1:(h.push (.loop {state := .ready,pending:=none,s:=s,params:=params,assign:=as,body:=bd})).next=h.next+1:=rfl;refine .inr ⟨by omega,?_⟩;exact q.2
 ·rintro v1 h2 ⟨_,rfl⟩;exact⟨A,gA,bA,ro,e,je,rfl,rfl,rfl⟩
theorem FQ{D:Array Oper->Env->za->(Env->za->Prop)->Prop}(hD:Uv P D):∀n,Good P none (wp0 P D n)
 |0=>λ_ _ _ _ _ _ _ _ hk=>hk.elim
 |n+1=>λlv c r s h K hl wf hk=>by
  have key:wpB P D (wp0 P D n) lv c r h K->_:=λq=>FR hD (FQ hD n) lv c r s h K hl wf q;cases c with
  |rangeFunc f params as bd=>
   obtain⟨e,h',kk,af,t⟩:=No hl wf hk;exact⟨e,r,s,h',hl,by cases e <;> exact kk,.refl _ _,af,t⟩
  |_=>exact key hk
def rv(vs:List aaa)(h:za)(R:aaa->za->Prop):Prop:=yk vs=true/\R (xV vs) h
def PW(P:Program):List ResultVar->Env->za->(List aaa->Prop)->Prop
 |[],s,h,K=>K []
 | .tmp t::rs,s,h,K=>PW P rs s h λvs=>K (s.get t::vs)
 | .cell a t::rs,s,h,K=>opt (zd P t (s.get a) h) λv=>PW P rs s h λvs=>K (v::vs)
def zbx:List ResultVar->Nat
 |[]=>0
 | .tmp t::rs=>(1 <<< t) ||| zbx rs
 | .cell a _::rs=>(1 <<< a) ||| zbx rs
def Rz(P:Program)(D:Array Oper->Env->za->(Env->za->Prop)->Prop)(n:Nat)(f:FuncId)(args:List aaa)(h:za)(R:aaa->za->Prop):Prop :=
 match P.funcs[f]? with
 |some fn=>(match fn.body with
  |some c=>wp0 P D n (zbx fn.results.toList) c (Env.enter args fn.ntmps) h ⟨λs h=>PW P fn.results.toList s h λvs=>rv vs h R,λs h=>PW P fn.results.toList s h λvs=>rv vs h R,λ_ _ _=>False⟩
  |none=>False)
 |none=>False
theorem Kh{r s:Env}{h:za}(hl:Le r s):∀{rs:List ResultVar} {K:List aaa->Prop},PW P rs r h K->(∀vs,K vs->yk vs=true)->∃vs,qJ P s h rs=some vs/\K vs
 |[],K,hk,_=>⟨[],rfl,hk⟩
 | .tmp t::rs,K,hk,hn=>by
   obtain⟨vs,e,q⟩:=Kh hl (rs:=rs) hk (λvs q=>by
    have:=hn _ q;simp only[yk]at this;cases hb:zR (r.get t) with
    |true=>rw[hb]at this;cases this
    |false=>rw[hb]at this;exact this)
   have hb:zR (r.get t)=false:=by
    have:=hn _ q;simp only[yk]at this;cases hb:zR (r.get t) with
    |true=>rw[hb]at this;cases this
    |false=>rfl
   have et:r.get t=s.get t:=by
    rcases hl.get t with e|e
    ·rw[e]at hb;cases hb
    ·exact e
   exact⟨_,by simp only[qJ,e,<- et],q⟩
 | .cell a t::rs,K,hk,hn=>by
   obtain⟨v,ev,hk⟩:=u2 hk
   have et:r.get a=s.get a:=by
    rcases hl.get a with e|e
    ·obtain⟨k,p,q,e2⟩:=Xf e;rw[e2]at ev;cases ev
    ·exact e
   obtain⟨vs,e,q⟩:=Kh hl (rs:=rs) hk (λvs q=>by
    have:=hn _ q;simp only[yk]at this;cases hb:zR v with
    |true=>rw[hb]at this;cases this
    |false=>rw[hb]at this;exact this)
   exact⟨_,by simp only[qJ,<- et,ev,e],q⟩
theorem sV{D:Array Oper->Env->za->(Env->za->Prop)->Prop}(hD:Uv P D){n:Nat}{f:FuncId}{args:List aaa}{h:za}{R:aaa->za->Prop}(hk:Rz P D n f args h R):DC P f args h R:=by
 intro wf;unfold Rz at hk;split at hk
 case h_2=>exact hk.elim
 rename_i fn hf;split at hk
 case h_2=>exact hk.elim
 rename_i c hb;obtain⟨e,r1,s1,h1,l1,k1,_,a1,t1⟩:=FQ hD n _ _ _ _ _ _ (.refl _) wf hk
 have fin:∀{e:Ex},(e=.normal\/e=.ret)->(∃vs,qJ P s1 h1 fn.results.toList=some vs/\yk vs=true/\R (xV vs) h1)->T P none c (Env.enter args fn.ntmps) h (λe1 s2 h2=>e1=e/\s2=s1/\h2=h1) ->
   ∃v h1,R v h1/\AF h h1/\TC P f args h (λv' h'=>v'=v/\h'=h1):=by
  rintro e he ⟨vs,e1,_,q⟩ t;refine⟨_,h1,q,a1,Ht hf hb (t.mono ?_)⟩;rintro e s2 h2 ⟨rfl,rfl,rfl⟩;exact⟨he,vs,e1,rfl,rfl⟩
 cases e with
 |normal=>
  obtain⟨vs,e,q⟩:=Kh l1 k1 (λvs q=>q.1);exact fin (.inl rfl) ⟨vs,e,q⟩ t1
 |ret=>
  obtain⟨vs,e,q⟩:=Kh l1 k1 (λvs q=>q.1);exact fin (.inr rfl) ⟨vs,e,q⟩ t1
 |exit id=>exact k1.elim
end
noncomputable section
variable {P:Program}
def ft:Nat->Nat
 |2=>1
 |3=>2
 |4=>2
 |_=>3
def wj(q:FuncId->Nat)(o:Oper):Nat:=match o.op with
 | .call {callee := .value (.func g),.. }=>ft (q g)
 | .call {callee := .value _,.. }=>3
 | .call {callee := .builtin b,.. }=>cond (XL b) 1 3
 | .move _ | .assign _ | .pick _ _ _ | .build _ _ | .nilCheck _ | .binOp _ _ _ _ _ | .unOp _ _ _ | .makeInterface _ _ | .makeFunc _ _ _ | .fieldAddr _ _ _ | .field _ _ _ | .indexAddr _ _ _ | .index _ _ _ | .extract _ _=>0
 | .load _ _ | .lookup _ _ _ _ | .slice _ _ _ _ _ | .entry _=>1
 | .box _ _ | .alloc _ | .buildSlice _ _ _ | .makeSlice _ _ _ | .makeMap _ _ | .convert _ _ _ | .range _ _=>2
 |_=>3
def Ha(x y:Nat):Bool:=Nat.beq x 0||Nat.beq y 0||(Nat.beq x 1&&Nat.ble y 2)||(Nat.beq x 2&&Nat.beq y 1)
def B6(q:FuncId->Nat):List Oper->Nat->List Nat->List (Nat×Nat)->Bool
 |[],_,_,_=>true
 |o::os,i,ms,prev=>(prev.all λx=>(yC ms o).testBit x.1||Ha x.2 (wj q o))&&B6 q os (i+1) (ms++[yC ms o]) ((i,wj q o)::prev)
def calm(q:FuncId->Nat)(ops:Array Oper):Bool:=ZQ ops ops.toList 0 [] []&&B6 q ops.toList 0 [] []
def trim(h:za)(n:Nat):za:=h.Xe (List.range' n (h.next-n))
@[simp] theorem zbP (h:za) (n:Nat):(trim h n).next=h.next:=rfl
@[simp] theorem zdd (h:za) (n:Nat):(trim h n).ro=h.ro:=rfl
theorem EM(h:za)(n b:Nat):(trim h n).get b=if n<=b/\b<h.next then none else h.get b:=by
 unfold trim;rw[uT];simp only[Zk]
theorem EN{h:za}{n b:Nat}(hb:b<n):(trim h n).get b=h.get b:=by rw[EM,aae (by omega)]
def firstFree(m:Nat):List (Nat×Nat)->Option Nat
 |[]=>none
 |(p,n)::l=>cond (m.testBit p) (firstFree m l) (some n)
def view(m:Nat)(al:List (Nat×Nat))(h:za):za:=match firstFree m al with
 |none=>h
 |some n=>trim h n
def U8(P:Program)(g:FuncId)(args:List aaa)(h:za)(K:aaa->Prop):Prop:=xW P g=true/\yk args=true /\ ∃v,iz v=true/\TC P g args h.lock (λv1 _=>v1=v)/\K v
def Ue(P:Program)(g:FuncId)(args:List aaa)(h:za)(K:aaa->za->Prop):Prop :=
 xW P g=true/\yk args=true /\ ∃v h2,TC P g args h.lock (λv1 h1=>v1=v/\h1=h2)/\AF h.lock h2/\K v (vE h h2)
def bB(P:Program)(g:FuncId)(args:List aaa)(h:za)(K:aaa->za->Prop):Prop :=
 xW P g=true/\yk args=true/\DC P g args h K
def T7(P:Program)(g:FuncId)(args:List aaa)(h:za)(K:aaa->za->Prop):Prop:=yk args=true/\zP (BB P g args h) K
def gY(P:Program)(f:aaa)(args:List aaa)(h:za)(K:aaa->za->Prop):Prop:=match f with
 | .func (.func g) a c=>yk args=true/\bB P g (a.toList++args++c.toList) h K
 |_=>False
def opD(P:Program)(q:FuncId->Nat)(s:Env)(o:Oper)(hv h:za)(K:aaa->za->Prop):Prop:=match o.op with
 | .call {callee := .value (.func g),args,argTypes}=>(match q g with
   |2=>U8 P g (dm s args.toList) hv λv=>K v h
   |3=>Ue P g (dm s args.toList) h K
   |4=>T7 P g (dm s args.toList) h K
   |_=>bB P g (dm s args.toList) h K)
 | .call {callee := .value f,args,argTypes}=>gY P (ev s f) (dm s args.toList) h K
 |_=>cond (Nat.beq (wj q o) 1) (MH P s o hv λv _=>K v h) (MH P s o h K)
def Tp(P:Program)(q:FuncId->Nat)(ops:Array Oper):List Oper->Nat->List Nat->List (Nat×Nat)->Env->za->(Env->za->Prop)->Prop
 |[],_,_,_,s,h,K=>K s h
 |o::os,i,ms,al,s,h,K=>(match o.guard with
  |none=>opD P q s o (view (yC ms o) al h) h λv h1=>(match s.put o.dst v with
   |some s1=>Tp P q ops os (i+1) (ms++[yC ms o]) (cond (Nat.beq (wj q o) 2) (al++[(i,h.next)]) al) s1 h1 K
   |none=>False)
  |some (j,want)=>(match (ops[j]?).bind (·.dst) with
   |none=>False
   |some d=>GD (s.get d) want (opD P q s o (view (yC ms o) al h) h) (λv h1=>(match s.put o.dst v with
    |some s1=>Tp P q ops os (i+1) (ms++[yC ms o]) (cond (Nat.beq (wj q o) 2) (al++[(i,h.next)]) al) s1 h1 K
    |none=>False)) h))
def bC(P:Program)(q:FuncId->Nat)(ops:Array Oper)(s:Env)(h:za)(K:Env->za->Prop):Prop:=cond (calm q ops) (Tp P q ops ops.toList 0 [] [] s h K) False
def Xg:Op->Bool
 | .call {callee := .value _,.. }=>true
 |_=>false
theorem fI{q:FuncId->Nat}{s:Env}{o:Oper}{h h':za}{u:aaa}(hk:wj q o=0)(hc:Xg o.op=false)(he:UM P s o h=some (u,h')):h'=h /\ ∀g,UM P s o g=some (u,g):=by
 have key:∀{x:Option aaa},one h x=some (u,h')->h'=h /\ ∀g,one g x=some (u,g):=λe=>by
  obtain⟨e1,e2⟩:=vK e;exact⟨e2,λg=>XJ e1⟩
 unfold wj at hk;unfold UM at he ⊢
 split at he <;> rename_i yj <;> simp only[yj]at hk ⊢ <;> first
  |exact key he
  |(cases he;done)
  |(cases hk;done)
  |skip
 ·split at he
  ·exact key he
  ·exact key he
  ·cases he
 ·split at he
  ·exact key he
  ·cases he
 ·split at he
  ·simp only[aab,aaf]at he;obtain⟨rfl,rfl⟩:=he;exact⟨rfl,λg=>rfl⟩
  ·simp only[aab,aaf]at he;obtain⟨rfl,rfl⟩:=he;exact⟨rfl,λg=>rfl⟩
  ·cases he
 ·split at he
  ·exact key he
  ·cases he
 ·split at he
  ·obtain⟨hf,he⟩:=zq he;simp only[hf,aaw];exact key he
  ·cases he
 ·split at he
  ·split at he
   ·simp only[aab,aaf]at he;obtain⟨rfl,rfl⟩:=he;exact⟨rfl,λg=>rfl⟩
   ·cases he
  ·cases he
 ·split at he
  ·simp only[aab,aaf]at he;obtain⟨rfl,rfl⟩:=he;exact⟨rfl,λg=>rfl⟩
  ·cases he
 ·split at he
  ·exact key he
  ·cases he
 ·split at he
  ·split at he
   ·split at he
    ·exact key he
    ·cases he
   ·cases he
  ·cases he
 ·split at he
  ·exact key he
  ·cases he
 ·split at he
  ·obtain⟨hf,he⟩:=zq he;simp only[hf,aaw];exact key he
  ·cases he
 ·split at he
  ·exact key he
  ·cases he
 ·exfalso;rename_i b args ts;cases hq:XL b <;> rw[hq]at hk <;> cases hk
theorem JC{q:FuncId->Nat}{s:Env}{o:Oper}{h h':za}{u:aaa}(hk:wj q o=1)(hc:Xg o.op=false)(he:UM P s o h=some (u,h')):h'=h:=by
 unfold wj at hk;unfold UM at he
 split at he <;> rename_i yj <;> simp only[yj]at hk <;> first
  |(cases he;done)
  |(cases hk;done)
  |skip
 ·split at he
  ·exact(vK he).2
  ·cases he
 ·split at he
  ·split at he
   ·simp only[aab,aaf]at he;exact he.2.symm
   ·cases he
  ·exact(vK he).2
  ·cases he
 ·rename_i b args ts;split at he
  ·refine Jb ?_ he;cases hq:XL b with
   |true=>rfl
   |false=>rw[hq]at hk;cases hk
  ·cases he
 ·split at he
  ·exact(vK he).2
  ·cases he
 ·split at he
  ·exact(vK he).2
  ·cases he
theorem i5{q:FuncId->Nat}{s:Env}{o:Oper}{h h':za}{u:aaa}(hk:wj q o=2)(hc:Xg o.op=false)(he:UM P s o h=some (u,h')):Still h h':=by
 refine(Z2 he).2 ?_;unfold wj at hk
 split at hk <;> rename_i yj <;> first
  |(cases hk;done)
  |(rw[yj]at hc;cases hc;done)
  |(rw[yj];rfl)
  |skip
 rename_i b args ts;cases hq:XL b <;> rw[hq]at hk <;> cases hk
end
noncomputable section
variable {P:Program}
theorem XB{s:Env}{o:Oper}{h h':za}{u:aaa}(he:UM P s o h=some (u,h')):Xg o.op=false:=by
 cases hc:Xg o.op with
 |false=>rfl
 |true=>
  unfold Xg at hc;split at hc
  ·rename_i yj;unfold UM at he;simp only[yj]at he;cases he
  ·cases hc
structure RP (q:FuncId->Nat) (x:yz):Prop where
 rd:∀b,x.rd b=true->b<x.g.next
 k0:wj q x.o=0->∀b,x.rd b=false
 k1:wj q x.o<=1->∀b,x.tc b=false
 k2:wj q x.o=2->∀b,x.tc b=true->x.g.next<=b
structure Next (P:Program) (q:FuncId->Nat) (ops:Array Oper) (s0:Env) (h0:za) (A:List yz) (i:Nat) (o:Oper) (s:Env) (h:za) (u:aaa) (h1:za) (bound:Nat) (y:yz):Prop where
 hj:y.j=i
 yj:y.o=o
 Mq:y.s=s
 sK:y.v=u
 gn:y.g.next=h.next
 told:Told P ops s0 h0 A y
 rp:RP q y
 rb:wj q o=1->∀b,y.rd b=true->b<bound
 heap:∀b,h1.get b=if y.tc b=true then y.g'.get b else h.get b
 ro:h1.ro=h.ro
 next:h.next<=h1.next
 EO:y.g'.next<=h1.next
 wf:WF h1
section
variable {q:FuncId->Nat}{ops:Array Oper}{s0:Env}{h0:za}{A:List yz}{i:Nat}{o:Oper}{s:Env}{h:za}
theorem im(F:vB P ops s0 h0 A i s h)(ho:ops[i]? = some o)(hput:∀d,o.dst=some d->d<s.size){u:aaa}(hs:ja P ops s o (h.pick []) u (h.pick []))(bound:Nat):∃y,Next P q ops s0 h0 A i o s h u h bound y:=by
 refine⟨⟨i,o,u,s,h.pick [],h.pick [],λ_=>false,λ_=>false⟩,rfl,rfl,rfl,rfl,rfl,
  ⟨ho,F.env,F.size,λb=>by rw[ux];simp,F.ro,F.next,F.nA,aaj _,hs,λd hd=>by rw[<- F.size];exact hput d hd,λb hb=>(by cases hb),λb _=>rfl,λb o' hb=>(by cases hb)⟩,
  ⟨λb hb=>(by cases hb),λ_ _=>rfl,λ_ _=>rfl,λ_ b hb=>(by cases hb)⟩,λ_ b hb=>(by cases hb),λb=>by simp,rfl,aaj _,aaj _,F.wf⟩
theorem AQ(F:vB P ops s0 h0 A i s h)(ho:ops[i]? = some o)(hput:∀d,o.dst=some d->d<s.size)(hk:wj q o=1){hv:za}{bound:Nat}(hb:bound<=h.next)(hn:hv.next=h.next)(hro:hv.ro=h.ro)
  (hg:∀b,hv.get b=if b<bound then h.get b else none) {u:aaa} (hs:ja P ops s o hv u hv):∃y,Next P q ops s0 h0 A i o s h u h bound y:=by
 refine⟨⟨i,o,u,s,hv,hv,λb=>Nat.blt b bound,λ_=>false⟩,rfl,rfl,rfl,rfl,hn,
  ⟨ho,F.env,F.size,λb=>?_,hro.trans F.ro,by rw[hn];exact F.next,λx hx=>by rw[hn];exact F.nA x hx,aaj _,hs,λd hd=>by rw[<- F.size];exact hput d hd,λb hb=>(by cases hb),λb _=>rfl,λb o' hb=>(by cases hb)⟩,
  ⟨λb hb2=>by have:b<bound:=by simpa [aaN] using hb2
              show b<hv.next;omega,λh=>by simp only at h;omega,λ_ _=>rfl,λh=>by simp only at h;omega⟩,λ_ b hb2=>by simpa [aaN] using hb2,λb=>by simp,rfl,aaj _,by rw[hn];exact aaj _,F.wf⟩
 show hv.get b=if Nat.blt b bound=true then YV A h0 b else none;have hbl:(Nat.blt b bound=true) ↔ b<bound:=by rw[aaN]
 rw[hg];by_cases hbb:b<bound
 ·rw[aah hbb,aah (hbl.2 hbb),F.heap]
 ·rw[aae hbb,aae (λe=>hbb (hbl.1 e))]
theorem qF{h:za}(w:WF h){b:Nat}(hb:¬b<h.next):h.get b=none:=by
 cases hh:h.get b with|none=>rfl|some o'=>exact absurd (w b o' hh) hb
theorem cU(F:vB P ops s0 h0 A i s h)(ho:ops[i]? = some o)(hput:∀d,o.dst=some d->d<s.size)(hk:wj q o=2){h1:za}(hn:h.next<=h1.next)(hro:h1.ro=h.ro)(hold:∀b,¬(h.next<=b/\b<h1.next)->h1.get b=h.get b)
  {u:aaa} (hs:ja P ops s o h u h1) (bound:Nat):∃y,Next P q ops s0 h0 A i o s h u h1 bound y:=by
 have hrd:∀b,(Nat.blt b h.next=true) ↔ b<h.next:=λb=>by rw[aaN]
 have htc:∀b,(decide (h.next<=b/\b<h1.next)=true) ↔ (h.next<=b/\b<h1.next):=λb=>by simp
 refine⟨⟨i,o,u,s,h,h1,λb=>Nat.blt b h.next,λb=>decide (h.next<=b/\b<h1.next)⟩,rfl,rfl,rfl,rfl,rfl,
  ⟨ho,F.env,F.size,λb=>?_,F.ro,F.next,F.nA,hn,hs,λd hd=>by rw[<- F.size];exact hput d hd,λb hb => .inr ((htc b).1 hb),λb hb=>?_,λb o' hb hlt=>?_⟩,
  ⟨λb hb=>(hrd b).1 hb,λh=>by simp only at h;omega,λh=>by simp only at h;omega,λ_ b hb=>((htc b).1 hb).1⟩,λh=>by omega,λb=>?_,hro,hn,aaj _,λb o' hb=>?_⟩
 ·show h.get b=if Nat.blt b h.next=true then YV A h0 b else none;by_cases hb:b<h.next
  ·rw[aah ((hrd b).2 hb),F.heap]
  ·rw[aae (λe=>hb ((hrd b).1 e)),qF F.wf hb]
 ·refine hold b (λe=>?_);have:=(htc b).2 e;rw[show decide (h.next<=b/\b<h1.next)=false from hb]at this;cases this
 ·have:=((htc b).1 hb).1;have hlt:b<h.next:=hlt;omega
 ·show h1.get b=if decide (h.next<=b/\b<h1.next)=true then h1.get b else h.get b;by_cases hb:h.next<=b/\b<h1.next
  ·rw[aah ((htc b).2 hb)]
  ·rw[aae (λe=>hb ((htc b).1 e)),hold b hb]
 ·by_cases hc:h.next<=b/\b<h1.next
  ·exact hc.2
  ·rw[hold b hc]at hb;exact aap (F.wf b o' hb) hn
theorem cV(F:vB P ops s0 h0 A i s h)(ho:ops[i]? = some o)(hput:∀d,o.dst=some d->d<s.size)(hk:wj q o=3){h1:za}(af:AF h h1)
  {u:aaa} (hs:ja P ops s o h u h1) (bound:Nat):∃y,Next P q ops s0 h0 A i o s h u h1 bound y:=by
 have hrd:∀n b,(Nat.blt b n=true) ↔ b<n:=λn b=>by rw[aaN]
 have hn:h.next<=h1.next:=af.next;have hwf:WF h1:=F.wf.af af
 refine⟨⟨i,o,u,s,h,h1,λb=>Nat.blt b h.next,λb=>Nat.blt b h1.next⟩,rfl,rfl,rfl,rfl,rfl,
  ⟨ho,F.env,F.size,λb=>?_,F.ro,F.next,F.nA,hn,hs,λd hd=>by rw[<- F.size];exact hput d hd,λb hb=>?_,λb hb=>?_,λb o' hb hlt hg=>?_⟩,
  ⟨λb hb=>(hrd _ b).1 hb,λh=>by simp only at h;omega,λh=>by simp only at h;omega,λh=>by simp only at h;omega⟩,λh=>by omega,λb=>?_,af.ro,hn,aaj _,hwf⟩
 ·show h.get b=if Nat.blt b h.next=true then YV A h0 b else none;by_cases hb:b<h.next
  ·rw[aah ((hrd _ b).2 hb),F.heap]
  ·rw[aae (λe=>hb ((hrd _ b).1 e)),qF F.wf hb]
 ·have hb:=(hrd _ b).1 hb;by_cases hlt:b<h.next
  ·exact .inl ((hrd _ b).2 hlt)
  ·exact .inr ⟨abT hlt,hb⟩
 ·have hb':¬b<h1.next:=λe=>by
   have:=(hrd h1.next b).2 e;rw[show Nat.blt b h1.next=false from hb]at this;cases this
  show h1.get b=h.get b;rw[qF hwf hb',qF F.wf (by omega)]
 ·rcases af.alive b o' hg with h2|⟨h2,_⟩
  ·exact h2
  ·have hlt:b<h.next:=hlt;omega
 ·show h1.get b=if Nat.blt b h1.next=true then h1.get b else h.get b;by_cases hb:b<h1.next
  ·rw[aah ((hrd _ b).2 hb)]
  ·rw[aae (λe=>hb ((hrd _ b).1 e)),qF hwf hb,qF F.wf (by omega)]
theorem Us{h h1:za}(st:Still h h1):h.next<=h1.next/\h1.ro=h.ro /\ ∀b,¬(h.next<=b/\b<h1.next)->h1.get b=h.get b:=by
 rcases st with rfl|⟨ob,rfl⟩
 ·exact⟨aaj _,rfl,λ_ _=>rfl⟩
 ·refine⟨abx _,rfl,λb hb=>?_⟩;rw[za.vJ,aae (λe=>hb ⟨by omega,by rw[za.ay];omega⟩)]
theorem dh{m:Nat}{al:List (Nat×Nat)}{h:za}(w:WF h)(hal:∀x,x∈al->x.2<=h.next):∃bound,bound<=h.next/\(view m al h).next=h.next/\(view m al h).ro=h.ro/\(∀b,(view m al h).get b=if b<bound then h.get b else none) /\ ∀n,firstFree m al=some n->bound=n:=by
 have mem:∀(al:List (Nat×Nat)) n,firstFree m al=some n->∃p,(p,n)∈al:=by
  intro al
  induction al with
  |nil=>intro n e;cases e
  |cons x l ih=>
   intro n e;obtain⟨p,n'⟩:=x;simp only[firstFree]at e;cases hb:m.testBit p with
   |true=>rw[hb]at e;obtain⟨p',hp⟩:=ih n e;exact⟨p',by simp[hp]⟩
   |false=>rw[hb]at e;cases e;exact⟨p,by simp⟩
 unfold view;cases hf:firstFree m al with
 |none=>exact⟨h.next,aaj _,rfl,rfl,λb=>by
   by_cases hb:b<h.next
   ·rw[aah hb]
   ·rw[aae hb,qF w hb],λn e=>by cases e⟩
 |some n=>
  obtain⟨p,hp⟩:=mem al n hf;have hn:n<=h.next:=hal _ hp;refine⟨n,hn,rfl,rfl,λb=>?_,λn' e=>by cases e;rfl⟩;simp only[EM];by_cases hb:b<n
  ·rw[aae (by omega),aah hb]
  ·by_cases hb2:b<h.next
   ·rw[aah ⟨by omega,hb2⟩,aae hb]
   ·rw[aae (by omega),aae hb,qF w hb2]
theorem Next.af{u:aaa}{h1:za}{bound:Nat}{y:yz}(N:Next P q ops s0 h0 A i o s h u h1 bound y)(F:vB P ops s0 h0 A i s h):AF h h1 :=
 ⟨N.next,N.ro,λb o hb=>by
  rw[N.heap]at hb;by_cases ht:y.tc b=true
  ·rw[aah ht]at hb;by_cases hl:b<y.g.next
   ·have h2:=N.told.tc3 b o ht hl hb;have h3:=N.told.heap b;rw[h3]at h2;by_cases hr:y.rd b=true
    ·rw[aah hr,<- F.heap]at h2;exact .inl h2
    ·rw[aae hr]at h2;exact absurd rfl h2
   ·have hb1:h1.get b=some o:=(by rw[N.heap,aah ht];exact hb);exact .inr ⟨by rw[<- N.gn];omega,N.wf b o hb1⟩
  ·rw[aae ht]at hb;exact .inl (by rw[hb];simp)⟩
theorem Fl(F:vB P ops s0 h0 A i s h)(hron:h.ro<=h.next)(ho:ops[i]? = some o)(hput:∀d,o.dst=some d->d<s.size)(hw:yw ops s o=true){r:Env}(hl:Le r s){m:Nat}{al:List (Nat×Nat)}(hal:∀x,x∈al->x.2<=h.next)
  {K:aaa->za->Prop} (hk:opD P q r o (view m al h) h K):∃v u h1 y bound,(zR v=true\/v=u)/\K v h1/\Next P q ops s0 h0 A i o s h u h1 bound y /\ ∀n,firstFree m al=some n->bound=n:=by
 obtain⟨bound,hb1,hb2,hb3,hb4,hb5⟩:=dh (m:=m) F.wf hal;unfold opD at hk;split at hk
 ·rename_i g args ts yj;have ef:kT s (.func g)=some (.func (.func g) #[] #[]):=rfl;have hkind:wj q o=ft (q g):=by unfold wj;simp only[yj]
  split at hk
  ·rename_i hq;obtain⟨hc,hn,v,hsc,hT,hK⟩:=hk
   have hT2:TC P g (dm r args.toList) (view m al h) (λv1 h1=>v1=v/\h1=view m al h) :=
    (hT.quiet (λv1 _ e=>by rw[e];exact hsc)).mono (by rintro v1 h1 ⟨⟨_,e1⟩,e2⟩;exact⟨e1,e2⟩)
   obtain⟨y,hy⟩:=AQ (q:=q) F ho hput (by rw[hkind,hq];rfl) hb1 hb2 hb3 hb4 (u:=v) (.inr ⟨hw,.inr (.inl ⟨.func g,args,ts,g,#[],#[],_,yj,ef,Q9 hl hn,hc,by simpa using hT2⟩)⟩);exact⟨v,v,h,y,bound,.inr rfl,hK,hy,hb5⟩
  ·rename_i hq;obtain⟨hc,hn,v,h2,hT,af,hK⟩:=hk;have hnx:h.next<=h2.next:=af.next
   obtain⟨y,hy⟩:=cU (q:=q) F ho hput (by rw[hkind,hq];rfl) (h1:=vE h h2) hnx rfl (λb hb=>by rw[wU];exact aae hb) (u:=v)
    (.inr ⟨hw,.inr (.inl ⟨.func g,args,ts,g,#[],#[],_,yj,ef,Q9 hl hn,hc,by simpa using hT.fresh⟩)⟩) bound
   exact⟨v,v,_,y,bound,.inr rfl,hK,hy,hb5⟩
  ·rename_i hq;obtain⟨hn,hk⟩:=hk;obtain⟨v,h2,he,hK⟩:=Zm hk;obtain⟨f1,f2,f3⟩:=Us (Xz he);obtain⟨y,hy⟩:=cU (q:=q) F ho hput (by rw[hkind,hq];rfl) f1 f2 f3 (u:=v) (.inr ⟨hw,.inr (.inr ⟨.func g,args,ts,g,#[],#[],_,yj,ef,Q9 hl hn,by simpa using he⟩)⟩) bound;exact⟨v,v,_,y,bound,.inr rfl,hK,hy,hb5⟩
  ·rename_i n2 n3 n4;obtain⟨hc,hn,hd⟩:=hk;obtain⟨v,h2,hK,af,hT⟩:=hd ⟨F.wf,hron⟩
   obtain⟨y,hy⟩:=cV (q:=q) F ho hput (by rw[hkind];unfold ft;split <;> first|rfl|(exfalso;simp_all)) af (u:=v)
    (.inr ⟨hw,.inr (.inl ⟨.func g,args,ts,g,#[],#[],_,yj,ef,Q9 hl hn,hc,by simpa using hT⟩)⟩) bound
   exact⟨v,v,_,y,bound,.inr rfl,hK,hy,hb5⟩
 ·rename_i f args ts hnf yj;unfold gY at hk;split at hk
  ·rename_i g a c hf;have ef:kT s f=some (.func (.func g) a c):=by rw[Yg hl (x:=f) (by rw[hf];rfl),hf]
   obtain⟨hn0,hc,hn,hd⟩:=hk;obtain⟨v,h2,hK,af,hT⟩:=hd ⟨F.wf,hron⟩
   have hkind:wj q o=3:=by
    unfold wj;simp only[yj]
   obtain⟨y,hy⟩:=cV (q:=q) F ho hput hkind af (u:=v) (.inr ⟨hw,.inr (.inl ⟨f,args,ts,g,a,c,_,yj,ef,Q9 hl hn0,hc,hT⟩)⟩) bound;exact⟨v,v,_,y,bound,.inr rfl,hK,hy,hb5⟩
  ·exact hk.elim
 ·rename_i hn1 hn2;cases h1:Nat.beq (wj q o) 1 with
  |true=>
   rw[h1]at hk;have h1:=aal h1;obtain⟨v,u,h',he,hv,hK⟩:=qX hl hk;obtain rfl:=JC h1 (XB he) he;obtain⟨y,hy⟩:=AQ (q:=q) F ho hput h1 hb1 hb2 hb3 hb4 (u:=u) (.inr ⟨hw,.inl he⟩);exact⟨v,u,h,y,bound,hv,hK,hy,hb5⟩
  |false=>
   rw[h1]at hk;obtain⟨v,u,h',he,hv,hK⟩:=qX hl hk;have hnc:=XB he
   have hkle:wj q o=0\/wj q o=1\/wj q o=2\/wj q o=3:=by
    unfold wj;split <;> (try simp)
    ·unfold ft;split <;> simp
    ·rename_i b _ _ _;cases XL b <;> simp
   rcases hkle with h0'|h1'|h2'|h3'
   ·obtain⟨rfl,hany⟩:=fI h0' hnc he;obtain⟨y,hy⟩:=im (q:=q) F ho hput (u:=u) (.inr ⟨hw,.inl (hany _)⟩) bound;exact⟨v,u,h',y,bound,hv,hK,hy,hb5⟩
   ·rw[h1']at h1;cases h1
   ·obtain⟨f1,f2,f3⟩:=Us (i5 h2' hnc he);obtain⟨y,hy⟩:=cU (q:=q) F ho hput h2' f1 f2 f3 (u:=u) (.inr ⟨hw,.inl he⟩) bound;exact⟨v,u,h',y,bound,hv,hK,hy,hb5⟩
   ·obtain⟨y,hy⟩:=cV (q:=q) F ho hput h3' (Z2 he).1 (u:=u) (.inr ⟨hw,.inl he⟩) bound;exact⟨v,u,h',y,bound,hv,hK,hy,hb5⟩
end
def U2(q:FuncId->Nat):List yz->List (Nat×Nat)
 |[]=>[]
 |x::l=>cond (Nat.beq (wj q x.o) 2) ((x.j,x.g.next)::U2 q l) (U2 q l)
theorem LQ(q:FuncId->Nat)(A:List yz)(y:yz):U2 q (A++[y])=cond (Nat.beq (wj q y.o) 2) (U2 q A++[(y.j,y.g.next)]) (U2 q A):=by
 induction A with
 |nil=>simp only[abv,U2]
 |cons x A ih=>
  simp only[ach,U2,ih];cases Nat.beq (wj q x.o) 2 <;> cases Nat.beq (wj q y.o) 2 <;> rfl
theorem Pm{q:FuncId->Nat}{A:List yz}{z:Nat×Nat}(h:z∈U2 q A):∃x,x∈A/\z=(x.j,x.g.next):=by
 induction A with
 |nil=>cases h
 |cons x A ih=>
  simp only[U2]at h;cases hb:Nat.beq (wj q x.o) 2 with
  |true=>
   rw[hb]at h;rcases aaz.1 h with e|h
   ·exact⟨x,by simp,e⟩
   ·obtain⟨x',h1,h2⟩:=ih h;exact⟨x',by simp[h1],h2⟩
  |false=>rw[hb]at h;obtain⟨x',h1,h2⟩:=ih h;exact⟨x',by simp[h1],h2⟩
theorem zab{q:FuncId->Nat}{m:Nat}:∀{A:List yz},(∀A1 x A2 y A3,A=A1++x::(A2++y::A3)->x.g.next<=y.g.next)->∀x,x∈A->wj q x.o=2->m.testBit x.j=false->∃n,firstFree m (U2 q A)=some n/\n<=x.g.next
 |[],_,x,hx,_,_=>by cases hx
 |z::A,hm,x,hx,hk,hb=>by
  have rest:x∈A->∃n,firstFree m (U2 q A)=some n/\n<=x.g.next:=λhx=>zab (λA1 x A2 y A3 e=>hm (z::A1) x A2 y A3 (by rw[e];rfl)) x hx hk hb;simp only[U2];cases hz:Nat.beq (wj q z.o) 2 with
  |false=>
   simp only[aaH];rcases aaz.1 hx with rfl|hx
   ·rw[hk]at hz;cases hz
   ·exact rest hx
  |true=>
   simp only[aaw,firstFree];cases hbz:m.testBit z.j with
   |true=>
    simp only[aaw];rcases aaz.1 hx with rfl|hx
    ·rw[hb]at hbz;cases hbz
    ·exact rest hx
   |false=>
    simp only[aaH];refine⟨_,rfl,?_⟩;rcases aaz.1 hx with rfl|hx
    ·exact aaj _
    ·obtain⟨A1,A2,e⟩:=aaP hx;exact hm [] z A1 x A2 (by rw[e];rfl)
theorem Mj{q:FuncId->Nat}{ops:Array Oper}{x y:yz}(hx:RP q x)(hy:RP q y)(hs:ji ops x.o y.o=true)(hp:Ha (wj q x.o) (wj q y.o)=true)(hn:x.g.next<=y.g.next)
  (hb:wj q x.o=2->wj q y.o=1->∀b,y.rd b=true->b<x.g.next):lI ops x y:=by
 simp only[ji,aac]at hs;obtain⟨h1,h2⟩:=hs
 have d1:∀d,x.o.dst=some d->d∉y.o.looksAt ops/\y.o.dst≠some d:=by
  intro d hd;rw[hd]at h1;simp only[aac,aao,aam,aaE]at h1;exact⟨h1.1,h1.2⟩
 have d2:∀d,y.o.dst=some d->d∉x.o.looksAt ops:=by
  intro d hd;rw[hd]at h2;simp only[aao,aam,aaE]at h2;exact h2
 have ff:∀{b:Bool},b≠true->b=false:=λh=>by simpa using h
 simp only[Ha,aaV,aac]at hp;rcases hp with((h|h)|⟨h,h'⟩)|⟨h,h'⟩
 ·have h:=aal h;have t:=hx.k1 (by omega);have r:=hx.k0 h;exact⟨d1,d2,λb hb=>(by rw[t b]at hb;cases hb),λb _=>r b⟩
 ·have h:=aal h;have t:=hy.k1 (by omega);have r:=hy.k0 h;exact⟨d1,d2,λb _=>⟨r b,t b⟩,λb hb=>by rw[t b]at hb;cases hb⟩
 ·have h:=aal h;have h':=aaF h';have t:=hx.k1 (by omega);refine⟨d1,d2,λb hb=>(by rw[t b]at hb;cases hb),λb hb=>ff (λhr=>?_)⟩;have l1:=hx.rd b hr;by_cases h2:wj q y.o=2
  ·have:=hy.k2 h2 b hb;omega
  ·rw[hy.k1 (by omega) b]at hb;cases hb
 ·have h:=aal h;have h':=aal h';have t:=hy.k1 (by omega);refine⟨d1,d2,λb hb'=>⟨ff (λhr=>?_),t b⟩,λb hb=>by rw[t b]at hb;cases hb⟩;have l1:=hx.k2 h b hb';have l2:=hb h h' b hr;omega
theorem Hm{ops:Array Oper}{s0:Env}{h0:za}{A:List yz}{i:Nat}{s:Env}{h:za}(F:vB P ops s0 h0 A i s h):∀A1 x A2 y A3,A=A1++x::(A2++y::A3)->x.g.next<=y.g.next:=by
 intro A1 x A2 y A3 e;have t1:=F.told A1 x _ e;have t2:=F.told (A1++x::A2) y A3 (by rw[e];simp);have:=t2.nA x (by simp);have:=t1.n1;omega
theorem Rs{q:FuncId->Nat}{ops:Array Oper}{s0:Env}{h0:za}(hro0:h0.ro<=h0.next):∀(l:List Oper) (i:Nat) (ms:List Nat) (A:List yz) (r s:Env) (h:za) {K:Env->za->Prop},
  ops.toList.drop i=l->i<=ops.size->KL ops ms->ms.length=i->vB P ops s0 h0 A i s h->(∀x,x∈A->RP q x)->ZQ ops l i ms (A.reverse.map λx=>(x.j,x.o))=true->B6 q l i ms (A.reverse.map λx=>(x.j,wj q x.o))=true ->
  Le r s->Tp P q ops l i ms (U2 q A) r h K->∃A' r' s' h',vB P ops s0 h0 A' ops.size s' h'/\Le r' s'/\K r' h'/\Fr (Vy l) s s'/\AF h h'
 |[],i,ms,A,r,s,h,K,hl,hle,hm,hml,F,hrp,hst,hkd,hle1,hk=>by
  have:i=ops.size:=by
   have:=congrArg List.length hl;simp at this;omega
  subst this;exact⟨A,r,s,h,F,hle1,hk,.refl _ _,.refl _⟩
 |o::os,i,ms,A,r,s,h,K,hl,hle,hm,hml,F,hrp,hst,hkd,hle1,hk=>by
  have ho:ops[i]? = some o:=by
   have:=congrArg (λl=>l[0]?) hl;simp only[aaQ,aaC]at this;simpa using this
  have hlt:i<ops.size:=by
   rcases aaI i ops.size with h|h
   ·exact h
   ·rw[aaJ h]at ho;cases ho
  have hl':ops.toList.drop (i+1)=os:=by rw[<- acm,hl];rfl
  simp only[ZQ,aac]at hst;obtain⟨⟨hedge,hslots⟩,hst⟩:=hst;simp only[B6,aac]at hkd;obtain⟨hpair,hkd⟩:=hkd
  have hal:∀x,x∈U2 q A->x.2<=h.next:=λx hx=>by
   obtain⟨z,hz,rfl⟩:=Pm hx;have:=F.nA z hz;obtain⟨A1,A2,e⟩:=aaP hz;have:=(F.told A1 z A2 e).n1;show z.g.next<=h.next;omega
  have go:∀(v u:aaa) (h1:za) (y:yz) (bound:Nat),(zR v=true\/v=u)->Next P q ops s0 h0 A i o s h u h1 bound y->(∀n,firstFree (yC ms o) (U2 q A)=some n->bound=n) ->
    (match r.put o.dst v with|some s1=>Tp P q ops os (i+1) (ms++[yC ms o]) (cond (Nat.beq (wj q o) 2) (U2 q A++[(i,h.next)]) (U2 q A)) s1 h1 K|none=>False) ->
    ∃A' r' s' h',vB P ops s0 h0 A' ops.size s' h'/\Le r' s'/\K r' h'/\Fr (Vy (o::os)) s s'/\AF h h':=by
   intro v u h1 y bound hv N hbound hk;split at hk
   case h_2=>exact hk.elim
   rename_i r1 hp;obtain⟨s1,hp1,hl1⟩:=hle1.put hp hv
   have hs1:∀t,s1.get t=if o.dst=some t then u else s.get t:=by
    intro t;cases hd:o.dst with
    |none=>rw[hd]at hp1;simp only[Env.put,aab]at hp1;subst hp1;simp
    |some d=>
     rw[hd]at hp1;simp only[Env.put]at hp1;obtain⟨_,hp1⟩:=zq hp1;simp only[aab]at hp1;subst hp1;rw[Env.yq];by_cases e:t=d
     ·subst e;simp
     ·rw[aae e,aae (by simp only[aab];exact λh=>e h.symm)]
   have hs1s:s1.size=s.size:=(Fr.put hp1).size;have hal2:(cond (Nat.beq (wj q o) 2) (U2 q A++[(i,h.next)]) (U2 q A))=U2 q (A++[y]):=by rw[LQ,N.yj,N.hj,N.gn]
   rw[hal2]at hk
   have F1:vB P ops s0 h0 (A++[y]) (i+1) s1 h1:=by
    refine⟨?_,?_,hs1s.trans F.size,?_,N.ro.trans F.ro,aaU F.next N.next,?_,N.wf,?_,?_,?_⟩
    ·rw[aaY,F.js,aca];simp[N.hj]
    ·intro t;rw[hs1,Qd,N.yj,N.sK,F.env]
    ·intro b;rw[N.heap,Ju,F.heap]
    ·intro x hx;rcases aaD.1 hx with hx|hx
     ·exact aaU (F.nA x hx) N.next
     ·simp only[aat]at hx;subst hx;exact N.EO
    ·intro A1 r A2 e;rcases vN e with⟨_,rfl,rfl⟩|⟨A3,_,e3⟩
     ·exact N.told
     ·exact F.told A1 r A3 e3
    ·intro A1 r A2 e ed hed hb;rcases vN e with⟨_,rfl,rfl⟩|⟨A3,_,e3⟩
     ·rw[N.yj]at hed;simp only[aav,aaV,aao,aaN]at hedge;rcases hedge ed (by simpa using hed) with h2|h2
      ·rw[hb]at h2;cases h2
      ·have:ed.on∈A1.map (·.j):=(by rw[F.js];exact abj.2 h2);obtain⟨x,hx,hxj⟩:=aa0.1 this;exact⟨x,hx,hxj⟩
     ·exact F.Vr A1 r A3 e3 ed hed hb
    ·intro A1 x A2 z A3 e;have e':A++[y]=(A1++x::A2)++z::A3:=by rw[e];simp
     rcases vN e' with⟨_,e1,rfl⟩|⟨A4,_,e3⟩
     ·have hxm:x∈A:=(by rw[<- e1];simp);simp only[aav,aaV]at hpair hslots;rcases hslots (x.j,x.o) (aa0.2 ⟨x,by simpa using hxm,rfl⟩) with h2|h2
      ·rw[N.hj];exact .inl (u0 hm ho h2)
      ·rcases hpair (x.j,wj q x.o) (aa0.2 ⟨x,by simpa using hxm,rfl⟩) with h3|h3
       ·rw[N.hj];exact .inl (u0 hm ho h3)
       ·by_cases hbit:(yC ms o).testBit x.j=true
        ·rw[N.hj];exact .inl (u0 hm ho hbit)
        ·simp only[ab4]at hbit;refine .inr (Mj (q:=q) (hrp x hxm) N.rp (by rw[N.yj];exact h2) (by rw[N.yj];exact h3) ?_ ?_)
         ·have:=F.nA x hxm;obtain⟨B1,B2,eB⟩:=aaP hxm;have:=(F.told B1 x B2 eB).n1;rw[N.gn];omega
         ·intro k2 k1 b hrd;obtain⟨n,hn,hle2⟩:=zab (m:=yC ms o) (Hm F) x hxm k2 hbit;have:=N.rb (by rw[<- N.yj];exact k1) b hrd;have:=hbound n hn;omega
     ·exact F.apart A1 x A2 z A4 (by rw[e3];simp)
   obtain⟨A',r',s',h',F',l',k',f',a'⟩:=Rs hro0 os (i+1) (ms++[yC ms o]) (A++[y]) r1 s1 h1 hl' hlt (Wm hm hml ho) (by simp[hml]) F1
    (λx hx=>by rcases aaD.1 hx with hx|hx
               ·exact hrp x hx
               ·simp only[aat]at hx;subst hx;exact N.rp)
    (by simpa [N.hj,N.yj] using hst) (by simpa [N.hj,N.yj] using hkd) hl1 hk
   exact⟨A',r',s',h',F',l',k',(Fr.put hp1).left.trans f'.right,(N.af F).trans a'⟩
  have slot:∀{v:aaa} {h1:za} {al':List (Nat×Nat)},(match r.put o.dst v with|some s1=>Tp P q ops os (i+1) (ms++[yC ms o]) al' s1 h1 K|none=>False)->∀d,o.dst=some d->d<s.size:=by
   intro v h1 al' hk d hd;split at hk
   case h_2=>exact hk.elim
   rename_i r1 hp;rw[hd]at hp;simp only[Env.put]at hp;obtain⟨hb,_⟩:=zq hp;rw[<- hle1.size];simpa [aaN] using hb
  have hron:h.ro<=h.next:=by rw[F.ro];exact aaU hro0 F.next
  have dstok:∀{hv:za} {K':aaa->za->Prop},opD P q r o hv h K'->(∀v h1,K' v h1->∀d,o.dst=some d->d<s.size)->∀d,o.dst=some d->d<s.size:=by
   intro hv K' hk hs
   have fromA:∀{g:za} {K2:aaa->za->Prop},MH P r o g K2->(∀v h1,K2 v h1->∀d,o.dst=some d->d<s.size)->∀d,o.dst=some d->d<s.size:=λhk hs=>by
    obtain⟨v,u,h',_,_,hK⟩:=qX hle1 hk;exact hs v h' hK
   unfold opD at hk;split at hk
   ·split at hk
    ·obtain⟨_,_,v,_,_,hK⟩:=hk;exact hs _ _ hK
    ·obtain⟨_,_,v,h2,_,_,hK⟩:=hk;exact hs _ _ hK
    ·obtain⟨_,hk⟩:=hk;obtain⟨v,h2,_,hK⟩:=Zm hk;exact hs _ _ hK
    ·obtain⟨_,_,hd⟩:=hk;obtain⟨v,h2,hK,_⟩:=hd ⟨F.wf,hron⟩;exact hs _ _ hK
   ·unfold gY at hk;split at hk
    ·obtain⟨_,_,_,hd⟩:=hk;obtain⟨v,h2,hK,_⟩:=hd ⟨F.wf,hron⟩;exact hs _ _ hK
    ·exact hk.elim
   ·cases h1:Nat.beq (wj q o) 1 with
    |true=>rw[h1]at hk;exact fromA hk (λv _ q=>hs v _ q)
    |false=>rw[h1]at hk;exact fromA hk hs
  simp only[Tp]at hk;split at hk
  ·rename_i hg;obtain⟨v,u,h1,y,bound,hv,hK,N,hb⟩:=Fl F hron ho (dstok hk (λv h1 hK=>slot hK)) (by simp only[yw,hg]) hle1 hal hk;exact go v u h1 y bound hv N hb hK
  ·rename_i j want hg;split at hk
   ·exact hk.elim
   ·rename_i d hdst;unfold GD at hk;split at hk
    ·rename_i b hb
     have hs:s.get d=.bool b:=by
      rcases hle1.get d with e|e
      ·rw[hb]at e;cases e
      ·rw[<- e,hb]
     have haw:yw ops s o=(b == want):=(by simp only[yw,hg,hdst,hs]);by_cases hbw:b=want
     ·have hk:=hk.1 hbw;obtain⟨v,u,h1,y,bound,hv,hK,N,hb⟩:=Fl F hron ho (dstok hk (λv h1 hK=>slot hK)) (by rw[haw,hbw];simp) hle1 hal hk;exact go v u h1 y bound hv N hb hK
     ·have hk:=hk.2 hbw;obtain⟨bound,_,_,_,_,hb5⟩:=dh (m:=yC ms o) F.wf hal;obtain⟨y,N⟩:=im (q:=q) F ho (slot hk) (u:=undef) (.inl ⟨by rw[haw];simpa using hbw,rfl,rfl⟩) bound;exact go undef undef h y bound (.inr rfl) N hb5 hk
    ·exact hk.elim
    ·rename_i n1 n2
     have hs:s.get d=r.get d:=by
      rcases hle1.get d with e|e
      ·obtain⟨k,p,q,e2⟩:=Xf e;exact absurd e2 (n2 k p q)
      ·exact e.symm
     have haw:yw ops s o=false:=by
      simp only[yw,hg,hdst,hs]
     obtain⟨bound,_,_,_,_,hb5⟩:=dh (m:=yC ms o) F.wf hal;obtain⟨y,N⟩:=im (q:=q) F ho (slot hk) (u:=undef) (.inl ⟨haw,rfl,rfl⟩) bound;exact go undef undef h y bound (.inr rfl) N hb5 hk
theorem EA{q:FuncId->Nat}(hmix:P.follows .mixedOrders=true):Uv P (bC P q):=by
 intro ops r s h K rd id hle wf hk;unfold bC at hk;cases hc:calm q ops with
 |false=>rw[hc]at hk;exact hk.elim
 |true=>
  rw[hc]at hk;have hk:Tp P q ops ops.toList 0 [] [] r h K:=hk;simp only[calm,aac]at hc
  have F0:vB P ops s h ([]:List yz) 0 s h:=⟨rfl,λt=>rfl,rfl,λb=>rfl,rfl,aaj _,λx hx=>(by cases hx),wf.1,
   λA1 r A2 e=>by simp at e,λA1 r A2 e=>by simp at e,λA1 x A2 y A3 e=>by simp at e⟩
  obtain⟨A,r',s',h',F,hl',hK,hf,af⟩:=Rs wf.2 ops.toList 0 [] [] r s h rfl (aaS _) (λk q hq=>by simp at hq) rfl F0 (λx hx=>(by cases hx)) hc.1 hc.2 hle hk
  have V:Valid P ops s h A:=⟨by rw[F.js];exact acv,λi hi=>by
    have:i∈A.map (·.j):=(by rw[F.js];exact abj.2 hi);obtain⟨r,hr,hj⟩:=aa0.1 this;exact⟨r,hr,hj⟩,F.told,F.Vr,F.apart⟩
  exact⟨r',s',h',hl',hK,hf,af,WE hmix V F.env F.size F.heap F.ro F.next F.nA (Q:=λe s1 h1=>e=.normal/\s1=s'/\h1=h') ⟨rfl,rfl,rfl⟩⟩
theorem UO{q:FuncId->Nat}(hmix:P.follows .mixedOrders=true){n:Nat}{f:FuncId}{args:List aaa}{h:za}{R:aaa->za->Prop}(hk:Rz P (bC P q) n f args h R):DC P f args h R:=sV (EA hmix) hk
theorem DC.mono{f:FuncId}{args:List aaa}{h:za}{R R':aaa->za->Prop}(d:DC P f args h R)(m:∀v h1,R v h1->R' v h1):DC P f args h R':=λwf=>by
 obtain⟨v,h1,a,b,c⟩:=d wf;exact⟨v,h1,m v h1 a,b,c⟩
theorem UP{f:FuncId}{args:List aaa}{h:za}{R:aaa->za->Prop}(ht:qC h->DC P f args h R):DC P f args h R:=λwf=>ht wf wf
theorem DC.tc{f:FuncId}{args:List aaa}{h:za}{R:aaa->za->Prop}(d:DC P f args h R):TC P f args h R:=by
 intro ρ w cargs hr hv;obtain⟨v,h1,hR,_,t⟩:=d ⟨λb o hb=>hr.KJ b o hb,hr.ro⟩;exact(t.mono (by rintro v2 h2 ⟨rfl,rfl⟩;exact hR)) ρ w cargs hr hv
end
noncomputable section
variable {P:Program}
theorem yN{α:Sort _}{a b:α}(h:a=b):a=b:=h
theorem T9{p:Prop}[Decidable p](h:p):decide p=true:=aa1 h
theorem T8{p:Prop}[Decidable p](h:¬p):decide p=false:=aaT h
def zu(h:za)(b off:Nat):Option aaa:=match h.get b with
 |some (.cells c _)=>c[off]?
 |_=>none
def jY(h:za)(b off n:Nat):Option aaa:=match h.get b with
 |some (.cells c _)=>if off+n<=c.length then some (.agg ((c.drop off).take n).toArray) else none
 |_=>none
def sU(h:za)(b off:Nat)(vs:List aaa):Option za:=match h.get b with
 |some (.cells c t)=>if off+vs.length<=c.length/\h.ro<=b/\vs.all xX=true then some (h.set b (some (.cells (zt c off vs) t))) else none
 |_=>none
theorem Wh{α:Type}{b:Bool}{p:Prop}[Decidable p]{x y:α}(h:b=true ↔ p):cond b x y=if p then x else y:=by
 by_cases hp:p
 ·rw[aah hp,h.2 hp];rfl
 ·rw[aae hp,show b=false by simpa using λe=>hp (h.1 e)];rfl
theorem jd{t:TypeId}(ha:yd P (isAgg t)=some false)(b off:Nat)(h:za):zd P t (.pointer (some ⟨b,off,none⟩)) h=zu h b off:=by
 unfold zd zu;simp only[ha];cases h.get b with
 |none=>rfl
 |some o=>cases o <;> rfl
theorem U4{t:TypeId}{n:Nat}(ha:yd P (isAgg t)=some true)(hn:yd P (sizeOf t)=some n)(b off:Nat)(h:za):zd P t (.pointer (some ⟨b,off,none⟩)) h=jY h b off n:=by
 unfold zd jY;simp only[ha,hn];cases h.get b with
 |none=>rfl
 |some o=>
  cases o <;> simp only[];rw[Wh (p:=off+n<=_) (by rw[abS])]
theorem oM{t:TypeId}{n:Nat}(hn:yd P (sizeOf t)=some n)(b off:Nat)(v:aaa)(h:za)(hv:v.cells.size=n):vH P t (.pointer (some ⟨b,off,none⟩)) v h=sU h b off v.cells.toList:=by
 unfold vH sU;simp only[hn];cases h.get b with
 |none=>rfl
 |some o=>
  cases o <;> simp only[];refine Wh ?_;simp only[aac,abS,acs,abp,hv,true_and,and_assoc]
theorem jV{t:TypeId}(hn:yd P (sizeOf t)=some 1)(b off:Nat)(v:aaa)(h:za)(hv:v.cells = #[v]):vH P t (.pointer (some ⟨b,off,none⟩)) v h=sU h b off [v]:=by
 rw[oM hn b off v h (by rw[hv];rfl),hv]
theorem Vn{t:TypeId}{n:Nat}(hn:yd P (sizeOf t)=some n)(b off:Nat)(l:List aaa)(h:za)(hv:l.length=n):vH P t (.pointer (some ⟨b,off,none⟩)) (.agg l.toArray) h=sU h b off l:=by
 rw[oM hn b off _ h (by simpa [Value.cells] using hv)];rfl
theorem Z0{t e:TypeId}{n:Nat}(hu:yd P (underlying t)=some (.slice e))(hn:yd P (sizeOf e)=some n){b off len c:Nat}{k:IntKind}{i:Int} :
  vG P t (.slice (some ⟨b,off,none⟩) len c) (.int k i)=if 0<=i/\i<len then some (.pointer (some ⟨b,off+i.toNat*n,none⟩)) else none:=by
 unfold vG;simp only[hu,hn];exact Wh (by simp)
theorem Ja{d m:Nat}:jc none d m=some d:=yN rfl
theorem cK{k:IntKind}{i:Int}{d m:Nat}:jc (some (.int k i)) d m=if 0<=i/\i<=m then some i.toNat else none:=Wh (by simp)
theorem Fi:PB none=true:=yN rfl
theorem Fj{v:aaa}(h:zR v=false):PB (some v)=true:=by simp only[PB,h,acj]
theorem LX{t e:TypeId}{n:Nat}(hu:yd P (underlying t)=some (.slice e))(hn:yd P (sizeOf e)=some n){b off len c:Nat}{lo hi:Option aaa}{h:za} :
  TM P t (.slice (some ⟨b,off,none⟩) len c) lo hi h=(jc hi len len).bind λhh=>(jc lo 0 hh).bind λl=>some (.slice (some ⟨b,off+l*n,none⟩) (hh-l) (cond (wide P h b n) (QZ c l) 0)):=by
 simp only[TM,oL,hu,hn];cases jc hi len len with
 |none=>rfl
 |some hh=>
  simp only[acg];cases jc lo 0 hh <;> rfl
def Ln(P:Program)(t:TypeId):Option (Nat×Nat):=(yd P (typeInfo t)).map λi=>(i.size,i.bytes)
theorem N9{t e:TypeId}{z:aaa}{zs:List aaa}{n bytes:Nat}(hu:yd P (underlying t)=some (.slice e))(hs:Ln P e=some (n,bytes))(hz:kX P e=some z)(hzs:z.cells.toList=zs)(hn:0<n)(hb:bytes<=65536)(hl:zs.length=n)
  {k k2:IntKind} {l c:Int} {h:za} (h0:0<=l) (h1:l<=c) (h2:c<2^31):V9 P t (.int k l) (.int k2 c) h=some (.slice (some ⟨h.next,0,none⟩) l.toNat (c.toNat+2),h.push (.cells (Z9 zs (c.toNat*n)) e)):=by
 unfold Ln at hs;simp only[aau,aaf]at hs;obtain⟨i,hi,rfl,rfl⟩:=hs;unfold V9;simp only[hu,hi,hz];have w:∀n:Int,0<=n->n<2^31->IntKind.i64.wrap n=n:=λn p q=>by simp only[IntKind.wrap,IntKind.bits,IntKind.signed];simp;omega
 have hm:(i.bytes:Int)*c<=2^48:=by
  have:(i.bytes:Int)*c<=65536*c:=Int.mul_le_mul_of_nonneg_right (by omega) (by omega);omega
 have hz2:z.cells.size=i.size:=by rw[<- hl,<- hzs];simp
 rw[show(decide (IntKind.i64.wrap l=l)&&decide (IntKind.i64.wrap c=c)&&decide (0<=l)&&decide (l<=c)&&decide ((i.bytes:Int)*c<=2^48)&&Nat.beq z.cells.size i.size&&Nat.blt 0 i.size)=true by
  simp only[aac,aaG,acs,aaN];exact⟨⟨⟨⟨⟨⟨w l h0 (by omega),w c (by omega) h2⟩,h0⟩,h1⟩,hm⟩,hz2⟩,hn⟩]
 simp only[aaw,hzs]
def Jc(h:za)(elem size bytes n:Nat)(new:List aaa)(s:aaa):Option (aaa×za):=match s with
 | .slice none 0 0=>if n=0 then some (.slice none 0 0,h) else if n*bytes<=2^48 then some (.slice (some ⟨h.next,0,none⟩) n 1,h.push (.cells new elem)) else none
 | .slice (some ⟨b,off,none⟩) len c=>if n=0 then some (s,h) else (match h.get b with
   |some (.cells cs t)=>if c≠0/\t=elem/\h.ro<=b/\off+len*size<=cs.length/\roomFor c (len+n) bytes=true/\off%size=0 then
     some (.slice (some ⟨h.next,0,none⟩) (len+n) (vW c (len+n)),(h.set b none).push (.cells (((cs.drop off).take (len*size))++new) elem)) else none
   |_=>none)
 |_=>none
theorem U5{sT xT e e2:TypeId}{size bytes:Nat}(h1:yd P (underlying sT)=some (.slice e))(h2:yd P (underlying xT)=some (.slice e2))(hs:Ln P e=some (size,bytes))(hz:(kX P e).map (λz=>z.cells.size)=some size)(hb:0<bytes)
  {r:TypeId} {v x:aaa} {n:Nat} {new:List aaa} {h:za} (hn:U3 x=some n) (hf:qp h n size x=some new) (hc:new.all xX=true) (hl:new.length=n*size) :
  zF P .append [sT,xT] r [v,x] h=Jc h e size bytes n new v:=by
 unfold Ln at hs;simp only[aau,aaf]at hs hz;obtain⟨i,hi,rfl,rfl⟩:=hs;obtain⟨z,hz,hz2⟩:=hz;simp only[zF,V8,h1,h2,hn,hi,hz,hf]
 rw[show(!ig (TypeDesc.slice e2)&&Nat.blt 0 i.bytes&&Nat.beq z.cells.size i.size&&new.all xX&&Nat.beq new.length (n*i.size))=true by
  simp only[aac,acs,aaN];exact⟨⟨⟨⟨rfl,hb⟩,hz2⟩,hc⟩,hl⟩]
 simp only[aaw];unfold U0 Jc;split
 ·exact(Wh (p:=n=0) (by simp)).trans (by
   by_cases h0:n=0
   ·rw[aah h0];exact(aah h0).symm
   ·rw[aae h0];exact(Wh (p:=n*i.bytes<=2^48) (by simp)).trans (aae h0).symm)
 ·rename_i b off len c;refine(Wh (p:=n=0) (by simp)).trans ?_;by_cases h0:n=0
  ·rw[aah h0];exact(aah h0).symm
  ·rw[aae h0];refine Eq.trans ?_ (aae h0).symm;cases hg:h.get b with
   |none=>rfl
   |some o=>
    cases o with
    |cells cs t=>
     refine Wh ?_;simp only[aac,aao,acs,abS,acD,and_assoc];refine and_congr ?_ (Iff.rfl);rw[<- ab4,acs]
    |_=>rfl
 ·rename_i q1 q2;split
  ·exact(q1 rfl).elim
  ·exact(q2 _ _ _ _ rfl).elim
  ·rfl
section heaps
variable {h:za}{b c off n:Nat}{cs:List aaa}{t:TypeId}{o:wS}
theorem Rl(hb:h.get b=some (.cells cs t))(off:Nat)(vs:List aaa):sU h b off vs=if off+vs.length<=cs.length/\h.ro<=b/\vs.all xX=true then some (h.set b (some (.cells (zt cs off vs) t))) else none:=by simp only[sU,hb]
theorem wQ:(h.push o).get h.next=some o:=by rw[za.vJ,aah rfl]
theorem lp(hb:b=h.next):(h.push o).get b=some o:=by rw[za.vJ,aah hb]
theorem yR(hb:b<h.next):(h.push o).get b=h.get b:=by rw[za.vJ,aae (by omega)]
theorem Z3{x:Option wS}:(h.set b x).get b=x:=by rw[za.yq,aah rfl]
theorem qL{x:Option wS}(hb:¬c=b):(h.set b x).get c=h.get c:=by rw[za.yq,aae hb]
theorem Qg(h:za)(b:Nat):h.lock.get b=h.get b:=yN rfl
theorem AP(h:za):h.lock.next=h.next:=yN rfl
theorem Ld(h:za):h.lock.ro=h.next:=yN rfl
theorem Fg(h:za)(o:wS):(h.push o).next=h.next+1:=yN rfl
theorem I3(h:za)(b:Nat)(o:Option wS):(h.set b o).next=h.next:=yN rfl
theorem Fv(h:za)(o:wS):(h.push o).ro=h.ro:=yN rfl
theorem Lf(h:za)(b:Nat)(o:Option wS):(h.set b o).ro=h.ro:=yN rfl
theorem Pk{a n k:Nat}(h:a<n):(a<n+k)=True:=by simp;omega
theorem IN{n:Nat}:(n<n+1)=True:=by simp
end heaps
section numbers
variable {t:TypeId}{x y:Operand}{k k':IntKind}{a b:Int}
theorem qc{v:aaa}{op:BinOp}{p q:aaa}(h:RG P op t x y p q=some v):zT P op t x y p q=some v:=by unfold zT;rw[h]
theorem TU:zT P .lss t x y (.int k a) (.int k b)=some (.bool (decide (a<b))):=qc (by cases k <;> rfl)
theorem TT:zT P .leq t x y (.int k a) (.int k b)=some (.bool (decide (a<=b))):=qc (by cases k <;> rfl)
theorem TS:zT P .gtr t x y (.int k a) (.int k b)=some (.bool (decide (b<a))):=qc (by cases k <;> rfl)
theorem TR:zT P .geq t x y (.int k a) (.int k b)=some (.bool (decide (b<=a))):=qc (by cases k <;> rfl)
theorem TQ:zT P .eql t x y (.int k a) (.int k b)=some (.bool (decide (a=b))):=qc (by cases k <;> rfl)
theorem TW:zT P .neq t x y (.int k a) (.int k b)=some (.bool (!decide (a=b))):=qc (by cases k <;> rfl)
theorem TN:zT P .add t x y (.int k a) (.int k b)=some (.int k (k.wrap (a+b))):=qc (by cases k <;> rfl)
theorem T3:zT P .sub t x y (.int k a) (.int k b)=some (.int k (k.wrap (a-b))):=qc (by cases k <;> rfl)
theorem TV:zT P .mul t x y (.int k a) (.int k b)=some (.int k (k.wrap (a*b))):=qc (by cases k <;> rfl)
theorem TX(hb:¬b=0):zT P .quo t x y (.int k a) (.int k b)=some (.int k (k.wrap (a.tdiv b))):=by
 refine qc ?_;have:yd P (Op.intDiv .quo k a b)=some (.int k (k.wrap (a.tdiv b))):=by unfold Op.intDiv;rw[aae hb];rfl
 cases k <;> (show fl (yd P (Op.intDiv .quo _ a b))=_;rw[this];rfl)
theorem TZ(hb:¬b=0):zT P .rem t x y (.int k a) (.int k b)=some (.int k (a.tmod b)):=by
 refine qc ?_;have:yd P (Op.intDiv .rem k a b)=some (.int k (a.tmod b)):=by unfold Op.intDiv;rw[aae hb];rfl
 cases k <;> (show fl (yd P (Op.intDiv .rem _ a b))=_;rw[this];rfl)
theorem TP:zT P .and t x y (.int k a) (.int k b)=some (.int k (k.wrap (BitVec.ofInt k.bits a &&& BitVec.ofInt k.bits b).toNat)):=qc (by cases k <;> rfl)
theorem zca:zT P .or t x y (.int k a) (.int k b)=some (.int k (k.wrap (BitVec.ofInt k.bits a ||| BitVec.ofInt k.bits b).toNat)):=qc (by cases k <;> rfl)
theorem T4:zT P .xor t x y (.int k a) (.int k b)=some (.int k (k.wrap (BitVec.ofInt k.bits a ^^^ BitVec.ofInt k.bits b).toNat)):=qc (by cases k <;> rfl)
theorem Eh:zT P .andNot t x y (.int k a) (.int k b)=some (.int k (k.wrap (BitVec.ofInt k.bits a &&& ~~~BitVec.ofInt k.bits b).toNat)):=qc (by cases k <;> rfl)
theorem T0(hb:0<=b):zT P .shl t x y (.int k a) (.int k' b)=some (.int k (k.wrap (a*2^(min b.toNat k.bits)))):=by
 refine qc ?_;have:yd P (Op.shift .shl k a k' b)=some (.int k (k.wrap (a*2^(min b.toNat k.bits)))):=by unfold Op.shift;rw[aae (by omega)];rfl
 show fl (yd P (Op.shift .shl k a k' b))=_;rw[this];rfl
theorem T2(hb:0<=b):zT P .shr t x y (.int k a) (.int k' b)=some (.int k (a.fdiv (2^(min b.toNat k.bits)))):=by
 refine qc ?_;have:yd P (Op.shift .shr k a k' b)=some (.int k (a.fdiv (2^(min b.toNat k.bits)))):=by unfold Op.shift;rw[aae (by omega)];rfl
 show fl (yd P (Op.shift .shr k a k' b))=_;rw[this];rfl
theorem zaj{c:Bool}:r7 P .not (.bool c)=some (.bool (!c)):=yN rfl
theorem zai:r7 P .neg (.int k a)=some (.int k (k.wrap (0-a))):=by cases k <;> rfl
end numbers
section nils
variable {t e:TypeId}{x y:Operand}
end nils
section
theorem Fa{b}:zR (.bool b)=false:=yN rfl
theorem IW{k n}:zR (.int k n)=false:=yN rfl
theorem rf{s}:zR (.string s)=false:=yN rfl
theorem IZ{a}:zR (.pointer a)=false:=yN rfl
theorem AS{a n c}:zR (.slice a n c)=false:=yN rfl
theorem IY{a}:zR (.map a)=false:=yN rfl
theorem Fb{f a c}:zR (.func f a c)=false:=yN rfl
theorem Fc:zR .nilFunc=false:=yN rfl
theorem AR{t v}:zR (.iface t v)=false:=yN rfl
theorem Fe:zR .nilIface=false:=yN rfl
theorem IV{a}:zR (.agg a)=false:=yN rfl
theorem AT{a}:zR (.tuple a)=false:=yN rfl
theorem Ev{b}:xX (.bool b)=true:=yN rfl
theorem Iv{k n}:xX (.int k n)=true:=yN rfl
theorem pc{s}:xX (.string s)=true:=yN rfl
theorem Ix{a}:xX (.pointer a)=true:=yN rfl
theorem Av{a n c}:xX (.slice a n c)=true:=yN rfl
theorem Iw{a}:xX (.map a)=true:=yN rfl
theorem Ew{f a c}:xX (.func f a c)=true:=yN rfl
end
theorem AU:yk []=true:=yN rfl
theorem rj{v:aaa}{l:List aaa}(h:zR v=false):yk (v::l)=yk l:=by simp only[yk,h,aaH]
theorem Ka{α:Type}(x:Option α):nb [] x=x:=yN rfl
theorem Zl{α:Type}{v:aaa}{l:List aaa}{x:Option α}(h:zR v=false):nb (v::l) x=nb l x:=by simp only[nb,yk,h,aaH]
theorem Hr{A B J}:CD (.bool true) A B J=A J:=yN rfl
theorem CH{A B J}:CD (.bool false) A B J=B J:=yN rfl
theorem Nk{b want:Bool}{A K h}(e:b=want):GD (.bool b) want A K h=A K:=by
 apply propext;constructor
 ·intro g;exact g.1 e
 ·intro g;exact⟨λ_=>g,λne=>absurd e ne⟩
theorem Nj{b want:Bool}{A K h}(e:¬b=want):GD (.bool b) want A K h=K undef h:=by
 apply propext;constructor
 ·intro g;exact g.2 e
 ·intro g;exact⟨λe'=>absurd e' e,λ_=>g⟩
theorem Tw{w A K h}:GD undef w A K h=K undef h:=yN rfl
theorem Tv{A K h}:GD (.bool true) true A K h=A K:=Nk rfl
theorem Ts{A K h}:GD (.bool false) false A K h=A K:=Nk rfl
theorem Tu{A K h}:GD (.bool true) false A K h=K undef h:=Nj (by simp)
theorem Tt{A K h}:GD (.bool false) true A K h=K undef h:=Nj (by simp)
theorem I6{a b:aaa}(h:zR a=false):pk (.bool true) a b=some a:=by simp only[pk,Zl h,Ka]
theorem Fo{a b:aaa}(h:zR b=false):pk (.bool false) a b=some b:=by simp only[pk,Zl h,Ka]
theorem IT(a:Addr):Pt (.pointer (some a))=some (.pointer (some a)):=yN rfl
theorem oQ{vs:Array aaa}{i:Nat}(h:yk vs.toList=true):Jf (.tuple vs) i=vs[i]?:=by simp only[Jf,nb,h,aaw]
theorem Oi{a b:aaa}(ha:zR a=false)(hb:zR b=false):Jf (.tuple #[a,b]) 0=some a:=(oQ (by simp only[yk,ha,hb,aaH])).trans rfl
theorem Oj{a b:aaa}(ha:zR a=false)(hb:zR b=false):Jf (.tuple #[a,b]) 1=some b:=(oQ (by simp only[yk,ha,hb,aaH])).trans rfl
theorem PZ{v:aaa}{h R}(hb:zR v=false):rv [v] h R=R v h:=by
 apply propext;simp only[rv,yk,hb,aaH,xV,true_and]
theorem P0{v w:aaa}{h R}(hb:zR v=false)(hc:zR w=false):rv [v,w] h R=R (.tuple #[v,w]) h:=by
 apply propext;simp only[rv,yk,hb,hc,aaH,xV,true_and]
theorem oW{g:FuncId}{args:List aaa}{h:za}{K R:aaa->za->Prop}(hc:xW P g=true)(hn:yk args=true)(hT:DC P g args h R)(hk:∀v h1,R v h1->K v h1):zL P (.func (.func g) #[] #[]) args h K :=
 ⟨hn,by simpa using hn,.inl ⟨hc,by simpa using hT.mono hk⟩⟩
theorem El{g:FuncId}{args:List aaa}{h:za}{K R:aaa->za->Prop}(hc:xW P g=true)(hn:yk args=true)(hT:DC P g args h R)(hk:∀v h1,R v h1->K v h1):bB P g args h K :=
 ⟨hc,hn,hT.mono hk⟩
theorem kW{step:List aaa->za->(List aaa->za->Prop)->Prop}(I:Nat->List aaa->za->Prop)(n:Nat){vs:List aaa}{h:za}(h0:I n vs h)
  (hs:∀n vs h,I n vs h->step vs h (λvs' h'=>∃m,m<n/\I m vs' h')):LP step vs h:=⟨I,n,h0,hs⟩
def vw(P:Program)(f:FuncId)(args:List aaa)(h:za)(v:aaa):Prop:=iz v=true/\TC P f args h.lock (λv1 _=>v1=v)
theorem vw.dc{f:FuncId}{args:List aaa}{h:za}{v:aaa}(q:vw P f args h v):DC P f args h (λv1 h1=>v1=v/\h1=h):=λ_=>
 ⟨v,h,⟨rfl,rfl⟩,.refl _,(q.2.quiet (λv1 _ e=>by rw[e];exact q.1)).mono (by rintro v1 h1 ⟨⟨_,e1⟩,e2⟩;exact⟨e1,e2⟩)⟩
theorem vw.of{f:FuncId}{args:List aaa}{h:za}{v:aaa}(hs:iz v=true)(d:DC P f args h.lock (λv1 _=>v1=v)):vw P f args h v:=⟨hs,d.tc⟩
theorem Ig{g:FuncId}{args:List aaa}{h:za}{K:aaa->za->Prop}{v:aaa}(hc:xW P g=true)(hn:yk args=true)(hq:vw P g args h v)(hk:K v h):zL P (.func (.func g) #[] #[]) args h K :=
 oW hc hn hq.dc (by rintro v1 h1 ⟨rfl,rfl⟩;exact hk)
theorem RU{g:FuncId}{args:List aaa}{h:za}{K:aaa->Prop}{v:aaa}(hc:xW P g=true)(hn:yk args=true)(hq:vw P g args h v)(hk:K v):U8 P g args h K :=
 ⟨hc,hn,v,hq.1,hq.2,hk⟩
end
end Go.Ai
