import Derived.Test.YtpjjmindjodknaaGreatTC
set_option linter.unusedVariables false
set_option linter.unusedSimpArgs false
set_option maxRecDepth 100000
namespace Go.Ai
noncomputable section
variable {P:Program}
def PE(d:Option Nat):Nat:=match d with
 |some d=>1 <<< d
 |none=>0
def Vi:List Oper->Nat
 |[]=>0
 |o::os=>PE o.dst ||| Vi os
def ZJ:Code->Nat
 | .region _ ops _=>Vi ops.toList
 | .seq a b=>ZJ a ||| ZJ b
 | .cond _ a b=>ZJ a ||| ZJ b
 | .block _ a=>ZJ a
 | .scope a=>ZJ a
 | .loop a=>ZJ a
 |_=>0
def zaJ(x:Operand):Nat:=match x with
 | .tmp t=>1 <<< t
 |_=>0
def zcf:List Operand->Nat
 |[]=>0
 |x::l=>zaJ x ||| zcf l
def zcg(d:Nat):List Oper->Nat
 |[]=>0
 |o::os=>(Nat.xor (zcf o.op.operands.toList ||| d) d) ||| zcg (d ||| PE o.dst) os
def T2:Code->Nat
 | .region _ ops _=>Vi ops.toList
 | .seq a b=>T2 a ||| T2 b
 | .cond _ a b=>Nat.land (T2 a) (T2 b)
 | .scope a=>T2 a
 |_=>0
def Ci:Code->Nat
 | .region _ ops _=>zcg 0 ops.toList
 | .seq a b=>Ci a ||| Nat.xor (Ci b ||| T2 a) (T2 a)
 | .cond x a b=>zaJ x ||| Ci a ||| Ci b
 | .block _ a=>Ci a
 | .scope a=>Ci a
 | .loop a=>Ci a
 | .rangeFunc f _ a b=>zaJ f ||| Ci a ||| Ci b
 |_=>0
def bits(m n:Nat):List Nat:=(List.range n).filter λt=>m.testBit t
theorem Oy{m n t:Nat}:t∈bits m n ↔ t<n/\m.testBit t=true:=by simp[bits]
structure Fr (m:Nat) (s s1:Env):Prop where
 size:s1.size=s.size
 get:∀t,m.testBit t=false->s1.get t=s.get t
 out:∀t,s.size<=t->s1.get t=s.get t
theorem Fr.refl(m:Nat)(s:Env):Fr m s s:=⟨rfl,λ_ _=>rfl,λ_ _=>rfl⟩
theorem Fr.trans{m:Nat}{a b c:Env}(h:Fr m a b)(k:Fr m b c):Fr m a c :=
 ⟨k.size.trans h.size,λt ht=>(k.get t ht).trans (h.get t ht),λt ht=>(k.out t (by rw[h.size];exact ht)).trans (h.out t ht)⟩
theorem Fr.left{m n:Nat}{a b:Env}(h:Fr m a b):Fr (m ||| n) a b:=⟨h.size,λt ht=>h.get t (by rw[Nat.testBit_or]at ht;simp only[aba]at ht;exact ht.1),h.out⟩
theorem Fr.right{m n:Nat}{a b:Env}(h:Fr n a b):Fr (m ||| n) a b:=⟨h.size,λt ht=>h.get t (by rw[Nat.testBit_or]at ht;simp only[aba]at ht;exact ht.2),h.out⟩
theorem Fr.put{s s1:Env}{d:Option Nat}{v:aaa}(h:s.put d v=some s1):Fr (PE d) s s1:=by
 cases d with
 |none=>simp only[Env.put,aab]at h;subst h;exact .refl _ _
 |some d=>
  simp only[Env.put]at h;obtain⟨hd,h⟩:=zo h;simp only[aab]at h;subst h;have hd:d<s.size:=by simpa [aaM] using hd
  refine⟨rfl,λt ht=>?_,λt ht=>?_⟩
  ·rw[Env.yy];simp only[PE,Nat.testBit_shiftLeft]at ht;rw[aag (by intro e;subst e;simp at ht)]
  ·rw[Env.yy,aag (by omega)]
def nth:List aaa->Nat->aaa
 |[],_=>bot
 |a::_,0=>a
 |_::l,n+1=>nth l n
def Vl(lv:Nat)(s:Env):List Nat->List aaa
 |[]=>[]
 |t::ts=>cond (lv.testBit t) (s.get t::Vl lv s ts) (Vl lv s ts)
def QV(lv:Nat)(vs:List aaa):List Nat->Nat->Env->Env
 |[],_,s=>s
 |t::ts,i,s=>cond (lv.testBit t) (QV lv vs ts (i+1) (s.set t (nth vs i))) (QV lv vs ts i (s.set t bot))
theorem hQ{lv:Nat}{vs:List aaa}{r1 s1:Env}(h1:Le r1 s1):∀(ts:List Nat) (i:Nat) (r:Env),r.size=s1.size->(∀k,nth vs (i+k)=nth (Vl lv r1 ts) k)->(∀t,t∈ts\/zQ (r.get t)=true\/r.get t=s1.get t)->Le (QV lv vs ts i r) s1
 |[],i,r,hz,_,h=>⟨hz,λt=>by rcases h t with h|h; · cases h
                            ·exact h⟩
 |t::ts,i,r,hz,hv,h=>by
  simp only[QV];cases hb:lv.testBit t with
  |true=>
   simp only[aav];have e0:nth vs i=r1.get t:=by have:=hv 0;simp only[Vl,hb,aav]at this;exact this
   refine hQ h1 ts (i+1) _ hz (λk=>?_) (λt'=>?_)
   ·have:=hv (k+1);simp only[Vl,hb,aav]at this;rw[show i+1+k=i+(k+1) by omega];exact this
   ·rw[Env.yy,e0];by_cases e:t'=t
    ·subst e;rw[aai rfl];exact .inr (h1.get t')
    ·rw[aag e];rcases h t' with h2|h2
     ·rcases aaP.1 h2 with h3|h3
      ·exact absurd h3 e
      ·exact .inl h3
     ·exact .inr h2
  |false=>
   simp only[aaB];refine hQ h1 ts i _ hz (λk=>?_) (λt'=>?_)
   ·have:=hv k;simp only[Vl,hb,aaB]at this;exact this
   ·rw[Env.yy];by_cases e:t'=t
    ·rw[aai e];exact .inr (.inl rfl)
    ·rw[aag e];rcases h t' with h2|h2
     ·rcases aaP.1 h2 with h3|h3
      ·exact absurd h3 e
      ·exact .inl h3
     ·exact .inr h2
theorem join_le{lv m:Nat}{r s r1 s1:Env}(h:Le r s)(h1:Le r1 s1)(f:Fr m s s1):Le (QV lv (Vl lv r1 (bits m r.size)) (bits m r.size) 0 r) s1:=by
 refine hQ h1 _ _ _ (h.size.trans f.size.symm) (λk=>by rw[abz]) (λt=>?_);by_cases hm:m.testBit t=true
 ·by_cases hz:t<r.size
  ·exact .inl (Oy.2 ⟨hz,hm⟩)
  ·
   rcases h.get t with e|e
   ·exact .inr (.inl e)
   ·exact .inr (.inr (e.trans (f.out t (by rw[<- h.size];omega)).symm))
 ·simp only[abZ]at hm;rcases h.get t with e|e
  ·exact .inr (.inl e)
  ·exact .inr (.inr (e.trans (f.get t hm).symm))
def opW(P:Program)(s:Env)(o:Oper)(h:za)(K:aaa->za->Prop):Prop:=match o.op with
 | .call {callee := .value f,args,argTypes}=>zP P (ev s f) (cX s args.toList) h K
 |_=>L9 P s o h K
def GD(g:aaa)(want:Bool)(A:(aaa->za->Prop)->Prop)(K:aaa->za->Prop)(h:za):Prop:=match g with
 | .bool b=>(b=want->A K)/\(b≠want->K undef h)
 | .complex _ _ _=>False
 |_=>K undef h
def Pv(P:Program)(ops:Array Oper):List Oper->Env->za->(Env->za->Prop)->Prop
 |[],s,h,K=>K s h
 |o::os,s,h,K=>(match o.guard with
  |none=>opW P s o h λv h1=>(match s.put o.dst v with
   |some s1=>Pv P ops os s1 h1 K
   |none=>False)
  |some (j,want)=>(match (ops[j]?).bind (·.dst) with
   |none=>False
   |some d=>GD (s.get d) want (opW P s o h) (λv h1=>(match s.put o.dst v with
    |some s1=>Pv P ops os s1 h1 K
    |none=>False)) h))
theorem qJ.af{h h':za}(w:qJ h)(a:AF h h'):qJ h' :=
 ⟨λb o hb=>by
  rcases a.alive b o hb with e|e
  ·cases hh:h.get b with
   |none=>exact absurd hh e
   |some o'=>exact aap (w.1 b o' hh) a.next
  ·exact e.2,by rw[a.ro];exact aaV w.2 a.next⟩
theorem NM{ops:Array Oper}{r s:Env}{h:za}{o:Oper}{f:Operand}{args:Array Operand}{ts:Array TypeId}{K:aaa->za->Prop}
  (hw:yq ops s o=true) (hl:Le r s) (wf:qJ h) (yk:o.op=.call {callee := .value f,args:=args,argTypes:=ts}) (hk:zP P (ev r f) (cX r args.toList) h K) :
  ∃v h1,K v h1/\AF h h1 /\ ∀(i:Nat) (rest:List Nat) (s1:Env) (Q:Env->za->Prop),ops[i]? = some o->s.put o.dst v=some s1->TO P ops rest s1 h1 Q->TO P ops (i::rest) s h Q:=by
 unfold zP at hk;split at hk
 ·rename_i g a c hf;have ef:kG s f=some (.func (.func g) a c):=by rw[ZI hl (x:=f) (by rw[hf];rfl),hf]
  obtain⟨hn0,hn,hk⟩:=hk;have ea:=QQ hl hn0;rcases hk with⟨hc,hd⟩|hk
  ·obtain⟨v,h1,hK,af,hT⟩:=hd wf;exact⟨v,h1,hK,af,λi rest s1 Q ho hp ht=>GZ ho hw yk ef ea hc hT (by rintro v2 h2 ⟨rfl,rfl⟩;exact⟨s1,hp,ht⟩)⟩
  ·obtain⟨v,g',e,hk⟩:=jV hk;exact⟨v,g',hk,(Xb e).af,λi rest s1 Q ho hp ht=>Sm ho hw (by rw[yk];rfl) (λρ w a hr hs=>Bi yk ef ea e hr hs) hp ht⟩
 ·rename_i L a c hf;obtain⟨ha,hc,hn,hk⟩:=hk;obtain⟨v,h1,hK,af,hT⟩:=hk wf;subst ha hc;have ef:kG s f=some (.func (.yield L) #[] #[]):=by rw[ZI hl (x:=f) (by rw[hf];rfl),hf]
  exact⟨v,h1,hK,af,λi rest s1 Q ho hp ht=>Cp ho hw yk ef (QQ hl hn) hT (by rintro v2 h2 ⟨rfl,rfl⟩;exact⟨s1,hp,ht⟩)⟩
 ·exact hk.elim
theorem zas{ops:Array Oper}{r s:Env}{h:za}{o:Oper}{K:aaa->za->Prop}(hw:yq ops s o=true)(hl:Le r s)(wf:qJ h)(hk:opW P r o h K) :
  ∃v u h1,K v h1/\(zQ v=true\/v=u)/\AF h h1 /\ ∀(i:Nat) (rest:List Nat) (s1:Env) (Q:Env->za->Prop),ops[i]? = some o->s.put o.dst u=some s1->TO P ops rest s1 h1 Q->TO P ops (i::rest) s h Q:=by
 unfold opW at hk;split at hk
 ·rename_i f args ts yk;obtain⟨v,h1,hK,af,go⟩:=NM (ops:=ops) hw hl wf yk hk;exact⟨v,v,h1,hK,.inr rfl,af,go⟩
 ·obtain⟨v,u,h',e,hv,hk⟩:=qT hl hk;exact⟨v,u,h',hk,hv,(Zz e).1,λi rest s1 Q ho hp ht=>Sn ho hw e hp ht⟩
theorem AM{ops:Array Oper}:∀(l:List Oper) (i:Nat) {r s:Env} {h:za} {K:Env->za->Prop},ops.toList.drop i=l->Le r s->qJ h->Pv P ops l r h K ->
  ∃r' s' h',Le r' s'/\K r' h'/\Fr (Vi l) s s'/\AF h h'/\TO P ops (List.range' i l.length) s h (λs1 h1=>s1=s'/\h1=h')
 |[],i,r,s,h,K,_,hl,wf,hk=>⟨r,s,h,hl,hk,.refl _ _,.refl _,MF ⟨rfl,rfl⟩⟩
 |o::os,i,r,s,h,K,hd,hl,wf,hk=>by
  have ho:ops[i]? = some o:=by
   have:=congrArg (λl=>l[0]?) hd;simp only[aaS,aay]at this;simpa using this
  have hd':ops.toList.drop (i+1)=os:=by rw[<- aci,hd];rfl
  rw[aa3,List.range'_succ]
  have next:∀v u h1,AF h h1->(match r.put o.dst v with|some s1=>Pv P ops os s1 h1 K|none=>False)->(zQ v=true\/v=u)->∃s1 r' s' h',s.put o.dst u=some s1/\Le r' s'/\K r' h'/\Fr (Vi (o::os)) s s'/\AF h h' /\
    TO P ops (List.range' (i+1) os.length) s1 h1 (λs1 h1=>s1=s'/\h1=h'):=by
   intro v u h1 af hk hv;split at hk
   ·rename_i r1 hp;obtain⟨s1,hp1,hl1⟩:=hl.put hp hv;obtain⟨r',s',h',l',k',f',a',t'⟩:=AM os (i+1) hd' hl1 (wf.af af) hk;exact⟨s1,r',s',h',hp1,l',k',(Fr.put hp1).left.trans f'.right,af.trans a',t'⟩
   ·exact hk.elim
  have run:yq ops s o=true->opW P r o h (λv h1=>match r.put o.dst v with|some s1=>Pv P ops os s1 h1 K|none=>False) ->
    ∃r' s' h',Le r' s'/\K r' h'/\Fr (Vi (o::os)) s s'/\AF h h'/\TO P ops (i::List.range' (i+1) os.length) s h (λs1 h1=>s1=s'/\h1=h'):=by
   intro hw hk;obtain⟨v,u,h1,hK,hv,af,go⟩:=zas (ops:=ops) hw hl wf hk;obtain⟨s1,r',s',h',hp,l',k',f',a',t'⟩:=next v u h1 af hK hv;exact⟨r',s',h',l',k',f',a',go i _ s1 _ ho hp t'⟩
  have skip:yq ops s o=false->(match r.put o.dst undef with|some s1=>Pv P ops os s1 h K|none=>False) ->
    ∃r' s' h',Le r' s'/\K r' h'/\Fr (Vi (o::os)) s s'/\AF h h'/\TO P ops (i::List.range' (i+1) os.length) s h (λs1 h1=>s1=s'/\h1=h'):=by
   intro hw hk;obtain⟨s1,r',s',h',hp,l',k',f',a',t'⟩:=next undef undef h (.refl _) hk (.inr rfl);exact⟨r',s',h',l',k',f',a',G0 ho hw hp t'⟩
  simp only[Pv]at hk;split at hk
  ·rename_i hg;exact run (by simp only[yq,hg]) hk
  ·rename_i j want hg;split at hk
   ·exact hk.elim
   ·rename_i d hdst;unfold GD at hk;split at hk
    ·rename_i b hb
     have hs:s.get d=.bool b:=by
      rcases hl.get d with e|e
      ·rw[hb]at e;cases e
      ·rw[<- e,hb]
     have haw:yq ops s o=(b == want):=(by simp only[yq,hg,hdst,hs]);by_cases hbw:b=want
     ·exact run (by rw[haw,hbw];simp) (hk.1 hbw)
     ·exact skip (by rw[haw];simpa using hbw) (hk.2 hbw)
    ·exact hk.elim
    ·rename_i n1 n2
     have hs:s.get d=r.get d:=by
      rcases hl.get d with e|e
      ·obtain⟨k,p,q,e2⟩:=YE e;exact absurd e2 (n2 k p q)
      ·exact e.symm
     have haw:yq ops s o=false:=by
      simp only[yq,hg,hdst,hs]
     exact skip haw hk
structure Ks where
 Ch:Env->za->Prop
 ret:Env->za->Prop
 ext:Nat->Env->za->Prop
def Ks.on(K:Ks):Ex->Env->za->Prop
 | .normal=>K.Ch
 | .ret=>K.ret
 | .exit id=>K.ext id
def Ks.with(K:Ks)(n:Env->za->Prop):Ks:=⟨n,K.ret,K.ext⟩
def CD(g:aaa)(A B:(List aaa->za->Prop)->Prop)(J:List aaa->za->Prop):Prop:=match g with
 | .bool true=>A J
 | .bool false=>B J
 |_=>False
def BK(A:(List aaa->za->Prop)->Prop)(J:List aaa->za->Prop):Prop:=A J
def LP(step:List aaa->za->(List aaa->za->Prop)->Prop)(vs:List aaa)(h:za):Prop :=
 ∃(I:Nat->List aaa->za->Prop) (n:Nat),I n vs h /\ ∀n vs h,I n vs h->step vs h (λvs' h'=>∃m,m<n/\I m vs' h')
def zaj:Unit:=(λ(_:Prop)=>()) (∀(P:Program) (ops:Array Oper) (l:List Oper) (s:Env) (h:za) (K:Env->za->Prop) (A B:(List aaa->za->Prop)->Prop) (J:List aaa->za->Prop) (g:aaa) (st:List aaa->za->(List aaa->za->Prop)->Prop) (vs:List aaa),Pv P ops l s h K/\CD g A B J/\BK A J/\LP st vs h)
def Mx(b:Bool)(x y:Prop):Prop:=Function.const Unit (cond b x y) zaj
abbrev Sp:=Nat->Code->Env->za->Ks->Prop
def wpB(P:Program)(D:Array Oper->Env->za->(Env->za->Prop)->Prop)(rec:Sp):Sp:=λlv c s h K=>match c with
 | .skip=>K.Ch s h
 | .label _=>K.Ch s h
 | .exit id=>K.ext id s h
 | .ret=>K.ret s h
 | .seq a b=>rec (lv ||| Ci b) a s h (K.with λs1 h1=>rec lv b s1 h1 K)
 | .cond x a b=>CD (ev s x) (λj=>rec lv a s h (K.with λs1 h1=>j (Vl lv s1 (bits (ZJ a ||| ZJ b) s.size)) h1)) (λj=>rec lv b s h (K.with λs1 h1=>j (Vl lv s1 (bits (ZJ a ||| ZJ b) s.size)) h1))
   (λvs h1=>K.Ch (QV lv vs (bits (ZJ a ||| ZJ b) s.size) 0 s) h1)
 | .block id a=>BK (λj=>rec lv a s h ⟨λs1 h1=>j (Vl lv s1 (bits (ZJ a) s.size)) h1,K.ret,λi s1 h1=>cond (Nat.beq i id) (j (Vl lv s1 (bits (ZJ a) s.size)) h1) (K.ext i s1 h1)⟩)
   (λvs h1=>K.Ch (QV lv vs (bits (ZJ a) s.size) 0 s) h1)
 | .scope a=>rec lv a s h K
 | .loop a=>LP (λvs h1 j=>rec (lv ||| Ci a) a (QV (lv ||| Ci a) vs (bits (ZJ a) s.size) 0 s) h1 (K.with λs1 h2=>j (Vl (lv ||| Ci a) s1 (bits (ZJ a) s.size)) h2))
   (Vl (lv ||| Ci a) s (bits (ZJ a) s.size)) h
 | .region _ ops draw=>Mx draw (D ops s h K.Ch) (Pv P ops ops.toList s h K.Ch)
 |_=>False
def wp(P:Program)(D:Array Oper->Env->za->(Env->za->Prop)->Prop)(n:Nat):Sp:=Nat.rec (λ_ _ _ _ _=>False) (λ_ rec=>wpB P D rec) n
def Kr(P:Program)(D:Array Oper->Env->za->(Env->za->Prop)->Prop):Prop :=
 ∀ops r s h K rd id,Le r s->qJ h->D ops r h K->∃r' s' h',Le r' s'/\K r' h'/\Fr (Vi ops.toList) s s'/\AF h h'/\T P rd (.region id ops true) s h (λe s1 h1=>e=.normal/\s1=s'/\h1=h')
def Good(P:Program)(rd:Option Nat)(rec:Sp):Prop := ∀lv c r s h K,Le r s->qJ h->rec lv c r h K->∃e r' s' h',Le r' s'/\K.on e r' h'/\Fr (ZJ c) s s'/\AF h h'/\T P rd c s h (λe1 s1 h1=>e1=e/\s1=s'/\h1=h')
theorem Pn{D:Array Oper->Env->za->(Env->za->Prop)->Prop}(hD:Kr P D){rd:Option Nat}{rec:Sp}(G:Good P rd rec):Good P rd (wpB P D rec):=by
 intro lv c r s h K hl wf hk;cases c with
 |skip=>exact⟨.normal,r,s,h,hl,hk,.refl _ _,.refl _,MH ⟨rfl,rfl,rfl⟩⟩
 |label l=>exact⟨.normal,r,s,h,hl,hk,.refl _ _,.refl _,G1 ⟨rfl,rfl,rfl⟩⟩
 |exit id=>exact⟨.exit id,r,s,h,hl,hk,.refl _ _,.refl _,MG ⟨rfl,rfl,rfl⟩⟩
 |ret=>exact⟨.ret,r,s,h,hl,hk,.refl _ _,.refl _,So ⟨rfl,rfl,rfl⟩⟩
 |seq a b=>
  obtain⟨e,r1,s1,h1,l1,k1,f1,a1,t1⟩:=G _ _ _ _ _ _ hl wf hk;cases e with
  |normal=>
   obtain⟨e2,r2,s2,h2,l2,k2,f2,a2,t2⟩:=G _ _ _ _ _ _ l1 (wf.af a1) k1;refine⟨e2,r2,s2,h2,l2,k2,f1.left.trans f2.right,a1.trans a2,G4 (t1.mono ?_)⟩;rintro e s3 h3 ⟨rfl,rfl,rfl⟩;exact t2
  |ret=>
   refine⟨.ret,r1,s1,h1,l1,k1,f1.left,a1,G4 (t1.mono ?_)⟩;rintro e s3 h3 ⟨rfl,rfl,rfl⟩;exact⟨rfl,rfl,rfl⟩
  |exit id=>
   refine⟨.exit id,r1,s1,h1,l1,k1,f1.left,a1,G4 (t1.mono ?_)⟩;rintro e s3 h3 ⟨rfl,rfl,rfl⟩;exact⟨rfl,rfl,rfl⟩
 |cond x a b=>
  have fin:∀(c:Code),(∀s s1,Fr (ZJ c) s s1->Fr (ZJ a ||| ZJ b) s s1)->rec lv c r h (K.with λs1 h1=>(λvs h1=>K.Ch (QV lv vs (bits (ZJ a ||| ZJ b) r.size) 0 r) h1) (Vl lv s1 (bits (ZJ a ||| ZJ b) r.size)) h1) ->
    ∃e r' s' h',Le r' s'/\K.on e r' h'/\Fr (ZJ a ||| ZJ b) s s'/\AF h h'/\T P rd c s h (λe1 s1 h1=>e1=e/\s1=s'/\h1=h'):=by
   intro c hf hk;obtain⟨e,r1,s1,h1,l1,k1,f1,a1,t1⟩:=G _ _ _ _ _ _ hl wf hk;have f2:=hf _ _ f1;cases e with
   |normal=>exact⟨.normal,_,s1,h1,join_le hl l1 f2,k1,f2,a1,t1⟩
   |ret=>exact⟨.ret,r1,s1,h1,l1,k1,f2,a1,t1⟩
   |exit id=>exact⟨.exit id,r1,s1,h1,l1,k1,f2,a1,t1⟩
  unfold wpB at hk;dsimp only at hk;unfold CD at hk;split at hk
  ·rename_i hx;obtain⟨e,r',s',h',q1,q2,q3,q4,t⟩:=fin a (λ_ _ f=>f.left) hk;exact⟨e,r',s',h',q1,q2,q3,q4,AP (t:=true) (by rw[ZI hl (x:=x) (by rw[hx];rfl),hx]) t⟩
  ·rename_i hx;obtain⟨e,r',s',h',q1,q2,q3,q4,t⟩:=fin b (λ_ _ f=>f.right) hk;exact⟨e,r',s',h',q1,q2,q3,q4,AP (t:=false) (by rw[ZI hl (x:=x) (by rw[hx];rfl),hx]) t⟩
  ·exact hk.elim
 |block id a=>
  have hk:rec lv a r h _:=hk;obtain⟨e,r1,s1,h1,l1,k1,f1,a1,t1⟩:=G _ _ _ _ _ _ hl wf hk;cases e with
  |normal=>
   refine⟨.normal,_,s1,h1,join_le hl l1 f1,k1,f1,a1,cZ (t1.mono ?_)⟩;rintro e s3 h3 ⟨rfl,rfl,rfl⟩;rw[aag (by simp)];exact⟨rfl,rfl,rfl⟩
  |ret=>
   refine⟨.ret,r1,s1,h1,l1,k1,f1,a1,cZ (t1.mono ?_)⟩;rintro e s3 h3 ⟨rfl,rfl,rfl⟩;rw[aag (by simp)];exact⟨rfl,rfl,rfl⟩
  |exit i=>
   simp only[Ks.on]at k1;by_cases hi:i=id
   ·subst hi;rw[show Nat.beq i i=true from ab0 i]at k1;refine⟨.normal,_,s1,h1,join_le hl l1 f1,k1,f1,a1,cZ (t1.mono ?_)⟩;rintro e s3 h3 ⟨rfl,rfl,rfl⟩;rw[aai rfl];exact⟨rfl,rfl,rfl⟩
   ·rw[Tr.beq_false hi]at k1;refine⟨.exit i,r1,s1,h1,l1,k1,f1,a1,cZ (t1.mono ?_)⟩;rintro e s3 h3 ⟨rfl,rfl,rfl⟩;rw[aag (by simpa using hi)];exact⟨rfl,rfl,rfl⟩
 |scope a=>
  obtain⟨e,r1,s1,h1,l1,k1,f1,a1,t1⟩:=G _ _ _ _ _ _ hl wf hk;exact⟨e,r1,s1,h1,l1,k1,f1,a1,G2 t1⟩
 |loop a=>
  unfold wpB at hk;dsimp only at hk;obtain⟨I,n,h0,hI⟩:=hk
  have key:∀n r1 s1 h1,Le r1 s1->qJ h1->Fr (ZJ a) s s1->I n (Vl (lv ||| Ci a) r1 (bits (ZJ a) r.size)) h1 ->
    ∃e r' s' h',Le r' s'/\K.on e r' h'/\Fr (ZJ a) s s'/\AF h1 h'/\T P rd (.loop a) s1 h1 (λe1 s2 h2=>e1=e/\s2=s'/\h2=h'):=by
   intro n
   induction n using Nat.strongRecOn with
   |_ n ih=>
    intro r1 s1 h1 l1 wf1 f1 hn;have hstep:=hI n _ h1 hn;obtain⟨e,r2,s2,h2,l2,k2,f2,a2,t2⟩:=G _ _ _ _ _ _ (join_le hl l1 f1) wf1 hstep;cases e with
    |normal=>
     obtain⟨m,hm,k2⟩:=k2;obtain⟨e3,r3,s3,h3,l3,k3,f3,a3,t3⟩:=ih m hm r2 s2 h2 l2 (wf1.af a2) (f1.trans f2) k2;refine⟨e3,r3,s3,h3,l3,k3,f3,a2.trans a3,Vu (t2.mono ?_)⟩;rintro e s4 h4 ⟨rfl,rfl,rfl⟩;exact t3
    |ret=>
     refine⟨.ret,r2,s2,h2,l2,k2,f1.trans f2,a2,Vu (t2.mono ?_)⟩;rintro e s4 h4 ⟨rfl,rfl,rfl⟩;exact⟨rfl,rfl,rfl⟩
    |exit i=>
     refine⟨.exit i,r2,s2,h2,l2,k2,f1.trans f2,a2,Vu (t2.mono ?_)⟩;rintro e s4 h4 ⟨rfl,rfl,rfl⟩;exact⟨rfl,rfl,rfl⟩
  exact key n r s h hl wf (.refl _ _) h0
 |region id ops draw=>
  cases draw with
  |true=>
   obtain⟨r',s',h',q1,q2,q3,q4,t⟩:=hD ops r s h K.Ch rd id hl wf hk;exact⟨.normal,r',s',h',q1,q2,q3,q4,t⟩
  |false=>
   have hk:Pv P ops ops.toList r h K.Ch:=hk;obtain⟨r',s',h',q1,q2,q3,q4,t⟩:=AM ops.toList 0 (abH) hl wf hk;refine⟨.normal,r',s',h',q1,q2,q3,q4,Cq ?_⟩;rw[List.range_eq_range'];rw[abg]at t
   exact(λρ w tm ds hr hs b k cs=>by
    obtain⟨s1,h1,ρ1,w1,tm1,⟨e1,e2⟩,rest⟩:=t ρ w tm ds hr hs b k cs;exact⟨s1,h1,ρ1,w1,tm1,⟨rfl,e1,e2⟩,rest⟩)
 |_=>exact hk.elim
def RK(Ch ret:za->Prop)(ext:Nat->za->Prop)(e:Ex)(h:za):Prop:=match e with
 | .normal=>Ch h
 | .ret=>ret h
 | .exit i=>ext i h
def RF(P:Program)(f:aaa)(params:Array Tmp)(as bd:Code)(s:Env)(h:za)(Ch ret:za->Prop)(ext:Nat->za->Prop):Prop:=match f with
 | .func (.func g) a c=>xS P g=true /\ ∀s1,Le s s1->DC P g (a.toList++[.func (.yield h.next) #[] #[]]++c.toList) (h.push (.loop {state := .ready,pending:=none,s:=s1,params:=params,assign:=as,body:=bd}))
   (λ_ h1=>∃A,h1.get h.next=some (.loop A)/\(A.state == .busy)=false/\h1.ro<=h.next /\ ∃e,Xk e=A.pending/\RK Ch ret ext e (h1.set h.next none))
 |_=>False
def zc2(P:Program)(D:Array Oper->Env->za->(Env->za->Prop)->Prop)(rec:Sp):Sp:=λlv c s h K=>match c with
 | .rangeFunc f params as bd=>RF P (ev s f) params as bd s h (λh1=>K.Ch s h1) (λh1=>K.ret s h1) (λi h1=>K.ext i s h1)
 |c=>wpB P D rec lv c s h K
def wp0(P:Program)(D:Array Oper->Env->za->(Env->za->Prop)->Prop)(n:Nat):Sp:=Nat.rec (λ_ _ _ _ _=>False) (λ_ rec=>zc2 P D rec) n
theorem Fc{h:za}(w:qJ h)(o:vl):qJ (h.push o):=⟨λb x hb=>by
 rw[za.vT]at hb;show b<h.next+1;split at hb
 ·rename_i e;omega
 ·have:=w.1 b x hb;omega,Nat.le_succ_of_le w.2⟩
theorem ME{f:Operand}{params:Array Tmp}{as bd:Code}{r s:Env}{h:za}{Ch ret:za->Prop}{ext:Nat->za->Prop}(hl:Le r s)(wf:qJ h)(hk:RF P (ev r f) params as bd r h Ch ret ext) :
  ∃e h',RK Ch ret ext e h'/\AF h h'/\T P none (.rangeFunc f params as bd) s h (λe1 s1 h1=>e1=e/\s1=s/\h1=h'):=by
 unfold RF at hk;split at hk
 case h_2=>exact hk.elim
 rename_i g a c hf;obtain⟨hc,hd⟩:=hk;obtain⟨v,h1,⟨A,gA,bA,ro,e,je,kk⟩,af,t⟩:=hd s hl (Fc wf _);have ef:kG s f=some (.func (.func g) a c):=by rw[ZI hl (x:=f) (by rw[hf];rfl),hf]
 refine⟨e,h1.set h.next none,kk,⟨?_,af.ro,λb o hb=>?_⟩,il ef hc (λL q=>by cases q) (t.mono ?_)⟩
 ·have:=af.next;show h.next<=h1.next;have e1:(h.push (.loop {state := .ready,pending:=none,s:=s,params:=params,assign:=as,body:=bd})).next=h.next+1:=rfl;omega
 ·rw[za.yy]at hb;split at hb
  ·cases hb
  ·rename_i hne;rcases af.alive b o hb with q|q
   ·rw[za.vT,aag hne]at q;exact .inl q
   ·have e1:(h.push (.loop {state := .ready,pending:=none,s:=s,params:=params,assign:=as,body:=bd})).next=h.next+1:=rfl;refine .inr ⟨by omega,?_⟩;exact q.2
 ·rintro v1 h2 ⟨_,rfl⟩;exact⟨A,gA,bA,ro,e,je,rfl,rfl,rfl⟩
theorem Ff{D:Array Oper->Env->za->(Env->za->Prop)->Prop}(hD:Kr P D):∀n,Good P none (wp0 P D n)
 |0=>λ_ _ _ _ _ _ _ _ hk=>hk.elim
 |n+1=>λlv c r s h K hl wf hk=>by
  have key:wpB P D (wp0 P D n) lv c r h K->_:=λq=>Pn hD (Ff hD n) lv c r s h K hl wf q;cases c with
  |rangeFunc f params as bd=>
   obtain⟨e,h',kk,af,t⟩:=ME hl wf hk;exact⟨e,r,s,h',hl,by cases e <;> exact kk,.refl _ _,af,t⟩
  |_=>exact key hk
def rv(vs:List aaa)(h:za)(R:aaa->za->Prop):Prop:=yi vs=true/\R (xV vs) h
def O3(P:Program):List ResultVar->Env->za->(List aaa->Prop)->Prop
 |[],s,h,K=>K []
 | .tmp t::rs,s,h,K=>O3 P rs s h λvs=>K (s.get t::vs)
 | .cell a t::rs,s,h,K=>opt (zd P t (s.get a) h) λv=>O3 P rs s h λvs=>K (v::vs)
def zaI:List ResultVar->Nat
 |[]=>0
 | .tmp t::rs=>(1 <<< t) ||| zaI rs
 | .cell a _::rs=>(1 <<< a) ||| zaI rs
def Pu(P:Program)(D:Array Oper->Env->za->(Env->za->Prop)->Prop)(n:Nat)(f:FuncId)(args:List aaa)(h:za)(R:aaa->za->Prop):Prop :=
 match P.funcs[f]? with
 |some fn=>(match fn.body with
  |some c=>wp0 P D n (zaI fn.results.toList) c (Env.enter args fn.ntmps) h ⟨λs h=>O3 P fn.results.toList s h λvs=>rv vs h R,λs h=>O3 P fn.results.toList s h λvs=>rv vs h R,λ_ _ _=>False⟩
  |none=>False)
 |none=>False
theorem QW{r s:Env}{h:za}(hl:Le r s):∀{rs:List ResultVar} {K:List aaa->Prop},O3 P rs r h K->(∀vs,K vs->yi vs=true)->∃vs,qF P s h rs=some vs/\K vs
 |[],K,hk,_=>⟨[],rfl,hk⟩
 | .tmp t::rs,K,hk,hn=>by
   obtain⟨vs,e,q⟩:=QW hl (rs:=rs) hk (λvs q=>by
    have:=hn _ q;simp only[yi]at this;cases hb:zQ (r.get t) with
    |true=>rw[hb]at this;cases this
    |false=>rw[hb]at this;exact this)
   have hb:zQ (r.get t)=false:=by
    have:=hn _ q;simp only[yi]at this;cases hb:zQ (r.get t) with
    |true=>rw[hb]at this;cases this
    |false=>rfl
   have et:r.get t=s.get t:=by
    rcases hl.get t with e|e
    ·rw[e]at hb;cases hb
    ·exact e
   exact⟨_,by simp only[qF,e,<- et],q⟩
 | .cell a t::rs,K,hk,hn=>by
   obtain⟨v,ev,hk⟩:=uY hk
   have et:r.get a=s.get a:=by
    rcases hl.get a with e|e
    ·obtain⟨k,p,q,e2⟩:=YE e;rw[e2]at ev;cases ev
    ·exact e
   obtain⟨vs,e,q⟩:=QW hl (rs:=rs) hk (λvs q=>by
    have:=hn _ q;simp only[yi]at this;cases hb:zQ v with
    |true=>rw[hb]at this;cases this
    |false=>rw[hb]at this;exact this)
   exact⟨_,by simp only[qF,<- et,ev,e],q⟩
theorem so{D:Array Oper->Env->za->(Env->za->Prop)->Prop}(hD:Kr P D){n:Nat}{f:FuncId}{args:List aaa}{h:za}{R:aaa->za->Prop}(hk:Pu P D n f args h R):DC P f args h R:=by
 intro wf;unfold Pu at hk;split at hk
 case h_2=>exact hk.elim
 rename_i fn hf;split at hk
 case h_2=>exact hk.elim
 rename_i c hb;obtain⟨e,r1,s1,h1,l1,k1,_,a1,t1⟩:=Ff hD n _ _ _ _ _ _ (.refl _) wf hk
 have fin:∀{e:Ex},(e=.normal\/e=.ret)->(∃vs,qF P s1 h1 fn.results.toList=some vs/\yi vs=true/\R (xV vs) h1)->T P none c (Env.enter args fn.ntmps) h (λe1 s2 h2=>e1=e/\s2=s1/\h2=h1) ->
   ∃v h1,R v h1/\AF h h1/\TC P f args h (λv' h'=>v'=v/\h'=h1):=by
  rintro e he ⟨vs,e1,_,q⟩ t;refine⟨_,h1,q,a1,GY hf hb (t.mono ?_)⟩;rintro e s2 h2 ⟨rfl,rfl,rfl⟩;exact⟨he,vs,e1,rfl,rfl⟩
 cases e with
 |normal=>
  obtain⟨vs,e,q⟩:=QW l1 k1 (λvs q=>q.1);exact fin (.inl rfl) ⟨vs,e,q⟩ t1
 |ret=>
  obtain⟨vs,e,q⟩:=QW l1 k1 (λvs q=>q.1);exact fin (.inr rfl) ⟨vs,e,q⟩ t1
 |exit id=>exact k1.elim
end
noncomputable section
variable {P:Program}
def eU:Nat->Nat
 |2=>1
 |3=>2
 |4=>2
 |_=>3
def x9(q:FuncId->Nat)(o:Oper):Nat:=match o.op with
 | .call {callee := .value (.func g),.. }=>eU (q g)
 | .call {callee := .value _,.. }=>3
 | .call {callee := .builtin b,.. }=>cond (Xp b) 1 3
 | .move _ | .assign _ | .pick _ _ _ | .build _ _ | .nilCheck _ | .binOp _ _ _ _ _ | .unOp _ _ _ | .makeInterface _ _ | .makeFunc _ _ _ | .fieldAddr _ _ _ | .field _ _ _ | .indexAddr _ _ _ | .index _ _ _ | .extract _ _=>0
 | .load _ _ | .lookup _ _ _ _ | .slice _ _ _ _ _ | .entry _=>1
 | .box _ _ | .alloc _ | .buildSlice _ _ _ | .makeSlice _ _ _ | .makeMap _ _ | .convert _ _ _ | .range _ _=>2
 |_=>3
def GC(x y:Nat):Bool:=Nat.beq x 0||Nat.beq y 0||(Nat.beq x 1&&Nat.ble y 2)||(Nat.beq x 2&&Nat.beq y 1)
def BM(q:FuncId->Nat):List Oper->Nat->List Nat->List (Nat×Nat)->Bool
 |[],_,_,_=>true
 |o::os,i,ms,prev=>(prev.all λx=>(yz ms o).testBit x.1||GC x.2 (x9 q o))&&BM q os (i+1) (ms++[yz ms o]) ((i,x9 q o)::prev)
def calm(q:FuncId->Nat)(ops:Array Oper):Bool:=Zn ops ops.toList 0 [] []&&BM q ops.toList 0 [] []
def trim(h:za)(n:Nat):za:=h.YD (List.range' n (h.next-n))
@[simp] theorem zaZ (h:za) (n:Nat):(trim h n).next=h.next:=rfl
@[simp] theorem zct (h:za) (n:Nat):(trim h n).ro=h.ro:=rfl
theorem Oc(h:za)(n b:Nat):(trim h n).get b=if n<=b/\b<h.next then none else h.get b:=by
 unfold trim;rw[uP];simp only[jU]
def firstFree(m:Nat):List (Nat×Nat)->Option Nat
 |[]=>none
 |(p,n)::l=>cond (m.testBit p) (firstFree m l) (some n)
def view(m:Nat)(al:List (Nat×Nat))(h:za):za:=match firstFree m al with
 |none=>h
 |some n=>trim h n
def qu(P:Program)(g:FuncId)(args:List aaa)(h:za)(K:aaa->Prop):Prop:=xS P g=true/\yi args=true /\ ∃v,hZ v=true/\TC P g args h.lock (λv1 _=>v1=v)/\K v
def DX(P:Program)(g:FuncId)(args:List aaa)(h:za)(K:aaa->za->Prop):Prop :=
 xS P g=true/\yi args=true /\ ∃v h2,TC P g args h.lock (λv1 h1=>v1=v/\h1=h2)/\AF h.lock h2/\K v (wS h h2)
def i5(P:Program)(g:FuncId)(args:List aaa)(h:za)(K:aaa->za->Prop):Prop :=
 xS P g=true/\yi args=true/\DC P g args h K
def SW(P:Program)(g:FuncId)(args:List aaa)(h:za)(K:aaa->za->Prop):Prop:=yi args=true/\zD (Bh P g args h) K
def gI(P:Program)(f:aaa)(args:List aaa)(h:za)(K:aaa->za->Prop):Prop:=match f with
 | .func (.func g) a c=>yi args=true/\i5 P g (a.toList++args++c.toList) h K
 |_=>False
def opD(P:Program)(q:FuncId->Nat)(s:Env)(o:Oper)(hv h:za)(K:aaa->za->Prop):Prop:=match o.op with
 | .call {callee := .value (.func g),args,argTypes}=>(match q g with
   |2=>qu P g (cX s args.toList) hv λv=>K v h
   |3=>DX P g (cX s args.toList) h K
   |4=>SW P g (cX s args.toList) h K
   |_=>i5 P g (cX s args.toList) h K)
 | .call {callee := .value f,args,argTypes}=>gI P (ev s f) (cX s args.toList) h K
 |_=>cond (Nat.beq (x9 q o) 1) (L9 P s o hv λv _=>K v h) (L9 P s o h K)
def Se(P:Program)(q:FuncId->Nat)(ops:Array Oper):List Oper->Nat->List Nat->List (Nat×Nat)->Env->za->(Env->za->Prop)->Prop
 |[],_,_,_,s,h,K=>K s h
 |o::os,i,ms,al,s,h,K=>(match o.guard with
  |none=>opD P q s o (view (yz ms o) al h) h λv h1=>(match s.put o.dst v with
   |some s1=>Se P q ops os (i+1) (ms++[yz ms o]) (cond (Nat.beq (x9 q o) 2) (al++[(i,h.next)]) al) s1 h1 K
   |none=>False)
  |some (j,want)=>(match (ops[j]?).bind (·.dst) with
   |none=>False
   |some d=>GD (s.get d) want (opD P q s o (view (yz ms o) al h) h) (λv h1=>(match s.put o.dst v with
    |some s1=>Se P q ops os (i+1) (ms++[yz ms o]) (cond (Nat.beq (x9 q o) 2) (al++[(i,h.next)]) al) s1 h1 K
    |none=>False)) h))
def ba(P:Program)(q:FuncId->Nat)(ops:Array Oper)(s:Env)(h:za)(K:Env->za->Prop):Prop:=cond (calm q ops) (Se P q ops ops.toList 0 [] [] s h K) False
def YF:Op->Bool
 | .call {callee := .value _,.. }=>true
 |_=>false
theorem fo{q:FuncId->Nat}{s:Env}{o:Oper}{h h':za}{u:aaa}(hk:x9 q o=0)(hc:YF o.op=false)(he:Um P s o h=some (u,h')):h'=h /\ ∀g,Um P s o g=some (u,g):=by
 have key:∀{x:Option aaa},one h x=some (u,h')->h'=h /\ ∀g,one g x=some (u,g):=λe=>by
  obtain⟨e1,e2⟩:=vF e;exact⟨e2,λg=>Xn e1⟩
 unfold x9 at hk;unfold Um at he ⊢
 split at he <;> rename_i yk <;> simp only[yk]at hk ⊢ <;> first
  |exact key he
  |(cases he;done)
  |(cases hk;done)
  |skip
 ·split at he
  ·exact key he
  ·exact key he
  ·cases he
 ·split at he
  ·exact key he
  ·cases he
 ·split at he
  ·simp only[aab,aae]at he;obtain⟨rfl,rfl⟩:=he;exact⟨rfl,λg=>rfl⟩
  ·simp only[aab,aae]at he;obtain⟨rfl,rfl⟩:=he;exact⟨rfl,λg=>rfl⟩
  ·cases he
 ·split at he
  ·exact key he
  ·cases he
 ·split at he
  ·obtain⟨hf,he⟩:=zo he;simp only[hf,aav];exact key he
  ·cases he
 ·split at he
  ·split at he
   ·simp only[aab,aae]at he;obtain⟨rfl,rfl⟩:=he;exact⟨rfl,λg=>rfl⟩
   ·cases he
  ·cases he
 ·split at he
  ·simp only[aab,aae]at he;obtain⟨rfl,rfl⟩:=he;exact⟨rfl,λg=>rfl⟩
  ·cases he
 ·split at he
  ·exact key he
  ·cases he
 ·split at he
  ·split at he
   ·split at he
    ·exact key he
    ·cases he
   ·cases he
  ·cases he
 ·split at he
  ·exact key he
  ·cases he
 ·split at he
  ·obtain⟨hf,he⟩:=zo he;simp only[hf,aav];exact key he
  ·cases he
 ·split at he
  ·exact key he
  ·cases he
 ·exfalso;rename_i b args ts;cases hq:Xp b <;> rw[hq]at hk <;> cases hk
theorem Jp{q:FuncId->Nat}{s:Env}{o:Oper}{h h':za}{u:aaa}(hk:x9 q o=1)(hc:YF o.op=false)(he:Um P s o h=some (u,h')):h'=h:=by
 unfold x9 at hk;unfold Um at he
 split at he <;> rename_i yk <;> simp only[yk]at hk <;> first
  |(cases he;done)
  |(cases hk;done)
  |skip
 ·split at he
  ·exact(vF he).2
  ·cases he
 ·split at he
  ·split at he
   ·simp only[aab,aae]at he;exact he.2.symm
   ·cases he
  ·exact(vF he).2
  ·cases he
 ·rename_i b args ts;split at he
  ·refine KY ?_ he;cases hq:Xp b with
   |true=>rfl
   |false=>rw[hq]at hk;cases hk
  ·cases he
 ·split at he
  ·exact(vF he).2
  ·cases he
 ·split at he
  ·exact(vF he).2
  ·cases he
theorem iU{q:FuncId->Nat}{s:Env}{o:Oper}{h h':za}{u:aaa}(hk:x9 q o=2)(hc:YF o.op=false)(he:Um P s o h=some (u,h')):Still h h':=by
 refine(Zz he).2 ?_;unfold x9 at hk
 split at hk <;> rename_i yk <;> first
  |(cases hk;done)
  |(rw[yk]at hc;cases hc;done)
  |(rw[yk];rfl)
  |skip
 rename_i b args ts;cases hq:Xp b <;> rw[hq]at hk <;> cases hk
end
noncomputable section
variable {P:Program}
theorem Xf{s:Env}{o:Oper}{h h':za}{u:aaa}(he:Um P s o h=some (u,h')):YF o.op=false:=by
 cases hc:YF o.op with
 |false=>rfl
 |true=>
  unfold YF at hc;split at hc
  ·rename_i yk;unfold Um at he;simp only[yk]at he;cases he
  ·cases hc
structure RP (q:FuncId->Nat) (x:yr):Prop where
 rd:∀b,x.rd b=true->b<x.g.next
 k0:x9 q x.o=0->∀b,x.rd b=false
 k1:x9 q x.o<=1->∀b,x.tc b=false
 k2:x9 q x.o=2->∀b,x.tc b=true->x.g.next<=b
structure Next (P:Program) (q:FuncId->Nat) (ops:Array Oper) (s0:Env) (h0:za) (A:List yr) (i:Nat) (o:Oper) (s:Env) (h:za) (u:aaa) (h1:za) (bound:Nat) (y:yr):Prop where
 hj:y.j=i
 yk:y.o=o
 hsl:y.s=s
 r7:y.v=u
 gn:y.g.next=h.next
 told:Told P ops s0 h0 A y
 rp:RP q y
 rb:x9 q o=1->∀b,y.rd b=true->b<bound
 heap:∀b,h1.get b=if y.tc b=true then y.g'.get b else h.get b
 ro:h1.ro=h.ro
 next:h.next<=h1.next
 Ei:y.g'.next<=h1.next
 wf:WF h1
section
variable {q:FuncId->Nat}{ops:Array Oper}{s0:Env}{h0:za}{A:List yr}{i:Nat}{o:Oper}{s:Env}{h:za}
theorem gZ(F:vz P ops s0 h0 A i s h)(ho:ops[i]? = some o)(hput:∀d,o.dst=some d->d<s.size){u:aaa}(hs:kO P ops s o (h.pick []) u (h.pick []))(bound:Nat):∃y,Next P q ops s0 h0 A i o s h u h bound y:=by
 refine⟨⟨i,o,u,s,h.pick [],h.pick [],λ_=>false,λ_=>false⟩,rfl,rfl,rfl,rfl,rfl,
  ⟨ho,F.env,F.size,λb=>by rw[uq];simp,F.ro,F.next,F.nA,aaj _,hs,λd hd=>by rw[<- F.size];exact hput d hd,λb hb=>(by cases hb),λb _=>rfl,λb o' hb=>(by cases hb)⟩,
  ⟨λb hb=>(by cases hb),λ_ _=>rfl,λ_ _=>rfl,λ_ b hb=>(by cases hb)⟩,λ_ b hb=>(by cases hb),λb=>by simp,rfl,aaj _,aaj _,F.wf⟩
theorem Aq(F:vz P ops s0 h0 A i s h)(ho:ops[i]? = some o)(hput:∀d,o.dst=some d->d<s.size)(hk:x9 q o=1){hv:za}{bound:Nat}(hb:bound<=h.next)(hn:hv.next=h.next)(hro:hv.ro=h.ro)
  (hg:∀b,hv.get b=if b<bound then h.get b else none) {u:aaa} (hs:kO P ops s o hv u hv):∃y,Next P q ops s0 h0 A i o s h u h bound y:=by
 refine⟨⟨i,o,u,s,hv,hv,λb=>Nat.blt b bound,λ_=>false⟩,rfl,rfl,rfl,rfl,hn,
  ⟨ho,F.env,F.size,λb=>?_,hro.trans F.ro,by rw[hn];exact F.next,λx hx=>by rw[hn];exact F.nA x hx,aaj _,hs,λd hd=>by rw[<- F.size];exact hput d hd,λb hb=>(by cases hb),λb _=>rfl,λb o' hb=>(by cases hb)⟩,
  ⟨λb hb2=>by have:b<bound:=by simpa [aaM] using hb2
              show b<hv.next;omega,λh=>by simp only at h;omega,λ_ _=>rfl,λh=>by simp only at h;omega⟩,λ_ b hb2=>by simpa [aaM] using hb2,λb=>by simp,rfl,aaj _,by rw[hn];exact aaj _,F.wf⟩
 show hv.get b=if Nat.blt b bound=true then Yh A h0 b else none;have hbl:(Nat.blt b bound=true) ↔ b<bound:=by rw[aaM]
 rw[hg];by_cases hbb:b<bound
 ·rw[aai hbb,aai (hbl.2 hbb),F.heap]
 ·rw[aag hbb,aag (λe=>hbb (hbl.1 e))]
theorem qC{h:za}(w:WF h){b:Nat}(hb:¬b<h.next):h.get b=none:=by
 cases hh:h.get b with|none=>rfl|some o'=>exact absurd (w b o' hh) hb
theorem cL(F:vz P ops s0 h0 A i s h)(ho:ops[i]? = some o)(hput:∀d,o.dst=some d->d<s.size)(hk:x9 q o=2){h1:za}(hn:h.next<=h1.next)(hro:h1.ro=h.ro)(hold:∀b,¬(h.next<=b/\b<h1.next)->h1.get b=h.get b)
  {u:aaa} (hs:kO P ops s o h u h1) (bound:Nat):∃y,Next P q ops s0 h0 A i o s h u h1 bound y:=by
 have hrd:∀b,(Nat.blt b h.next=true) ↔ b<h.next:=λb=>by rw[aaM]
 have htc:∀b,(decide (h.next<=b/\b<h1.next)=true) ↔ (h.next<=b/\b<h1.next):=λb=>by simp
 refine⟨⟨i,o,u,s,h,h1,λb=>Nat.blt b h.next,λb=>decide (h.next<=b/\b<h1.next)⟩,rfl,rfl,rfl,rfl,rfl,
  ⟨ho,F.env,F.size,λb=>?_,F.ro,F.next,F.nA,hn,hs,λd hd=>by rw[<- F.size];exact hput d hd,λb hb => .inr ((htc b).1 hb),λb hb=>?_,λb o' hb hlt=>?_⟩,
  ⟨λb hb=>(hrd b).1 hb,λh=>by simp only at h;omega,λh=>by simp only at h;omega,λ_ b hb=>((htc b).1 hb).1⟩,λh=>by omega,λb=>?_,hro,hn,aaj _,λb o' hb=>?_⟩
 ·show h.get b=if Nat.blt b h.next=true then Yh A h0 b else none;by_cases hb:b<h.next
  ·rw[aai ((hrd b).2 hb),F.heap]
  ·rw[aag (λe=>hb ((hrd b).1 e)),qC F.wf hb]
 ·refine hold b (λe=>?_);have:=(htc b).2 e;rw[show decide (h.next<=b/\b<h1.next)=false from hb]at this;cases this
 ·have:=((htc b).1 hb).1;have hlt:b<h.next:=hlt;omega
 ·show h1.get b=if decide (h.next<=b/\b<h1.next)=true then h1.get b else h.get b;by_cases hb:h.next<=b/\b<h1.next
  ·rw[aai ((htc b).2 hb)]
  ·rw[aag (λe=>hb ((htc b).1 e)),hold b hb]
 ·by_cases hc:h.next<=b/\b<h1.next
  ·exact hc.2
  ·rw[hold b hc]at hb;exact aap (F.wf b o' hb) hn
theorem cM(F:vz P ops s0 h0 A i s h)(ho:ops[i]? = some o)(hput:∀d,o.dst=some d->d<s.size)(hk:x9 q o=3){h1:za}(af:AF h h1)
  {u:aaa} (hs:kO P ops s o h u h1) (bound:Nat):∃y,Next P q ops s0 h0 A i o s h u h1 bound y:=by
 have hrd:∀n b,(Nat.blt b n=true) ↔ b<n:=λn b=>by rw[aaM]
 have hn:h.next<=h1.next:=af.next;have hwf:WF h1:=F.wf.af af
 refine⟨⟨i,o,u,s,h,h1,λb=>Nat.blt b h.next,λb=>Nat.blt b h1.next⟩,rfl,rfl,rfl,rfl,rfl,
  ⟨ho,F.env,F.size,λb=>?_,F.ro,F.next,F.nA,hn,hs,λd hd=>by rw[<- F.size];exact hput d hd,λb hb=>?_,λb hb=>?_,λb o' hb hlt hg=>?_⟩,
  ⟨λb hb=>(hrd _ b).1 hb,λh=>by simp only at h;omega,λh=>by simp only at h;omega,λh=>by simp only at h;omega⟩,λh=>by omega,λb=>?_,af.ro,hn,aaj _,hwf⟩
 ·show h.get b=if Nat.blt b h.next=true then Yh A h0 b else none;by_cases hb:b<h.next
  ·rw[aai ((hrd _ b).2 hb),F.heap]
  ·rw[aag (λe=>hb ((hrd _ b).1 e)),qC F.wf hb]
 ·have hb:=(hrd _ b).1 hb;by_cases hlt:b<h.next
  ·exact .inl ((hrd _ b).2 hlt)
  ·exact .inr ⟨abR hlt,hb⟩
 ·have hb':¬b<h1.next:=λe=>by
   have:=(hrd h1.next b).2 e;rw[show Nat.blt b h1.next=false from hb]at this;cases this
  show h1.get b=h.get b;rw[qC hwf hb',qC F.wf (by omega)]
 ·rcases af.alive b o' hg with h2|⟨h2,_⟩
  ·exact h2
  ·have hlt:b<h.next:=hlt;omega
 ·show h1.get b=if Nat.blt b h1.next=true then h1.get b else h.get b;by_cases hb:b<h1.next
  ·rw[aai ((hrd _ b).2 hb)]
  ·rw[aag (λe=>hb ((hrd _ b).1 e)),qC hwf hb,qC F.wf (by omega)]
theorem V2{h h1:za}(st:Still h h1):h.next<=h1.next/\h1.ro=h.ro /\ ∀b,¬(h.next<=b/\b<h1.next)->h1.get b=h.get b:=by
 rcases st with rfl|⟨ob,rfl⟩
 ·exact⟨aaj _,rfl,λ_ _=>rfl⟩
 ·refine⟨abI _,rfl,λb hb=>?_⟩;rw[za.vT,aag (λe=>hb ⟨by omega,by rw[za.ai];omega⟩)]
theorem cV{m:Nat}{al:List (Nat×Nat)}{h:za}(w:WF h)(hal:∀x,x∈al->x.2<=h.next):∃bound,bound<=h.next/\(view m al h).next=h.next/\(view m al h).ro=h.ro/\(∀b,(view m al h).get b=if b<bound then h.get b else none) /\ ∀n,firstFree m al=some n->bound=n:=by
 have mem:∀(al:List (Nat×Nat)) n,firstFree m al=some n->∃p,(p,n)∈al:=by
  intro al
  induction al with
  |nil=>intro n e;cases e
  |cons x l ih=>
   intro n e;obtain⟨p,n'⟩:=x;simp only[firstFree]at e;cases hb:m.testBit p with
   |true=>rw[hb]at e;obtain⟨p',hp⟩:=ih n e;exact⟨p',by simp[hp]⟩
   |false=>rw[hb]at e;cases e;exact⟨p,by simp⟩
 unfold view;cases hf:firstFree m al with
 |none=>exact⟨h.next,aaj _,rfl,rfl,λb=>by
   by_cases hb:b<h.next
   ·rw[aai hb]
   ·rw[aag hb,qC w hb],λn e=>by cases e⟩
 |some n=>
  obtain⟨p,hp⟩:=mem al n hf;have hn:n<=h.next:=hal _ hp;refine⟨n,hn,rfl,rfl,λb=>?_,λn' e=>by cases e;rfl⟩;simp only[Oc];by_cases hb:b<n
  ·rw[aag (by omega),aai hb]
  ·by_cases hb2:b<h.next
   ·rw[aai ⟨by omega,hb2⟩,aag hb]
   ·rw[aag (by omega),aag hb,qC w hb2]
theorem Next.af{u:aaa}{h1:za}{bound:Nat}{y:yr}(N:Next P q ops s0 h0 A i o s h u h1 bound y)(F:vz P ops s0 h0 A i s h):AF h h1 :=
 ⟨N.next,N.ro,λb o hb=>by
  rw[N.heap]at hb;by_cases ht:y.tc b=true
  ·rw[aai ht]at hb;by_cases hl:b<y.g.next
   ·have h2:=N.told.tc3 b o ht hl hb;have h3:=N.told.heap b;rw[h3]at h2;by_cases hr:y.rd b=true
    ·rw[aai hr,<- F.heap]at h2;exact .inl h2
    ·rw[aag hr]at h2;exact absurd rfl h2
   ·have hb1:h1.get b=some o:=(by rw[N.heap,aai ht];exact hb);exact .inr ⟨by rw[<- N.gn];omega,N.wf b o hb1⟩
  ·rw[aag ht]at hb;exact .inl (by rw[hb];simp)⟩
theorem EP(F:vz P ops s0 h0 A i s h)(hron:h.ro<=h.next)(ho:ops[i]? = some o)(hput:∀d,o.dst=some d->d<s.size)(hw:yq ops s o=true){r:Env}(hl:Le r s){m:Nat}{al:List (Nat×Nat)}(hal:∀x,x∈al->x.2<=h.next)
  {K:aaa->za->Prop} (hk:opD P q r o (view m al h) h K):∃v u h1 y bound,(zQ v=true\/v=u)/\K v h1/\Next P q ops s0 h0 A i o s h u h1 bound y /\ ∀n,firstFree m al=some n->bound=n:=by
 obtain⟨bound,hb1,hb2,hb3,hb4,hb5⟩:=cV (m:=m) F.wf hal;unfold opD at hk;split at hk
 ·rename_i g args ts yk;have ef:kG s (.func g)=some (.func (.func g) #[] #[]):=rfl;have hkind:x9 q o=eU (q g):=by unfold x9;simp only[yk]
  split at hk
  ·rename_i hq;obtain⟨hc,hn,v,hsc,hT,hK⟩:=hk
   have hT2:TC P g (cX r args.toList) (view m al h) (λv1 h1=>v1=v/\h1=view m al h) :=
    (hT.quiet (λv1 _ e=>by rw[e];exact hsc)).mono (by rintro v1 h1 ⟨⟨_,e1⟩,e2⟩;exact⟨e1,e2⟩)
   obtain⟨y,hy⟩:=Aq (q:=q) F ho hput (by rw[hkind,hq];rfl) hb1 hb2 hb3 hb4 (u:=v) (.inr ⟨hw,.inr (.inl ⟨.func g,args,ts,g,#[],#[],_,yk,ef,QQ hl hn,hc,by simpa using hT2⟩)⟩);exact⟨v,v,h,y,bound,.inr rfl,hK,hy,hb5⟩
  ·rename_i hq;obtain⟨hc,hn,v,h2,hT,af,hK⟩:=hk;have hnx:h.next<=h2.next:=af.next
   obtain⟨y,hy⟩:=cL (q:=q) F ho hput (by rw[hkind,hq];rfl) (h1:=wS h h2) hnx rfl (λb hb=>by rw[wO];exact aag hb) (u:=v)
    (.inr ⟨hw,.inr (.inl ⟨.func g,args,ts,g,#[],#[],_,yk,ef,QQ hl hn,hc,by simpa using hT.fresh⟩)⟩) bound
   exact⟨v,v,_,y,bound,.inr rfl,hK,hy,hb5⟩
  ·rename_i hq;obtain⟨hn,hk⟩:=hk;obtain⟨v,h2,he,hK⟩:=jV hk;obtain⟨f1,f2,f3⟩:=V2 (Xb he);obtain⟨y,hy⟩:=cL (q:=q) F ho hput (by rw[hkind,hq];rfl) f1 f2 f3 (u:=v) (.inr ⟨hw,.inr (.inr ⟨.func g,args,ts,g,#[],#[],_,yk,ef,QQ hl hn,by simpa using he⟩)⟩) bound;exact⟨v,v,_,y,bound,.inr rfl,hK,hy,hb5⟩
  ·rename_i n2 n3 n4;obtain⟨hc,hn,hd⟩:=hk;obtain⟨v,h2,hK,af,hT⟩:=hd ⟨F.wf,hron⟩
   obtain⟨y,hy⟩:=cM (q:=q) F ho hput (by rw[hkind];unfold eU;split <;> first|rfl|(exfalso;simp_all)) af (u:=v)
    (.inr ⟨hw,.inr (.inl ⟨.func g,args,ts,g,#[],#[],_,yk,ef,QQ hl hn,hc,by simpa using hT⟩)⟩) bound
   exact⟨v,v,_,y,bound,.inr rfl,hK,hy,hb5⟩
 ·rename_i f args ts hnf yk;unfold gI at hk;split at hk
  ·rename_i g a c hf;have ef:kG s f=some (.func (.func g) a c):=by rw[ZI hl (x:=f) (by rw[hf];rfl),hf]
   obtain⟨hn0,hc,hn,hd⟩:=hk;obtain⟨v,h2,hK,af,hT⟩:=hd ⟨F.wf,hron⟩
   have hkind:x9 q o=3:=by
    unfold x9;simp only[yk]
   obtain⟨y,hy⟩:=cM (q:=q) F ho hput hkind af (u:=v) (.inr ⟨hw,.inr (.inl ⟨f,args,ts,g,a,c,_,yk,ef,QQ hl hn0,hc,hT⟩)⟩) bound;exact⟨v,v,_,y,bound,.inr rfl,hK,hy,hb5⟩
  ·exact hk.elim
 ·rename_i hn1 hn2;cases h1:Nat.beq (x9 q o) 1 with
  |true=>
   rw[h1]at hk;have h1:=aak h1;obtain⟨v,u,h',he,hv,hK⟩:=qT hl hk;obtain rfl:=Jp h1 (Xf he) he;obtain⟨y,hy⟩:=Aq (q:=q) F ho hput h1 hb1 hb2 hb3 hb4 (u:=u) (.inr ⟨hw,.inl he⟩);exact⟨v,u,h,y,bound,hv,hK,hy,hb5⟩
  |false=>
   rw[h1]at hk;obtain⟨v,u,h',he,hv,hK⟩:=qT hl hk;have hnc:=Xf he
   have hkle:x9 q o=0\/x9 q o=1\/x9 q o=2\/x9 q o=3:=by
    unfold x9;split <;> (try simp)
    ·unfold eU;split <;> simp
    ·rename_i b _ _ _;cases Xp b <;> simp
   rcases hkle with h0'|h1'|h2'|h3'
   ·obtain⟨rfl,hany⟩:=fo h0' hnc he;obtain⟨y,hy⟩:=gZ (q:=q) F ho hput (u:=u) (.inr ⟨hw,.inl (hany _)⟩) bound;exact⟨v,u,h',y,bound,hv,hK,hy,hb5⟩
   ·rw[h1']at h1;cases h1
   ·obtain⟨f1,f2,f3⟩:=V2 (iU h2' hnc he);obtain⟨y,hy⟩:=cL (q:=q) F ho hput h2' f1 f2 f3 (u:=u) (.inr ⟨hw,.inl he⟩) bound;exact⟨v,u,h',y,bound,hv,hK,hy,hb5⟩
   ·obtain⟨y,hy⟩:=cM (q:=q) F ho hput h3' (Zz he).1 (u:=u) (.inr ⟨hw,.inl he⟩) bound;exact⟨v,u,h',y,bound,hv,hK,hy,hb5⟩
end
def UC(q:FuncId->Nat):List yr->List (Nat×Nat)
 |[]=>[]
 |x::l=>cond (Nat.beq (x9 q x.o) 2) ((x.j,x.g.next)::UC q l) (UC q l)
theorem Lh(q:FuncId->Nat)(A:List yr)(y:yr):UC q (A++[y])=cond (Nat.beq (x9 q y.o) 2) (UC q A++[(y.j,y.g.next)]) (UC q A):=by
 induction A with
 |nil=>simp only[abF,UC]
 |cons x A ih=>
  simp only[acx,UC,ih];cases Nat.beq (x9 q x.o) 2 <;> cases Nat.beq (x9 q y.o) 2 <;> rfl
theorem Ox{q:FuncId->Nat}{A:List yr}{z:Nat×Nat}(h:z∈UC q A):∃x,x∈A/\z=(x.j,x.g.next):=by
 induction A with
 |nil=>cases h
 |cons x A ih=>
  simp only[UC]at h;cases hb:Nat.beq (x9 q x.o) 2 with
  |true=>
   rw[hb]at h;rcases aaP.1 h with e|h
   ·exact⟨x,by simp,e⟩
   ·obtain⟨x',h1,h2⟩:=ih h;exact⟨x',by simp[h1],h2⟩
  |false=>rw[hb]at h;obtain⟨x',h1,h2⟩:=ih h;exact⟨x',by simp[h1],h2⟩
theorem Ta{q:FuncId->Nat}{m:Nat}:∀{A:List yr},(∀A1 x A2 y A3,A=A1++x::(A2++y::A3)->x.g.next<=y.g.next)->∀x,x∈A->x9 q x.o=2->m.testBit x.j=false->∃n,firstFree m (UC q A)=some n/\n<=x.g.next
 |[],_,x,hx,_,_=>by cases hx
 |z::A,hm,x,hx,hk,hb=>by
  have rest:x∈A->∃n,firstFree m (UC q A)=some n/\n<=x.g.next:=λhx=>Ta (λA1 x A2 y A3 e=>hm (z::A1) x A2 y A3 (by rw[e];rfl)) x hx hk hb;simp only[UC];cases hz:Nat.beq (x9 q z.o) 2 with
  |false=>
   simp only[aaB];rcases aaP.1 hx with rfl|hx
   ·rw[hk]at hz;cases hz
   ·exact rest hx
  |true=>
   simp only[aav,firstFree];cases hbz:m.testBit z.j with
   |true=>
    simp only[aav];rcases aaP.1 hx with rfl|hx
    ·rw[hb]at hbz;cases hbz
    ·exact rest hx
   |false=>
    simp only[aaB];refine⟨_,rfl,?_⟩;rcases aaP.1 hx with rfl|hx
    ·exact aaj _
    ·obtain⟨A1,A2,e⟩:=aaR hx;exact hm [] z A1 x A2 (by rw[e];rfl)
theorem LL{q:FuncId->Nat}{ops:Array Oper}{x y:yr}(hx:RP q x)(hy:RP q y)(hs:kU ops x.o y.o=true)(hp:GC (x9 q x.o) (x9 q y.o)=true)(hn:x.g.next<=y.g.next)
  (hb:x9 q x.o=2->x9 q y.o=1->∀b,y.rd b=true->b<x.g.next):lB ops x y:=by
 simp only[kU,aad]at hs;obtain⟨h1,h2⟩:=hs
 have d1:∀d,x.o.dst=some d->d∉y.o.looksAt ops/\y.o.dst≠some d:=by
  intro d hd;rw[hd]at h1;simp only[aad,aan,aam,aaC]at h1;exact⟨h1.1,h1.2⟩
 have d2:∀d,y.o.dst=some d->d∉x.o.looksAt ops:=by
  intro d hd;rw[hd]at h2;simp only[aan,aam,aaC]at h2;exact h2
 have ff:∀{b:Bool},b≠true->b=false:=λh=>by simpa using h
 simp only[GC,aaW,aad]at hp;rcases hp with((h|h)|⟨h,h'⟩)|⟨h,h'⟩
 ·have h:=aak h;have t:=hx.k1 (by omega);have r:=hx.k0 h;exact⟨d1,d2,λb hb=>(by rw[t b]at hb;cases hb),λb _=>r b⟩
 ·have h:=aak h;have t:=hy.k1 (by omega);have r:=hy.k0 h;exact⟨d1,d2,λb _=>⟨r b,t b⟩,λb hb=>by rw[t b]at hb;cases hb⟩
 ·have h:=aak h;have h':=aaE h';have t:=hx.k1 (by omega);refine⟨d1,d2,λb hb=>(by rw[t b]at hb;cases hb),λb hb=>ff (λhr=>?_)⟩;have l1:=hx.rd b hr;by_cases h2:x9 q y.o=2
  ·have:=hy.k2 h2 b hb;omega
  ·rw[hy.k1 (by omega) b]at hb;cases hb
 ·have h:=aak h;have h':=aak h';have t:=hy.k1 (by omega);refine⟨d1,d2,λb hb'=>⟨ff (λhr=>?_),t b⟩,λb hb=>by rw[t b]at hb;cases hb⟩;have l1:=hx.k2 h b hb';have l2:=hb h h' b hr;omega
theorem GP{ops:Array Oper}{s0:Env}{h0:za}{A:List yr}{i:Nat}{s:Env}{h:za}(F:vz P ops s0 h0 A i s h):∀A1 x A2 y A3,A=A1++x::(A2++y::A3)->x.g.next<=y.g.next:=by
 intro A1 x A2 y A3 e;have t1:=F.told A1 x _ e;have t2:=F.told (A1++x::A2) y A3 (by rw[e];simp);have:=t2.nA x (by simp);have:=t1.n1;omega
theorem Po{q:FuncId->Nat}{ops:Array Oper}{s0:Env}{h0:za}(hro0:h0.ro<=h0.next):∀(l:List Oper) (i:Nat) (ms:List Nat) (A:List yr) (r s:Env) (h:za) {K:Env->za->Prop},
  ops.toList.drop i=l->i<=ops.size->Ku ops ms->ms.length=i->vz P ops s0 h0 A i s h->(∀x,x∈A->RP q x)->Zn ops l i ms (A.reverse.map λx=>(x.j,x.o))=true->BM q l i ms (A.reverse.map λx=>(x.j,x9 q x.o))=true ->
  Le r s->Se P q ops l i ms (UC q A) r h K->∃A' r' s' h',vz P ops s0 h0 A' ops.size s' h'/\Le r' s'/\K r' h'/\Fr (Vi l) s s'/\AF h h'
 |[],i,ms,A,r,s,h,K,hl,hle,hm,hml,F,hrp,hst,hkd,hle1,hk=>by
  have:i=ops.size:=by
   have:=congrArg List.length hl;simp at this;omega
  subst this;exact⟨A,r,s,h,F,hle1,hk,.refl _ _,.refl _⟩
 |o::os,i,ms,A,r,s,h,K,hl,hle,hm,hml,F,hrp,hst,hkd,hle1,hk=>by
  have ho:ops[i]? = some o:=by
   have:=congrArg (λl=>l[0]?) hl;simp only[aaS,aay]at this;simpa using this
  have hlt:i<ops.size:=by
   rcases aaL i ops.size with h|h
   ·exact h
   ·rw[aaH h]at ho;cases ho
  have hl':ops.toList.drop (i+1)=os:=by rw[<- aci,hl];rfl
  simp only[Zn,aad]at hst;obtain⟨⟨hedge,hslots⟩,hst⟩:=hst;simp only[BM,aad]at hkd;obtain⟨hpair,hkd⟩:=hkd
  have hal:∀x,x∈UC q A->x.2<=h.next:=λx hx=>by
   obtain⟨z,hz,rfl⟩:=Ox hx;have:=F.nA z hz;obtain⟨A1,A2,e⟩:=aaR hz;have:=(F.told A1 z A2 e).n1;show z.g.next<=h.next;omega
  have go:∀(v u:aaa) (h1:za) (y:yr) (bound:Nat),(zQ v=true\/v=u)->Next P q ops s0 h0 A i o s h u h1 bound y->(∀n,firstFree (yz ms o) (UC q A)=some n->bound=n) ->
    (match r.put o.dst v with|some s1=>Se P q ops os (i+1) (ms++[yz ms o]) (cond (Nat.beq (x9 q o) 2) (UC q A++[(i,h.next)]) (UC q A)) s1 h1 K|none=>False) ->
    ∃A' r' s' h',vz P ops s0 h0 A' ops.size s' h'/\Le r' s'/\K r' h'/\Fr (Vi (o::os)) s s'/\AF h h':=by
   intro v u h1 y bound hv N hbound hk;split at hk
   case h_2=>exact hk.elim
   rename_i r1 hp;obtain⟨s1,hp1,hl1⟩:=hle1.put hp hv
   have hs1:∀t,s1.get t=if o.dst=some t then u else s.get t:=by
    intro t;cases hd:o.dst with
    |none=>rw[hd]at hp1;simp only[Env.put,aab]at hp1;subst hp1;simp
    |some d=>
     rw[hd]at hp1;simp only[Env.put]at hp1;obtain⟨_,hp1⟩:=zo hp1;simp only[aab]at hp1;subst hp1;rw[Env.yy];by_cases e:t=d
     ·subst e;simp
     ·rw[aag e,aag (by simp only[aab];exact λh=>e h.symm)]
   have hs1s:s1.size=s.size:=(Fr.put hp1).size;have hal2:(cond (Nat.beq (x9 q o) 2) (UC q A++[(i,h.next)]) (UC q A))=UC q (A++[y]):=by rw[Lh,N.yk,N.hj,N.gn]
   rw[hal2]at hk
   have F1:vz P ops s0 h0 (A++[y]) (i+1) s1 h1:=by
    refine⟨?_,?_,hs1s.trans F.size,?_,N.ro.trans F.ro,aaV F.next N.next,?_,N.wf,?_,?_,?_⟩
    ·rw[abm,F.js,abE];simp[N.hj]
    ·intro t;rw[hs1,UL,N.yk,N.r7,F.env]
    ·intro b;rw[N.heap,Jj,F.heap]
    ·intro x hx;rcases aaG.1 hx with hx|hx
     ·exact aaV (F.nA x hx) N.next
     ·simp only[aaq]at hx;subst hx;exact N.Ei
    ·intro A1 r A2 e;rcases vI e with⟨_,rfl,rfl⟩|⟨A3,_,e3⟩
     ·exact N.told
     ·exact F.told A1 r A3 e3
    ·intro A1 r A2 e ed hed hb;rcases vI e with⟨_,rfl,rfl⟩|⟨A3,_,e3⟩
     ·rw[N.yk]at hed;simp only[aaD,aaW,aan,aaM]at hedge;rcases hedge ed (by simpa using hed) with h2|h2
      ·rw[hb]at h2;cases h2
      ·have:ed.on∈A1.map (·.j):=(by rw[F.js];exact abe.2 h2);obtain⟨x,hx,hxj⟩:=aa4.1 this;exact⟨x,hx,hxj⟩
     ·exact F.Vc A1 r A3 e3 ed hed hb
    ·intro A1 x A2 z A3 e;have e':A++[y]=(A1++x::A2)++z::A3:=by rw[e];simp
     rcases vI e' with⟨_,e1,rfl⟩|⟨A4,_,e3⟩
     ·have hxm:x∈A:=(by rw[<- e1];simp);simp only[aaD,aaW]at hpair hslots;rcases hslots (x.j,x.o) (aa4.2 ⟨x,by simpa using hxm,rfl⟩) with h2|h2
      ·rw[N.hj];exact .inl (uX hm ho h2)
      ·rcases hpair (x.j,x9 q x.o) (aa4.2 ⟨x,by simpa using hxm,rfl⟩) with h3|h3
       ·rw[N.hj];exact .inl (uX hm ho h3)
       ·by_cases hbit:(yz ms o).testBit x.j=true
        ·rw[N.hj];exact .inl (uX hm ho hbit)
        ·simp only[abZ]at hbit;refine .inr (LL (q:=q) (hrp x hxm) N.rp (by rw[N.yk];exact h2) (by rw[N.yk];exact h3) ?_ ?_)
         ·have:=F.nA x hxm;obtain⟨B1,B2,eB⟩:=aaR hxm;have:=(F.told B1 x B2 eB).n1;rw[N.gn];omega
         ·intro k2 k1 b hrd;obtain⟨n,hn,hle2⟩:=Ta (m:=yz ms o) (GP F) x hxm k2 hbit;have:=N.rb (by rw[<- N.yk];exact k1) b hrd;have:=hbound n hn;omega
     ·exact F.apart A1 x A2 z A4 (by rw[e3];simp)
   obtain⟨A',r',s',h',F',l',k',f',a'⟩:=Po hro0 os (i+1) (ms++[yz ms o]) (A++[y]) r1 s1 h1 hl' hlt (XX hm hml ho) (by simp[hml]) F1
    (λx hx=>by rcases aaG.1 hx with hx|hx
               ·exact hrp x hx
               ·simp only[aaq]at hx;subst hx;exact N.rp)
    (by simpa [N.hj,N.yk] using hst) (by simpa [N.hj,N.yk] using hkd) hl1 hk
   exact⟨A',r',s',h',F',l',k',(Fr.put hp1).left.trans f'.right,(N.af F).trans a'⟩
  have slot:∀{v:aaa} {h1:za} {al':List (Nat×Nat)},(match r.put o.dst v with|some s1=>Se P q ops os (i+1) (ms++[yz ms o]) al' s1 h1 K|none=>False)->∀d,o.dst=some d->d<s.size:=by
   intro v h1 al' hk d hd;split at hk
   case h_2=>exact hk.elim
   rename_i r1 hp;rw[hd]at hp;simp only[Env.put]at hp;obtain⟨hb,_⟩:=zo hp;rw[<- hle1.size];simpa [aaM] using hb
  have hron:h.ro<=h.next:=by rw[F.ro];exact aaV hro0 F.next
  have dstok:∀{hv:za} {K':aaa->za->Prop},opD P q r o hv h K'->(∀v h1,K' v h1->∀d,o.dst=some d->d<s.size)->∀d,o.dst=some d->d<s.size:=by
   intro hv K' hk hs
   have fromA:∀{g:za} {K2:aaa->za->Prop},L9 P r o g K2->(∀v h1,K2 v h1->∀d,o.dst=some d->d<s.size)->∀d,o.dst=some d->d<s.size:=λhk hs=>by
    obtain⟨v,u,h',_,_,hK⟩:=qT hle1 hk;exact hs v h' hK
   unfold opD at hk;split at hk
   ·split at hk
    ·obtain⟨_,_,v,_,_,hK⟩:=hk;exact hs _ _ hK
    ·obtain⟨_,_,v,h2,_,_,hK⟩:=hk;exact hs _ _ hK
    ·obtain⟨_,hk⟩:=hk;obtain⟨v,h2,_,hK⟩:=jV hk;exact hs _ _ hK
    ·obtain⟨_,_,hd⟩:=hk;obtain⟨v,h2,hK,_⟩:=hd ⟨F.wf,hron⟩;exact hs _ _ hK
   ·unfold gI at hk;split at hk
    ·obtain⟨_,_,_,hd⟩:=hk;obtain⟨v,h2,hK,_⟩:=hd ⟨F.wf,hron⟩;exact hs _ _ hK
    ·exact hk.elim
   ·cases h1:Nat.beq (x9 q o) 1 with
    |true=>rw[h1]at hk;exact fromA hk (λv _ q=>hs v _ q)
    |false=>rw[h1]at hk;exact fromA hk hs
  simp only[Se]at hk;split at hk
  ·rename_i hg;obtain⟨v,u,h1,y,bound,hv,hK,N,hb⟩:=EP F hron ho (dstok hk (λv h1 hK=>slot hK)) (by simp only[yq,hg]) hle1 hal hk;exact go v u h1 y bound hv N hb hK
  ·rename_i j want hg;split at hk
   ·exact hk.elim
   ·rename_i d hdst;unfold GD at hk;split at hk
    ·rename_i b hb
     have hs:s.get d=.bool b:=by
      rcases hle1.get d with e|e
      ·rw[hb]at e;cases e
      ·rw[<- e,hb]
     have haw:yq ops s o=(b == want):=(by simp only[yq,hg,hdst,hs]);by_cases hbw:b=want
     ·have hk:=hk.1 hbw;obtain⟨v,u,h1,y,bound,hv,hK,N,hb⟩:=EP F hron ho (dstok hk (λv h1 hK=>slot hK)) (by rw[haw,hbw];simp) hle1 hal hk;exact go v u h1 y bound hv N hb hK
     ·have hk:=hk.2 hbw;obtain⟨bound,_,_,_,_,hb5⟩:=cV (m:=yz ms o) F.wf hal;obtain⟨y,N⟩:=gZ (q:=q) F ho (slot hk) (u:=undef) (.inl ⟨by rw[haw];simpa using hbw,rfl,rfl⟩) bound;exact go undef undef h y bound (.inr rfl) N hb5 hk
    ·exact hk.elim
    ·rename_i n1 n2
     have hs:s.get d=r.get d:=by
      rcases hle1.get d with e|e
      ·obtain⟨k,p,q,e2⟩:=YE e;exact absurd e2 (n2 k p q)
      ·exact e.symm
     have haw:yq ops s o=false:=by
      simp only[yq,hg,hdst,hs]
     obtain⟨bound,_,_,_,_,hb5⟩:=cV (m:=yz ms o) F.wf hal;obtain⟨y,N⟩:=gZ (q:=q) F ho (slot hk) (u:=undef) (.inl ⟨haw,rfl,rfl⟩) bound;exact go undef undef h y bound (.inr rfl) N hb5 hk
theorem D6{q:FuncId->Nat}(hmix:P.follows .mixedOrders=true):Kr P (ba P q):=by
 intro ops r s h K rd id hle wf hk;unfold ba at hk;cases hc:calm q ops with
 |false=>rw[hc]at hk;exact hk.elim
 |true=>
  rw[hc]at hk;have hk:Se P q ops ops.toList 0 [] [] r h K:=hk;simp only[calm,aad]at hc
  have F0:vz P ops s h ([]:List yr) 0 s h:=⟨rfl,λt=>rfl,rfl,λb=>rfl,rfl,aaj _,λx hx=>(by cases hx),wf.1,
   λA1 r A2 e=>by simp at e,λA1 r A2 e=>by simp at e,λA1 x A2 y A3 e=>by simp at e⟩
  obtain⟨A,r',s',h',F,hl',hK,hf,af⟩:=Po wf.2 ops.toList 0 [] [] r s h rfl (aaN _) (λk q hq=>by simp at hq) rfl F0 (λx hx=>(by cases hx)) hc.1 hc.2 hle hk
  have V:Valid P ops s h A:=⟨by rw[F.js];exact acw,λi hi=>by
    have:i∈A.map (·.j):=(by rw[F.js];exact abe.2 hi);obtain⟨r,hr,hj⟩:=aa4.1 this;exact⟨r,hr,hj⟩,F.told,F.Vc,F.apart⟩
  exact⟨r',s',h',hl',hK,hf,af,Wj hmix V F.env F.size F.heap F.ro F.next F.nA (Q:=λe s1 h1=>e=.normal/\s1=s'/\h1=h') ⟨rfl,rfl,rfl⟩⟩
theorem Up{q:FuncId->Nat}(hmix:P.follows .mixedOrders=true){n:Nat}{f:FuncId}{args:List aaa}{h:za}{R:aaa->za->Prop}(hk:Pu P (ba P q) n f args h R):DC P f args h R:=so (D6 hmix) hk
theorem DC.mono{f:FuncId}{args:List aaa}{h:za}{R R':aaa->za->Prop}(d:DC P f args h R)(m:∀v h1,R v h1->R' v h1):DC P f args h R':=λwf=>by
 obtain⟨v,h1,a,b,c⟩:=d wf;exact⟨v,h1,m v h1 a,b,c⟩
theorem Wg{f:FuncId}{args:List aaa}{h:za}{R:aaa->za->Prop}(ht:qJ h->DC P f args h R):DC P f args h R:=λwf=>ht wf wf
theorem DC.tc{f:FuncId}{args:List aaa}{h:za}{R:aaa->za->Prop}(d:DC P f args h R):TC P f args h R:=by
 intro ρ w cargs hr hv;obtain⟨v,h1,hR,_,t⟩:=d ⟨λb o hb=>hr.Ko b o hb,hr.ro⟩;exact(t.mono (by rintro v2 h2 ⟨rfl,rfl⟩;exact hR)) ρ w cargs hr hv
end
noncomputable section
variable {P:Program}
theorem yG{α:Sort _}{a b:α}(h:a=b):a=b:=h
theorem SY{p:Prop}[Decidable p](h:p):decide p=true:=aaY h
theorem SX{p:Prop}[Decidable p](h:¬p):decide p=false:=aaX h
def zv(h:za)(b off:Nat):Option aaa:=match h.get b with
 |some (.cells c _)=>c[off]?
 |_=>none
def kH(h:za)(b off n:Nat):Option aaa:=match h.get b with
 |some (.cells c _)=>if off+n<=c.length then some (.agg ((c.drop off).take n).toArray) else none
 |_=>none
def AK(h:za)(b off:Nat)(vs:List aaa):Option za:=match h.get b with
 |some (.cells c t)=>if off+vs.length<=c.length/\h.ro<=b/\vs.all xj=true then some (h.set b (some (.cells (zu c off vs) t))) else none
 |_=>none
theorem XS{α:Type}{b:Bool}{p:Prop}[Decidable p]{x y:α}(h:b=true ↔ p):cond b x y=if p then x else y:=by
 by_cases hp:p
 ·rw[aai hp,h.2 hp];rfl
 ·rw[aag hp,show b=false by simpa using λe=>hp (h.1 e)];rfl
theorem Ye{t:TypeId}(ha:yg P (isAgg t)=some false)(b off:Nat)(h:za):zd P t (.pointer (some ⟨b,off,none⟩)) h=zv h b off:=by
 unfold zd zv;simp only[ha];cases h.get b with
 |none=>rfl
 |some o=>cases o <;> rfl
theorem UD{t:TypeId}{n:Nat}(ha:yg P (isAgg t)=some true)(hn:yg P (sizeOf t)=some n)(b off:Nat)(h:za):zd P t (.pointer (some ⟨b,off,none⟩)) h=kH h b off n:=by
 unfold zd kH;simp only[ha,hn];cases h.get b with
 |none=>rfl
 |some o=>
  cases o <;> simp only[];rw[XS (p:=off+n<=_) (by rw[abU])]
theorem oG{t:TypeId}{n:Nat}(hn:yg P (sizeOf t)=some n)(b off:Nat)(v:aaa)(h:za)(hv:v.cells.size=n):ux P t (.pointer (some ⟨b,off,none⟩)) v h=AK h b off v.cells.toList:=by
 unfold ux AK;simp only[hn];cases h.get b with
 |none=>rfl
 |some o=>
  cases o <;> simp only[];refine XS ?_;simp only[aad,abU,acq,abg,hv,true_and,and_assoc]
theorem QH{t:TypeId}(hn:yg P (sizeOf t)=some 1)(b off:Nat)(v:aaa)(h:za)(hv:v.cells = #[v]):ux P t (.pointer (some ⟨b,off,none⟩)) v h=AK h b off [v]:=by
 rw[oG hn b off v h (by rw[hv];rfl),hv]
theorem QG{t:TypeId}{n:Nat}(hn:yg P (sizeOf t)=some n)(b off:Nat)(l:List aaa)(h:za)(hv:l.length=n):ux P t (.pointer (some ⟨b,off,none⟩)) (.agg l.toArray) h=AK h b off l:=by
 rw[oG hn b off _ h (by simpa [Value.cells] using hv)];rfl
theorem Zy{t e:TypeId}{n:Nat}(hu:yg P (underlying t)=some (.slice e))(hn:yg P (sizeOf e)=some n){b off len c:Nat}{k:IntKind}{i:Int} :
  xR P t (.slice (some ⟨b,off,none⟩) len c) (.int k i)=if 0<=i/\i<len then some (.pointer (some ⟨b,off+i.toNat*n,none⟩)) else none:=by
 unfold xR;simp only[hu,hn];exact XS (by simp)
theorem VO{d m:Nat}:uB none d m=some d:=yG rfl
theorem W3{k:IntKind}{i:Int}{d m:Nat}:uB (some (.int k i)) d m=if 0<=i/\i<=m then some i.toNat else none:=XS (by simp)
theorem fe:sj none=true:=yG rfl
theorem fh{v:aaa}(h:zQ v=false):sj (some v)=true:=by simp only[sj,h,ab4]
theorem Ln{t e:TypeId}{n:Nat}(hu:yg P (underlying t)=some (.slice e))(hn:yg P (sizeOf e)=some n){b off len c:Nat}{lo hi:Option aaa}{h:za} :
  Cg P t (.slice (some ⟨b,off,none⟩) len c) lo hi h=(uB hi len len).bind λhh=>(uB lo 0 hh).bind λl=>some (.slice (some ⟨b,off+l*n,none⟩) (hh-l) (cond (wide P h b n) (Uc c l) 0)):=by
 simp only[Cg,gD,hu,hn];cases uB hi len len with
 |none=>rfl
 |some hh=>
  simp only[abf];cases uB lo 0 hh <;> rfl
theorem PB{t e:TypeId}{n:Nat}(hu:yg P (underlying t)=some (.slice e))(hn:yg P (sizeOf e)=some n){c:Nat}{lo hi:Option aaa}{h:za} :
  Cg P t (.slice none 0 c) lo hi h=(uB hi 0 0).bind λhh=>(uB lo 0 hh).bind λl=>some (.slice none 0 0):=by
 simp only[Cg,gD,hu,hn];cases uB hi 0 0 with
 |none=>rfl
 |some hh=>
  simp only[abf];cases uB lo 0 hh <;> rfl
def IN(P:Program)(t:TypeId):Option (Nat×Nat):=(yg P (typeInfo t)).map λi=>(i.size,i.bytes)
theorem Np{t e:TypeId}{z:aaa}{zs:List aaa}{n bytes:Nat}(hu:yg P (underlying t)=some (.slice e))(hs:IN P e=some (n,bytes))(hz:YT P e=some z)(hzs:z.cells.toList=zs)(hn:0<n)(hb:bytes<=65536)(hl:zs.length=n)
  {k k2:IntKind} {l c:Int} {h:za} (h0:0<=l) (h1:l<=c) (h2:c<2^31):YS P t (.int k l) (.int k2 c) h=some (.slice (some ⟨h.next,0,none⟩) l.toNat (c.toNat+2),h.push (.cells (YK zs (c.toNat*n)) e)):=by
 unfold IN at hs;simp only[aas,aae]at hs;obtain⟨i,hi,rfl,rfl⟩:=hs;unfold YS;simp only[hu,hi,hz];have w:∀n:Int,0<=n->n<2^31->IntKind.i64.wrap n=n:=λn p q=>by simp only[IntKind.wrap,IntKind.bits,IntKind.signed];simp;omega
 have hm:(i.bytes:Int)*c<=2^48:=by
  have:(i.bytes:Int)*c<=65536*c:=Int.mul_le_mul_of_nonneg_right (by omega) (by omega);omega
 have hz2:z.cells.size=i.size:=by rw[<- hl,<- hzs];simp
 rw[show(decide (IntKind.i64.wrap l=l)&&decide (IntKind.i64.wrap c=c)&&decide (0<=l)&&decide (l<=c)&&decide ((i.bytes:Int)*c<=2^48)&&Nat.beq z.cells.size i.size&&Nat.blt 0 i.size)=true by
  simp only[aad,aaF,acq,aaM];exact⟨⟨⟨⟨⟨⟨w l h0 (by omega),w c (by omega) h2⟩,h0⟩,h1⟩,hm⟩,hz2⟩,hn⟩]
 simp only[aav,hzs]
def cA(h:za)(elem size bytes n:Nat)(new:List aaa)(s:aaa):Option (aaa×za):=match s with
 | .slice none 0 0=>if n=0 then some (.slice none 0 0,h) else if n*bytes<=2^48 then some (.slice (some ⟨h.next,0,none⟩) n 1,h.push (.cells new elem)) else none
 | .slice (some ⟨b,off,none⟩) len c=>if n=0 then some (s,h) else (match h.get b with
   |some (.cells cs t)=>if c≠0/\t=elem/\h.ro<=b/\off+len*size<=cs.length/\roomFor c (len+n) bytes=true/\off%size=0 then
     some (.slice (some ⟨h.next,0,none⟩) (len+n) (uF c (len+n)),(h.set b none).push (.cells (((cs.drop off).take (len*size))++new) elem)) else none
   |_=>none)
 |_=>none
theorem UF{sT xT e e2:TypeId}{size bytes:Nat}(h1:yg P (underlying sT)=some (.slice e))(h2:yg P (underlying xT)=some (.slice e2))(hs:IN P e=some (size,bytes))(hz:(YT P e).map (λz=>z.cells.size)=some size)(hb:0<bytes)
  {r:TypeId} {v x:aaa} {n:Nat} {new:List aaa} {h:za} (hn:KZ x=some n) (hf:qP h n size x=some new) (hc:new.all xj=true) (hl:new.length=n*size) :
  zG P .append [sT,xT] r [v,x] h=cA h e size bytes n new v:=by
 unfold IN at hs;simp only[aas,aae]at hs hz;obtain⟨i,hi,rfl,rfl⟩:=hs;obtain⟨z,hz,hz2⟩:=hz;simp only[zG,VN,h1,h2,hn,hi,hz,hf]
 rw[show(!gU (TypeDesc.slice e2)&&Nat.blt 0 i.bytes&&Nat.beq z.cells.size i.size&&new.all xj&&Nat.beq new.length (n*i.size))=true by
  simp only[aad,acq,aaM];exact⟨⟨⟨⟨rfl,hb⟩,hz2⟩,hc⟩,hl⟩]
 simp only[aav];unfold UA cA;split
 ·exact(XS (p:=n=0) (by simp)).trans (by
   by_cases h0:n=0
   ·rw[aai h0];exact(aai h0).symm
   ·rw[aag h0];exact(XS (p:=n*i.bytes<=2^48) (by simp)).trans (aag h0).symm)
 ·rename_i b off len c;refine(XS (p:=n=0) (by simp)).trans ?_;by_cases h0:n=0
  ·rw[aai h0];exact(aai h0).symm
  ·rw[aag h0];refine Eq.trans ?_ (aag h0).symm;cases hg:h.get b with
   |none=>rfl
   |some o=>
    cases o with
    |cells cs t=>
     refine XS ?_;simp only[aad,aan,acq,abU,acu,and_assoc];refine and_congr ?_ (Iff.rfl);rw[<- abZ,acq]
    |_=>rfl
 ·rename_i q1 q2;split
  ·exact(q1 rfl).elim
  ·exact(q2 _ _ _ _ rfl).elim
  ·rfl
section heaps
variable {h:za}{b c off n:Nat}{cs:List aaa}{t:TypeId}{o:vl}
theorem GQ(hb:h.get b=some (.cells cs t))(off:Nat)(vs:List aaa):AK h b off vs=if off+vs.length<=cs.length/\h.ro<=b/\vs.all xj=true then some (h.set b (some (.cells (zu cs off vs) t))) else none:=by simp only[AK,hb]
theorem uz:(h.push o).get h.next=some o:=by rw[za.vT,aai rfl]
theorem i9(hb:b=h.next):(h.push o).get b=some o:=by rw[za.vT,aai hb]
theorem x6(hb:b<h.next):(h.push o).get b=h.get b:=by rw[za.vT,aag (by omega)]
theorem YB{x:Option vl}:(h.set b x).get b=x:=by rw[za.yy,aai rfl]
theorem Zi{x:Option vl}(hb:¬c=b):(h.set b x).get c=h.get c:=by rw[za.yy,aag hb]
theorem UO(h:za)(b:Nat):h.lock.get b=h.get b:=yG rfl
theorem Ap(h:za):h.lock.next=h.next:=yG rfl
theorem IE(h:za):h.lock.ro=h.next:=yG rfl
theorem pV(h:za)(o:vl):(h.push o).next=h.next+1:=yG rfl
theorem It(h:za)(b:Nat)(o:Option vl):(h.set b o).next=h.next:=yG rfl
theorem E0(h:za)(o:vl):(h.push o).ro=h.ro:=yG rfl
theorem IF(h:za)(b:Nat)(o:Option vl):(h.set b o).ro=h.ro:=yG rfl
theorem Ow{a n k:Nat}(h:a<n):(a<n+k)=True:=by simp;omega
theorem Ij{n:Nat}:(n<n+1)=True:=by simp
end heaps
section numbers
variable {t:TypeId}{x y:Operand}{k k':IntKind}{a b:Int}
theorem uN{v:aaa}{op:BinOp}{p q:aaa}(h:M8 P op t x y p q=some v):zK P op t x y p q=some v:=by unfold zK;rw[h]
theorem SJ:zK P .lss t x y (.int k a) (.int k b)=some (.bool (decide (a<b))):=uN (by cases k <;> rfl)
theorem SI:zK P .leq t x y (.int k a) (.int k b)=some (.bool (decide (a<=b))):=uN (by cases k <;> rfl)
theorem SH:zK P .gtr t x y (.int k a) (.int k b)=some (.bool (decide (b<a))):=uN (by cases k <;> rfl)
theorem SG:zK P .geq t x y (.int k a) (.int k b)=some (.bool (decide (b<=a))):=uN (by cases k <;> rfl)
theorem SF:zK P .eql t x y (.int k a) (.int k b)=some (.bool (decide (a=b))):=uN (by cases k <;> rfl)
theorem SL:zK P .neq t x y (.int k a) (.int k b)=some (.bool (!decide (a=b))):=uN (by cases k <;> rfl)
theorem SD:zK P .add t x y (.int k a) (.int k b)=some (.int k (k.wrap (a+b))):=uN (by cases k <;> rfl)
theorem SQ:zK P .sub t x y (.int k a) (.int k b)=some (.int k (k.wrap (a-b))):=uN (by cases k <;> rfl)
theorem SK:zK P .mul t x y (.int k a) (.int k b)=some (.int k (k.wrap (a*b))):=uN (by cases k <;> rfl)
theorem SM(hb:¬b=0):zK P .quo t x y (.int k a) (.int k b)=some (.int k (k.wrap (a.tdiv b))):=by
 refine uN ?_;have:yg P (Op.intDiv .quo k a b)=some (.int k (k.wrap (a.tdiv b))):=by unfold Op.intDiv;rw[aag hb];rfl
 cases k <;> (show fl (yg P (Op.intDiv .quo _ a b))=_;rw[this];rfl)
theorem SN(hb:¬b=0):zK P .rem t x y (.int k a) (.int k b)=some (.int k (a.tmod b)):=by
 refine uN ?_;have:yg P (Op.intDiv .rem k a b)=some (.int k (a.tmod b)):=by unfold Op.intDiv;rw[aag hb];rfl
 cases k <;> (show fl (yg P (Op.intDiv .rem _ a b))=_;rw[this];rfl)
theorem SE:zK P .and t x y (.int k a) (.int k b)=some (.int k (k.wrap (BitVec.ofInt k.bits a &&& BitVec.ofInt k.bits b).toNat)):=uN (by cases k <;> rfl)
theorem zbh:zK P .or t x y (.int k a) (.int k b)=some (.int k (k.wrap (BitVec.ofInt k.bits a ||| BitVec.ofInt k.bits b).toNat)):=uN (by cases k <;> rfl)
theorem SR:zK P .xor t x y (.int k a) (.int k b)=some (.int k (k.wrap (BitVec.ofInt k.bits a ^^^ BitVec.ofInt k.bits b).toNat)):=uN (by cases k <;> rfl)
theorem DQ:zK P .andNot t x y (.int k a) (.int k b)=some (.int k (k.wrap (BitVec.ofInt k.bits a &&& ~~~BitVec.ofInt k.bits b).toNat)):=uN (by cases k <;> rfl)
theorem SO(hb:0<=b):zK P .shl t x y (.int k a) (.int k' b)=some (.int k (k.wrap (a*2^(min b.toNat k.bits)))):=by
 refine uN ?_;have:yg P (Op.shift .shl k a k' b)=some (.int k (k.wrap (a*2^(min b.toNat k.bits)))):=by unfold Op.shift;rw[aag (by omega)];rfl
 show fl (yg P (Op.shift .shl k a k' b))=_;rw[this];rfl
theorem SP(hb:0<=b):zK P .shr t x y (.int k a) (.int k' b)=some (.int k (a.fdiv (2^(min b.toNat k.bits)))):=by
 refine uN ?_;have:yg P (Op.shift .shr k a k' b)=some (.int k (a.fdiv (2^(min b.toNat k.bits)))):=by unfold Op.shift;rw[aag (by omega)];rfl
 show fl (yg P (Op.shift .shr k a k' b))=_;rw[this];rfl
theorem To{c:Bool}:DP P .not (.bool c)=some (.bool (!c)):=yG rfl
theorem Tn:DP P .neg (.int k a)=some (.int k (k.wrap (0-a))):=by cases k <;> rfl
end numbers
section nils
variable {t e:TypeId}{x y:Operand}
end nils
theorem UX{α β:Type}(s:Sem α)(f:α->Sem β):yg P (s >>= f)=(yg P s).bind λa=>yg P (f a):=by
 induction s with
 |pure a=>rfl
 |program k ih=>exact ih P
 |_=>rfl
theorem UY{α:Type}(a:α):yg P (Pure.pure a:Sem α)=some a:=rfl
def eqF(P:Program)(d:Nat)(xs ys:Array aaa):List Field->Option Bool
 |[]=>some true
 |f::fs=>if f.name ≠ "_" then (match yg P (part f.type xs f.offset),yg P (part f.type ys f.offset) with
  |some a,some b=>(match yg P (Op.equalIn d f.type a b) with
   |some r=>cond r (eqF P d xs ys fs) (some false)
   |none=>none)
  |_,_=>none) else eqF P d xs ys fs
theorem fC{d:Nat}{t:TypeId}{xs ys:Array aaa}{fs:Array Field}(hu:P.underlying t=some (.struct fs))(hp:P.stoodInHeld t=false) :
  yg P (Op.equalIn (d+1) t (.agg xs) (.agg ys))=eqF P d xs ys fs.toList:=by
 have h2:yg P program=some P:=rfl
 have h1:yg P (underlying t)=some (.struct fs):=by
  unfold underlying;simp only[UX,h2,abf,hu];rfl
 simp only[Op.equalIn,UX,h1,h2,abf,hp,aa9,ab1];rw[<- Array.forIn_toList];generalize fs.toList=l;clear hu h1
 induction l with
 |nil=>rfl
 |cons f l ih=>
  simp only[List.forIn_cons,eqF,UX]at ih ⊢;by_cases hn:f.name ≠ "_"
  ·rw[aai hn,aai hn];simp only[UX];cases yg P (part f.type xs f.offset) with
   |none=>rfl
   |some a=>
    cases yg P (part f.type ys f.offset) with
    |none=>rfl
    |some b=>
     simp only[abf];cases yg P (Op.equalIn d f.type a b) with
     |none=>rfl
     |some r=>
      cases r
      ·simp only[abf,ab4,abS,UY];rfl
      ·simp only[abf,Bool.not_true,aa9,ab1,UY];exact ih
  ·rw[aag hn,aag hn];simp only[UY,abf];exact ih
theorem A5{t:TypeId}{x y:Operand}{xs ys:Array aaa}{fs:Array Field}{r:Bool}(hu:P.underlying t=some (.struct fs))(hp:P.stoodInHeld t=false)(hg:P.eqGuardType P.depth t=false)(hx:flat (.agg xs)=true)(hy:flat (.agg ys)=true)
  (hr:eqF P 9999 xs ys fs.toList=some r):zK P .eql t x y (.agg xs) (.agg ys)=some (.bool r)/\zK P .neq t x y (.agg xs) (.agg ys)=some (.bool (!r)):=by
 have he:yg P (Op.equal t (.agg xs) (.agg ys))=some r:=(fC hu hp).trans hr
 have hgd:∀op:BinOp,yg P (eqGuard op t x y (.agg xs) (.agg ys))=some ():=by
  intro op;have h2:yg P program=some P:=rfl;cases op <;> simp[eqGuard,UX,h2,hg,UY]
 constructor <;> refine uN ?_ <;> unfold M8 <;> rw[hx,hy] <;> simp only[ab7,aav,UX,hgd,abf,binOp,he,UY] <;> rfl
section
theorem EH{b}:zQ (.bool b)=false:=yG rfl
theorem Iq{k n}:zQ (.int k n)=false:=yG rfl
theorem pS{s}:zQ (.string s)=false:=yG rfl
theorem Is{a}:zQ (.pointer a)=false:=yG rfl
theorem Au{a n c}:zQ (.slice a n c)=false:=yG rfl
theorem Ir{a}:zQ (.map a)=false:=yG rfl
theorem EI{f a c}:zQ (.func f a c)=false:=yG rfl
theorem EJ:zQ .nilFunc=false:=yG rfl
theorem At{t v}:zQ (.iface t v)=false:=yG rfl
theorem EK:zQ .nilIface=false:=yG rfl
theorem Ip{a}:zQ (.agg a)=false:=yG rfl
theorem Av{a}:zQ (.tuple a)=false:=yG rfl
theorem D1{b}:xj (.bool b)=true:=yG rfl
theorem HW{k n}:xj (.int k n)=true:=yG rfl
theorem oS{s}:xj (.string s)=true:=yG rfl
theorem HY{a}:xj (.pointer a)=true:=yG rfl
theorem t7{a n c}:xj (.slice a n c)=true:=yG rfl
theorem HX{a}:xj (.map a)=true:=yG rfl
theorem D2{f a c}:xj (.func f a c)=true:=yG rfl
end
theorem Aw:yi []=true:=yG rfl
theorem pU{v:aaa}{l:List aaa}(h:zQ v=false):yi (v::l)=yi l:=by simp only[yi,h,aaB]
theorem cJ{α:Type}(x:Option α):nb [] x=x:=yG rfl
theorem Xx{α:Type}{v:aaa}{l:List aaa}{x:Option α}(h:zQ v=false):nb (v::l) x=nb l x:=by simp only[nb,yi,h,aaB]
theorem GX{A B J}:CD (.bool true) A B J=A J:=yG rfl
theorem Ck{A B J}:CD (.bool false) A B J=B J:=yG rfl
theorem Mz{b want:Bool}{A K h}(e:b=want):GD (.bool b) want A K h=A K:=by
 apply propext;constructor
 ·intro g;exact g.1 e
 ·intro g;exact⟨λ_=>g,λne=>absurd e ne⟩
theorem My{b want:Bool}{A K h}(e:¬b=want):GD (.bool b) want A K h=K undef h:=by
 apply propext;constructor
 ·intro g;exact g.2 e
 ·intro g;exact⟨λe'=>absurd e' e,λ_=>g⟩
theorem Sk{w A K h}:GD undef w A K h=K undef h:=yG rfl
theorem Sj{A K h}:GD (.bool true) true A K h=A K:=Mz rfl
theorem Sg{A K h}:GD (.bool false) false A K h=A K:=Mz rfl
theorem Si{A K h}:GD (.bool true) false A K h=K undef h:=My (by simp)
theorem Sh{A K h}:GD (.bool false) true A K h=K undef h:=My (by simp)
theorem Iy{a b:aaa}(h:zQ a=false):pk (.bool true) a b=some a:=by simp only[pk,Xx h,cJ]
theorem ES{a b:aaa}(h:zQ b=false):pk (.bool false) a b=some b:=by simp only[pk,Xx h,cJ]
theorem Im(a:Addr):Ps (.pointer (some a))=some (.pointer (some a)):=yG rfl
theorem oI{vs:Array aaa}{i:Nat}(h:yi vs.toList=true):Kn (.tuple vs) i=vs[i]?:=by simp only[Kn,nb,h,aav]
theorem Nw{a b:aaa}(ha:zQ a=false)(hb:zQ b=false):Kn (.tuple #[a,b]) 0=some a:=(oI (by simp only[yi,ha,hb,aaB])).trans rfl
theorem Nx{a b:aaa}(ha:zQ a=false)(hb:zQ b=false):Kn (.tuple #[a,b]) 1=some b:=(oI (by simp only[yi,ha,hb,aaB])).trans rfl
theorem O6{v:aaa}{h R}(hb:zQ v=false):rv [v] h R=R v h:=by
 apply propext;simp only[rv,yi,hb,aaB,xV,true_and]
theorem O7{v w:aaa}{h R}(hb:zQ v=false)(hc:zQ w=false):rv [v,w] h R=R (.tuple #[v,w]) h:=by
 apply propext;simp only[rv,yi,hb,hc,aaB,xV,true_and]
theorem oN{g:FuncId}{args:List aaa}{h:za}{K R:aaa->za->Prop}(hc:xS P g=true)(hn:yi args=true)(hT:DC P g args h R)(hk:∀v h1,R v h1->K v h1):zP P (.func (.func g) #[] #[]) args h K :=
 ⟨hn,by simpa using hn,.inl ⟨hc,by simpa using hT.mono hk⟩⟩
theorem NJ{g:FuncId}{args:List aaa}{h:za}{K R:aaa->za->Prop}(hc:xS P g=true)(hn:yi args=true)(hT:DC P g args h R)(hk:∀v h1,R v h1->K v h1):i5 P g args h K :=
 ⟨hc,hn,hT.mono hk⟩
theorem qb{step:List aaa->za->(List aaa->za->Prop)->Prop}(I:Nat->List aaa->za->Prop)(n:Nat){vs:List aaa}{h:za}(h0:I n vs h)
  (hs:∀n vs h,I n vs h->step vs h (λvs' h'=>∃m,m<n/\I m vs' h')):LP step vs h:=⟨I,n,h0,hs⟩
def wX(P:Program)(f:FuncId)(args:List aaa)(h:za)(v:aaa):Prop:=hZ v=true/\TC P f args h.lock (λv1 _=>v1=v)
theorem wX.dc{f:FuncId}{args:List aaa}{h:za}{v:aaa}(q:wX P f args h v):DC P f args h (λv1 h1=>v1=v/\h1=h):=λ_=>
 ⟨v,h,⟨rfl,rfl⟩,.refl _,(q.2.quiet (λv1 _ e=>by rw[e];exact q.1)).mono (by rintro v1 h1 ⟨⟨_,e1⟩,e2⟩;exact⟨e1,e2⟩)⟩
theorem wX.of{f:FuncId}{args:List aaa}{h:za}{v:aaa}(hs:hZ v=true)(d:DC P f args h.lock (λv1 _=>v1=v)):wX P f args h v:=⟨hs,d.tc⟩
theorem HH{g:FuncId}{args:List aaa}{h:za}{K:aaa->za->Prop}{v:aaa}(hc:xS P g=true)(hn:yi args=true)(hq:wX P g args h v)(hk:K v h):zP P (.func (.func g) #[] #[]) args h K :=
 oN hc hn hq.dc (by rintro v1 h1 ⟨rfl,rfl⟩;exact hk)
theorem HG{g:FuncId}{args:List aaa}{h:za}{K:aaa->Prop}{v:aaa}(hc:xS P g=true)(hn:yi args=true)(hq:wX P g args h v)(hk:K v):qu P g args h K :=
 ⟨hc,hn,v,hq.1,hq.2,hk⟩
end
end Go.Ai
