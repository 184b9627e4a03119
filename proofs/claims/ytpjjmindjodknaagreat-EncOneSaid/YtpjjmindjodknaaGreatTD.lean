import Derived.Test.YtpjjmindjodknaaGreatTC
set_option linter.unusedVariables false
set_option linter.unusedSimpArgs false
set_option maxRecDepth 100000
namespace Go.Ai
noncomputable section
variable {P:Program}
def za6(d:Option Nat):Nat:=match d with
 |some d=>1 <<< d
 |none=>0
def UZ:List Oper->Nat
 |[]=>0
 |o::os=>za6 o.dst ||| UZ os
def Y9:Code->Nat
 | .region _ ops _=>UZ ops.toList
 | .seq a b=>Y9 a ||| Y9 b
 | .cond _ a b=>Y9 a ||| Y9 b
 | .block _ a=>Y9 a
 | .scope a=>Y9 a
 | .loop a=>Y9 a
 |_=>0
def zeC(x:Operand):Nat:=match x with
 | .tmp t=>1 <<< t
 |_=>0
def zf2:List Operand->Nat
 |[]=>0
 |x::l=>zeC x ||| zf2 l
def zf3(d:Nat):List Oper->Nat
 |[]=>0
 |o::os=>(Nat.xor (zf2 o.op.operands.toList ||| d) d) ||| zf3 (d ||| za6 o.dst) os
def dfn:Code->Nat
 | .region _ ops _=>UZ ops.toList
 | .seq a b=>dfn a ||| dfn b
 | .cond _ a b=>Nat.land (dfn a) (dfn b)
 | .scope a=>dfn a
 |_=>0
def FT:Code->Nat
 | .region _ ops _=>zf3 0 ops.toList
 | .seq a b=>FT a ||| Nat.xor (FT b ||| dfn a) (dfn a)
 | .cond x a b=>zeC x ||| FT a ||| FT b
 | .block _ a=>FT a
 | .scope a=>FT a
 | .loop a=>FT a
 | .rangeFunc f _ a b=>zeC f ||| FT a ||| FT b
 |_=>0
def bits(m n:Nat):List Nat:=(List.range n).filter λt=>m.testBit t
theorem TS{m n t:Nat}:t∈bits m n ↔ t<n/\m.testBit t=true:=by simp[bits]
structure Fr (m:Nat) (s s1:Env):Prop where
 size:s1.size=s.size
 get:∀t,m.testBit t=false->s1.get t=s.get t
 out:∀t,s.size<=t->s1.get t=s.get t
theorem Fr.refl(m:Nat)(s:Env):Fr m s s:=⟨rfl,λ_ _=>rfl,λ_ _=>rfl⟩
theorem Fr.trans{m:Nat}{a b c:Env}(h:Fr m a b)(k:Fr m b c):Fr m a c :=
 ⟨k.size.trans h.size,λt ht=>(k.get t ht).trans (h.get t ht),λt ht=>(k.out t (by rw[h.size];exact ht)).trans (h.out t ht)⟩
theorem Fr.left{m n:Nat}{a b:Env}(h:Fr m a b):Fr (m ||| n) a b:=⟨h.size,λt ht=>h.get t (by rw[Nat.testBit_or]at ht;simp only[abc]at ht;exact ht.1),h.out⟩
theorem Fr.right{m n:Nat}{a b:Env}(h:Fr n a b):Fr (m ||| n) a b:=⟨h.size,λt ht=>h.get t (by rw[Nat.testBit_or]at ht;simp only[abc]at ht;exact ht.2),h.out⟩
theorem Fr.put{s s1:Env}{d:Option Nat}{v:aaa}(h:s.put d v=some s1):Fr (za6 d) s s1:=by
 cases d with
 |none=>simp only[Env.put,aab]at h;subst h;exact .refl _ _
 |some d=>
  simp only[Env.put]at h;obtain⟨hd,h⟩:=zA h;simp only[aab]at h;subst h;have hd:d<s.size:=by simpa [aaO] using hd
  refine⟨rfl,λt ht=>?_,λt ht=>?_⟩
  ·rw[Env.yJ];simp only[za6,Nat.testBit_shiftLeft]at ht;rw[aaf (by intro e;subst e;simp at ht)]
  ·rw[Env.yJ,aaf (by omega)]
def nth:List aaa->Nat->aaa
 |[],_=>bot
 |a::_,0=>a
 |_::l,n+1=>nth l n
def U2(lv:Nat)(s:Env):List Nat->List aaa
 |[]=>[]
 |t::ts=>cond (lv.testBit t) (s.get t::U2 lv s ts) (U2 lv s ts)
def JS(lv:Nat)(vs:List aaa):List Nat->Nat->Env->Env
 |[],_,s=>s
 |t::ts,i,s=>cond (lv.testBit t) (JS lv vs ts (i+1) (s.set t (nth vs i))) (JS lv vs ts i (s.set t bot))
theorem m9{lv:Nat}{vs:List aaa}{r1 s1:Env}(h1:Le r1 s1):∀(ts:List Nat) (i:Nat) (r:Env),r.size=s1.size->(∀k,nth vs (i+k)=nth (U2 lv r1 ts) k)->(∀t,t∈ts\/zS (r.get t)=true\/r.get t=s1.get t)->Le (JS lv vs ts i r) s1
 |[],i,r,hz,_,h=>⟨hz,λt=>by rcases h t with h|h; · cases h
                            ·exact h⟩
 |t::ts,i,r,hz,hv,h=>by
  simp only[JS];cases hb:lv.testBit t with
  |true=>
   simp only[aav];have e0:nth vs i=r1.get t:=by have:=hv 0;simp only[U2,hb,aav]at this;exact this
   refine m9 h1 ts (i+1) _ hz (λk=>?_) (λt'=>?_)
   ·have:=hv (k+1);simp only[U2,hb,aav]at this;rw[show i+1+k=i+(k+1) by omega];exact this
   ·rw[Env.yJ,e0];by_cases e:t'=t
    ·subst e;rw[aai rfl];exact .inr (h1.get t')
    ·rw[aaf e];rcases h t' with h2|h2
     ·rcases aaS.1 h2 with h3|h3
      ·exact absurd h3 e
      ·exact .inl h3
     ·exact .inr h2
  |false=>
   simp only[aaw];refine m9 h1 ts i _ hz (λk=>?_) (λt'=>?_)
   ·have:=hv k;simp only[U2,hb,aaw]at this;exact this
   ·rw[Env.yJ];by_cases e:t'=t
    ·rw[aai e];exact .inr (.inl rfl)
    ·rw[aaf e];rcases h t' with h2|h2
     ·rcases aaS.1 h2 with h3|h3
      ·exact absurd h3 e
      ·exact .inl h3
     ·exact .inr h2
theorem join_le{lv m:Nat}{r s r1 s1:Env}(h:Le r s)(h1:Le r1 s1)(f:Fr m s s1):Le (JS lv (U2 lv r1 (bits m r.size)) (bits m r.size) 0 r) s1:=by
 refine m9 h1 _ _ _ (h.size.trans f.size.symm) (λk=>by rw[abt]) (λt=>?_);by_cases hm:m.testBit t=true
 ·by_cases hz:t<r.size
  ·exact .inl (TS.2 ⟨hz,hm⟩)
  ·
   rcases h.get t with e|e
   ·exact .inr (.inl e)
   ·exact .inr (.inr (e.trans (f.out t (by rw[<- h.size];omega)).symm))
 ·simp only[ab3]at hm;rcases h.get t with e|e
  ·exact .inr (.inl e)
  ·exact .inr (.inr (e.trans (f.get t hm).symm))
def opW(P:Program)(s:Env)(o:Oper)(h:za)(K:aaa->za->Prop):Prop:=match o.op with
 | .call {callee := .value f,args,argTypes}=>zF P (ev s f) (gJ s args.toList) h K
 |_=>Ra P s o h K
def GD(g:aaa)(want:Bool)(A:(aaa->za->Prop)->Prop)(K:aaa->za->Prop)(h:za):Prop:=match g with
 | .bool b=>(b=want->A K)/\(b≠want->K undef h)
 | .complex _ _ _=>False
 |_=>K undef h
def wpO(P:Program)(ops:Array Oper):List Oper->Env->za->(Env->za->Prop)->Prop
 |[],s,h,K=>K s h
 |o::os,s,h,K=>(match o.guard with
  |none=>opW P s o h λv h1=>(match s.put o.dst v with
   |some s1=>wpO P ops os s1 h1 K
   |none=>False)
  |some (j,want)=>(match (ops[j]?).bind (·.dst) with
   |none=>False
   |some d=>GD (s.get d) want (opW P s o h) (λv h1=>(match s.put o.dst v with
    |some s1=>wpO P ops os s1 h1 K
    |none=>False)) h))
theorem vQ.af{h h':za}(w:vQ h)(a:AF h h'):vQ h' :=
 ⟨λb o hb=>by
  rcases a.alive b o hb with e|e
  ·cases hh:h.get b with
   |none=>exact absurd hh e
   |some o'=>exact aap (w.1 b o' hh) a.next
  ·exact e.2,by rw[a.ro];exact aaW w.2 a.next⟩
theorem S7{ops:Array Oper}{r s:Env}{h:za}{o:Oper}{f:Operand}{args:Array Operand}{ts:Array TypeId}{K:aaa->za->Prop}
  (hw:yD ops s o=true) (hl:Le r s) (wf:vQ h) (yy:o.op=.call {callee := .value f,args:=args,argTypes:=ts}) (hk:zF P (ev r f) (gJ r args.toList) h K) :
  ∃v h1,K v h1/\AF h h1 /\ ∀(i:Nat) (rest:List Nat) (s1:Env) (Q:Env->za->Prop),ops[i]? = some o->s.put o.dst v=some s1->TO P ops rest s1 h1 Q->TO P ops (i::rest) s h Q:=by
 unfold zF at hk;split at hk
 ·rename_i g a c hf;have ef:jF s f=some (.func (.func g) a c):=by rw[Y8 hl (x:=f) (by rw[hf];rfl),hf]
  obtain⟨hn0,hn,hk⟩:=hk;have ea:=JM hl hn0;rcases hk with⟨hc,hd⟩|hk
  ·obtain⟨v,h1,hK,af,hT⟩:=hd wf;exact⟨v,h1,hK,af,λi rest s1 Q ho hp ht=>MW ho hw yy ef ea hc hT (by rintro v2 h2 ⟨rfl,rfl⟩;exact⟨s1,hp,ht⟩)⟩
  ·obtain⟨v,g',e,hk⟩:=ZX hk;exact⟨v,g',hk,(WL e).af,λi rest s1 Q ho hp ht=>zcw ho hw (by rw[yy];rfl) (λρ w a hr hs=>ET yy ef ea e hr hs) hp ht⟩
 ·rename_i L a c hf;obtain⟨ha,hc,hn,hk⟩:=hk;obtain⟨v,h1,hK,af,hT⟩:=hk wf;subst ha hc;have ef:jF s f=some (.func (.yield L) #[] #[]):=by rw[Y8 hl (x:=f) (by rw[hf];rfl),hf]
  exact⟨v,h1,hK,af,λi rest s1 Q ho hp ht=>FZ ho hw yy ef (JM hl hn) hT (by rintro v2 h2 ⟨rfl,rfl⟩;exact⟨s1,hp,ht⟩)⟩
 ·exact hk.elim
theorem zel{ops:Array Oper}{r s:Env}{h:za}{o:Oper}{K:aaa->za->Prop}(hw:yD ops s o=true)(hl:Le r s)(wf:vQ h)(hk:opW P r o h K) :
  ∃v u h1,K v h1/\(zS v=true\/v=u)/\AF h h1 /\ ∀(i:Nat) (rest:List Nat) (s1:Env) (Q:Env->za->Prop),ops[i]? = some o->s.put o.dst u=some s1->TO P ops rest s1 h1 Q->TO P ops (i::rest) s h Q:=by
 unfold opW at hk;split at hk
 ·rename_i f args ts yy;obtain⟨v,h1,hK,af,go⟩:=S7 (ops:=ops) hw hl wf yy hk;exact⟨v,v,h1,hK,.inr rfl,af,go⟩
 ·obtain⟨v,u,h',e,hv,hk⟩:=kQ hl hk;exact⟨v,u,h',hk,hv,(YK e).1,λi rest s1 Q ho hp ht=>zcx ho hw e hp ht⟩
theorem Er{ops:Array Oper}:∀(l:List Oper) (i:Nat) {r s:Env} {h:za} {K:Env->za->Prop},ops.toList.drop i=l->Le r s->vQ h->wpO P ops l r h K ->
  ∃r' s' h',Le r' s'/\K r' h'/\Fr (UZ l) s s'/\AF h h'/\TO P ops (List.range' i l.length) s h (λs1 h1=>s1=s'/\h1=h')
 |[],i,r,s,h,K,_,hl,wf,hk=>⟨r,s,h,hl,hk,.refl _ _,.refl _,RU ⟨rfl,rfl⟩⟩
 |o::os,i,r,s,h,K,hd,hl,wf,hk=>by
  have ho:ops[i]? = some o:=by
   have:=congrArg (λl=>l[0]?) hd;simp only[aaR,aaA]at this;simpa using this
  have hd':ops.toList.drop (i+1)=os:=by rw[<- ach,hd];rfl
  rw[aa3,List.range'_succ]
  have next:∀v u h1,AF h h1->(match r.put o.dst v with|some s1=>wpO P ops os s1 h1 K|none=>False)->(zS v=true\/v=u)->∃s1 r' s' h',s.put o.dst u=some s1/\Le r' s'/\K r' h'/\Fr (UZ (o::os)) s s'/\AF h h' /\
    TO P ops (List.range' (i+1) os.length) s1 h1 (λs1 h1=>s1=s'/\h1=h'):=by
   intro v u h1 af hk hv;split at hk
   ·rename_i r1 hp;obtain⟨s1,hp1,hl1⟩:=hl.put hp hv;obtain⟨r',s',h',l',k',f',a',t'⟩:=Er os (i+1) hd' hl1 (wf.af af) hk;exact⟨s1,r',s',h',hp1,l',k',(Fr.put hp1).left.trans f'.right,af.trans a',t'⟩
   ·exact hk.elim
  have run:yD ops s o=true->opW P r o h (λv h1=>match r.put o.dst v with|some s1=>wpO P ops os s1 h1 K|none=>False) ->
    ∃r' s' h',Le r' s'/\K r' h'/\Fr (UZ (o::os)) s s'/\AF h h'/\TO P ops (i::List.range' (i+1) os.length) s h (λs1 h1=>s1=s'/\h1=h'):=by
   intro hw hk;obtain⟨v,u,h1,hK,hv,af,go⟩:=zel (ops:=ops) hw hl wf hk;obtain⟨s1,r',s',h',hp,l',k',f',a',t'⟩:=next v u h1 af hK hv;exact⟨r',s',h',l',k',f',a',go i _ s1 _ ho hp t'⟩
  have skip:yD ops s o=false->(match r.put o.dst undef with|some s1=>wpO P ops os s1 h K|none=>False) ->
    ∃r' s' h',Le r' s'/\K r' h'/\Fr (UZ (o::os)) s s'/\AF h h'/\TO P ops (i::List.range' (i+1) os.length) s h (λs1 h1=>s1=s'/\h1=h'):=by
   intro hw hk;obtain⟨s1,r',s',h',hp,l',k',f',a',t'⟩:=next undef undef h (.refl _) hk (.inr rfl);exact⟨r',s',h',l',k',f',a',MX ho hw hp t'⟩
  simp only[wpO]at hk;split at hk
  ·rename_i hg;exact run (by simp only[yD,hg]) hk
  ·rename_i j want hg;split at hk
   ·exact hk.elim
   ·rename_i d hdst;unfold GD at hk;split at hk
    ·rename_i b hb
     have hs:s.get d=.bool b:=by
      rcases hl.get d with e|e
      ·rw[hb]at e;cases e
      ·rw[<- e,hb]
     have haw:yD ops s o=(b == want):=(by simp only[yD,hg,hdst,hs]);by_cases hbw:b=want
     ·exact run (by rw[haw,hbw];simp) (hk.1 hbw)
     ·exact skip (by rw[haw];simpa using hbw) (hk.2 hbw)
    ·exact hk.elim
    ·rename_i n1 n2
     have hs:s.get d=r.get d:=by
      rcases hl.get d with e|e
      ·obtain⟨k,p,q,e2⟩:=Wo e;exact absurd e2 (n2 k p q)
      ·exact e.symm
     have haw:yD ops s o=false:=by
      simp only[yD,hg,hdst,hs]
     exact skip haw hk
structure Ks where
 FR:Env->za->Prop
 ret:Env->za->Prop
 ext:Nat->Env->za->Prop
def Ks.on(K:Ks):Ex->Env->za->Prop
 | .normal=>K.FR
 | .ret=>K.ret
 | .exit id=>K.ext id
def Ks.with(K:Ks)(n:Env->za->Prop):Ks:=⟨n,K.ret,K.ext⟩
def CD(g:aaa)(A B:(List aaa->za->Prop)->Prop)(J:List aaa->za->Prop):Prop:=match g with
 | .bool true=>A J
 | .bool false=>B J
 |_=>False
def BK(A:(List aaa->za->Prop)->Prop)(J:List aaa->za->Prop):Prop:=A J
def LP(step:List aaa->za->(List aaa->za->Prop)->Prop)(vs:List aaa)(h:za):Prop :=
 ∃(I:Nat->List aaa->za->Prop) (n:Nat),I n vs h /\ ∀n vs h,I n vs h->step vs h (λvs' h'=>∃m,m<n/\I m vs' h')
def zeb:Unit:=(λ(_:Prop)=>()) (∀(P:Program) (ops:Array Oper) (l:List Oper) (s:Env) (h:za) (K:Env->za->Prop) (A B:(List aaa->za->Prop)->Prop) (J:List aaa->za->Prop) (g:aaa) (st:List aaa->za->(List aaa->za->Prop)->Prop) (vs:List aaa),wpO P ops l s h K/\CD g A B J/\BK A J/\LP st vs h)
def RI(b:Bool)(x y:Prop):Prop:=Function.const Unit (cond b x y) zeb
abbrev Wps:=Nat->Code->Env->za->Ks->Prop
def wpB(P:Program)(D:Array Oper->Env->za->(Env->za->Prop)->Prop)(rec:Wps):Wps:=λlv c s h K=>match c with
 | .skip=>K.FR s h
 | .label _=>K.FR s h
 | .exit id=>K.ext id s h
 | .ret=>K.ret s h
 | .seq a b=>rec (lv ||| FT b) a s h (K.with λs1 h1=>rec lv b s1 h1 K)
 | .cond x a b=>CD (ev s x) (λj=>rec lv a s h (K.with λs1 h1=>j (U2 lv s1 (bits (Y9 a ||| Y9 b) s.size)) h1)) (λj=>rec lv b s h (K.with λs1 h1=>j (U2 lv s1 (bits (Y9 a ||| Y9 b) s.size)) h1))
   (λvs h1=>K.FR (JS lv vs (bits (Y9 a ||| Y9 b) s.size) 0 s) h1)
 | .block id a=>BK (λj=>rec lv a s h ⟨λs1 h1=>j (U2 lv s1 (bits (Y9 a) s.size)) h1,K.ret,λi s1 h1=>cond (Nat.beq i id) (j (U2 lv s1 (bits (Y9 a) s.size)) h1) (K.ext i s1 h1)⟩)
   (λvs h1=>K.FR (JS lv vs (bits (Y9 a) s.size) 0 s) h1)
 | .scope a=>rec lv a s h K
 | .loop a=>LP (λvs h1 j=>rec (lv ||| FT a) a (JS (lv ||| FT a) vs (bits (Y9 a) s.size) 0 s) h1 (K.with λs1 h2=>j (U2 (lv ||| FT a) s1 (bits (Y9 a) s.size)) h2))
   (U2 (lv ||| FT a) s (bits (Y9 a) s.size)) h
 | .region _ ops draw=>RI draw (D ops s h K.FR) (wpO P ops ops.toList s h K.FR)
 |_=>False
def wp(P:Program)(D:Array Oper->Env->za->(Env->za->Prop)->Prop)(n:Nat):Wps:=Nat.rec (λ_ _ _ _ _=>False) (λ_ rec=>wpB P D rec) n
def ay(P:Program)(D:Array Oper->Env->za->(Env->za->Prop)->Prop):Prop :=
 ∀ops r s h K rd id,Le r s->vQ h->D ops r h K->∃r' s' h',Le r' s'/\K r' h'/\Fr (UZ ops.toList) s s'/\AF h h'/\T P rd (.region id ops true) s h (λe s1 h1=>e=.normal/\s1=s'/\h1=h')
def Good(P:Program)(rd:Option Nat)(rec:Wps):Prop := ∀lv c r s h K,Le r s->vQ h->rec lv c r h K->∃e r' s' h',Le r' s'/\K.on e r' h'/\Fr (Y9 c) s s'/\AF h h'/\T P rd c s h (λe1 s1 h1=>e1=e/\s1=s'/\h1=h')
theorem zaV{D:Array Oper->Env->za->(Env->za->Prop)->Prop}(hD:ay P D){rd:Option Nat}{rec:Wps}(G:Good P rd rec):Good P rd (wpB P D rec):=by
 intro lv c r s h K hl wf hk;cases c with
 |skip=>exact⟨.normal,r,s,h,hl,hk,.refl _ _,.refl _,RY ⟨rfl,rfl,rfl⟩⟩
 |label l=>exact⟨.normal,r,s,h,hl,hk,.refl _ _,.refl _,MY ⟨rfl,rfl,rfl⟩⟩
 |exit id=>exact⟨.exit id,r,s,h,hl,hk,.refl _ _,.refl _,RX ⟨rfl,rfl,rfl⟩⟩
 |ret=>exact⟨.ret,r,s,h,hl,hk,.refl _ _,.refl _,zcy ⟨rfl,rfl,rfl⟩⟩
 |seq a b=>
  obtain⟨e,r1,s1,h1,l1,k1,f1,a1,t1⟩:=G _ _ _ _ _ _ hl wf hk;cases e with
  |normal=>
   obtain⟨e2,r2,s2,h2,l2,k2,f2,a2,t2⟩:=G _ _ _ _ _ _ l1 (wf.af a1) k1;refine⟨e2,r2,s2,h2,l2,k2,f1.left.trans f2.right,a1.trans a2,M0 (t1.mono ?_)⟩;rintro e s3 h3 ⟨rfl,rfl,rfl⟩;exact t2
  |ret=>
   refine⟨.ret,r1,s1,h1,l1,k1,f1.left,a1,M0 (t1.mono ?_)⟩;rintro e s3 h3 ⟨rfl,rfl,rfl⟩;exact⟨rfl,rfl,rfl⟩
  |exit id=>
   refine⟨.exit id,r1,s1,h1,l1,k1,f1.left,a1,M0 (t1.mono ?_)⟩;rintro e s3 h3 ⟨rfl,rfl,rfl⟩;exact⟨rfl,rfl,rfl⟩
 |cond x a b=>
  have fin:∀(c:Code),(∀s s1,Fr (Y9 c) s s1->Fr (Y9 a ||| Y9 b) s s1)->rec lv c r h (K.with λs1 h1=>(λvs h1=>K.FR (JS lv vs (bits (Y9 a ||| Y9 b) r.size) 0 r) h1) (U2 lv s1 (bits (Y9 a ||| Y9 b) r.size)) h1) ->
    ∃e r' s' h',Le r' s'/\K.on e r' h'/\Fr (Y9 a ||| Y9 b) s s'/\AF h h'/\T P rd c s h (λe1 s1 h1=>e1=e/\s1=s'/\h1=h'):=by
   intro c hf hk;obtain⟨e,r1,s1,h1,l1,k1,f1,a1,t1⟩:=G _ _ _ _ _ _ hl wf hk;have f2:=hf _ _ f1;cases e with
   |normal=>exact⟨.normal,_,s1,h1,join_le hl l1 f2,k1,f2,a1,t1⟩
   |ret=>exact⟨.ret,r1,s1,h1,l1,k1,f2,a1,t1⟩
   |exit id=>exact⟨.exit id,r1,s1,h1,l1,k1,f2,a1,t1⟩
  unfold wpB at hk;dsimp only at hk;unfold CD at hk;split at hk
  ·rename_i hx;obtain⟨e,r',s',h',q1,q2,q3,q4,t⟩:=fin a (λ_ _ f=>f.left) hk;exact⟨e,r',s',h',q1,q2,q3,q4,Et (t:=true) (by rw[Y8 hl (x:=x) (by rw[hx];rfl),hx]) t⟩
  ·rename_i hx;obtain⟨e,r',s',h',q1,q2,q3,q4,t⟩:=fin b (λ_ _ f=>f.right) hk;exact⟨e,r',s',h',q1,q2,q3,q4,Et (t:=false) (by rw[Y8 hl (x:=x) (by rw[hx];rfl),hx]) t⟩
  ·exact hk.elim
 |block id a=>
  have hk:rec lv a r h _:=hk;obtain⟨e,r1,s1,h1,l1,k1,f1,a1,t1⟩:=G _ _ _ _ _ _ hl wf hk;cases e with
  |normal=>
   refine⟨.normal,_,s1,h1,join_le hl l1 f1,k1,f1,a1,gN (t1.mono ?_)⟩;rintro e s3 h3 ⟨rfl,rfl,rfl⟩;rw[aaf (by simp)];exact⟨rfl,rfl,rfl⟩
  |ret=>
   refine⟨.ret,r1,s1,h1,l1,k1,f1,a1,gN (t1.mono ?_)⟩;rintro e s3 h3 ⟨rfl,rfl,rfl⟩;rw[aaf (by simp)];exact⟨rfl,rfl,rfl⟩
  |exit i=>
   simp only[Ks.on]at k1;by_cases hi:i=id
   ·subst hi;rw[show Nat.beq i i=true from ab4 i]at k1;refine⟨.normal,_,s1,h1,join_le hl l1 f1,k1,f1,a1,gN (t1.mono ?_)⟩;rintro e s3 h3 ⟨rfl,rfl,rfl⟩;rw[aai rfl];exact⟨rfl,rfl,rfl⟩
   ·rw[Tr.beq_false hi]at k1;refine⟨.exit i,r1,s1,h1,l1,k1,f1,a1,gN (t1.mono ?_)⟩;rintro e s3 h3 ⟨rfl,rfl,rfl⟩;rw[aaf (by simpa using hi)];exact⟨rfl,rfl,rfl⟩
 |scope a=>
  obtain⟨e,r1,s1,h1,l1,k1,f1,a1,t1⟩:=G _ _ _ _ _ _ hl wf hk;exact⟨e,r1,s1,h1,l1,k1,f1,a1,MZ t1⟩
 |loop a=>
  unfold wpB at hk;dsimp only at hk;obtain⟨I,n,h0,hI⟩:=hk
  have key:∀n r1 s1 h1,Le r1 s1->vQ h1->Fr (Y9 a) s s1->I n (U2 (lv ||| FT a) r1 (bits (Y9 a) r.size)) h1 ->
    ∃e r' s' h',Le r' s'/\K.on e r' h'/\Fr (Y9 a) s s'/\AF h1 h'/\T P rd (.loop a) s1 h1 (λe1 s2 h2=>e1=e/\s2=s'/\h2=h'):=by
   intro n
   induction n using Nat.strongRecOn with
   |_ n ih=>
    intro r1 s1 h1 l1 wf1 f1 hn;have hstep:=hI n _ h1 hn;obtain⟨e,r2,s2,h2,l2,k2,f2,a2,t2⟩:=G _ _ _ _ _ _ (join_le hl l1 f1) wf1 hstep;cases e with
    |normal=>
     obtain⟨m,hm,k2⟩:=k2;obtain⟨e3,r3,s3,h3,l3,k3,f3,a3,t3⟩:=ih m hm r2 s2 h2 l2 (wf1.af a2) (f1.trans f2) k2;refine⟨e3,r3,s3,h3,l3,k3,f3,a2.trans a3,Qc (t2.mono ?_)⟩;rintro e s4 h4 ⟨rfl,rfl,rfl⟩;exact t3
    |ret=>
     refine⟨.ret,r2,s2,h2,l2,k2,f1.trans f2,a2,Qc (t2.mono ?_)⟩;rintro e s4 h4 ⟨rfl,rfl,rfl⟩;exact⟨rfl,rfl,rfl⟩
    |exit i=>
     refine⟨.exit i,r2,s2,h2,l2,k2,f1.trans f2,a2,Qc (t2.mono ?_)⟩;rintro e s4 h4 ⟨rfl,rfl,rfl⟩;exact⟨rfl,rfl,rfl⟩
  exact key n r s h hl wf (.refl _ _) h0
 |region id ops draw=>
  cases draw with
  |true=>
   obtain⟨r',s',h',q1,q2,q3,q4,t⟩:=hD ops r s h K.FR rd id hl wf hk;exact⟨.normal,r',s',h',q1,q2,q3,q4,t⟩
  |false=>
   have hk:wpO P ops ops.toList r h K.FR:=hk;obtain⟨r',s',h',q1,q2,q3,q4,t⟩:=Er ops.toList 0 (abT) hl wf hk;refine⟨.normal,r',s',h',q1,q2,q3,q4,F3 ?_⟩;rw[List.range_eq_range'];rw[abh]at t
   exact(λρ w tm ds hr hs b k cs=>by
    obtain⟨s1,h1,ρ1,w1,tm1,⟨e1,e2⟩,rest⟩:=t ρ w tm ds hr hs b k cs;exact⟨s1,h1,ρ1,w1,tm1,⟨rfl,e1,e2⟩,rest⟩)
 |_=>exact hk.elim
def RK(FR ret:za->Prop)(ext:Nat->za->Prop)(e:Ex)(h:za):Prop:=match e with
 | .normal=>FR h
 | .ret=>ret h
 | .exit i=>ext i h
def RF(P:Program)(f:aaa)(params:Array Tmp)(as bd:Code)(s:Env)(h:za)(FR ret:za->Prop)(ext:Nat->za->Prop):Prop:=match f with
 | .func (.func g) a c=>wA P g=true /\ ∀s1,Le s s1->DC P g (a.toList++[.func (.yield h.next) #[] #[]]++c.toList) (h.push (.loop {state := .ready,pending:=none,s:=s1,params:=params,assign:=as,body:=bd}))
   (λ_ h1=>∃A,h1.get h.next=some (.loop A)/\(A.state == .busy)=false/\h1.ro<=h.next /\ ∃e,WT e=A.pending/\RK FR ret ext e (h1.set h.next none))
 |_=>False
def zgR(P:Program)(D:Array Oper->Env->za->(Env->za->Prop)->Prop)(rec:Wps):Wps:=λlv c s h K=>match c with
 | .rangeFunc f params as bd=>RF P (ev s f) params as bd s h (λh1=>K.FR s h1) (λh1=>K.ret s h1) (λi h1=>K.ext i s h1)
 |c=>wpB P D rec lv c s h K
def wp0(P:Program)(D:Array Oper->Env->za->(Env->za->Prop)->Prop)(n:Nat):Wps:=Nat.rec (λ_ _ _ _ _=>False) (λ_ rec=>zgR P D rec) n
theorem I9{h:za}(w:vQ h)(o:vr):vQ (h.push o):=⟨λb x hb=>by
 rw[za.vY]at hb;show b<h.next+1;split at hb
 ·rename_i e;omega
 ·have:=w.1 b x hb;omega,abC w.2⟩
theorem RT{f:Operand}{params:Array Tmp}{as bd:Code}{r s:Env}{h:za}{FR ret:za->Prop}{ext:Nat->za->Prop}(hl:Le r s)(wf:vQ h)(hk:RF P (ev r f) params as bd r h FR ret ext) :
  ∃e h',RK FR ret ext e h'/\AF h h'/\T P none (.rangeFunc f params as bd) s h (λe1 s1 h1=>e1=e/\s1=s/\h1=h'):=by
 unfold RF at hk;split at hk
 case h_2=>exact hk.elim
 rename_i g a c hf;obtain⟨hc,hd⟩:=hk;obtain⟨v,h1,⟨A,gA,bA,ro,e,je,kk⟩,af,t⟩:=hd s hl (I9 wf _);have ef:jF s f=some (.func (.func g) a c):=by rw[Y8 hl (x:=f) (by rw[hf];rfl),hf]
 refine⟨e,h1.set h.next none,kk,⟨?_,af.ro,λb o hb=>?_⟩,nj ef hc (λL q=>by cases q) (t.mono ?_)⟩
 ·have:=af.next;show h.next<=h1.next;have e1:(h.push (.loop {state := .ready,pending:=none,s:=s,params:=params,assign:=as,body:=bd})).next=h.next+1:=rfl;omega
 ·rw[za.yJ]at hb;split at hb
  ·cases hb
  ·rename_i hne;rcases af.alive b o hb with q|q
   ·rw[za.vY,aaf hne]at q;exact .inl q
   ·have e1:(h.push (.loop {state := .ready,pending:=none,s:=s,params:=params,assign:=as,body:=bd})).next=h.next+1:=rfl;refine .inr ⟨by omega,?_⟩;exact q.2
 ·rintro v1 h2 ⟨_,rfl⟩;exact⟨A,gA,bA,ro,e,je,rfl,rfl,rfl⟩
theorem Lb{D:Array Oper->Env->za->(Env->za->Prop)->Prop}(hD:ay P D):∀n,Good P none (wp0 P D n)
 |0=>λ_ _ _ _ _ _ _ _ hk=>hk.elim
 |n+1=>λlv c r s h K hl wf hk=>by
  have key:wpB P D (wp0 P D n) lv c r h K->_:=λq=>zaV hD (Lb hD n) lv c r s h K hl wf q;cases c with
  |rangeFunc f params as bd=>
   obtain⟨e,h',kk,af,t⟩:=RT hl wf hk;exact⟨e,r,s,h',hl,by cases e <;> exact kk,.refl _ _,af,t⟩
  |_=>exact key hk
def rv(vs:List aaa)(h:za)(R:aaa->za->Prop):Prop:=yi vs=true/\R (vB vs) h
def zar(P:Program):List ResultVar->Env->za->(List aaa->Prop)->Prop
 |[],s,h,K=>K []
 | .tmp t::rs,s,h,K=>zar P rs s h λvs=>K (s.get t::vs)
 | .cell a t::rs,s,h,K=>opt (zf P t (s.get a) h) λv=>zar P rs s h λvs=>K (v::vs)
def zeB:List ResultVar->Nat
 |[]=>0
 | .tmp t::rs=>(1 <<< t) ||| zeB rs
 | .cell a _::rs=>(1 <<< a) ||| zeB rs
def wpF(P:Program)(D:Array Oper->Env->za->(Env->za->Prop)->Prop)(n:Nat)(f:FuncId)(args:List aaa)(h:za)(R:aaa->za->Prop):Prop :=
 match P.funcs[f]? with
 |some fn=>(match fn.body with
  |some c=>wp0 P D n (zeB fn.results.toList) c (Env.enter args fn.ntmps) h ⟨λs h=>zar P fn.results.toList s h λvs=>rv vs h R,λs h=>zar P fn.results.toList s h λvs=>rv vs h R,λ_ _ _=>False⟩
  |none=>False)
 |none=>False
theorem JT{r s:Env}{h:za}(hl:Le r s):∀{rs:List ResultVar} {K:List aaa->Prop},zar P rs r h K->(∀vs,K vs->yi vs=true)->∃vs,kB P s h rs=some vs/\K vs
 |[],K,hk,_=>⟨[],rfl,hk⟩
 | .tmp t::rs,K,hk,hn=>by
   obtain⟨vs,e,q⟩:=JT hl (rs:=rs) hk (λvs q=>by
    have:=hn _ q;simp only[yi]at this;cases hb:zS (r.get t) with
    |true=>rw[hb]at this;cases this
    |false=>rw[hb]at this;exact this)
   have hb:zS (r.get t)=false:=by
    have:=hn _ q;simp only[yi]at this;cases hb:zS (r.get t) with
    |true=>rw[hb]at this;cases this
    |false=>rfl
   have et:r.get t=s.get t:=by
    rcases hl.get t with e|e
    ·rw[e]at hb;cases hb
    ·exact e
   exact⟨_,by simp only[kB,e,<- et],q⟩
 | .cell a t::rs,K,hk,hn=>by
   obtain⟨v,ev,hk⟩:=qF hk
   have et:r.get a=s.get a:=by
    rcases hl.get a with e|e
    ·obtain⟨k,p,q,e2⟩:=Wo e;rw[e2]at ev;cases ev
    ·exact e
   obtain⟨vs,e,q⟩:=JT hl (rs:=rs) hk (λvs q=>by
    have:=hn _ q;simp only[yi]at this;cases hb:zS v with
    |true=>rw[hb]at this;cases this
    |false=>rw[hb]at this;exact this)
   exact⟨_,by simp only[kB,<- et,ev,e],q⟩
theorem Cu{D:Array Oper->Env->za->(Env->za->Prop)->Prop}(hD:ay P D){n:Nat}{f:FuncId}{args:List aaa}{h:za}{R:aaa->za->Prop}(hk:wpF P D n f args h R):DC P f args h R:=by
 intro wf;unfold wpF at hk;split at hk
 case h_2=>exact hk.elim
 rename_i fn hf;split at hk
 case h_2=>exact hk.elim
 rename_i c hb;obtain⟨e,r1,s1,h1,l1,k1,_,a1,t1⟩:=Lb hD n _ _ _ _ _ _ (.refl _) wf hk
 have fin:∀{e:Ex},(e=.normal\/e=.ret)->(∃vs,kB P s1 h1 fn.results.toList=some vs/\yi vs=true/\R (vB vs) h1)->T P none c (Env.enter args fn.ntmps) h (λe1 s2 h2=>e1=e/\s2=s1/\h2=h1) ->
   ∃v h1,R v h1/\AF h h1/\TC P f args h (λv' h'=>v'=v/\h'=h1):=by
  rintro e he ⟨vs,e1,_,q⟩ t;refine⟨_,h1,q,a1,MV hf hb (t.mono ?_)⟩;rintro e s2 h2 ⟨rfl,rfl,rfl⟩;exact⟨he,vs,e1,rfl,rfl⟩
 cases e with
 |normal=>
  obtain⟨vs,e,q⟩:=JT l1 k1 (λvs q=>q.1);exact fin (.inl rfl) ⟨vs,e,q⟩ t1
 |ret=>
  obtain⟨vs,e,q⟩:=JT l1 k1 (λvs q=>q.1);exact fin (.inr rfl) ⟨vs,e,q⟩ t1
 |exit id=>exact k1.elim
end
noncomputable section
variable {P:Program}
def i6:Nat->Nat
 |2=>1
 |3=>2
 |4=>2
 |_=>3
def wH(q:FuncId->Nat)(o:Oper):Nat:=match o.op with
 | .call {callee := .value (.func g),.. }=>i6 (q g)
 | .call {callee := .value _,.. }=>3
 | .call {callee := .builtin b,.. }=>cond (WZ b) 1 3
 | .move _ | .assign _ | .pick _ _ _ | .build _ _ | .nilCheck _ | .binOp _ _ _ _ _ | .unOp _ _ _ | .makeInterface _ _ | .makeFunc _ _ _ | .fieldAddr _ _ _ | .field _ _ _ | .indexAddr _ _ _ | .index _ _ _ | .extract _ _=>0
 | .load _ _ | .lookup _ _ _ _ | .slice _ _ _ _ _ | .entry _=>1
 | .box _ _ | .alloc _ | .buildSlice _ _ _ | .makeSlice _ _ _ | .makeMap _ _ | .convert _ _ _ | .range _ _=>2
 |_=>3
def MA(x y:Nat):Bool:=Nat.beq x 0||Nat.beq y 0||(Nat.beq x 1&&Nat.ble y 2)||(Nat.beq x 2&&Nat.beq y 1)
def Fl(q:FuncId->Nat):List Oper->Nat->List Nat->List (Nat×Nat)->Bool
 |[],_,_,_=>true
 |o::os,i,ms,prev=>(prev.all λx=>(yK ms o).testBit x.1||MA x.2 (wH q o))&&Fl q os (i+1) (ms++[yK ms o]) ((i,wH q o)::prev)
def calm(q:FuncId->Nat)(ops:Array Oper):Bool:=Yv ops ops.toList 0 [] []&&Fl q ops.toList 0 [] []
def trim(h:za)(n:Nat):za:=h.Wn (List.range' n (h.next-n))
@[simp] theorem zeR (h:za) (n:Nat):(trim h n).next=h.next:=rfl
@[simp] theorem zgh (h:za) (n:Nat):(trim h n).ro=h.ro:=rfl
theorem Ie(h:za)(n b:Nat):(trim h n).get b=if n<=b/\b<h.next then none else h.get b:=by
 unfold trim;rw[qu];simp only[ZV]
theorem Ig{h:za}{n b:Nat}(hb:b<n):(trim h n).get b=h.get b:=by rw[Ie,aaf (by omega)]
def firstFree(m:Nat):List (Nat×Nat)->Option Nat
 |[]=>none
 |(p,n)::l=>cond (m.testBit p) (firstFree m l) (some n)
def view(m:Nat)(al:List (Nat×Nat))(h:za):za:=match firstFree m al with
 |none=>h
 |some n=>trim h n
def qt(P:Program)(g:FuncId)(args:List aaa)(h:za)(K:aaa->Prop):Prop:=wA P g=true/\yi args=true /\ ∃v,nc v=true/\TC P g args h.lock (λv1 _=>v1=v)/\K v
def QG(P:Program)(g:FuncId)(args:List aaa)(h:za)(K:aaa->za->Prop):Prop :=
 wA P g=true/\yi args=true /\ ∃v h2,TC P g args h.lock (λv1 h1=>v1=v/\h1=h2)/\AF h.lock h2/\K v (vz h h2)
def oZ(P:Program)(g:FuncId)(args:List aaa)(h:za)(K:aaa->za->Prop):Prop :=
 wA P g=true/\yi args=true/\DC P g args h K
def zc1(P:Program)(g:FuncId)(args:List aaa)(h:za)(K:aaa->za->Prop):Prop:=yi args=true/\zt (ES P g args h) K
def mG(P:Program)(f:aaa)(args:List aaa)(h:za)(K:aaa->za->Prop):Prop:=match f with
 | .func (.func g) a c=>yi args=true/\oZ P g (a.toList++args++c.toList) h K
 |_=>False
def opD(P:Program)(q:FuncId->Nat)(s:Env)(o:Oper)(hv h:za)(K:aaa->za->Prop):Prop:=match o.op with
 | .call {callee := .value (.func g),args,argTypes}=>(match q g with
   |2=>qt P g (gJ s args.toList) hv λv=>K v h
   |3=>QG P g (gJ s args.toList) h K
   |4=>zc1 P g (gJ s args.toList) h K
   |_=>oZ P g (gJ s args.toList) h K)
 | .call {callee := .value f,args,argTypes}=>mG P (ev s f) (gJ s args.toList) h K
 |_=>cond (Nat.beq (wH q o) 1) (Ra P s o hv λv _=>K v h) (Ra P s o h K)
def wpD(P:Program)(q:FuncId->Nat)(ops:Array Oper):List Oper->Nat->List Nat->List (Nat×Nat)->Env->za->(Env->za->Prop)->Prop
 |[],_,_,_,s,h,K=>K s h
 |o::os,i,ms,al,s,h,K=>(match o.guard with
  |none=>opD P q s o (view (yK ms o) al h) h λv h1=>(match s.put o.dst v with
   |some s1=>wpD P q ops os (i+1) (ms++[yK ms o]) (cond (Nat.beq (wH q o) 2) (al++[(i,h.next)]) al) s1 h1 K
   |none=>False)
  |some (j,want)=>(match (ops[j]?).bind (·.dst) with
   |none=>False
   |some d=>GD (s.get d) want (opD P q s o (view (yK ms o) al h) h) (λv h1=>(match s.put o.dst v with
    |some s1=>wpD P q ops os (i+1) (ms++[yK ms o]) (cond (Nat.beq (wH q o) 2) (al++[(i,h.next)]) al) s1 h1 K
    |none=>False)) h))
def pb(P:Program)(q:FuncId->Nat)(ops:Array Oper)(s:Env)(h:za)(K:Env->za->Prop):Prop:=cond (calm q ops) (wpD P q ops ops.toList 0 [] [] s h K) False
def Wp:Op->Bool
 | .call {callee := .value _,.. }=>true
 |_=>false
theorem lu{q:FuncId->Nat}{s:Env}{o:Oper}{h h':za}{u:aaa}(hk:wH q o=0)(hc:Wp o.op=false)(he:Kc P s o h=some (u,h')):h'=h /\ ∀g,Kc P s o g=some (u,g):=by
 have key:∀{x:Option aaa},one h x=some (u,h')->h'=h /\ ∀g,one g x=some (u,g):=λe=>by
  obtain⟨e1,e2⟩:=ue e;exact⟨e2,λg=>WW e1⟩
 unfold wH at hk;unfold Kc at he ⊢
 split at he <;> rename_i yy <;> simp only[yy]at hk ⊢ <;> first
  |exact key he
  |(cases he;done)
  |(cases hk;done)
  |skip
 ·split at he
  ·exact key he
  ·exact key he
  ·cases he
 ·split at he
  ·exact key he
  ·cases he
 ·split at he
  ·simp only[aab,aae]at he;obtain⟨rfl,rfl⟩:=he;exact⟨rfl,λg=>rfl⟩
  ·simp only[aab,aae]at he;obtain⟨rfl,rfl⟩:=he;exact⟨rfl,λg=>rfl⟩
  ·cases he
 ·split at he
  ·exact key he
  ·cases he
 ·split at he
  ·obtain⟨hf,he⟩:=zA he;simp only[hf,aav];exact key he
  ·cases he
 ·split at he
  ·split at he
   ·simp only[aab,aae]at he;obtain⟨rfl,rfl⟩:=he;exact⟨rfl,λg=>rfl⟩
   ·cases he
  ·cases he
 ·split at he
  ·simp only[aab,aae]at he;obtain⟨rfl,rfl⟩:=he;exact⟨rfl,λg=>rfl⟩
  ·cases he
 ·split at he
  ·exact key he
  ·cases he
 ·split at he
  ·split at he
   ·split at he
    ·exact key he
    ·cases he
   ·cases he
  ·cases he
 ·split at he
  ·exact key he
  ·cases he
 ·split at he
  ·obtain⟨hf,he⟩:=zA he;simp only[hf,aav];exact key he
  ·cases he
 ·split at he
  ·exact key he
  ·cases he
 ·exfalso;rename_i b args ts;cases hq:WZ b <;> rw[hq]at hk <;> cases hk
theorem cj{q:FuncId->Nat}{s:Env}{o:Oper}{h h':za}{u:aaa}(hk:wH q o=1)(hc:Wp o.op=false)(he:Kc P s o h=some (u,h')):h'=h:=by
 unfold wH at hk;unfold Kc at he
 split at he <;> rename_i yy <;> simp only[yy]at hk <;> first
  |(cases he;done)
  |(cases hk;done)
  |skip
 ·split at he
  ·exact(ue he).2
  ·cases he
 ·split at he
  ·split at he
   ·simp only[aab,aae]at he;exact he.2.symm
   ·cases he
  ·exact(ue he).2
  ·cases he
 ·rename_i b args ts;split at he
  ·refine bq ?_ he;cases hq:WZ b with
   |true=>rfl
   |false=>rw[hq]at hk;cases hk
  ·cases he
 ·split at he
  ·exact(ue he).2
  ·cases he
 ·split at he
  ·exact(ue he).2
  ·cases he
theorem oT{q:FuncId->Nat}{s:Env}{o:Oper}{h h':za}{u:aaa}(hk:wH q o=2)(hc:Wp o.op=false)(he:Kc P s o h=some (u,h')):Still h h':=by
 refine(YK he).2 ?_;unfold wH at hk
 split at hk <;> rename_i yy <;> first
  |(cases hk;done)
  |(rw[yy]at hc;cases hc;done)
  |(rw[yy];rfl)
  |skip
 rename_i b args ts;cases hq:WZ b <;> rw[hq]at hk <;> cases hk
end
noncomputable section
variable {P:Program}
theorem WN{s:Env}{o:Oper}{h h':za}{u:aaa}(he:Kc P s o h=some (u,h')):Wp o.op=false:=by
 cases hc:Wp o.op with
 |false=>rfl
 |true=>
  unfold Wp at hc;split at hc
  ·rename_i yy;unfold Kc at he;simp only[yy]at he;cases he
  ·cases hc
structure RP (q:FuncId->Nat) (x:yF):Prop where
 rd:∀b,x.rd b=true->b<x.g.next
 k0:wH q x.o=0->∀b,x.rd b=false
 k1:wH q x.o<=1->∀b,x.tc b=false
 k2:wH q x.o=2->∀b,x.tc b=true->x.g.next<=b
structure Next (P:Program) (q:FuncId->Nat) (ops:Array Oper) (s0:Env) (h0:za) (A:List yF) (i:Nat) (o:Oper) (s:Env) (h:za) (u:aaa) (h1:za) (bound:Nat) (y:yF):Prop where
 hj:y.j=i
 yy:y.o=o
 hsl:y.s=s
 Co:y.v=u
 gn:y.g.next=h.next
 told:Told P ops s0 h0 A y
 rp:RP q y
 rb:wH q o=1->∀b,y.rd b=true->b<bound
 heap:∀b,h1.get b=if y.tc b=true then y.g'.get b else h.get b
 ro:h1.ro=h.ro
 next:h.next<=h1.next
 Ih:y.g'.next<=h1.next
 wf:WF h1
section
variable {q:FuncId->Nat}{ops:Array Oper}{s0:Env}{h0:za}{A:List yF}{i:Nat}{o:Oper}{s:Env}{h:za}
theorem mZ(F:v9 P ops s0 h0 A i s h)(ho:ops[i]? = some o)(hput:∀d,o.dst=some d->d<s.size){u:aaa}(hs:jL P ops s o (h.pick []) u (h.pick []))(bound:Nat):∃y,Next P q ops s0 h0 A i o s h u h bound y:=by
 refine⟨⟨i,o,u,s,h.pick [],h.pick [],λ_=>false,λ_=>false⟩,rfl,rfl,rfl,rfl,rfl,
  ⟨ho,F.env,F.size,λb=>by rw[uY];simp,F.ro,F.next,F.nA,aaj _,hs,λd hd=>by rw[<- F.size];exact hput d hd,λb hb=>(by cases hb),λb _=>rfl,λb o' hb=>(by cases hb)⟩,
  ⟨λb hb=>(by cases hb),λ_ _=>rfl,λ_ _=>rfl,λ_ b hb=>(by cases hb)⟩,λ_ b hb=>(by cases hb),λb=>by simp,rfl,aaj _,aaj _,F.wf⟩
theorem DX(F:v9 P ops s0 h0 A i s h)(ho:ops[i]? = some o)(hput:∀d,o.dst=some d->d<s.size)(hk:wH q o=1){hv:za}{bound:Nat}(hb:bound<=h.next)(hn:hv.next=h.next)(hro:hv.ro=h.ro)
  (hg:∀b,hv.get b=if b<bound then h.get b else none) {u:aaa} (hs:jL P ops s o hv u hv):∃y,Next P q ops s0 h0 A i o s h u h bound y:=by
 refine⟨⟨i,o,u,s,hv,hv,λb=>Nat.blt b bound,λ_=>false⟩,rfl,rfl,rfl,rfl,hn,
  ⟨ho,F.env,F.size,λb=>?_,hro.trans F.ro,by rw[hn];exact F.next,λx hx=>by rw[hn];exact F.nA x hx,aaj _,hs,λd hd=>by rw[<- F.size];exact hput d hd,λb hb=>(by cases hb),λb _=>rfl,λb o' hb=>(by cases hb)⟩,
  ⟨λb hb2=>by have:b<bound:=by simpa [aaO] using hb2
              show b<hv.next;omega,λh=>by simp only at h;omega,λ_ _=>rfl,λh=>by simp only at h;omega⟩,λ_ b hb2=>by simpa [aaO] using hb2,λb=>by simp,rfl,aaj _,by rw[hn];exact aaj _,F.wf⟩
 show hv.get b=if Nat.blt b bound=true then XW A h0 b else none;have hbl:(Nat.blt b bound=true) ↔ b<bound:=by rw[aaO]
 rw[hg];by_cases hbb:b<bound
 ·rw[aai hbb,aai (hbl.2 hbb),F.heap]
 ·rw[aaf hbb,aaf (λe=>hbb (hbl.1 e))]
theorem kr{h:za}(w:WF h){b:Nat}(hb:¬b<h.next):h.get b=none:=by
 cases hh:h.get b with|none=>rfl|some o'=>exact absurd (w b o' hh) hb
theorem gx(F:v9 P ops s0 h0 A i s h)(ho:ops[i]? = some o)(hput:∀d,o.dst=some d->d<s.size)(hk:wH q o=2){h1:za}(hn:h.next<=h1.next)(hro:h1.ro=h.ro)(hold:∀b,¬(h.next<=b/\b<h1.next)->h1.get b=h.get b)
  {u:aaa} (hs:jL P ops s o h u h1) (bound:Nat):∃y,Next P q ops s0 h0 A i o s h u h1 bound y:=by
 have hrd:∀b,(Nat.blt b h.next=true) ↔ b<h.next:=λb=>by rw[aaO]
 have htc:∀b,(decide (h.next<=b/\b<h1.next)=true) ↔ (h.next<=b/\b<h1.next):=λb=>by simp
 refine⟨⟨i,o,u,s,h,h1,λb=>Nat.blt b h.next,λb=>decide (h.next<=b/\b<h1.next)⟩,rfl,rfl,rfl,rfl,rfl,
  ⟨ho,F.env,F.size,λb=>?_,F.ro,F.next,F.nA,hn,hs,λd hd=>by rw[<- F.size];exact hput d hd,λb hb => .inr ((htc b).1 hb),λb hb=>?_,λb o' hb hlt=>?_⟩,
  ⟨λb hb=>(hrd b).1 hb,λh=>by simp only at h;omega,λh=>by simp only at h;omega,λ_ b hb=>((htc b).1 hb).1⟩,λh=>by omega,λb=>?_,hro,hn,aaj _,λb o' hb=>?_⟩
 ·show h.get b=if Nat.blt b h.next=true then XW A h0 b else none;by_cases hb:b<h.next
  ·rw[aai ((hrd b).2 hb),F.heap]
  ·rw[aaf (λe=>hb ((hrd b).1 e)),kr F.wf hb]
 ·refine hold b (λe=>?_);have:=(htc b).2 e;rw[show decide (h.next<=b/\b<h1.next)=false from hb]at this;cases this
 ·have:=((htc b).1 hb).1;have hlt:b<h.next:=hlt;omega
 ·show h1.get b=if decide (h.next<=b/\b<h1.next)=true then h1.get b else h.get b;by_cases hb:h.next<=b/\b<h1.next
  ·rw[aai ((htc b).2 hb)]
  ·rw[aaf (λe=>hb ((htc b).1 e)),hold b hb]
 ·by_cases hc:h.next<=b/\b<h1.next
  ·exact hc.2
  ·rw[hold b hc]at hb;exact aap (F.wf b o' hb) hn
theorem gy(F:v9 P ops s0 h0 A i s h)(ho:ops[i]? = some o)(hput:∀d,o.dst=some d->d<s.size)(hk:wH q o=3){h1:za}(af:AF h h1)
  {u:aaa} (hs:jL P ops s o h u h1) (bound:Nat):∃y,Next P q ops s0 h0 A i o s h u h1 bound y:=by
 have hrd:∀n b,(Nat.blt b n=true) ↔ b<n:=λn b=>by rw[aaO]
 have hn:h.next<=h1.next:=af.next;have hwf:WF h1:=F.wf.af af
 refine⟨⟨i,o,u,s,h,h1,λb=>Nat.blt b h.next,λb=>Nat.blt b h1.next⟩,rfl,rfl,rfl,rfl,rfl,
  ⟨ho,F.env,F.size,λb=>?_,F.ro,F.next,F.nA,hn,hs,λd hd=>by rw[<- F.size];exact hput d hd,λb hb=>?_,λb hb=>?_,λb o' hb hlt hg=>?_⟩,
  ⟨λb hb=>(hrd _ b).1 hb,λh=>by simp only at h;omega,λh=>by simp only at h;omega,λh=>by simp only at h;omega⟩,λh=>by omega,λb=>?_,af.ro,hn,aaj _,hwf⟩
 ·show h.get b=if Nat.blt b h.next=true then XW A h0 b else none;by_cases hb:b<h.next
  ·rw[aai ((hrd _ b).2 hb),F.heap]
  ·rw[aaf (λe=>hb ((hrd _ b).1 e)),kr F.wf hb]
 ·have hb:=(hrd _ b).1 hb;by_cases hlt:b<h.next
  ·exact .inl ((hrd _ b).2 hlt)
  ·exact .inr ⟨ab0 hlt,hb⟩
 ·have hb':¬b<h1.next:=λe=>by
   have:=(hrd h1.next b).2 e;rw[show Nat.blt b h1.next=false from hb]at this;cases this
  show h1.get b=h.get b;rw[kr hwf hb',kr F.wf (by omega)]
 ·rcases af.alive b o' hg with h2|⟨h2,_⟩
  ·exact h2
  ·have hlt:b<h.next:=hlt;omega
 ·show h1.get b=if Nat.blt b h1.next=true then h1.get b else h.get b;by_cases hb:b<h1.next
  ·rw[aai ((hrd _ b).2 hb)]
  ·rw[aaf (λe=>hb ((hrd _ b).1 e)),kr hwf hb,kr F.wf (by omega)]
theorem QV{h h1:za}(st:Still h h1):h.next<=h1.next/\h1.ro=h.ro /\ ∀b,¬(h.next<=b/\b<h1.next)->h1.get b=h.get b:=by
 rcases st with rfl|⟨ob,rfl⟩
 ·exact⟨aaj _,rfl,λ_ _=>rfl⟩
 ·refine⟨abz _,rfl,λb hb=>?_⟩;rw[za.vY,aaf (λe=>hb ⟨by omega,by rw[za.dC];omega⟩)]
theorem gH{m:Nat}{al:List (Nat×Nat)}{h:za}(w:WF h)(hal:∀x,x∈al->x.2<=h.next):∃bound,bound<=h.next/\(view m al h).next=h.next/\(view m al h).ro=h.ro/\(∀b,(view m al h).get b=if b<bound then h.get b else none) /\ ∀n,firstFree m al=some n->bound=n:=by
 have mem:∀(al:List (Nat×Nat)) n,firstFree m al=some n->∃p,(p,n)∈al:=by
  intro al
  induction al with
  |nil=>intro n e;cases e
  |cons x l ih=>
   intro n e;obtain⟨p,n'⟩:=x;simp only[firstFree]at e;cases hb:m.testBit p with
   |true=>rw[hb]at e;obtain⟨p',hp⟩:=ih n e;exact⟨p',by simp[hp]⟩
   |false=>rw[hb]at e;cases e;exact⟨p,by simp⟩
 unfold view;cases hf:firstFree m al with
 |none=>exact⟨h.next,aaj _,rfl,rfl,λb=>by
   by_cases hb:b<h.next
   ·rw[aai hb]
   ·rw[aaf hb,kr w hb],λn e=>by cases e⟩
 |some n=>
  obtain⟨p,hp⟩:=mem al n hf;have hn:n<=h.next:=hal _ hp;refine⟨n,hn,rfl,rfl,λb=>?_,λn' e=>by cases e;rfl⟩;simp only[Ie];by_cases hb:b<n
  ·rw[aaf (by omega),aai hb]
  ·by_cases hb2:b<h.next
   ·rw[aai ⟨by omega,hb2⟩,aaf hb]
   ·rw[aaf (by omega),aaf hb,kr w hb2]
theorem Next.af{u:aaa}{h1:za}{bound:Nat}{y:yF}(N:Next P q ops s0 h0 A i o s h u h1 bound y)(F:v9 P ops s0 h0 A i s h):AF h h1 :=
 ⟨N.next,N.ro,λb o hb=>by
  rw[N.heap]at hb;by_cases ht:y.tc b=true
  ·rw[aai ht]at hb;by_cases hl:b<y.g.next
   ·have h2:=N.told.tc3 b o ht hl hb;have h3:=N.told.heap b;rw[h3]at h2;by_cases hr:y.rd b=true
    ·rw[aai hr,<- F.heap]at h2;exact .inl h2
    ·rw[aaf hr]at h2;exact absurd rfl h2
   ·have hb1:h1.get b=some o:=(by rw[N.heap,aai ht];exact hb);exact .inr ⟨by rw[<- N.gn];omega,N.wf b o hb1⟩
  ·rw[aaf ht]at hb;exact .inl (by rw[hb];simp)⟩
theorem IG(F:v9 P ops s0 h0 A i s h)(hron:h.ro<=h.next)(ho:ops[i]? = some o)(hput:∀d,o.dst=some d->d<s.size)(hw:yD ops s o=true){r:Env}(hl:Le r s){m:Nat}{al:List (Nat×Nat)}(hal:∀x,x∈al->x.2<=h.next)
  {K:aaa->za->Prop} (hk:opD P q r o (view m al h) h K):∃v u h1 y bound,(zS v=true\/v=u)/\K v h1/\Next P q ops s0 h0 A i o s h u h1 bound y /\ ∀n,firstFree m al=some n->bound=n:=by
 obtain⟨bound,hb1,hb2,hb3,hb4,hb5⟩:=gH (m:=m) F.wf hal;unfold opD at hk;split at hk
 ·rename_i g args ts yy;have ef:jF s (.func g)=some (.func (.func g) #[] #[]):=rfl;have hkind:wH q o=i6 (q g):=by unfold wH;simp only[yy]
  split at hk
  ·rename_i hq;obtain⟨hc,hn,v,hsc,hT,hK⟩:=hk
   have hT2:TC P g (gJ r args.toList) (view m al h) (λv1 h1=>v1=v/\h1=view m al h) :=
    (hT.quiet (λv1 _ e=>by rw[e];exact hsc)).mono (by rintro v1 h1 ⟨⟨_,e1⟩,e2⟩;exact⟨e1,e2⟩)
   obtain⟨y,hy⟩:=DX (q:=q) F ho hput (by rw[hkind,hq];rfl) hb1 hb2 hb3 hb4 (u:=v) (.inr ⟨hw,.inr (.inl ⟨.func g,args,ts,g,#[],#[],_,yy,ef,JM hl hn,hc,by simpa using hT2⟩)⟩);exact⟨v,v,h,y,bound,.inr rfl,hK,hy,hb5⟩
  ·rename_i hq;obtain⟨hc,hn,v,h2,hT,af,hK⟩:=hk;have hnx:h.next<=h2.next:=af.next
   obtain⟨y,hy⟩:=gx (q:=q) F ho hput (by rw[hkind,hq];rfl) (h1:=vz h h2) hnx rfl (λb hb=>by rw[vp];exact aaf hb) (u:=v)
    (.inr ⟨hw,.inr (.inl ⟨.func g,args,ts,g,#[],#[],_,yy,ef,JM hl hn,hc,by simpa using hT.fresh⟩)⟩) bound
   exact⟨v,v,_,y,bound,.inr rfl,hK,hy,hb5⟩
  ·rename_i hq;obtain⟨hn,hk⟩:=hk;obtain⟨v,h2,he,hK⟩:=ZX hk;obtain⟨f1,f2,f3⟩:=QV (WL he);obtain⟨y,hy⟩:=gx (q:=q) F ho hput (by rw[hkind,hq];rfl) f1 f2 f3 (u:=v) (.inr ⟨hw,.inr (.inr ⟨.func g,args,ts,g,#[],#[],_,yy,ef,JM hl hn,by simpa using he⟩)⟩) bound;exact⟨v,v,_,y,bound,.inr rfl,hK,hy,hb5⟩
  ·rename_i n2 n3 n4;obtain⟨hc,hn,hd⟩:=hk;obtain⟨v,h2,hK,af,hT⟩:=hd ⟨F.wf,hron⟩
   obtain⟨y,hy⟩:=gy (q:=q) F ho hput (by rw[hkind];unfold i6;split <;> first|rfl|(exfalso;simp_all)) af (u:=v)
    (.inr ⟨hw,.inr (.inl ⟨.func g,args,ts,g,#[],#[],_,yy,ef,JM hl hn,hc,by simpa using hT⟩)⟩) bound
   exact⟨v,v,_,y,bound,.inr rfl,hK,hy,hb5⟩
 ·rename_i f args ts hnf yy;unfold mG at hk;split at hk
  ·rename_i g a c hf;have ef:jF s f=some (.func (.func g) a c):=by rw[Y8 hl (x:=f) (by rw[hf];rfl),hf]
   obtain⟨hn0,hc,hn,hd⟩:=hk;obtain⟨v,h2,hK,af,hT⟩:=hd ⟨F.wf,hron⟩
   have hkind:wH q o=3:=by
    unfold wH;simp only[yy]
   obtain⟨y,hy⟩:=gy (q:=q) F ho hput hkind af (u:=v) (.inr ⟨hw,.inr (.inl ⟨f,args,ts,g,a,c,_,yy,ef,JM hl hn0,hc,hT⟩)⟩) bound;exact⟨v,v,_,y,bound,.inr rfl,hK,hy,hb5⟩
  ·exact hk.elim
 ·rename_i hn1 hn2;cases h1:Nat.beq (wH q o) 1 with
  |true=>
   rw[h1]at hk;have h1:=aal h1;obtain⟨v,u,h',he,hv,hK⟩:=kQ hl hk;obtain rfl:=cj h1 (WN he) he;obtain⟨y,hy⟩:=DX (q:=q) F ho hput h1 hb1 hb2 hb3 hb4 (u:=u) (.inr ⟨hw,.inl he⟩);exact⟨v,u,h,y,bound,hv,hK,hy,hb5⟩
  |false=>
   rw[h1]at hk;obtain⟨v,u,h',he,hv,hK⟩:=kQ hl hk;have hnc:=WN he
   have hkle:wH q o=0\/wH q o=1\/wH q o=2\/wH q o=3:=by
    unfold wH;split <;> (try simp)
    ·unfold i6;split <;> simp
    ·rename_i b _ _ _;cases WZ b <;> simp
   rcases hkle with h0'|h1'|h2'|h3'
   ·obtain⟨rfl,hany⟩:=lu h0' hnc he;obtain⟨y,hy⟩:=mZ (q:=q) F ho hput (u:=u) (.inr ⟨hw,.inl (hany _)⟩) bound;exact⟨v,u,h',y,bound,hv,hK,hy,hb5⟩
   ·rw[h1']at h1;cases h1
   ·obtain⟨f1,f2,f3⟩:=QV (oT h2' hnc he);obtain⟨y,hy⟩:=gx (q:=q) F ho hput h2' f1 f2 f3 (u:=u) (.inr ⟨hw,.inl he⟩) bound;exact⟨v,u,h',y,bound,hv,hK,hy,hb5⟩
   ·obtain⟨y,hy⟩:=gy (q:=q) F ho hput h3' (YK he).1 (u:=u) (.inr ⟨hw,.inl he⟩) bound;exact⟨v,u,h',y,bound,hv,hK,hy,hb5⟩
end
def Ku(q:FuncId->Nat):List yF->List (Nat×Nat)
 |[]=>[]
 |x::l=>cond (Nat.beq (wH q x.o) 2) ((x.j,x.g.next)::Ku q l) (Ku q l)
theorem Pl(q:FuncId->Nat)(A:List yF)(y:yF):Ku q (A++[y])=cond (Nat.beq (wH q y.o) 2) (Ku q A++[(y.j,y.g.next)]) (Ku q A):=by
 induction A with
 |nil=>simp only[abA,Ku]
 |cons x A ih=>
  simp only[acu,Ku,ih];cases Nat.beq (wH q x.o) 2 <;> cases Nat.beq (wH q y.o) 2 <;> rfl
theorem TR{q:FuncId->Nat}{A:List yF}{z:Nat×Nat}(h:z∈Ku q A):∃x,x∈A/\z=(x.j,x.g.next):=by
 induction A with
 |nil=>cases h
 |cons x A ih=>
  simp only[Ku]at h;cases hb:Nat.beq (wH q x.o) 2 with
  |true=>
   rw[hb]at h;rcases aaS.1 h with e|h
   ·exact⟨x,by simp,e⟩
   ·obtain⟨x',h1,h2⟩:=ih h;exact⟨x',by simp[h1],h2⟩
  |false=>rw[hb]at h;obtain⟨x',h1,h2⟩:=ih h;exact⟨x',by simp[h1],h2⟩
theorem zc7{q:FuncId->Nat}{m:Nat}:∀{A:List yF},(∀A1 x A2 y A3,A=A1++x::(A2++y::A3)->x.g.next<=y.g.next)->∀x,x∈A->wH q x.o=2->m.testBit x.j=false->∃n,firstFree m (Ku q A)=some n/\n<=x.g.next
 |[],_,x,hx,_,_=>by cases hx
 |z::A,hm,x,hx,hk,hb=>by
  have rest:x∈A->∃n,firstFree m (Ku q A)=some n/\n<=x.g.next:=λhx=>zc7 (λA1 x A2 y A3 e=>hm (z::A1) x A2 y A3 (by rw[e];rfl)) x hx hk hb;simp only[Ku];cases hz:Nat.beq (wH q z.o) 2 with
  |false=>
   simp only[aaw];rcases aaS.1 hx with rfl|hx
   ·rw[hk]at hz;cases hz
   ·exact rest hx
  |true=>
   simp only[aav,firstFree];cases hbz:m.testBit z.j with
   |true=>
    simp only[aav];rcases aaS.1 hx with rfl|hx
    ·rw[hb]at hbz;cases hbz
    ·exact rest hx
   |false=>
    simp only[aaw];refine⟨_,rfl,?_⟩;rcases aaS.1 hx with rfl|hx
    ·exact aaj _
    ·obtain⟨A1,A2,e⟩:=aaT hx;exact hm [] z A1 x A2 (by rw[e];rfl)
theorem PL{q:FuncId->Nat}{ops:Array Oper}{x y:yF}(hx:RP q x)(hy:RP q y)(hs:jS ops x.o y.o=true)(hp:MA (wH q x.o) (wH q y.o)=true)(hn:x.g.next<=y.g.next)
  (hb:wH q x.o=2->wH q y.o=1->∀b,y.rd b=true->b<x.g.next):pC ops x y:=by
 simp only[jS,aad]at hs;obtain⟨h1,h2⟩:=hs
 have d1:∀d,x.o.dst=some d->d∉y.o.looksAt ops/\y.o.dst≠some d:=by
  intro d hd;rw[hd]at h1;simp only[aad,aaq,aan,aaD]at h1;exact⟨h1.1,h1.2⟩
 have d2:∀d,y.o.dst=some d->d∉x.o.looksAt ops:=by
  intro d hd;rw[hd]at h2;simp only[aaq,aan,aaD]at h2;exact h2
 have ff:∀{b:Bool},b≠true->b=false:=λh=>by simpa using h
 simp only[MA,aaX,aad]at hp;rcases hp with((h|h)|⟨h,h'⟩)|⟨h,h'⟩
 ·have h:=aal h;have t:=hx.k1 (by omega);have r:=hx.k0 h;exact⟨d1,d2,λb hb=>(by rw[t b]at hb;cases hb),λb _=>r b⟩
 ·have h:=aal h;have t:=hy.k1 (by omega);have r:=hy.k0 h;exact⟨d1,d2,λb _=>⟨r b,t b⟩,λb hb=>by rw[t b]at hb;cases hb⟩
 ·have h:=aal h;have h':=aaE h';have t:=hx.k1 (by omega);refine⟨d1,d2,λb hb=>(by rw[t b]at hb;cases hb),λb hb=>ff (λhr=>?_)⟩;have l1:=hx.rd b hr;by_cases h2:wH q y.o=2
  ·have:=hy.k2 h2 b hb;omega
  ·rw[hy.k1 (by omega) b]at hb;cases hb
 ·have h:=aal h;have h':=aal h';have t:=hy.k1 (by omega);refine⟨d1,d2,λb hb'=>⟨ff (λhr=>?_),t b⟩,λb hb=>by rw[t b]at hb;cases hb⟩;have l1:=hx.k2 h b hb';have l2:=hb h h' b hr;omega
theorem MP{ops:Array Oper}{s0:Env}{h0:za}{A:List yF}{i:Nat}{s:Env}{h:za}(F:v9 P ops s0 h0 A i s h):∀A1 x A2 y A3,A=A1++x::(A2++y::A3)->x.g.next<=y.g.next:=by
 intro A1 x A2 y A3 e;have t1:=F.told A1 x _ e;have t2:=F.told (A1++x::A2) y A3 (by rw[e];simp);have:=t2.nA x (by simp);have:=t1.n1;omega
theorem zaW{q:FuncId->Nat}{ops:Array Oper}{s0:Env}{h0:za}(hro0:h0.ro<=h0.next):∀(l:List Oper) (i:Nat) (ms:List Nat) (A:List yF) (r s:Env) (h:za) {K:Env->za->Prop},
  ops.toList.drop i=l->i<=ops.size->aB ops ms->ms.length=i->v9 P ops s0 h0 A i s h->(∀x,x∈A->RP q x)->Yv ops l i ms (A.reverse.map λx=>(x.j,x.o))=true->Fl q l i ms (A.reverse.map λx=>(x.j,wH q x.o))=true ->
  Le r s->wpD P q ops l i ms (Ku q A) r h K->∃A' r' s' h',v9 P ops s0 h0 A' ops.size s' h'/\Le r' s'/\K r' h'/\Fr (UZ l) s s'/\AF h h'
 |[],i,ms,A,r,s,h,K,hl,hle,hm,hml,F,hrp,hst,hkd,hle1,hk=>by
  have:i=ops.size:=by
   have:=congrArg List.length hl;simp at this;omega
  subst this;exact⟨A,r,s,h,F,hle1,hk,.refl _ _,.refl _⟩
 |o::os,i,ms,A,r,s,h,K,hl,hle,hm,hml,F,hrp,hst,hkd,hle1,hk=>by
  have ho:ops[i]? = some o:=by
   have:=congrArg (λl=>l[0]?) hl;simp only[aaR,aaA]at this;simpa using this
  have hlt:i<ops.size:=by
   rcases aaN i ops.size with h|h
   ·exact h
   ·rw[aaI h]at ho;cases ho
  have hl':ops.toList.drop (i+1)=os:=by rw[<- ach,hl];rfl
  simp only[Yv,aad]at hst;obtain⟨⟨hedge,hslots⟩,hst⟩:=hst;simp only[Fl,aad]at hkd;obtain⟨hpair,hkd⟩:=hkd
  have hal:∀x,x∈Ku q A->x.2<=h.next:=λx hx=>by
   obtain⟨z,hz,rfl⟩:=TR hx;have:=F.nA z hz;obtain⟨A1,A2,e⟩:=aaT hz;have:=(F.told A1 z A2 e).n1;show z.g.next<=h.next;omega
  have go:∀(v u:aaa) (h1:za) (y:yF) (bound:Nat),(zS v=true\/v=u)->Next P q ops s0 h0 A i o s h u h1 bound y->(∀n,firstFree (yK ms o) (Ku q A)=some n->bound=n) ->
    (match r.put o.dst v with|some s1=>wpD P q ops os (i+1) (ms++[yK ms o]) (cond (Nat.beq (wH q o) 2) (Ku q A++[(i,h.next)]) (Ku q A)) s1 h1 K|none=>False) ->
    ∃A' r' s' h',v9 P ops s0 h0 A' ops.size s' h'/\Le r' s'/\K r' h'/\Fr (UZ (o::os)) s s'/\AF h h':=by
   intro v u h1 y bound hv N hbound hk;split at hk
   case h_2=>exact hk.elim
   rename_i r1 hp;obtain⟨s1,hp1,hl1⟩:=hle1.put hp hv
   have hs1:∀t,s1.get t=if o.dst=some t then u else s.get t:=by
    intro t;cases hd:o.dst with
    |none=>rw[hd]at hp1;simp only[Env.put,aab]at hp1;subst hp1;simp
    |some d=>
     rw[hd]at hp1;simp only[Env.put]at hp1;obtain⟨_,hp1⟩:=zA hp1;simp only[aab]at hp1;subst hp1;rw[Env.yJ];by_cases e:t=d
     ·subst e;simp
     ·rw[aaf e,aaf (by simp only[aab];exact λh=>e h.symm)]
   have hs1s:s1.size=s.size:=(Fr.put hp1).size;have hal2:(cond (Nat.beq (wH q o) 2) (Ku q A++[(i,h.next)]) (Ku q A))=Ku q (A++[y]):=by rw[Pl,N.yy,N.hj,N.gn]
   rw[hal2]at hk
   have F1:v9 P ops s0 h0 (A++[y]) (i+1) s1 h1:=by
    refine⟨?_,?_,hs1s.trans F.size,?_,N.ro.trans F.ro,aaW F.next N.next,?_,N.wf,?_,?_,?_⟩
    ·rw[abo,F.js,abG];simp[N.hj]
    ·intro t;rw[hs1,KB,N.yy,N.Co,F.env]
    ·intro b;rw[N.heap,bT,F.heap]
    ·intro x hx;rcases aaG.1 hx with hx|hx
     ·exact aaW (F.nA x hx) N.next
     ·simp only[aar]at hx;subst hx;exact N.Ih
    ·intro A1 r A2 e;rcases uh e with⟨_,rfl,rfl⟩|⟨A3,_,e3⟩
     ·exact N.told
     ·exact F.told A1 r A3 e3
    ·intro A1 r A2 e ed hed hb;rcases uh e with⟨_,rfl,rfl⟩|⟨A3,_,e3⟩
     ·rw[N.yy]at hed;simp only[aaB,aaX,aaq,aaO]at hedge;rcases hedge ed (by simpa using hed) with h2|h2
      ·rw[hb]at h2;cases h2
      ·have:ed.on∈A1.map (·.j):=(by rw[F.js];exact abf.2 h2);obtain⟨x,hx,hxj⟩:=aa4.1 this;exact⟨x,hx,hxj⟩
     ·exact F.UP A1 r A3 e3 ed hed hb
    ·intro A1 x A2 z A3 e;have e':A++[y]=(A1++x::A2)++z::A3:=by rw[e];simp
     rcases uh e' with⟨_,e1,rfl⟩|⟨A4,_,e3⟩
     ·have hxm:x∈A:=(by rw[<- e1];simp);simp only[aaB,aaX]at hpair hslots;rcases hslots (x.j,x.o) (aa4.2 ⟨x,by simpa using hxm,rfl⟩) with h2|h2
      ·rw[N.hj];exact .inl (qE hm ho h2)
      ·rcases hpair (x.j,wH q x.o) (aa4.2 ⟨x,by simpa using hxm,rfl⟩) with h3|h3
       ·rw[N.hj];exact .inl (qE hm ho h3)
       ·by_cases hbit:(yK ms o).testBit x.j=true
        ·rw[N.hj];exact .inl (qE hm ho hbit)
        ·simp only[ab3]at hbit;refine .inr (PL (q:=q) (hrp x hxm) N.rp (by rw[N.yy];exact h2) (by rw[N.yy];exact h3) ?_ ?_)
         ·have:=F.nA x hxm;obtain⟨B1,B2,eB⟩:=aaT hxm;have:=(F.told B1 x B2 eB).n1;rw[N.gn];omega
         ·intro k2 k1 b hrd;obtain⟨n,hn,hle2⟩:=zc7 (m:=yK ms o) (MP F) x hxm k2 hbit;have:=N.rb (by rw[<- N.yy];exact k1) b hrd;have:=hbound n hn;omega
     ·exact F.apart A1 x A2 z A4 (by rw[e3];simp)
   obtain⟨A',r',s',h',F',l',k',f',a'⟩:=zaW hro0 os (i+1) (ms++[yK ms o]) (A++[y]) r1 s1 h1 hl' hlt (VB hm hml ho) (by simp[hml]) F1
    (λx hx=>by rcases aaG.1 hx with hx|hx
               ·exact hrp x hx
               ·simp only[aar]at hx;subst hx;exact N.rp)
    (by simpa [N.hj,N.yy] using hst) (by simpa [N.hj,N.yy] using hkd) hl1 hk
   exact⟨A',r',s',h',F',l',k',(Fr.put hp1).left.trans f'.right,(N.af F).trans a'⟩
  have slot:∀{v:aaa} {h1:za} {al':List (Nat×Nat)},(match r.put o.dst v with|some s1=>wpD P q ops os (i+1) (ms++[yK ms o]) al' s1 h1 K|none=>False)->∀d,o.dst=some d->d<s.size:=by
   intro v h1 al' hk d hd;split at hk
   case h_2=>exact hk.elim
   rename_i r1 hp;rw[hd]at hp;simp only[Env.put]at hp;obtain⟨hb,_⟩:=zA hp;rw[<- hle1.size];simpa [aaO] using hb
  have hron:h.ro<=h.next:=by rw[F.ro];exact aaW hro0 F.next
  have dstok:∀{hv:za} {K':aaa->za->Prop},opD P q r o hv h K'->(∀v h1,K' v h1->∀d,o.dst=some d->d<s.size)->∀d,o.dst=some d->d<s.size:=by
   intro hv K' hk hs
   have fromA:∀{g:za} {K2:aaa->za->Prop},Ra P r o g K2->(∀v h1,K2 v h1->∀d,o.dst=some d->d<s.size)->∀d,o.dst=some d->d<s.size:=λhk hs=>by
    obtain⟨v,u,h',_,_,hK⟩:=kQ hle1 hk;exact hs v h' hK
   unfold opD at hk;split at hk
   ·split at hk
    ·obtain⟨_,_,v,_,_,hK⟩:=hk;exact hs _ _ hK
    ·obtain⟨_,_,v,h2,_,_,hK⟩:=hk;exact hs _ _ hK
    ·obtain⟨_,hk⟩:=hk;obtain⟨v,h2,_,hK⟩:=ZX hk;exact hs _ _ hK
    ·obtain⟨_,_,hd⟩:=hk;obtain⟨v,h2,hK,_⟩:=hd ⟨F.wf,hron⟩;exact hs _ _ hK
   ·unfold mG at hk;split at hk
    ·obtain⟨_,_,_,hd⟩:=hk;obtain⟨v,h2,hK,_⟩:=hd ⟨F.wf,hron⟩;exact hs _ _ hK
    ·exact hk.elim
   ·cases h1:Nat.beq (wH q o) 1 with
    |true=>rw[h1]at hk;exact fromA hk (λv _ q=>hs v _ q)
    |false=>rw[h1]at hk;exact fromA hk hs
  simp only[wpD]at hk;split at hk
  ·rename_i hg;obtain⟨v,u,h1,y,bound,hv,hK,N,hb⟩:=IG F hron ho (dstok hk (λv h1 hK=>slot hK)) (by simp only[yD,hg]) hle1 hal hk;exact go v u h1 y bound hv N hb hK
  ·rename_i j want hg;split at hk
   ·exact hk.elim
   ·rename_i d hdst;unfold GD at hk;split at hk
    ·rename_i b hb
     have hs:s.get d=.bool b:=by
      rcases hle1.get d with e|e
      ·rw[hb]at e;cases e
      ·rw[<- e,hb]
     have haw:yD ops s o=(b == want):=(by simp only[yD,hg,hdst,hs]);by_cases hbw:b=want
     ·have hk:=hk.1 hbw;obtain⟨v,u,h1,y,bound,hv,hK,N,hb⟩:=IG F hron ho (dstok hk (λv h1 hK=>slot hK)) (by rw[haw,hbw];simp) hle1 hal hk;exact go v u h1 y bound hv N hb hK
     ·have hk:=hk.2 hbw;obtain⟨bound,_,_,_,_,hb5⟩:=gH (m:=yK ms o) F.wf hal;obtain⟨y,N⟩:=mZ (q:=q) F ho (slot hk) (u:=undef) (.inl ⟨by rw[haw];simpa using hbw,rfl,rfl⟩) bound;exact go undef undef h y bound (.inr rfl) N hb5 hk
    ·exact hk.elim
    ·rename_i n1 n2
     have hs:s.get d=r.get d:=by
      rcases hle1.get d with e|e
      ·obtain⟨k,p,q,e2⟩:=Wo e;exact absurd e2 (n2 k p q)
      ·exact e.symm
     have haw:yD ops s o=false:=by
      simp only[yD,hg,hdst,hs]
     obtain⟨bound,_,_,_,_,hb5⟩:=gH (m:=yK ms o) F.wf hal;obtain⟨y,N⟩:=mZ (q:=q) F ho (slot hk) (u:=undef) (.inl ⟨haw,rfl,rfl⟩) bound;exact go undef undef h y bound (.inr rfl) N hb5 hk
theorem H6{q:FuncId->Nat}(hmix:P.follows .mixedOrders=true):ay P (pb P q):=by
 intro ops r s h K rd id hle wf hk;unfold pb at hk;cases hc:calm q ops with
 |false=>rw[hc]at hk;exact hk.elim
 |true=>
  rw[hc]at hk;have hk:wpD P q ops ops.toList 0 [] [] r h K:=hk;simp only[calm,aad]at hc
  have F0:v9 P ops s h ([]:List yF) 0 s h:=⟨rfl,λt=>rfl,rfl,λb=>rfl,rfl,aaj _,λx hx=>(by cases hx),wf.1,
   λA1 r A2 e=>by simp at e,λA1 r A2 e=>by simp at e,λA1 x A2 y A3 e=>by simp at e⟩
  obtain⟨A,r',s',h',F,hl',hK,hf,af⟩:=zaW wf.2 ops.toList 0 [] [] r s h rfl (aaP _) (λk q hq=>by simp at hq) rfl F0 (λx hx=>(by cases hx)) hc.1 hc.2 hle hk
  have V:Valid P ops s h A:=⟨by rw[F.js];exact acs,λi hi=>by
    have:i∈A.map (·.j):=(by rw[F.js];exact abf.2 hi);obtain⟨r,hr,hj⟩:=aa4.1 this;exact⟨r,hr,hj⟩,F.told,F.UP,F.apart⟩
  exact⟨r',s',h',hl',hK,hf,af,VY hmix V F.env F.size F.heap F.ro F.next F.nA (Q:=λe s1 h1=>e=.normal/\s1=s'/\h1=h') ⟨rfl,rfl,rfl⟩⟩
theorem gK{q:FuncId->Nat}(hmix:P.follows .mixedOrders=true){n:Nat}{f:FuncId}{args:List aaa}{h:za}{R:aaa->za->Prop}(hk:wpF P (pb P q) n f args h R):DC P f args h R:=Cu (H6 hmix) hk
theorem DC.mono{f:FuncId}{args:List aaa}{h:za}{R R':aaa->za->Prop}(d:DC P f args h R)(m:∀v h1,R v h1->R' v h1):DC P f args h R':=λwf=>by
 obtain⟨v,h1,a,b,c⟩:=d wf;exact⟨v,h1,m v h1 a,b,c⟩
theorem YZ{f:FuncId}{args:List aaa}{h:za}{R:aaa->za->Prop}(ht:vQ h->DC P f args h R):DC P f args h R:=λwf=>ht wf wf
theorem DC.tc{f:FuncId}{args:List aaa}{h:za}{R:aaa->za->Prop}(d:DC P f args h R):TC P f args h R:=by
 intro ρ w cargs hr hv;obtain⟨v,h1,hR,_,t⟩:=d ⟨λb o hb=>hr.ar b o hb,hr.ro⟩;exact(t.mono (by rintro v2 h2 ⟨rfl,rfl⟩;exact hR)) ρ w cargs hr hv
end
noncomputable section
variable {P:Program}
theorem yN{α:Sort _}{a b:α}(h:a=b):a=b:=h
theorem zc3{p:Prop}[Decidable p](h:p):decide p=true:=aa0 h
theorem zc2{p:Prop}[Decidable p](h:¬p):decide p=false:=aaY h
def zu(h:za)(b off:Nat):Option aaa:=match h.get b with
 |some (.cells c _)=>c[off]?
 |_=>none
def qQ(h:za)(b off n:Nat):Option aaa:=match h.get b with
 |some (.cells c _)=>if off+n<=c.length then some (.agg ((c.drop off).take n).toArray) else none
 |_=>none
def Eo(h:za)(b off:Nat)(vs:List aaa):Option za:=match h.get b with
 |some (.cells c t)=>if off+vs.length<=c.length/\h.ro<=b/\vs.all wG=true then some (h.set b (some (.cells (zp c off vs) t))) else none
 |_=>none
theorem Vv{α:Type}{b:Bool}{p:Prop}[Decidable p]{x y:α}(h:b=true ↔ p):cond b x y=if p then x else y:=by
 by_cases hp:p
 ·rw[aai hp,h.2 hp];rfl
 ·rw[aaf hp,show b=false by simpa using λe=>hp (h.1 e)];rfl
theorem YJ{t:TypeId}(ha:z9 P (isAgg t)=some false)(b off:Nat)(h:za):zf P t (.pointer (some ⟨b,off,none⟩)) h=zu h b off:=by
 unfold zf zu;simp only[ha];cases h.get b with
 |none=>rfl
 |some o=>cases o <;> rfl
theorem Kw{t:TypeId}{n:Nat}(ha:z9 P (isAgg t)=some true)(hn:z9 P (sizeOf t)=some n)(b off:Nat)(h:za):zf P t (.pointer (some ⟨b,off,none⟩)) h=qQ h b off n:=by
 unfold zf qQ;simp only[ha,hn];cases h.get b with
 |none=>rfl
 |some o=>
  cases o <;> simp only[];rw[Vv (p:=off+n<=_) (by rw[abY])]
theorem An{t:TypeId}{n:Nat}(hn:z9 P (sizeOf t)=some n)(b off:Nat)(v:aaa)(h:za)(hv:v.cells.size=n):uv P t (.pointer (some ⟨b,off,none⟩)) v h=Eo h b off v.cells.toList:=by
 unfold uv Eo;simp only[hn];cases h.get b with
 |none=>rfl
 |some o=>
  cases o <;> simp only[];refine Vv ?_;simp only[aad,abY,aco,abh,hv,true_and,and_assoc]
theorem WO{t:TypeId}(hn:z9 P (sizeOf t)=some 1)(b off:Nat)(v:aaa)(h:za)(hv:v.cells = #[v]):uv P t (.pointer (some ⟨b,off,none⟩)) v h=Eo h b off [v]:=by
 rw[An hn b off v h (by rw[hv];rfl),hv]
theorem UL{t:TypeId}{n:Nat}(hn:z9 P (sizeOf t)=some n)(b off:Nat)(l:List aaa)(h:za)(hv:l.length=n):uv P t (.pointer (some ⟨b,off,none⟩)) (.agg l.toArray) h=Eo h b off l:=by
 rw[An hn b off _ h (by simpa [Value.cells] using hv)];rfl
theorem YH{t e:TypeId}{n:Nat}(hu:z9 P (underlying t)=some (.slice e))(hn:z9 P (sizeOf e)=some n){b off len c:Nat}{k:IntKind}{i:Int} :
  vf P t (.slice (some ⟨b,off,none⟩) len c) (.int k i)=if 0<=i/\i<len then some (.pointer (some ⟨b,off+i.toNat*n,none⟩)) else none:=by
 unfold vf;simp only[hu,hn];exact Vv (by simp)
theorem Qx{d m:Nat}:qf none d m=some d:=yN rfl
theorem UE{k:IntKind}{i:Int}{d m:Nat}:qf (some (.int k i)) d m=if 0<=i/\i<=m then some i.toNat else none:=Vv (by simp)
theorem lp:pJ none=true:=yN rfl
theorem lq{v:aaa}(h:zS v=false):pJ (some v)=true:=by simp only[pJ,h,ab7]
theorem Pq{t e:TypeId}{n:Nat}(hu:z9 P (underlying t)=some (.slice e))(hn:z9 P (sizeOf e)=some n){b off len c:Nat}{lo hi:Option aaa}{h:za} :
  Dr P t (.slice (some ⟨b,off,none⟩) len c) lo hi h=(qf hi len len).bind λhh=>(qf lo 0 hh).bind λl=>some (.slice (some ⟨b,off+l*n,none⟩) (hh-l) (cond (wide P h b n) (UO c l) 0)):=by
 simp only[Dr,mD,hu,hn];cases qf hi len len with
 |none=>rfl
 |some hh=>
  simp only[abg];cases qf lo 0 hh <;> rfl
theorem za3{t e:TypeId}{n:Nat}(hu:z9 P (underlying t)=some (.slice e))(hn:z9 P (sizeOf e)=some n){c:Nat}{lo hi:Option aaa}{h:za} :
  Dr P t (.slice none 0 c) lo hi h=(qf hi 0 0).bind λhh=>(qf lo 0 hh).bind λl=>some (.slice none 0 0):=by
 simp only[Dr,mD,hu,hn];cases qf hi 0 0 with
 |none=>rfl
 |some hh=>
  simp only[abg];cases qf lo 0 hh <;> rfl
def OU(P:Program)(t:TypeId):Option (Nat×Nat):=(z9 P (typeInfo t)).map λi=>(i.size,i.bytes)
theorem HJ{t e:TypeId}{z:aaa}{zs:List aaa}{n bytes:Nat}(hu:z9 P (underlying t)=some (.slice e))(hs:OU P e=some (n,bytes))(hz:Y7 P e=some z)(hzs:z.cells.toList=zs)(hn:0<n)(hb:bytes<=65536)(hl:zs.length=n)
  {k k2:IntKind} {l c:Int} {h:za} (h0:0<=l) (h1:l<=c) (h2:c<2^31):Wh P t (.int k l) (.int k2 c) h=some (.slice (some ⟨h.next,0,none⟩) l.toNat (c.toNat+2),h.push (.cells (Yx zs (c.toNat*n)) e)):=by
 unfold OU at hs;simp only[aas,aae]at hs;obtain⟨i,hi,rfl,rfl⟩:=hs;unfold Wh;simp only[hu,hi,hz];have w:∀n:Int,0<=n->n<2^31->IntKind.i64.wrap n=n:=λn p q=>by simp only[IntKind.wrap,IntKind.bits,IntKind.signed];simp;omega
 have hm:(i.bytes:Int)*c<=2^48:=by
  have:(i.bytes:Int)*c<=65536*c:=Int.mul_le_mul_of_nonneg_right (by omega) (by omega);omega
 have hz2:z.cells.size=i.size:=by rw[<- hl,<- hzs];simp
 rw[show(decide (IntKind.i64.wrap l=l)&&decide (IntKind.i64.wrap c=c)&&decide (0<=l)&&decide (l<=c)&&decide ((i.bytes:Int)*c<=2^48)&&Nat.beq z.cells.size i.size&&Nat.blt 0 i.size)=true by
  simp only[aad,aaF,aco,aaO];exact⟨⟨⟨⟨⟨⟨w l h0 (by omega),w c (by omega) h2⟩,h0⟩,h1⟩,hm⟩,hz2⟩,hn⟩]
 simp only[aav,hzs]
def UJ(h:za)(elem size bytes n:Nat)(new:List aaa)(s:aaa):Option (aaa×za):=match s with
 | .slice none 0 0=>if n=0 then some (.slice none 0 0,h) else if n*bytes<=2^48 then some (.slice (some ⟨h.next,0,none⟩) n 1,h.push (.cells new elem)) else none
 | .slice (some ⟨b,off,none⟩) len c=>if n=0 then some (s,h) else (match h.get b with
   |some (.cells cs t)=>if c≠0/\t=elem/\h.ro<=b/\off+len*size<=cs.length/\roomFor c (len+n) bytes=true/\off%size=0 then
     some (.slice (some ⟨h.next,0,none⟩) (len+n) (ux c (len+n)),(h.set b none).push (.cells (((cs.drop off).take (len*size))++new) elem)) else none
   |_=>none)
 |_=>none
theorem dt{sT xT e e2:TypeId}{size bytes:Nat}(h1:z9 P (underlying sT)=some (.slice e))(h2:z9 P (underlying xT)=some (.slice e2))(hs:OU P e=some (size,bytes))(hz:(Y7 P e).map (λz=>z.cells.size)=some size)(hb:0<bytes)
  {r:TypeId} {v x:aaa} {n:Nat} {new:List aaa} {h:za} (hn:Kv x=some n) (hf:kh h n size x=some new) (hc:new.all wG=true) (hl:new.length=n*size) :
  zB P .append [sT,xT] r [v,x] h=UJ h e size bytes n new v:=by
 unfold OU at hs;simp only[aas,aae]at hs hz;obtain⟨i,hi,rfl,rfl⟩:=hs;obtain⟨z,hz,hz2⟩:=hz;simp only[zB,Qw,h1,h2,hn,hi,hz,hf]
 rw[show(!mT (TypeDesc.slice e2)&&Nat.blt 0 i.bytes&&Nat.beq z.cells.size i.size&&new.all wG&&Nat.beq new.length (n*i.size))=true by
  simp only[aad,aco,aaO];exact⟨⟨⟨⟨rfl,hb⟩,hz2⟩,hc⟩,hl⟩]
 simp only[aav];unfold Kr UJ;split
 ·exact(Vv (p:=n=0) (by simp)).trans (by
   by_cases h0:n=0
   ·rw[aai h0];exact(aai h0).symm
   ·rw[aaf h0];exact(Vv (p:=n*i.bytes<=2^48) (by simp)).trans (aaf h0).symm)
 ·rename_i b off len c;refine(Vv (p:=n=0) (by simp)).trans ?_;by_cases h0:n=0
  ·rw[aai h0];exact(aai h0).symm
  ·rw[aaf h0];refine Eq.trans ?_ (aaf h0).symm;cases hg:h.get b with
   |none=>rfl
   |some o=>
    cases o with
    |cells cs t=>
     refine Vv ?_;simp only[aad,aaq,aco,abY,ab5,and_assoc];refine and_congr ?_ (Iff.rfl);rw[<- ab3,aco]
    |_=>rfl
 ·rename_i q1 q2;split
  ·exact(q1 rfl).elim
  ·exact(q2 _ _ _ _ rfl).elim
  ·rfl
section heaps
variable {h:za}{b c off n:Nat}{cs:List aaa}{t:TypeId}{o:vr}
theorem zaQ(hb:h.get b=some (.cells cs t))(off:Nat)(vs:List aaa):Eo h b off vs=if off+vs.length<=cs.length/\h.ro<=b/\vs.all wG=true then some (h.set b (some (.cells (zp cs off vs) t))) else none:=by simp only[Eo,hb]
theorem wt:(h.push o).get h.next=some o:=by rw[za.vY,aai rfl]
theorem pd(hb:b=h.next):(h.push o).get b=some o:=by rw[za.vY,aai hb]
theorem yq(hb:b<h.next):(h.push o).get b=h.get b:=by rw[za.vY,aaf (by omega)]
theorem YN{x:Option vr}:(h.set b x).get b=x:=by rw[za.yJ,aai rfl]
theorem q9{x:Option vr}(hb:¬c=b):(h.set b x).get c=h.get c:=by rw[za.yJ,aaf hb]
theorem KF(h:za)(b:Nat):h.lock.get b=h.get b:=yN rfl
theorem DW(h:za):h.lock.next=h.next:=yN rfl
theorem OM(h:za):h.lock.ro=h.next:=yN rfl
theorem Bz(h:za)(o:vr):(h.push o).next=h.next+1:=yN rfl
theorem OB(h:za)(b:Nat)(o:Option vr):(h.set b o).next=h.next:=yN rfl
theorem IS(h:za)(o:vr):(h.push o).ro=h.ro:=yN rfl
theorem ON(h:za)(b:Nat)(o:Option vr):(h.set b o).ro=h.ro:=yN rfl
theorem TQ{a n k:Nat}(h:a<n):(a<n+k)=True:=by simp;omega
theorem Oq{n:Nat}:(n<n+1)=True:=by simp
end heaps
section numbers
variable {t:TypeId}{x y:Operand}{k k':IntKind}{a b:Int}
theorem qp{v:aaa}{op:BinOp}{p q:aaa}(h:St P op t x y p q=some v):zM P op t x y p q=some v:=by unfold zM;rw[h]
theorem zcQ:zM P .lss t x y (.int k a) (.int k b)=some (.bool (decide (a<b))):=qp (by cases k <;> rfl)
theorem zcP:zM P .leq t x y (.int k a) (.int k b)=some (.bool (decide (a<=b))):=qp (by cases k <;> rfl)
theorem zcO:zM P .gtr t x y (.int k a) (.int k b)=some (.bool (decide (b<a))):=qp (by cases k <;> rfl)
theorem zcN:zM P .geq t x y (.int k a) (.int k b)=some (.bool (decide (b<=a))):=qp (by cases k <;> rfl)
theorem zcM:zM P .eql t x y (.int k a) (.int k b)=some (.bool (decide (a=b))):=qp (by cases k <;> rfl)
theorem zcS:zM P .neq t x y (.int k a) (.int k b)=some (.bool (!decide (a=b))):=qp (by cases k <;> rfl)
theorem zcK:zM P .add t x y (.int k a) (.int k b)=some (.int k (k.wrap (a+b))):=qp (by cases k <;> rfl)
theorem zcX:zM P .sub t x y (.int k a) (.int k b)=some (.int k (k.wrap (a-b))):=qp (by cases k <;> rfl)
theorem zcR:zM P .mul t x y (.int k a) (.int k b)=some (.int k (k.wrap (a*b))):=qp (by cases k <;> rfl)
theorem zcT(hb:¬b=0):zM P .quo t x y (.int k a) (.int k b)=some (.int k (k.wrap (a.tdiv b))):=by
 refine qp ?_;have:z9 P (Op.intDiv .quo k a b)=some (.int k (k.wrap (a.tdiv b))):=by unfold Op.intDiv;rw[aaf hb];rfl
 cases k <;> (show fl (z9 P (Op.intDiv .quo _ a b))=_;rw[this];rfl)
theorem zcU(hb:¬b=0):zM P .rem t x y (.int k a) (.int k b)=some (.int k (a.tmod b)):=by
 refine qp ?_;have:z9 P (Op.intDiv .rem k a b)=some (.int k (a.tmod b)):=by unfold Op.intDiv;rw[aaf hb];rfl
 cases k <;> (show fl (z9 P (Op.intDiv .rem _ a b))=_;rw[this];rfl)
theorem zcL:zM P .and t x y (.int k a) (.int k b)=some (.int k (k.wrap (BitVec.ofInt k.bits a &&& BitVec.ofInt k.bits b).toNat)):=qp (by cases k <;> rfl)
theorem ze5:zM P .or t x y (.int k a) (.int k b)=some (.int k (k.wrap (BitVec.ofInt k.bits a ||| BitVec.ofInt k.bits b).toNat)):=qp (by cases k <;> rfl)
theorem zcY:zM P .xor t x y (.int k a) (.int k b)=some (.int k (k.wrap (BitVec.ofInt k.bits a ^^^ BitVec.ofInt k.bits b).toNat)):=qp (by cases k <;> rfl)
theorem HQ:zM P .andNot t x y (.int k a) (.int k b)=some (.int k (k.wrap (BitVec.ofInt k.bits a &&& ~~~BitVec.ofInt k.bits b).toNat)):=qp (by cases k <;> rfl)
theorem zcV(hb:0<=b):zM P .shl t x y (.int k a) (.int k' b)=some (.int k (k.wrap (a*2^(min b.toNat k.bits)))):=by
 refine qp ?_;have:z9 P (Op.shift .shl k a k' b)=some (.int k (k.wrap (a*2^(min b.toNat k.bits)))):=by unfold Op.shift;rw[aaf (by omega)];rfl
 show fl (z9 P (Op.shift .shl k a k' b))=_;rw[this];rfl
theorem zcW(hb:0<=b):zM P .shr t x y (.int k a) (.int k' b)=some (.int k (a.fdiv (2^(min b.toNat k.bits)))):=by
 refine qp ?_;have:z9 P (Op.shift .shr k a k' b)=some (.int k (a.fdiv (2^(min b.toNat k.bits)))):=by unfold Op.shift;rw[aaf (by omega)];rfl
 show fl (z9 P (Op.shift .shr k a k' b))=_;rw[this];rfl
theorem zdg{c:Bool}:Dt P .not (.bool c)=some (.bool (!c)):=yN rfl
theorem zdf:Dt P .neg (.int k a)=some (.int k (k.wrap (0-a))):=by cases k <;> rfl
end numbers
section nils
variable {t e:TypeId}{x y:Operand}
end nils
theorem KO{α β:Type}(s:Sem α)(f:α->Sem β):z9 P (s >>= f)=(z9 P s).bind λa=>z9 P (f a):=by
 induction s with
 |pure a=>rfl
 |program k ih=>exact ih P
 |_=>rfl
theorem KP{α:Type}(a:α):z9 P (Pure.pure a:Sem α)=some a:=rfl
def eqF(P:Program)(d:Nat)(xs ys:Array aaa):List Field->Option Bool
 |[]=>some true
 |f::fs=>if f.name ≠ "_" then (match z9 P (part f.type xs f.offset),z9 P (part f.type ys f.offset) with
  |some a,some b=>(match z9 P (Op.equalIn d f.type a b) with
   |some r=>cond r (eqF P d xs ys fs) (some false)
   |none=>none)
  |_,_=>none) else eqF P d xs ys fs
theorem lH{d:Nat}{t:TypeId}{xs ys:Array aaa}{fs:Array Field}(hu:P.underlying t=some (.struct fs))(hp:P.stoodInHeld t=false) :
  z9 P (Op.equalIn (d+1) t (.agg xs) (.agg ys))=eqF P d xs ys fs.toList:=by
 have h2:z9 P program=some P:=rfl
 have h1:z9 P (underlying t)=some (.struct fs):=by
  unfold underlying;simp only[KO,h2,abg,hu];rfl
 simp only[Op.equalIn,KO,h1,h2,abg,hp,abb,abS];rw[<- Array.forIn_toList];generalize fs.toList=l;clear hu h1
 induction l with
 |nil=>rfl
 |cons f l ih=>
  simp only[List.forIn_cons,eqF,KO]at ih ⊢;by_cases hn:f.name ≠ "_"
  ·rw[aai hn,aai hn];simp only[KO];cases z9 P (part f.type xs f.offset) with
   |none=>rfl
   |some a=>
    cases z9 P (part f.type ys f.offset) with
    |none=>rfl
    |some b=>
     simp only[abg];cases z9 P (Op.equalIn d f.type a b) with
     |none=>rfl
     |some r=>
      cases r
      ·simp only[abg,ab7,abM,KP];rfl
      ·simp only[abg,Bool.not_true,abb,abS,KP];exact ih
  ·rw[aaf hn,aaf hn];simp only[KP,abg];exact ih
theorem EF{t:TypeId}{x y:Operand}{xs ys:Array aaa}{fs:Array Field}{r:Bool}(hu:P.underlying t=some (.struct fs))(hp:P.stoodInHeld t=false)(hg:P.eqGuardType P.depth t=false)(hx:flat (.agg xs)=true)(hy:flat (.agg ys)=true)
  (hr:eqF P 9999 xs ys fs.toList=some r):zM P .eql t x y (.agg xs) (.agg ys)=some (.bool r)/\zM P .neq t x y (.agg xs) (.agg ys)=some (.bool (!r)):=by
 have he:z9 P (Op.equal t (.agg xs) (.agg ys))=some r:=(lH hu hp).trans hr
 have hgd:∀op:BinOp,z9 P (eqGuard op t x y (.agg xs) (.agg ys))=some ():=by
  intro op;have h2:z9 P program=some P:=rfl;cases op <;> simp[eqGuard,KO,h2,hg,KP]
 constructor <;> refine qp ?_ <;> unfold St <;> rw[hx,hy] <;> simp only[acp,aav,KO,hgd,abg,binOp,he,KP] <;> rfl
section
theorem IA{b}:zS (.bool b)=false:=yN rfl
theorem Oy{k n}:zS (.int k n)=false:=yN rfl
theorem Bv{s}:zS (.string s)=false:=yN rfl
theorem OA{a}:zS (.pointer a)=false:=yN rfl
theorem DZ{a n c}:zS (.slice a n c)=false:=yN rfl
theorem Oz{a}:zS (.map a)=false:=yN rfl
theorem IB{f a c}:zS (.func f a c)=false:=yN rfl
theorem IC:zS .nilFunc=false:=yN rfl
theorem DY{t v}:zS (.iface t v)=false:=yN rfl
theorem ID:zS .nilIface=false:=yN rfl
theorem Ox{a}:zS (.agg a)=false:=yN rfl
theorem D0{a}:zS (.tuple a)=false:=yN rfl
theorem HZ{b}:wG (.bool b)=true:=yN rfl
theorem N1{k n}:wG (.int k n)=true:=yN rfl
theorem AE{s}:wG (.string s)=true:=yN rfl
theorem N3{a}:wG (.pointer a)=true:=yN rfl
theorem DF{a n c}:wG (.slice a n c)=true:=yN rfl
theorem N2{a}:wG (.map a)=true:=yN rfl
theorem H0{f a c}:wG (.func f a c)=true:=yN rfl
end
theorem D1:yi []=true:=yN rfl
theorem Bx{v:aaa}{l:List aaa}(h:zS v=false):yi (v::l)=yi l:=by simp only[yi,h,aaw]
theorem JP{α:Type}(x:Option α):nb [] x=x:=yN rfl
theorem ZW{α:Type}{v:aaa}{l:List aaa}{x:Option α}(h:zS v=false):nb (v::l) x=nb l x:=by simp only[nb,yi,h,aaw]
theorem MU{A B J}:CD (.bool true) A B J=A J:=yN rfl
theorem FV{A B J}:CD (.bool false) A B J=B J:=yN rfl
theorem RM{b want:Bool}{A K h}(e:b=want):GD (.bool b) want A K h=A K:=by
 apply propext;constructor
 ·intro g;exact g.1 e
 ·intro g;exact⟨λ_=>g,λne=>absurd e ne⟩
theorem RJ{b want:Bool}{A K h}(e:¬b=want):GD (.bool b) want A K h=K undef h:=by
 apply propext;constructor
 ·intro g;exact g.2 e
 ·intro g;exact⟨λe'=>absurd e' e,λ_=>g⟩
theorem zcv{w A K h}:GD undef w A K h=K undef h:=yN rfl
theorem zcu{A K h}:GD (.bool true) true A K h=A K:=RM rfl
theorem zcr{A K h}:GD (.bool false) false A K h=A K:=RM rfl
theorem zct{A K h}:GD (.bool true) false A K h=K undef h:=RJ (by simp)
theorem zcs{A K h}:GD (.bool false) true A K h=K undef h:=RJ (by simp)
theorem OF{a b:aaa}(h:zS a=false):pk (.bool true) a b=some a:=by simp only[pk,ZW h,JP]
theorem II{a b:aaa}(h:zS b=false):pk (.bool false) a b=some b:=by simp only[pk,ZW h,JP]
theorem Ov(a:Addr):nck (.pointer (some a))=some (.pointer (some a)):=yN rfl
theorem Ao{vs:Array aaa}{i:Nat}(h:yi vs.toList=true):ak (.tuple vs) i=vs[i]?:=by simp only[ak,nb,h,aav]
theorem SP{a b:aaa}(ha:zS a=false)(hb:zS b=false):ak (.tuple #[a,b]) 0=some a:=(Ao (by simp only[yi,ha,hb,aaw])).trans rfl
theorem SQ{a b:aaa}(ha:zS a=false)(hb:zS b=false):ak (.tuple #[a,b]) 1=some b:=(Ao (by simp only[yi,ha,hb,aaw])).trans rfl
theorem zau{v:aaa}{h R}(hb:zS v=false):rv [v] h R=R v h:=by
 apply propext;simp only[rv,yi,hb,aaw,vB,true_and]
theorem zav{v w:aaa}{h R}(hb:zS v=false)(hc:zS w=false):rv [v,w] h R=R (.tuple #[v,w]) h:=by
 apply propext;simp only[rv,yi,hb,hc,aaw,vB,true_and]
theorem Ax{g:FuncId}{args:List aaa}{h:za}{K R:aaa->za->Prop}(hc:wA P g=true)(hn:yi args=true)(hT:DC P g args h R)(hk:∀v h1,R v h1->K v h1):zF P (.func (.func g) #[] #[]) args h K :=
 ⟨hn,by simpa using hn,.inl ⟨hc,by simpa using hT.mono hk⟩⟩
theorem SZ{g:FuncId}{args:List aaa}{h:za}{K R:aaa->za->Prop}(hc:wA P g=true)(hn:yi args=true)(hT:DC P g args h R)(hk:∀v h1,R v h1->K v h1):oZ P g args h K :=
 ⟨hc,hn,hT.mono hk⟩
theorem qo{step:List aaa->za->(List aaa->za->Prop)->Prop}(I:Nat->List aaa->za->Prop)(n:Nat){vs:List aaa}{h:za}(h0:I n vs h)
  (hs:∀n vs h,I n vs h->step vs h (λvs' h'=>∃m,m<n/\I m vs' h')):LP step vs h:=⟨I,n,h0,hs⟩
def vt(P:Program)(f:FuncId)(args:List aaa)(h:za)(v:aaa):Prop:=nc v=true/\TC P f args h.lock (λv1 _=>v1=v)
theorem vt.dc{f:FuncId}{args:List aaa}{h:za}{v:aaa}(q:vt P f args h v):DC P f args h (λv1 h1=>v1=v/\h1=h):=λ_=>
 ⟨v,h,⟨rfl,rfl⟩,.refl _,(q.2.quiet (λv1 _ e=>by rw[e];exact q.1)).mono (by rintro v1 h1 ⟨⟨_,e1⟩,e2⟩;exact⟨e1,e2⟩)⟩
theorem vt.of{f:FuncId}{args:List aaa}{h:za}{v:aaa}(hs:nc v=true)(d:DC P f args h.lock (λv1 _=>v1=v)):vt P f args h v:=⟨hs,d.tc⟩
theorem NM{g:FuncId}{args:List aaa}{h:za}{K:aaa->za->Prop}{v:aaa}(hc:wA P g=true)(hn:yi args=true)(hq:vt P g args h v)(hk:K v h):zF P (.func (.func g) #[] #[]) args h K :=
 Ax hc hn hq.dc (by rintro v1 h1 ⟨rfl,rfl⟩;exact hk)
theorem NL{g:FuncId}{args:List aaa}{h:za}{K:aaa->Prop}{v:aaa}(hc:wA P g=true)(hn:yi args=true)(hq:vt P g args h v)(hk:K v):qt P g args h K :=
 ⟨hc,hn,v,hq.1,hq.2,hk⟩
end
end Go.Ai
