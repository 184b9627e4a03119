/- A part of the proof. -/
import Derived.Test.YtfhacoddmpbgnaaGreatDoorTN
import Derived.Test.YtfhacoddmpbgnaaGreatDoorTL
import Derived.Test.YtfhacoddmpbgnaaGreatDoorTM
import Derived.Test.YtfhacoddmpbgnaaGreatDoorChecked
import Derived.KernelRfl
import Derived.Test.YtfhacoddmpbgnaaGreatDoorTH
import Derived.Test.YtfhacoddmpbgnaaGreatDoorTI
import Derived.Test.YtfhacoddmpbgnaaGreatDoorTJ
set_option linter.unusedVariables false
set_option linter.unusedSimpArgs false
set_option maxRecDepth 100000
namespace Go.Rm
open Go.Ai Go.Proofs Go.Mem
open Go.Rtl (xG Pg zB)
theorem Nx{M:MM}{B:MB}(h:small M)(hb:B.size<2147483648):small (M++[B]):=λi C hC=>by
 rw[ab9]at hC;split at hC
 ·exact h i C hC
 ·cases hq:i-M.length with
  |zero=>rw[hq]at hC;simp at hC;subst hC;exact hb
  |succ k=>rw[hq]at hC;simp at hC
def vb(v:V):Prop:=wg v.b
theorem Vk:wg 0:=⟨by decide,by decide⟩
theorem rI:vb v0:=Vk
theorem EW(n:Int):vb (u6 n):=Vk
theorem LC{b n:Int}(h:wg b):vb (sO b n):=by
 unfold sO;split
 ·exact Vk
 ·exact h
theorem LD(t:Bool):vb (qN t):=by unfold qN;split <;> exact Vk
theorem zfc{c:Prop}[Decidable c]{x y:Option V}{v:V}(hx:x=some v->vb v)(hy:y=some v->vb v):(if c then x else y)=some v->vb v:=by
 intro h;by_cases hc:c
 ·rw[aai hc]at h;exact hx h
 ·rw[aac hc]at h;exact hy h
theorem zdb{op a b:Int}{v:V}(h:ub op a b=some v):vb v:=by
 revert h
 unfold ub
 repeat' apply zfc
 all_goals intro h
 all_goals first
  |(cases h;done)
  |(have e:=abN h;rw[<- e];first|exact EW _|exact LD _)
theorem zb5{op:Int}{a b v:V}(ha:vb a)(hb:vb b)(h:yF op a b=some v):vb v:=by
 unfold yF at h;split at h
 ·exact zdb h
 split at h
 ·simp only[aab]at h;subst h;exact LC ha
 split at h
 ·simp only[aab]at h;subst h;exact LC hb
 split at h
 ·simp only[aab]at h;subst h;exact LC ha
 split at h
 ·unfold wH at h;split at h
  ·simp only[aab]at h;subst h;exact LD _
  ·cases h
 ·cases h
theorem zgw{op:Int}{a v:V}(h:iY op a=some v):vb v:=by
 unfold iY at h
 repeat' (split at h)
 all_goals first
  |(cases h;done)
  |(simp only[aab]at h;subst h;exact EW _)
theorem zfb{l:List V}(h:∀v,v∈l->vb v)(r:Int):vb (zS l r):=by
 unfold zS;split
 ·exact rI
 ·rw[aaA];cases e:l[r.toNat]? with
  |none=>exact rI
  |some v=>exact h v (aau e)
theorem zb6{l:List V}(h:∀v,v∈l->vb v)(r:Int){w:V}(hw:vb w):∀v,v∈um l r w->vb v:=by
 intro v hv;unfold um at hv;split at hv
 ·exact h v hv
 ·rcases acy hv with q|rfl
  ·rcases aaQ.1 q with q|q
   ·exact h v q
   ·rw[List.eq_of_mem_replicate q];exact rI
  ·exact hw
theorem CB:∀(ps:List Int) (al l:List V),(∀v,v∈al->vb v)->(∀v,v∈l->vb v)->∀v,v∈wt ps al l->vb v
 |[],al,l,_,h=>by cases al <;> exact h
 |p::ps,[],l,_,h=>h
 |p::ps,a::al,l,ha,h=>CB ps al _ (λv hv=>ha v (by simp[hv])) (zb6 h p (ha a (by simp)))
theorem zdc(kept:Option (Int->Bool)){l:List V}(h:∀v,v∈l->vb v):∀v,v∈kN kept l->vb v:=by
 intro v hv;cases kept with
 |none=>exact h v hv
 |some K=>
  unfold kN at hv;simp only[abm]at hv;obtain⟨k,_,rfl⟩:=hv;split
  ·rw[aaA];cases e:l[k]? with
   |none=>exact rI
   |some w=>exact h w (aau e)
  ·exact rI
theorem BX(kept:Option (Int->Bool))(l:List V):(kN kept l).length=l.length:=by
 cases kept with
 |none=>rfl
 |some K=>simp[kN]
def KH(M:MM):Prop:=small M/\M.length<=100000 /\ ∀(i:Nat) B,M[i]? = some B->∀a,vb (B.byte a).p
theorem R3{M:MM}{c:Int}{p v:V}(h:KH M)(e:kP M c p=some v):vb v:=by
 unfold kP at e;split at e
 ·cases e
 ·rename_i i hi;simp only[aat]at e;obtain⟨B,hB,rfl⟩:=e;unfold cR;split
  ·exact Vk
  split
  ·exact h.2.2 i B hB _
  ·exact rI
theorem B4{M:MM}{i:Nat}{B:MB}(h:KH M)(hs:B.size<2147483648)(hp:∀a,vb (B.byte a).p):KH (M.set i B):=by
 refine⟨λj C hC=>?_,by rw[aaW];exact h.2.1,λj C hC a=>?_⟩
 ·rw[ab0]at hC;split at hC
  ·split at hC
   ·cases hC;exact hs
   ·cases hC
  ·exact h.1 j C hC
 ·rw[ab0]at hC;split at hC
  ·split at hC
   ·cases hC;exact hp a
   ·cases hC
  ·exact h.2.2 j C hC a
theorem Nc{M M':MM}{c:Int}{p v:V}(h:KH M)(hv:vb v)(e:wR M c p v=some M'):KH M':=by
 unfold wR at e;split at e
 ·cases e
 split at e
 ·cases e
 ·rename_i i hi;simp only[aat]at e;obtain⟨B,hB,rfl⟩:=e;refine B4 h (h.1 i B hB) λa=>?_;show vb ((if _ then cellOf (norm v) _ else B.byte a).p);split
  ·unfold cellOf norm
   repeat' split
   all_goals first|exact hv|exact rI
  ·exact h.2.2 i B hB a
theorem Ev{M:MM}{n:Int}(h:KH M):KH ((qE M n).getD M):=by
 cases e:qE M n with
 |none=>exact h
 |some M'=>
  unfold qE at e;simp only[abY,aat]at e;obtain⟨i,hi,B,hB,rfl⟩:=e;exact B4 h (h.1 i B hB) λa=>rI
theorem R4{M:MM}{n:Int}(h:KH M):KH ((YW M n).getD M):=by
 cases e:YW M n with
 |none=>exact h
 |some M'=>
  unfold YW at e;simp only[abY,aat]at e;obtain⟨i,hi,B,hB,rfl⟩:=e;refine B4 h (h.1 i B hB) λa=>?_;show vb ((if a<_ then zc else B.byte a).p);split
  ·exact rI
  ·exact h.2.2 i B hB a
theorem Qm{M:MM}(n:Int)(h:KH M):KH (zV M n).1/\wg (zV M n).2.1:=by
 unfold zV;split
 ·exact⟨h,Vk⟩
 split
 ·exact⟨h,Vk⟩
 ·refine⟨⟨?_,by simp;omega,λi B hB a=>?_⟩,?_⟩
  ·exact Nx h.1 (by show n.toNat<_;omega)
  ·rw[ab9]at hB;split at hB
   ·exact h.2.2 i B hB a
   ·cases hq:i-M.length with
    |zero=>rw[hq]at hB;simp at hB;subst hB;exact rI
    |succ k=>rw[hq]at hB;simp at hB
  ·show wg ((M.length:Int)+1);constructor <;> omega
structure NO (p:Pg):Prop where
 ins:∀f,f∈p.funcs->∀x,x∈f.code->zft p x
 s:∀f,f∈p.funcs->∀x,x∈f.code->x.op≠12->0<=x.s/\x.s<f.code.length
 t:∀f,f∈p.funcs->∀x,x∈f.code->x.op=11->0<=x.t/\x.t<f.code.length
 entry:∀f,f∈p.funcs->0<=f.entry/\f.entry<f.code.length
 par:∀f,f∈p.funcs->f.params.length<=100000 /\ ∀r,r∈f.params->r<100000
 main:0<=p.main/\p.main<p.funcs.length
 globals:p.globals.length<=200
structure FrI (p:Pg) (c:Fr):Prop where
 len:c.zf.length<=100000
 zf:∀v,v∈c.zf->vb v
 kS:wg c.kS
 at_:∃f,p.funcs[c.f]? = some f/\0<=c.pt/\c.pt<f.code.length
structure LS (p:Pg) (S:St):Prop where
 fr:∀c,c∈S.calls->FrI p c
 low:∀c,c∈S.calls.dropLast->∃i,jT p c=some i/\i.op=10
 many:S.calls.length<=20000
 lk:(S.lk.length:Int)<=S.steps
 ev:(S.ev.length:Int)<=S.steps
 used:0<=S.used/\S.used<=S.steps
 mem:KH S.mem
 gl:S.gl.length=p.globals.length
 glb:∀z,z∈S.gl->wg z
theorem BT{p:Pg}{c:Fr}(h:FrI p c):∃f i,p.funcs[c.f]? = some f/\f∈p.funcs/\jT p c=some i/\i∈f.code:=by
 obtain⟨f,hf,h0,h1⟩:=h.at_;refine⟨f,f.code[c.pt.toNat]'(by omega),hf,aau hf,?_,List.getElem_mem _⟩;unfold jT;rw[hf];simp only[aaI];rw[aac (by omega),aae]
theorem LS.ok{p:Pg}{S:St}(g:NO p)(x:LS p S)(hs:S.steps<=20000000):zd2 p S where
 fr c hc:=⟨(x.fr c hc).len,(x.fr c hc).zf,(x.fr c hc).kS⟩
 at_ c hc:=by
  obtain⟨f,i,_,hf,hi,hic⟩:=BT (x.fr c hc);exact⟨i,hi,g.ins f hf i hic⟩
 low:=x.low
 many:=x.many
 lk:=by have:=x.lk;omega
 ev:=by have:=x.ev;omega
 used:=⟨x.used.1,by have:=x.used.2;omega⟩
 mem:=⟨x.mem.1,x.mem.2.1⟩
 gl:=x.gl
section
variable {p:Pg}{S:St}{world:List Int}{kept:Option (Int->Bool)}{ini:List Fr}{c:Fr}
theorem LS.top{S':St}{c':Fr}(x:LS p S)(e:S.calls=ini++[c])(e':S'.calls=ini++[c'])(hc:FrI p c')(hs:S'.steps=S.steps+1)(hlk:S'.lk.length<=S.lk.length+1)(hev:S'.ev.length<=S.ev.length+1)(hu:0<=S'.used/\S'.used<=S.used+1)(hm:KH S'.mem)(hg:S'.gl=S.gl):LS p S' where
 fr d hd:=by
  rw[e']at hd;rcases aaQ.1 hd with q|q
  ·exact x.fr d (by rw[e];simp[q])
  ·simp only[aaR]at q;subst q;exact hc
 low d hd:=by
  rw[e',aaY]at hd;exact x.low d (by rw[e,aaY];exact hd)
 many:=by have:=x.many;rw[e]at this;rw[e'];simpa using this
 lk:=by have:=x.lk;omega
 ev:=by have:=x.ev;omega
 used:=⟨hu.1,by have:=x.used.2;omega⟩
 mem:=hm
 gl:=by rw[hg];exact x.gl
 glb:=by rw[hg];exact x.glb
theorem FrI.set{c:Fr}{i:xG}{f:Go.Rtl.Fn}(g:NO p)(x:FrI p c)(hf:p.funcs[c.f]? = some f)(hi:i∈f.code)(h12:i.op≠12){v:V}(hv:vb v){r:Int}(hr:r<100000){l:List V}(hl:l.length<=100000)(hlv:∀v,v∈l->vb v):FrI p {c with zf:=um l r v,pt:=i.s}:=by
 refine⟨?_,zb6 hlv r hv,x.kS,f,hf,g.s f (aau hf) i hi h12⟩;have:=Cy l r v;show(um l r v).length<=100000;omega
theorem zbW(g:NO p)(x:LS p S)(hne:S.calls≠[])(hok:(kH p world kept {S with steps:=S.steps+1}).2=true):LS p (kH p world kept {S with steps:=S.steps+1}).1:=by
 rcases abF S.calls with e|⟨ini,c,e⟩
 ·exact absurd e hne
 simp only[abL]at e;have hcm:c∈S.calls:=by rw[e];simp
 have xc:=x.fr c hcm;obtain⟨f,i,hf,hfm,hi,hic⟩:=BT xc;obtain⟨T,hT⟩:∃T:St,T = {S with steps:=S.steps+1}:=⟨_,rfl⟩;have Tc:T.calls=ini++[c]:=by rw[hT];exact e
 have est:kH p world kept {S with steps:=S.steps+1} = xj p world kept T c i:=by
  rw[<- hT];unfold kH;rw[Tc,abH];simp only[hi]
 rw[est]at hok ⊢;have ig:=g.ins f hfm i hic;have ga:∀r,vb (zS c.zf r):=zfb xc.zf
 have done:∀(T':St) (v:V),T'.calls=ini++[c]->T'.steps=S.steps+1->T'.lk.length<=S.lk.length+1->T'.ev.length<=S.ev.length+1->(0<=T'.used/\T'.used<=S.used+1)->KH T'.mem->T'.gl=S.gl->i.op≠12->vb v->LS p (vZ T' c i v):=by
  intro T' v h1 h2 h3 h4 h5 h6 h7 h8 h9;refine x.top (c':={c with zf:=um c.zf (zB i) v,pt:=i.s}) e ?_ (FrI.set g xc hf hic h8 h9 ig.w xc.len xc.zf) h2 h3 h4 h5 h6 h7;show(T'.calls.dropLast++[_])=_;rw[h1,aaY]
 have Ts:T.steps=S.steps+1:=by rw[hT]
 have Tl:T.lk=S.lk:=by rw[hT]
 have Te:T.ev=S.ev:=by rw[hT]
 have Tu:T.used=S.used:=by rw[hT]
 have Tm:T.mem=S.mem:=by rw[hT]
 have Tg:T.gl=S.gl:=by rw[hT]
 have u0:0<=T.used/\T.used<=S.used+1:=by rw[Tu];exact⟨x.used.1,by omega⟩
 have T1:∀v,i.op≠12->vb v->LS p (vZ T c i v):=λv h8 hv=>done T v Tc Ts (by rw[Tl];omega) (by rw[Te];omega) u0 (by rw[Tm];exact x.mem) Tg h8 hv;have L1:∀k a b v,i.op≠12->vb v->LS p (vZ (xf T k a b) c i v):=λk a b v h8 hv=>done (xf T k a b) v Tc Ts (by show(T.lk++[_]).length<=_;rw[Tl];simp) (by show T.ev.length<=_;rw[Te];omega) u0 (by show KH T.mem;rw[Tm];exact x.mem) Tg h8 hv;unfold xj at hok ⊢;by_cases h2:i.op=2
 ·have h:=h2;rw[aai h]at hok ⊢;exact T1 _ (by omega) (EW _)
 rw[aac h2]at hok ⊢;by_cases h3:i.op=3
 ·have h:=h3;rw[aai h]at hok ⊢;exact T1 _ (by omega) (ga _)
 rw[aac h3]at hok ⊢;by_cases h4:i.op=4
 ·have h:=h4;rw[aai h]at hok ⊢;cases hu:iY i.sub (zS c.zf i.a) with
  |none=>rw[hu]at hok;cases hok
  |some u=>exact T1 u (by omega) (zgw hu)
 rw[aac h4]at hok ⊢;by_cases h5:i.op=5
 ·have h:=h5;rw[aai h]at hok ⊢;have go:vb (yC c i):=by unfold yC;split;exact EW _;exact ga _
  cases hu:yF i.sub (zS c.zf i.a) (yC c i) with
  |none=>simp only[hu]at hok;cases hok
  |some u=>
   simp only[hu];split
   ·exact L1 _ _ _ u (by omega) (zb5 (ga _) go hu)
   ·exact T1 u (by omega) (zb5 (ga _) go hu)
 rw[aac h5]at hok ⊢;by_cases h6:i.op=6
 ·have h:=h6;rw[aai h]at hok ⊢;cases hA:yQ c i with
  |none=>rw[hA]at hok;cases hok
  |some q=>
   rw[hA]at hok;simp only at hok ⊢;rw[Tm]at hok ⊢;cases hu:kP S.mem i.sub q with
   |none=>rw[hu]at hok;cases hok
   |some u=>exact L1 _ _ _ u (by omega) (R3 x.mem hu)
 rw[aac h6]at hok ⊢;by_cases h7:i.op=7
 ·have h:=h7;rw[aai h]at hok ⊢;cases hA:yQ c i with
  |none=>rw[hA]at hok;cases hok
  |some q=>
   rw[hA]at hok;simp only at hok ⊢;rw[Tm]at hok ⊢;cases hu:wR S.mem i.sub q (zS c.zf i.b) with
   |none=>rw[hu]at hok;cases hok
   |some M=>exact done {xf T 2 q.b q.n with mem:=M} v0 Tc Ts (by show(T.lk++[_]).length<=_;rw[Tl];simp) (by show T.ev.length<=_;rw[Te];omega) u0 (Nc x.mem (ga _) hu) Tg (by omega) rI
 rw[aac h7]at hok ⊢;by_cases h8:i.op=8
 ·have h:=h8;rw[aai h]at hok ⊢;refine T1 _ (by omega) (LC ?_);rw[Tg,aaA];cases hz:S.gl[i.sub.toNat]? with
  |none=>exact Vk
  |some z=>exact x.glb z (aau hz)
 rw[aac h8]at hok ⊢;by_cases h9:i.op=9
 ·have h:=h9;rw[aai h]at hok ⊢;exact T1 _ (by omega) (LC xc.kS)
 rw[aac h9]at hok ⊢;by_cases h10:i.op=10
 ·have h:=h10;rw[aai h]at hok ⊢;obtain⟨f2,f0,f1,f2',f3,f4⟩:=ig.call h;unfold wI at hok ⊢;split at hok
  ·cases hok
  rename_i hmany;rw[aac hmany];simp only[f1]at hok ⊢;split at hok
  ·rename_i hal;rw[aai hal];have hm:=Qm f2.frame x.mem;have hTm:(xf T 4 i.sub 0).mem=S.mem:=Tm;have hTc:(xf T 4 i.sub 0).calls=S.calls:=Tc.trans e.symm
   have fI:FrI p ⟨i.sub.toNat,wt f2.params (i.args.map (zS c.zf)) [],(zV S.mem f2.frame).2.1,f2.entry⟩ :=
    ⟨Xt _ _ _ (by simp) λr hr=>by have:=f4 r hr;omega,CB _ _ _ (λv hv=>by simp only[abm]at hv;obtain⟨r,_,rfl⟩:=hv;exact ga r) (λv hv=>by cases hv),hm.2,f2,f1,g.entry f2 (aau f1)⟩
   have hm':¬20000<=S.calls.length:=by have q:=hmany;rw[hTc]at q;exact q
   clear hmany;rw[hTm,hTc]at *
   refine⟨λd hd=>?_,λd hd=>?_,?_,?_,?_,⟨u0.1,?_⟩,hm.1,by show T.gl.length=_;rw[Tg];exact x.gl,by show ∀z,z∈T.gl->_;rw[Tg];exact x.glb⟩
   ·rcases aaQ.1 hd with q|q
    ·exact x.fr d q
    ·simp only[aaR]at q;subst q;exact fI
   ·have hd:d∈(S.calls++[(⟨i.sub.toNat,wt f2.params (i.args.map (zS c.zf)) [],(zV S.mem f2.frame).2.1,f2.entry⟩:Fr)]).dropLast:=hd;rw[aaY,e]at hd;rcases aaQ.1 hd with q|q
    ·exact x.low d (by rw[e,aaY];exact q)
    ·simp only[aaR]at q;subst q;exact⟨i,hi,h⟩
   ·show(S.calls++[_]).length<=20000;simp;omega
   ·show(((T.lk++[_]).length:Nat):Int)<=T.steps;rw[Tl,Ts];have:=x.lk;simp;omega
   ·show((T.ev.length:Nat):Int)<=T.steps;rw[Te,Ts];have:=x.ev;omega
   ·show T.used<=T.steps;rw[Tu,Ts];have:=x.used.2;omega
  ·cases hok
 rw[aac h10]at hok ⊢;by_cases h11:i.op=11
 ·have h:=h11;rw[aai h]at hok ⊢;unfold fo at hok ⊢;cases hu:yF i.sub (zS c.zf i.a) (yC c i) with
  |none=>rw[hu]at hok;cases hok
  |some w=>
   simp only;refine x.top (c':={c with pt:=if w.n=0 then i.t else i.s}) e ?_ ⟨xc.len,xc.zf,xc.kS,f,hf,?_⟩ Ts (by show(T.lk++[_]).length<=_;rw[Tl];simp) (by show T.ev.length<=_;rw[Te];omega) u0 (by show KH T.mem;rw[Tm];exact x.mem) Tg
   ·show(T.calls.dropLast++[_])=_;rw[Tc,aaY]
   ·show 0<=(if w.n=0 then i.t else i.s)/\(if w.n=0 then i.t else i.s)<_;split
    ·exact g.t f hfm i hic h
    ·exact g.s f hfm i hic (by omega)
 rw[aac h11]at hok ⊢;by_cases h12:i.op=12
 ·have h:=h12;rw[aai h]at hok ⊢;unfold u5 at hok ⊢;rw[Tc,abH,aaY]at hok ⊢;simp only at hok ⊢;rw[Tm]at hok ⊢;rcases abF ini with hini|⟨in2,bk,hini⟩
  ·subst hini;simp only[List.getLast?_nil]at hok ⊢;split at hok
   ·rename_i hk;rw[aai hk];refine⟨λd hd=>(by cases hd),λd hd=>(by cases hd),by show([]:List Fr).length<=_;simp,?_,?_,⟨u0.1,?_⟩,Ev x.mem,by show T.gl.length=_;rw[Tg];exact x.gl,by show ∀z,z∈T.gl->_;rw[Tg];exact x.glb⟩
    ·show((T.lk.length:Nat):Int)<=T.steps;rw[Tl,Ts];have:=x.lk;omega
    ·show((T.ev.length:Nat):Int)<=T.steps;rw[Te,Ts];have:=x.ev;omega
    ·show T.used<=T.steps;rw[Tu,Ts];have:=x.used.2;omega
   ·cases hok
  ·simp only[abL]at hini;subst hini;rw[abH]at hok ⊢;simp only at hok ⊢;have hbm:bk∈S.calls:=by rw[e];simp
   have xb:=x.fr bk hbm;obtain⟨fb,bi,hfb,hfbm,hbi,hbic⟩:=BT xb;obtain⟨bi2,hbi2,h10'⟩:=x.low bk (by rw[e,aaY];simp);have:bi2=bi:=by rw[hbi]at hbi2;exact(abN hbi2).symm
   subst this;simp only[hbi,aaY]at hok ⊢
   have hwd:bi2.d<100000:=by
    have:=(g.ins fb hfbm bi2 hbic).w;unfold Go.Rtl.zB Go.Rtl.wr at this;rw[h10']at this;simpa using this
   have fI:=FrI.set (r:=bi2.d) (v:=zS c.zf i.a) (l:=kN kept bk.zf) g xb hfb hbic (by omega) (ga _) hwd (by rw[BX];exact xb.len) (zdc kept xb.zf);refine⟨λd hd=>?_,λd hd=>?_,?_,?_,?_,⟨u0.1,?_⟩,Ev x.mem,by show T.gl.length=_;rw[Tg];exact x.gl,by show ∀z,z∈T.gl->_;rw[Tg];exact x.glb⟩
   ·rcases aaQ.1 hd with q|q
    ·exact x.fr d (by rw[e];simp[q])
    ·simp only[aaR]at q;subst q;exact fI
   ·have hd:d∈(in2++[({bk with zf:=um (kN kept bk.zf) bi2.d (zS c.zf i.a),pt:=bi2.s}:Fr)]).dropLast:=hd;rw[aaY]at hd;exact x.low d (by rw[e,aaY];simp[hd])
   ·show(in2++[_]).length<=20000;have:=x.many;rw[e]at this;simp at this ⊢;omega
   ·show((T.lk.length:Nat):Int)<=T.steps;rw[Tl,Ts];have:=x.lk;omega
   ·show((T.ev.length:Nat):Int)<=T.steps;rw[Te,Ts];have:=x.ev;omega
   ·show T.used<=T.steps;rw[Tu,Ts];have:=x.used.2;omega
 rw[aac h12]at hok ⊢;by_cases h13:i.op=13
 ·have h:=h13;rw[aai h]at hok ⊢;exact done _ _ Tc Ts (by show T.lk.length<=_;rw[Tl];omega) (by show(T.ev++[_]).length<=_;rw[Te];simp) (by show 0<=T.used+1/\T.used+1<=_;rw[Tu];have:=x.used.1;omega) (by show KH T.mem;rw[Tm];exact x.mem) Tg (by omega) (EW _)
 rw[aac h13]at hok ⊢;by_cases h14:i.op=14
 ·have h:=h14;rw[aai h]at hok ⊢;split at hok
  ·rename_i hk;rw[aai hk];exact done (qT T 2 _) _ Tc Ts (by show T.lk.length<=_;rw[Tl];omega) (by show(T.ev++[_]).length<=_;rw[Te];simp) u0 (by show KH T.mem;rw[Tm];exact x.mem) Tg (by omega) rI
  ·cases hok
 rw[aac h14]at hok ⊢;exact T1 _ h12 rI
end
theorem Em:∀(n:Nat) (l:List Int),l.Nodup->(∀x,x∈l->0<=x/\x<n)->l.length<=n
 |0,l,_,h=>by
  cases l with
  |nil=>exact aam _
  |cons a l=>have:=h a (by simp);omega
 |n+1,l,hd,h=>by
  have:=Em n (l.erase (n:Int)) (hd.erase _) λx hx=>by
   rw[hd.mem_erase_iff]at hx;have:=h x hx.2;omega
  rw[List.length_erase]at this;split at this <;> omega
theorem Qu{n m:Int}(h:Go.Rtl.xA n m=true):0<=n/\n<m:=by
 unfold Go.Rtl.xA at h;simpa using h
theorem EJ{l:List Int}{zf:Int}(h:Go.Rtl.iJ l zf=true):l.Nodup /\ ∀x,x∈l->0<=x/\x<zf:=by
 unfold Go.Rtl.iJ at h;rw[aaF]at h
 have at_:∀i,(hi:i<l.length)->(0<=l[i]/\l[i]<zf) /\ ∀k,(hk:k<i)->l[k]≠l[i]:=by
  intro i hi;have:=h i (abz.2 hi);unfold Go.Rtl.fO at this;rw[aaj,aaF]at this;obtain⟨a,b⟩:=this;have e:l.getD i 0=l[i]:=by rw[aaA,aae hi];rfl
  rw[e]at a b;refine⟨Qu a,λk hk q=>?_⟩;have:=b k (abz.2 hk);have e2:l.getD k 0=l[k]'(by omega):=by rw[aaA,aae (by omega)];rfl
  rw[e2]at this;simp[q]at this
 refine⟨?_,λx hx=>?_⟩
 ·rw[List.nodup_iff_pairwise_ne,List.pairwise_iff_getElem];intro i j hi hj hij;exact(at_ j hj).2 i hij
 ·obtain⟨i,hi,rfl⟩:=List.getElem_of_mem hx;exact(at_ i hi).1
theorem zas{n:Int}(h:Go.Rtl.fj n=true):wg n:=by
 unfold Go.Rtl.fj at h;simp at h;unfold wg;omega
theorem O8{p:Pg}(h:Go.Rtl.Xw p=true):NO p:=by
 unfold Go.Rtl.Xw at h;rw[aaj,aaj,aaF,aaF]at h;obtain⟨hs,hg,hf⟩:=h;unfold Go.Rtl.me at hs;simp only[aaj,aaC,aaL]at hs
 have fn:∀f,f∈p.funcs->((f.zf<=5000/\0<=f.entry/\f.entry<f.code.length)/\(f.params.Nodup /\ ∀x,x∈f.params->0<=x/\x<f.zf)) /\ ∀x,x∈f.code->Go.Rtl.X7 f x=true/\Go.Rtl.ZA p x=true:=by
  intro f hm;have:=hf f hm;rw[aaj,aaF]at this;obtain⟨r,i⟩:=this;unfold Go.Rtl.jy at r;rw[aaj,aaj,aaF]at r;obtain⟨r1,r2,r3⟩:=r;unfold Go.Rtl.KK at r1;simp only[aaj,aaC,aaL]at r1;exact⟨⟨by omega,EJ r2⟩,λx hx=>⟨r3 x hx,i x hx⟩⟩
 have par:∀f,f∈p.funcs->f.params.length<=100000 /\ ∀r,r∈f.params->r<100000:=by
  intro f hm;obtain⟨⟨⟨a,_⟩,b,c⟩,_⟩:=fn f hm;refine⟨?_,λr hr=>by have:=c r hr;omega⟩;have:=Em f.zf.toNat f.params b λx hx=>by have:=c x hx;omega
  omega
 have ins:∀f,f∈p.funcs->∀x,x∈f.code->(∀s,s∈Go.Rtl.u9 x->0<=s/\s<f.code.length)/\Go.Rtl.V7 f x=true/\Go.Rtl.ZA p x=true:=by
  intro f hm x hx;obtain⟨_,q⟩:=fn f hm;obtain⟨q1,q2⟩:=q x hx;unfold Go.Rtl.X7 at q1;simp only[aaj,aaF]at q1;exact⟨λs hs=>Qu (q1.2.2.1 s hs),q1.2.2.2.2,q2⟩
 refine⟨λf hm x hx=>?_,λf hm x hx h12=>?_,λf hm x hx h11=>?_,λf hm=>(fn f hm).1.1.2,par,by omega,by omega⟩
 ·obtain⟨_,m,ip⟩:=ins f hm x hx;obtain⟨⟨⟨hregs,_⟩,_⟩,_⟩:=fn f hm;unfold Go.Rtl.V7 at m;simp only[aaj,abb,aaT]at m;obtain⟨_,_,m⟩:=m;unfold Go.Rtl.ZA at ip;rw[aaj]at ip;obtain⟨i1,i2⟩:=ip;refine⟨?_,λh8=>?_,λh67=>?_,λh10=>?_⟩
  ·unfold zB;split
   ·rename_i hw;rcases m with⟨_,m⟩|m
    ·omega
    ·unfold Go.Rtl.Kl Go.Rtl.Ku at m;rw[hw]at m;simp only[aaj,abq,acZ]at m;have:=Qu m.2;omega
   ·omega
  ·unfold Go.Rtl.za4 at i2;rw[h8]at i2;simp only[decide_true,abq,acZ,aaj]at i2;have:=Qu i2.1;omega
  ·rcases m with⟨m,_⟩|m
   ·omega
   ·unfold Go.Rtl.Kl Go.Rtl.Wp at m;rw[aaj]at m;have m:=m.1;rw[aac (by omega),aac (by omega),aac (by omega),aac (by omega),aai (by omega)]at m;exact zas m
  ·unfold Go.Rtl.Bp at i1;rw[h10]at i1;simp only[decide_true,abq,acZ,aaj,aaT]at i1;have w:=Qu i1.1;obtain⟨g,hg⟩:∃g,p.funcs[x.sub.toNat]? = some g:=⟨_,aae (by omega)⟩;have hpa:Go.Rtl.fP p x.sub=g.params.length:=by simp only[Go.Rtl.fP,hg]
   rw[hpa]at i1;have gm:=aau hg;exact⟨g,w.1,hg,by omega,par g gm⟩
 ·refine(ins f hm x hx).1 x.s ?_;unfold Go.Rtl.u9;rw[aac h12];split <;> simp
 ·refine(ins f hm x hx).1 x.t ?_;unfold Go.Rtl.u9;rw[aac (by omega),aai h11];simp
theorem tz:∀(ns:List Int) (M:MM) (l:List Int),KH M->(∀z,z∈l->wg z)->KH (xI ns M l).1/\(xI ns M l).2.length=l.length+ns.length /\ ∀z,z∈(xI ns M l).2->wg z
 |[],M,l,h,hl=>⟨h,by simp[xI],hl⟩
 |n::ns,M,l,h,hl=>by
  have a:=Qm n h
  obtain⟨b,c,d⟩:=tz ns ((YW (zV M n).1 (zV M n).2.1).getD (zV M n).1) (l++[(zV M n).2.1]) (R4 a.1) λz hz=>by
   rcases aaQ.1 hz with q|q
   ·exact hl z q
   ·simp only[aaR]at q;subst q;exact a.2
  refine⟨b,?_,d⟩;show(xI ns _ _).2.length=_;rw[c];simp;omega
theorem lU:∀(ns:List Int) (n:Int) (M:MM) (l:List Int),xI (ns++[n]) M l=(((YW (zV (xI ns M l).1 n).1 (zV (xI ns M l).1 n).2.1).getD (zV (xI ns M l).1 n).1),(xI ns M l).2++[(zV (xI ns M l).1 n).2.1])
 |[],n,M,l=>rfl
 |m::ns,n,M,l=>lU ns n _ _
theorem B3:KH []:=⟨λi B h=>(by cases h),by decide,λi B h=>(by cases h)⟩
def uq(p:Pg):St:=⟨(xI p.globals [] []).1,0,0,0,[],[],0,(xI p.globals [] []).2,[]⟩
theorem Pt{p:Pg}(g:NO p)(args:List Int)(hok:(qV p args).2=true):LS p (qV p args).1:=by
 obtain⟨gm,gl,gb⟩:=tz p.globals [] [] B3 (λz h=>by cases h);have e:qV p args=wI p (uq p) p.main (args.map u6):=rfl;rw[e]at hok ⊢;unfold wI at hok ⊢;rw[aac (by show ¬20000<=0;omega)]at hok ⊢;obtain⟨f,hf⟩:∃f,p.funcs[p.main.toNat]? = some f:=⟨_,aae (by have:=g.main;omega)⟩;have fm:=aau hf;simp only[hf]at hok ⊢;split at hok
 ·rename_i hal;rw[aai hal];have a:=Qm f.frame gm;refine⟨λc hc=>?_,λc hc=>(by cases hc),?_,?_,?_,⟨Int.le_refl _,Int.le_refl _⟩,a.1,?_,gb⟩
  ·have hc:c∈[(⟨p.main.toNat,wt f.params (args.map u6) [],(zV (uq p).mem f.frame).2.1,f.entry⟩:Fr)]:=hc;simp only[aaR]at hc;subst hc;refine⟨?_,CB _ _ _ (λv hv=>?_) (λv hv=>by cases hv),a.2,f,hf,g.entry f fm⟩
   ·exact Xt _ _ _ (by simp) λr hr=>by have:=(g.par f fm).2 r hr;omega
   ·simp only[abm]at hv;obtain⟨n,_,rfl⟩:=hv;exact EW n
  ·show([]++[_]).length<=20000;simp
  ·show((0:Nat):Int)<=0;omega
  ·show((0:Nat):Int)<=0;omega
  ·show(xI p.globals [] []).2.length=_;rw[gl];simp
 ·cases hok
structure Ext (S S':St):Prop where
 ev:S.ev <+: S'.ev
 lk:S.lk <+: S'.lk
theorem Ext.refl(S:St):Ext S S:=⟨acs _,acs _⟩
theorem Ext.trans{a b c:St}(x:Ext a b)(y:Ext b c):Ext a c:=⟨x.ev.trans y.ev,x.lk.trans y.lk⟩
theorem bU{S S':St}(h1:S'.ev=S.ev)(h2:S'.lk=S.lk):Ext S S':=⟨h1 ▸ acs _,h2 ▸ acs _⟩
theorem IC(S:St)(k a b:Int):Ext S (xf S k a b):=⟨acs _,List.prefix_append _ _⟩
theorem El(S:St)(k v:Int):Ext S (qT S k v):=⟨List.prefix_append _ _,acs _⟩
structure mj (S:St) (r:St×Bool):Prop where
 ext:Ext S r.1
 steps:r.1.steps=S.steps
 kind:r.1.kind=S.kind\/r.1.kind=1
theorem mj.refl(S:St)(b:Bool):mj S (S,b):=⟨Ext.refl S,rfl,.inl rfl⟩
theorem YD{S S':St}(c:Fr)(i:xG)(v:V)(b:Bool)(x:mj S (S',b)):mj S (vZ S' c i v,b):=⟨x.ext.trans (bU rfl rfl),x.steps,x.kind⟩
theorem JY(S:St)(k a b:Int)(o:Bool):mj S (xf S k a b,o):=⟨IC S k a b,rfl,.inl rfl⟩
theorem Sr(S:St)(k v:Int)(o:Bool):mj S (qT S k v,o):=⟨El S k v,rfl,.inl rfl⟩
theorem Sq{S S0:St}(p:Pg)(n:Int)(args:List V)(x:mj S0 (S,true)):mj S0 (wI p S n args):=by
 have y:∀b,mj S0 (S,b):=λb=>⟨x.ext,x.steps,x.kind⟩;unfold wI;split
 ·exact y _
 ·split
  ·exact y _
  ·split
   ·exact⟨x.ext.trans (bU rfl rfl),x.steps,x.kind⟩
   ·exact⟨x.ext.trans (bU rfl rfl),x.steps,x.kind⟩
theorem Ss(p:Pg)(kept:Option (Int->Bool))(S:St)(v:V):mj S (u5 p kept S v):=by
 unfold u5;split
 ·exact mj.refl _ _
 ·split
  ·split
   ·exact⟨bU rfl rfl,rfl,.inr rfl⟩
   ·exact⟨bU rfl rfl,rfl,.inl rfl⟩
  ·split
   ·exact mj.refl _ _
   ·exact⟨bU rfl rfl,rfl,.inl rfl⟩
theorem zbZ(S:St)(c:Fr)(i:xG):mj S (fo S c i):=by
 unfold fo;split
 ·exact mj.refl _ _
 ·exact⟨(IC S 1 _ 0).trans (bU rfl rfl),rfl,.inl rfl⟩
theorem Su(p:Pg)(world:List Int)(kept:Option (Int->Bool))(S:St)(c:Fr)(i:xG):mj S (xj p world kept S c i):=by
 unfold xj;by_cases h2:i.op=2
 ·rw[aai h2];exact YD _ _ _ _ (mj.refl _ _)
 rw[aac h2];by_cases h3:i.op=3
 ·rw[aai h3];exact YD _ _ _ _ (mj.refl _ _)
 rw[aac h3];by_cases h4:i.op=4
 ·rw[aai h4];cases iY i.sub (zS c.zf i.a) with
  |none=>exact mj.refl _ _
  |some v=>exact YD _ _ _ _ (mj.refl _ _)
 rw[aac h4];by_cases h5:i.op=5
 ·rw[aai h5]
  have h:∀o,mj S ((if (i.sub=14\/i.sub=15)/\(zS c.zf i.a).k=1/\(yC c i).k=1 then xf S 3 (zS c.zf i.a).n (yC c i).n else S),o):=by
   intro o;split
   ·exact JY _ _ _ _ _
   ·exact mj.refl _ _
  cases yF i.sub (zS c.zf i.a) (yC c i) with
  |none=>exact h _
  |some v=>exact YD _ _ _ _ (h _)
 rw[aac h5];by_cases h6:i.op=6
 ·rw[aai h6];cases yQ c i with
  |none=>exact mj.refl _ _
  |some q=>
   simp only[];cases kP S.mem i.sub q with
   |none=>exact JY _ _ _ _ _
   |some v=>exact YD _ _ _ _ (JY _ _ _ _ _)
 rw[aac h6];by_cases h7:i.op=7
 ·rw[aai h7];cases yQ c i with
  |none=>exact mj.refl _ _
  |some q=>
   simp only[];cases wR S.mem i.sub q (zS c.zf i.b) with
   |none=>exact JY _ _ _ _ _
   |some M=>
    have:=JY S 2 q.b q.n true;exact YD _ _ _ _ ⟨this.ext.trans (bU rfl rfl),rfl,.inl rfl⟩
 rw[aac h7];by_cases h8:i.op=8
 ·rw[aai h8];exact YD _ _ _ _ (mj.refl _ _)
 rw[aac h8];by_cases h9:i.op=9
 ·rw[aai h9];exact YD _ _ _ _ (mj.refl _ _)
 rw[aac h9];by_cases h10:i.op=10
 ·rw[aai h10];exact Sq _ _ _ (JY _ _ _ _ _)
 rw[aac h10];by_cases h11:i.op=11
 ·rw[aai h11];exact zbZ _ _ _
 rw[aac h11];by_cases h12:i.op=12
 ·rw[aai h12];exact Ss _ _ _ _
 rw[aac h12];by_cases h13:i.op=13
 ·rw[aai h13];exact YD _ _ _ _ ⟨(El S 1 _).trans (bU rfl rfl),rfl,.inl rfl⟩
 rw[aac h13];by_cases h14:i.op=14
 ·rw[aai h14];by_cases hk:(zS c.zf i.a).k=1
  ·rw[aai hk];exact YD _ _ _ _ (Sr _ _ _ _)
  ·rw[aac hk];exact mj.refl _ _
 rw[aac h14];exact YD _ _ _ _ (mj.refl _ _)
theorem LA(p:Pg)(world:List Int)(kept:Option (Int->Bool))(S:St):mj S (kH p world kept S):=by
 unfold kH;split
 ·exact mj.refl _ _
 ·split
  ·exact mj.refl _ _
  ·exact Su _ _ _ _ _ _
def goes(r:St×Bool):Prop:=r.2=true/\r.1.kind=0
instance (r:St×Bool):Decidable (goes r):=by unfold goes;infer_instance
section
variable (p:Pg)(world:List Int)(kept:Option (Int->Bool))
def Cf(r:St×Bool):St×Bool:=if goes r then kH p world kept {r.1 with steps:=r.1.steps+1} else r
def nV:Nat->St×Bool->St×Bool
 |0,r=>r
 |n+1,r=>nV n (Cf p world kept r)
def Eu(r:St×Bool):St×Bool:=if goes r then ({r.1 with kind:=2},r.2) else r
theorem Et:∀(n:Nat) (r:St×Bool),¬goes r->nV p world kept n r=r
 |0,r,h=>rfl
 |n+1,r,h=>by
  unfold nV Cf;rw[aac h];exact Et n r h
theorem Es:∀(n:Nat) (r:St×Bool),Ql p world kept n r=Eu (nV p world kept n r)
 |0,(S,ok)=>rfl
 |n+1,(S,ok)=>by
  show(if ok=true/\S.kind=0 then Ql p world kept n (kH p world kept {S with steps:=S.steps+1}) else (S,ok))=Eu (nV p world kept n (Cf p world kept (S,ok)));by_cases h:ok=true/\S.kind=0
  ·have g:goes (S,ok):=h;rw[aai h,Es n];unfold Cf;rw[aai g]
  ·have g:¬goes (S,ok):=h;rw[aac h];unfold Cf;rw[aac g,Et p world kept n _ g];unfold Eu;rw[aac g]
end
theorem sG(p:Pg)(args:List Int):(qV p args).1.kind=0/\(qV p args).1.steps=0/\(qV p args).1.ev=[]/\(qV p args).1.lk=[]:=by
 unfold qV wI;split
 ·exact⟨rfl,rfl,rfl,rfl⟩
 ·split
  ·exact⟨rfl,rfl,rfl,rfl⟩
  ·split <;> exact⟨rfl,rfl,rfl,rfl⟩
open Go.Rtl (wG qP wF zL zE Old inc)
theorem Pu(p:Pg)(world:List Int)(kept:Option (Int->Bool))(S:St)(hk:S.kind=0)(hok:(kH p world kept S).2=true)(hk':(kH p world kept S).1.kind=0):(kH p world kept S).1.calls≠[]:=by
 have top:∀(S:St) (c:Fr),(Sx S c).calls≠[]:=λS c h=>by
  have h:S.calls.dropLast++[c]=[]:=h;simp at h
 revert hok hk'
 unfold kH;cases hc:S.calls.getLast? with
 |none=>intro hok;cases hok
 |some c=>
 simp only;cases hi:jT p c with
 |none=>intro hok;cases hok
 |some i=>
 simp only;unfold xj;by_cases h2:i.op=2
 ·rw[aai h2];intro _ _;exact top _ _
 rw[aac h2];by_cases h3:i.op=3
 ·rw[aai h3];intro _ _;exact top _ _
 rw[aac h3];by_cases h4:i.op=4
 ·rw[aai h4];cases iY i.sub (zS c.zf i.a) with
  |none=>intro hok;cases hok
  |some v=>intro _ _;exact top _ _
 rw[aac h4];by_cases h5:i.op=5
 ·rw[aai h5];cases yF i.sub (zS c.zf i.a) (yC c i) with
  |none=>intro hok;cases hok
  |some v=>intro _ _;exact top _ _
 rw[aac h5];by_cases h6:i.op=6
 ·rw[aai h6];cases yQ c i with
  |none=>intro hok;cases hok
  |some q=>
   simp only[];cases kP S.mem i.sub q with
   |none=>intro hok;cases hok
   |some v=>intro _ _;exact top _ _
 rw[aac h6];by_cases h7:i.op=7
 ·rw[aai h7];cases yQ c i with
  |none=>intro hok;cases hok
  |some q=>
   simp only[];cases wR S.mem i.sub q (zS c.zf i.b) with
   |none=>intro hok;cases hok
   |some M=>intro _ _;exact top _ _
 rw[aac h7];by_cases h8:i.op=8
 ·rw[aai h8];intro _ _;exact top _ _
 rw[aac h8];by_cases h9:i.op=9
 ·rw[aai h9];intro _ _;exact top _ _
 rw[aac h9];by_cases h10:i.op=10
 ·rw[aai h10];unfold wI;split
  ·intro hok;cases hok
  split
  ·intro hok;cases hok
  split
  ·intro _ _ h;have h:(xf S 4 i.sub 0).calls++[_]=[]:=h;simp at h
  ·intro hok;cases hok
 rw[aac h10];by_cases h11:i.op=11
 ·rw[aai h11];unfold fo;split
  ·intro hok;cases hok
  ·intro _ _;exact top _ _
 rw[aac h11];by_cases h12:i.op=12
 ·rw[aai h12];unfold u5;split
  ·intro hok;cases hok
  split
  ·split
   ·intro _ q;cases q
   ·intro hok;cases hok
  ·split
   ·intro hok;cases hok
   ·intro _ _ h;simp at h
 rw[aac h12];by_cases h13:i.op=13
 ·rw[aai h13];intro _ _;exact top _ _
 rw[aac h13];by_cases h14:i.op=14
 ·rw[aai h14];split
  ·intro _ _;exact top _ _
  ·intro hok;cases hok
 rw[aac h14];intro _ _;exact top _ _
theorem Iz{p:Pg}{S:St}{n:Int}{args:List V}{f:Go.Rtl.Fn}(hf:p.funcs[n.toNat]? = some f):((wI p S n args).2=true->(wI p S n args).1.calls=S.calls++[⟨n.toNat,wt f.params args [],(zV S.mem f.frame).2.1,f.entry⟩])/\((wI p S n args).2=false->(wI p S n args).1.calls=S.calls)/\(wI p S n args).1.gl=S.gl/\(wI p S n args).1.used=S.used:=by
 unfold wI;split
 ·exact⟨λq=>(by cases q),λ_=>rfl,rfl,rfl⟩
 simp only[hf];split
 ·exact⟨λ_=>rfl,λq=>(by cases q),rfl,rfl⟩
 ·exact⟨λq=>(by cases q),λ_=>rfl,rfl,rfl⟩
section
variable {lo:yP}{h:za}{b mb wb:Nat}{p:Pg}{world:List Int}{gl kv wn:aaa}{fuel:Int}{kept:Option (Int->Bool)}
theorem zeE(hp:Rd lo (wG · p))(g:NO p)(hK:KV kv kept)(hwl:world.length<4611686018427387904){T:St×Bool}(x:LR lo h p b mb wb world gl kv wn T.1)(hI:T.2=true->LS p T.1/\(T.1.kind=0->T.1.calls≠[]))(hs:T.1.steps=0)(hf0:0<=fuel)(hf1:fuel<=10000000){J:List aaa->za->Prop}
  (k:∀h' S ok,Ql p world kept fuel.toNat T=(S,ok)->LR lo h' p b mb wb world gl kv wn S->J [.bool ok] h') :
  LP (λvs64 h65 j63=>GD (nth vs64 0) true (λk66=>k66 (yB b) h65) (Ur vs64 J (yB b) (pm fuel) j63) h65) [.bool T.2] h:=by
 refine qQ (λm vs h'=>∃S ok,vs=[.bool ok]/\LR lo h' p b mb wb world gl kv wn S/\(ok=true->LS p S/\(S.kind=0->S.calls≠[])/\S.steps+m=fuel)/\Ql p world kept fuel.toNat T=Ql p world kept m (S,ok))
  fuel.toNat ⟨T.1,T.2,rfl,x,λq=>⟨(hI q).1,(hI q).2,by omega⟩,rfl⟩ ?_
 rintro m vs h' ⟨S,ok,rfl,x,hI,hl⟩
 have out:¬(ok=true/\S.kind=0)->J [.bool ok] h':=λq=>by
  refine k h' S ok ?_ x;rw[hl];cases m with
  |zero=>show(if ok=true/\S.kind=0 then ({S with kind:=2},ok) else (S,ok))=_;rw[aac q]
  |succ m=>show(if ok=true/\S.kind=0 then _ else (S,ok))=_;rw[aac q]
 obtain⟨ev,lk,cl,fbs,hlen,s⟩:=x;have gm:=s.get;unfold xh yB at gm;unfold yB;cases ok with
 |false=>
  simp only[EE,nth,ne_eq,K4,K5,K6,Ur];exact out (by simp)
 |true=>
  by_cases hk:¬S.kind=0
  ·simp only[EE,nth,ne_eq,zw,zj,Yx,jY,K4,K5,K6,Ur,gm,hk];exact out (by simp[hk])
  have hk:S.kind=0:=acf.1 hk;obtain⟨I,hne,hsf⟩:=hI rfl;have hne:=hne hk;cases m with
  |zero=>
   have e:S.steps=fuel:=by omega
   simp only[EE,nth,↓BK,Nat.reduceAdd,ne_eq,zw,zj,Yx,jY,bV,oS,K4,K5,K6,Ur,gm,hk,e];simp only[EE,Ws,Yx,jY,Dw];refine yw s (by simp) rfl λh2 s2=>?_;refine k h2 {S with kind:=2} true ?_ ⟨ev,lk,cl,fbs,hlen,s2⟩;rw[hl];show(if true=true/\S.kind=0 then ({S with kind:=2},true) else (S,true))=_;rw[aai ⟨rfl,hk⟩]
  |succ m=>
   have e:¬S.steps=fuel:=by omega
   have h0:0<=S.steps:=by have:=I.lk;omega
   have hw:IntKind.wrap .i64 (S.steps+1)=S.steps+1:=Go.Mem.v9 (by omega) (by omega);simp only[EE,nth,↓BK,Nat.reduceAdd,ne_eq,zw,zj,Yx,jY,bV,oS,K4,K5,K6,Ur,gm,hk,e];simp only[EE,Nat.reduceAdd,zw,zj,Ws,Yx,bV,Dx,gm,hw];refine yw s (by simp) rfl λh2 s2=>?_;have ok2:=I.ok g (by omega);refine CK (ze5 (S:={S with steps:=S.steps+1}) hp hK hwl ⟨ev,lk,cl,fbs,hlen,s2⟩ ⟨ok2.fr,ok2.at_,ok2.low,ok2.many,ok2.lk,ok2.ev,ok2.used,ok2.mem,ok2.gl⟩ hne) ?_;rintro v h3 ⟨rfl,x3⟩;refine⟨m,by omega,_,_,rfl,x3,λq=>⟨zbW g I hne q,λq2=>Pu p world kept _ hk q q2,?_⟩,?_⟩
   ·have:=(LA p world kept {S with steps:=S.steps+1}).steps;rw[this];show S.steps+1+(m:Int)=fuel;omega
   ·rw[hl];show(if true=true/\S.kind=0 then _ else (S,true))=_;rw[aai ⟨rfl,hk⟩]
end
end Go.Rm
namespace Go.Dm
open Go.Ai Go.Proofs Go.Mem Go.Rm
theorem CE(n:Int):Go.Rm.v9 n=(BitVec.ofInt 64 n).toInt:=by
 show IntKind.wrap .i64 n=_;rw[BitVec.toInt_ofInt];simp only[IntKind.wrap,IntKind.bits,IntKind.signed,Int.bmod];simp;split <;> split <;> omega
theorem zdX(x:BitVec 64):Go.Rm.v9 (x.toNat:Int)=x.toInt:=by
 rw[CE]
 congr 1
 apply BitVec.eq_of_toNat_eq;simp
theorem CF{n:Int}(h:wg n):Go.Rm.v9 n=n:=Go.Mem.v9 h.1 h.2
theorem zev(x:BitVec 64):wg x.toInt:=by
 have:=BitVec.toInt_lt (x:=x);have:=BitVec.le_toInt (x:=x)
 constructor <;> omega
theorem FW(n:Int):wg (Go.Rm.v9 n):=by
 rw[CE];exact zev _
theorem zgc(n:Int):BitVec.ofInt 64 (Go.Rm.v9 n)=BitVec.ofInt 64 n:=by rw[CE,BitVec.ofInt_toInt]
theorem nj(f:BitVec 64->BitVec 64->BitVec 64)(a b:Int):Wy f a b=(f (BitVec.ofInt 64 a) (BitVec.ofInt 64 b)).toInt:=zdX _
theorem ofInt_sub(a b:Int):BitVec.ofInt 64 (a-b)=BitVec.ofInt 64 a-BitVec.ofInt 64 b:=by
 rw[Int.sub_eq_add_neg,acV,BitVec.ofInt_neg,BitVec.sub_eq_add_neg]
theorem zcW(a:Int):Go.Rm.notM a=(~~~ BitVec.ofInt 64 a).toInt:=by
 unfold Go.Rm.notM;rw[zdX,show BitVec.ofInt 64 (-1)=BitVec.allOnes 64 from rfl,BitVec.allOnes_xor]
theorem not_eq(a:Int):Go.Rm.v9 (-1-a)=Go.Rm.notM a:=by
 rw[zcW,CE]
 congr 1
 rw[<- BitVec.allOnes_sub_eq_not,ofInt_sub];rfl
theorem neg_eq(a:Int):Go.Rm.v9 (Go.Rm.notM a+1)=Go.Rm.v9 (0-a):=by
 rw[<- not_eq,CE (_+1),CE (0-a)]
 congr 1
 rw[acV,zgc,<- acV]
 congr 1
 omega
theorem xor_eq(a b:Int):Go.Rm.v9 (Wy (· ||| ·) a b-Wy (· &&& ·) a b)=Wy (· ^^^ ·) a b:=by
 rw[nj,nj,nj,CE]
 congr 1
 rw[ofInt_sub,BitVec.ofInt_toInt,BitVec.ofInt_toInt];generalize BitVec.ofInt 64 a=x;generalize BitVec.ofInt 64 b=y;show(x ||| y)-(x &&& y)=x ^^^ y
 have e:(x ^^^ y)+(x &&& y)=x ||| y:=by
  rw[BitVec.add_eq_or_of_and_eq_zero]
  ·ext i
   simp only[BitVec.getElem_or,BitVec.getElem_xor,BitVec.getElem_and];cases x[i] <;> cases y[i] <;> rfl
  ·ext i
   simp only[BitVec.getElem_xor,BitVec.getElem_and,BitVec.getElem_zero];cases x[i] <;> cases y[i] <;> rfl
 rw[<- e,BitVec.add_sub_cancel]
theorem zbP{a:Int}(k:Nat):Go.Rm.v9 (Go.Rm.v9 (a*2^k)+Go.Rm.v9 (a*2^k))=Go.Rm.v9 (a*2^(k+1)):=by
 rw[CE (_+_),acV,zgc,<- acV,CE]
 congr 2
 rw[Int.pow_succ,<- Int.mul_assoc];omega
theorem zcl(a:Int):Wy (· &&& ·) a 1=a%2:=by
 rw[nj]
 have e:(BitVec.ofInt 64 a &&& BitVec.ofInt 64 1)=BitVec.ofNat 64 (a%2).toNat:=by
  apply BitVec.eq_of_toNat_eq;simp only[BitVec.toNat_and,BitVec.toNat_ofInt,BitVec.toNat_ofNat];rw[show((1:Int)%((2^64:Nat):Int)).toNat=1 from rfl,Nat.and_one_is_mod];have h1:a%((2^64:Nat):Int)%2=a%2:=Int.emod_emod_of_dvd a (by decide);omega
 show(BitVec.ofInt 64 a &&& BitVec.ofInt 64 1).toInt=_;rw[e,BitVec.toInt_ofNat'];have h2:a%2=0\/a%2=1:=by omega
 rcases h2 with h|h <;> rw[h] <;> rfl
theorem zbQ{a:Int}(h:wg a):Go.Rm.v9 ((Go.Rm.v9 (a-Wy (· &&& ·) a 1)).tdiv 2)=a.fdiv 2:=by
 obtain⟨h1,h2⟩:=h;rw[zcl,CF (n:=a-a%2) ⟨by omega,by omega⟩]
 have e:(a-a%2).tdiv 2=a/2:=by
  have:a-a%2=a/2*2:=by omega
  rw[this,Int.mul_tdiv_cancel _ (by decide)]
 rw[e,acb _ (by decide),CF ⟨by omega,by omega⟩]
theorem Rz(a:Int)(k:Nat):(a.fdiv (2^k)).fdiv 2=a.fdiv (2^(k+1)):=by
 have p:(0:Int)<=2^k:=Int.pow_nonneg (by decide);have p2:(0:Int)<=2^(k+1):=Int.pow_nonneg (by decide);rw[acb _ p,acb _ p2,acb _ (by decide),Int.ediv_ediv_of_nonneg p,Int.pow_succ]
theorem O9{a:Int}(h:wg a)(k:Nat):wg (a.fdiv (2^k)):=by
 have p:(0:Int)<2^k:=Int.pow_pos (by decide);rw[acb _ (Int.le_of_lt p)];obtain⟨h1,h2⟩:=h
 constructor
 ·rw[Int.le_ediv_iff_mul_le p];have:(1:Int)<=2^k:=p
  calc (-9223372036854775808:Int)*2^k <= -9223372036854775808*1:=by
        apply Int.mul_le_mul_of_nonpos_left <;> omega
   _<=a:=by omega
 ·apply Int.ediv_lt_of_lt_mul p;have:(1:Int)<=2^k:=p
  calc a<9223372036854775808*1:=by omega
   _<=9223372036854775808*2^k:=Int.mul_le_mul_of_nonneg_left this (by decide)
theorem nc(a:Int)(n:Nat)(hn:n<64):Wy (· &&& ·) a (2^n-1:Nat)=a%(2^n:Nat):=by
 have hp:2^n<2^64:=Nat.pow_lt_pow_right (by decide) hn;have hp0:0<2^n:=Nat.two_pow_pos n;have hq:2^n<=2^63:=Nat.pow_le_pow_right (by decide) (by omega);have m0:0<=a%((2^n:Nat):Int):=Int.emod_nonneg _ (by omega);have m1:a%((2^n:Nat):Int)<((2^n:Nat):Int):=Int.emod_lt_of_pos _ (by omega);rw[nj]
 have e:(BitVec.ofInt 64 a &&& BitVec.ofInt 64 ((2^n-1:Nat):Int))=BitVec.ofNat 64 (a%((2^n:Nat):Int)).toNat:=by
  apply BitVec.eq_of_toNat_eq;simp only[BitVec.toNat_and,BitVec.toNat_ofInt,BitVec.toNat_ofNat];have h0:(((2^n-1:Nat):Int)%((2^64:Nat):Int)).toNat=2^n-1:=by omega
  rw[h0,Nat.and_two_pow_sub_one_eq_mod]
  have h1:a%((2^64:Nat):Int)%((2^n:Nat):Int)=a%((2^n:Nat):Int):=Int.emod_emod_of_dvd a (by
   have:(2:Nat)^n ∣ 2^64:=Nat.pow_dvd_pow 2 (by omega);exact Int.natCast_dvd_natCast.2 this)
  have h2:0<=a%((2^64:Nat):Int):=Int.emod_nonneg _ (by decide)
  have h3:((a%((2^64:Nat):Int)).toNat%2^n:Nat)=(a%((2^64:Nat):Int)%((2^n:Nat):Int)).toNat:=by
   apply Int.ofNat.inj;show(((a%((2^64:Nat):Int)).toNat%2^n:Nat):Int)=((a%((2^64:Nat):Int)%((2^n:Nat):Int)).toNat:Int);rw[abW (by rw[h1];exact m0),Int.natCast_emod,abW h2]
  rw[h3,h1];rw[Nat.mod_eq_of_lt (by omega)]
 show(BitVec.ofInt 64 a &&& BitVec.ofInt 64 ((2^n-1:Nat):Int)).toInt=_;rw[e,BitVec.toInt_eq_toNat_of_lt (by rw[BitVec.toNat_ofNat];rw[Nat.mod_eq_of_lt (by omega)];omega),BitVec.toNat_ofNat,Nat.mod_eq_of_lt (by omega)];omega
def zcD(a:Int)(n:Nat):Int:=if a%(2^n:Nat) ≥ (2^(n-1):Nat) then a%(2^n:Nat)-(2^n:Nat) else a%(2^n:Nat)
theorem zcC(a:Int):zcD a 8=Go.Rm.v9 (IntKind.wrap .i8 a):=by
 unfold zcD
 have:IntKind.wrap .i8 a=if a%256 ≥ 128 then a%256-256 else a%256:=by
  simp[IntKind.wrap,IntKind.bits,IntKind.signed]
 rw[this,CF (by split <;> constructor <;> omega)];rfl
theorem zaL(a:Int):zcD a 32=Go.Rm.v9 (IntKind.wrap .i32 a):=by
 unfold zcD
 have:IntKind.wrap .i32 a=if a%4294967296 ≥ 2147483648 then a%4294967296-4294967296 else a%4294967296:=by
  simp[IntKind.wrap,IntKind.bits,IntKind.signed]
 rw[this,CF (by split <;> constructor <;> omega)];rfl
abbrev wu(n:Int):Int:=IntKind.wrap .u64 n
theorem CG(n:Int):wu n=n%18446744073709551616:=by
 simp[wu,IntKind.wrap,IntKind.bits,IntKind.signed]
open Go.Proofs.Tryz
noncomputable abbrev zz:=prog
abbrev VK:=aaa->za->Prop
abbrev LK:=List aaa->za->Prop
abbrev ci(n:Int):Operand := .const (pm n)
abbrev fn(n:Nat):aaa := .func (.func n) #[] #[]
variable {h:za}{t0 t1 t2 t3 t4 t5 t6:aaa}{R:VK}
def qs:FuncId->Nat:=λg=>[0,0,0,0,0,0,0,0,0,0,0,0,0,0,0,0,0,0,0,0,0,0,0,0,0,0,2,0,0,0,0,0,0,0,0,0,0,0,0,0,0,0,0,0,0,0,0,0,0,0,0,0,0,0,2,2,2,2,0,2,0,2,0,2,0,0,0,0,0,0,0,0,0,0,0,0,0,0,0,0,0,0,0,0,0,0,0,0,0,0,0,0,0,2,2,2,2,2,0,0,2,0,0,0,0,0,0,0,0,0,0,0,0,0,0,0,0,0,0,0,0,2,2].getD g 0
theorem mixed:prog.follows .mixedOrders=true:=acW Tryz.checked
def gj:=λa (c:za) (R:VK) (f:LK)=>
 opt (nb [] (z9 zz 33 [])) λd=>opt (yh 33 a d c) λb=>opt (zd zz 33 a b) λe=>rv [e,pm 1] b R
def gk:=λa b (f:LK) (m:aaa) (c:za)=>
 opt (xW a) λg=>zn 64 g 7 22 c λd=>zT (nb [b] (zI zz 22 1 [(0,b)] c)) λe h=>zT (nb [d,e] (zv zz .append [22,22] 22 [d,e] h)) λi j=>opt (xW a) λk=>jV 64 k 7 22 i j λl=>f [] l
def gu:=λa (e:LK) b (c:za)=>
 opt (Yt b 0) λd=>opt (Yt b 1) λh=>opt (xW a) λf=>zn 64 f 1 57 c λg=>zu zz (fn 25) [g,d] c (gk a d e)
def N1:=λb (a:za) c d (e:LK)=>
 opt (xW b) λf=>zn 64 f 1 57 a λg=>zn 25 c 0 22 a λh=>vr 22 h (nth d 0) 3 a λi=>Yv zz 24 [g,i] a (gu b e)
def N2:=λb c a (d:LK) (h:List aaa) (e:za)=>
 BK (N1 b e c a)
 (λi f=>opt (zi .add 3 60 (nth a 0) 1) λg=>d [g] f)
def N3:=λa (f:LK) g b (c:za) (h:LK)=>
 zn 25 a 0 22 c λi=>zT (xE 22 i c) λj d=>opt (yo .lss 3 55 58 (nth b 0) j) λk=>CD k (λe=>e [] d)
 (λe=>f [] d)
 (N2 g a b h)
def N4:=λa (d:LK) b (e:za)=>
 zT (nb [b] (zI zz 59 1 [(0,b)] e)) λc f=>zT (nb [nth a 0,c] (zv zz .append [59,59] 59 [nth a 0,c] f)) λg h=>d [g] h
def N5:=λc a (b:za) (d:LK)=>
 vr 26 c (nth a 1) 2 b λe=>zu zz (fn 26) [e] b (N4 a d)
def N6:=λa (b:LK) c (d:za)=>
 opt (zi .add 3 95 (nth a 1) 1) λe=>b [nth c 0,e] d
def Hc:=λb (e:LK) a (f:za) (g:LK)=>
 zT (xE 26 b f) λh c=>opt (yo .lss 3 91 93 (nth a 1) h) λi=>CD i (λd=>d [] c)
 (λd=>e [nth a 0] c)
 (λk j=>BK (N5 b a j)
 (N6 a g))
def Hd:=λa (b:za) (c g:LK)=>
 opt (xW a) λd=>opt (zg zz 64 d 2) λe=>jV 33 e 0 3 (pm 2) b λf=>c [] f
def He:=λa (b:za) (c:LK)=>
 opt (xW a) λd=>opt (zg zz 64 d 2) λe=>jV 33 e 0 3 (pm 3) b λf=>c [] f
def dF:=λa d (e:LK) f (b:za)=>
 ze a true (zi .eql 3 144 f 0) b (λg c=>opt (pk a g (.bool false)) λh=>CD h (He d c)
 (λi=>i [] c)
 (λk j=>e [] j)) b
def dG:=λa d (e:LK) f (c:za)=>
 ze a true (zg zz 33 f 0) c (λg b=>ze a true (zd zz 3 g b) b (dF a d e) b) c
def dH:=λa d (e:LK) f (b:za)=>
 ze a true (xW f) b (λg c=>ze a true (zg zz 64 g 2) c (dG a d e) c) b
def Hf:=λa (e:LK) (o:List aaa) (b:za)=>
 opt (xW a) λf=>opt (zg zz 64 f 2) λg=>zn 33 g 4 3 b λh=>opt (zi .add 3 131 h 1) λi=>opt (xW a) λj=>opt (zg zz 64 j 2) λk=>jV 33 k 4 3 i b λl=>zu zz (fn 28) [a] l (λm c=>opt (YY zz .not m) λd=>GD d true (λn=>n a c) (dH d a e) c)
def tY:=λa (b:za) c (d e:LK)=>
 opt (xW a) λf=>opt (zg zz 64 f 2) λg=>zn 33 g 4 3 b λh=>opt (yo .eql 3 120 121 h c) λi=>CD i (Hd a b d)
 (λj=>j [] b)
 (Hf a e)
def tZ:=λb (c:LK) e (m:List aaa) (a:za) (f:LK)=>
 opt (xW b) λg=>opt (zg zz 64 g 2) λh=>zn 33 h 0 3 a λi=>opt (zi .eql 3 114 i 0) λj=>CD j (λd=>d [] a)
 (λd=>c [] a)
 (λn k=>BK (tY b k e c)
 (λo l=>f [] l))
def t7:=λd a (R:VK) (h:List aaa) (b:za)=>
 opt (xW d) λe=>zn 64 e 2 33 b λf=>opt (yh 33 a f b) λc=>opt (zd zz 33 a c) λg=>rv [g,pm 0] c R
def Hg:=λc a d e (R:VK) f (b:za)=>
 zn 25 c 2 3 b λg=>zu zz (fn 27) [a,g,nth f 0,pm (-1)] b (λj h=>BK (λi=>LP (tZ a i d)
 [] h)
 (t7 a e R))
def Hh:=λa b c j k l (R:VK) (t:List aaa) (d:za)=>
 opt (zd zz 25 a d) λe=>opt (nb [] (z9 zz 61 [])) λf=>opt (nb [f] (some (Value.cells f).toList)) λm=>nw d m 61 λg n=>opt (nb [e,g,b,c] (z9 zz 64 [(0,e),(1,g),(3,b),(6,c)])) λh=>opt (nb [h] (some (Value.cells h).toList)) λo=>nw n o 64 λi p=>BK (λq=>LP (N3 a q i)
 [pm 0] p)
 (λu r=>BK (λs=>LP (Hc j s)
 [pp,pm 0] r)
 (Hg a i k l R))
def Ja:=λa b (R:VK) e f g h i j (c:za)=>
 ze a false (zi .gtr 3 44 j 10000000) c (λk d=>opt (pk a (.bool true) k) λl=>CD l (gj b d R)
 (λm=>m [pm 0] d)
 (Hh e f g h i b R)) c
def Jb:=λa b f (R:VK) g h i j k (c:za)=>
 ze a false (zi .lss 3 40 k 0) c (λl d=>opt (pk a (.bool true) l) λe=>GD e false (λm=>m b d) (Ja e f R g h i j b) d) c
def t8:=λa f b g (R:VK) h i j k l (c:za)=>
 ze a false (yo .neq 3 28 36 f l) c (λm d=>opt (pk a (.bool true) m) λe=>GD e false (λn=>n b d) (Jb e b g R h i j k) d) c
def Aa:=λa d e f (R:VK) g h i j k (b:za)=>
 ze a false (zd zz 22 k b) b (λl c=>GD a false (λm=>zT (xE 22 l c) λn o=>m n o) (t8 a d e f R g h i j) c) b
def Ab:=λa d e f g (R:VK) h i j k l (b:za)=>
 ze a false (ym zz 23 d l) b (λm c=>ze a false (zg zz 45 m 1) c (Aa a e f g R h i j k) c) b
def Ac:=λa c e f g (R:VK) h i j k (d:za)=>
 ze a false (zg zz 25 c 2) d (λl b=>ze a false (zd zz 3 l b) b (Ab a k e f g R c h i j) b) d
def Ad:=λa c e f (R:VK) g h i j (d:za)=>
 ze a false (zg zz 25 c 1) d (λk b=>ze a false (zd zz 23 k b) b (Ac a c j e f R g h i) b) d
def Ae:=λb e f g (R:VK) h i j (c:za)=>
 opt (YY zz .not (nth j 0)) λa=>GD a false (λk=>k b c) (λl d=>GD a false (λm=>zT (xE 26 l d) λn o=>m n o) (Ad a e f g R h i b) d) c
def Hi:=λc d e f g (R:VK) h i (a:za)=>
 CD c (λb=>opt (zd zz 25 d a) λj=>zu zz (fn 23) [j] a (λk l=>b [k] l))
 (λb=>b [i] a)
 (Ae e d f g R h c)
def Hb:=λ(h:za) a d e f g (R:VK)=>
 opt (nb [a] (some (Value.cells a).toList)) λi=>nw h i 25 λb j=>qe 33 j λk c=>opt (zd zz 25 b c) λl=>zu zz (fn 16) [l] c (Hi g b d f k R e)
theorem Af(hw:Hb h t0 t1 t2 t3 t4 R):DC zz 10 [t0,t1,t2,t3,t4] h R:=zC mixed (q:=qs) (n:=200) (Eq.mpr (by kernel_rfl) hw)
def Ut:=λa (b:za) (R:VK) (f:LK)=>
 opt (xW a) λc=>opt (zg zz 64 c 2) λd=>jV 33 d 0 3 (pm 3) b λe=>rv [] e R
def Ji:=λc (a:za) b d e (f:LK)=>
 zn 45 c 1 22 a λg=>vr 22 g (nth b 0) 3 a λh=>vr 59 d (nth b 0) 69 a λi=>opt (ym zz 59 e h) λj=>opt (yh 69 j i a) λk=>f [] k
def Jj:=λb a c d (e:LK) (i:List aaa) (f:za)=>
 BK (Ji b f a c d)
 (λj g=>opt (zi .add 3 52 (nth a 0) 1) λh=>e [h] g)
def Uu:=λa (e:LK) f g b (h:za) (i:LK)=>
 zT (xE 59 a h) λj c=>opt (yo .lss 3 48 50 (nth b 0) j) λk=>CD k (λd=>d [] c)
 (λd=>e [] c)
 (Jj f b a g i)
def Jk:=λb k c d e f (R:VK) (r:List aaa) (a:za)=>
 opt (xW b) λl=>zn 64 l 5 62 a λg=>zn 45 k 4 3 a λh=>opt (nb [c,h,d,e,f] (z9 zz 116 [(0,c),(1,h),(2,d),(3,e),(4,f)])) λi=>zT (nb [i] (zI zz 62 1 [(0,i)] a)) λj m=>zT (nb [g,j] (zv zz .append [62,62] 62 [g,j] m)) λn o=>opt (xW b) λp=>jV 64 p 5 62 n o λq=>rv [] q R
def Uv:=λa e f g h i (R:VK) (l:List aaa) (b:za)=>
 zn 45 a 2 3 b λc=>zT (XZ zz 59 c c b) λd j=>BK (λk=>LP (Uu e k a d)
 [pm 0] j)
 (Jk f a g d h i R)
def WL:=λa b (R:VK) e f g h i j (c:za)=>
 ze a false (zi .geq 3 38 j 20000) c (λk d=>opt (pk a (.bool true) k) λl=>CD l (Ut b d R)
 (λm=>m [] d)
 (Uv e f b g h i R)) c
def gU:=λa d (R:VK) e f g h i j (b:za)=>
 ze a false (zd zz 62 j b) b (λk c=>GD a false (λl=>zT (xE 62 k c) λm n=>l m n) (WL a d R e f g h i) c) b
def gV:=λa d (R:VK) e f g h i j (b:za)=>
 ze a false (xW j) b (λk c=>ze a false (zg zz 64 k 5) c (gU a d R e f g h i) c) b
def aW:=λa (R:VK) e f g h b (c:za)=>
 opt (Yt b 0) λi=>opt (Yt b 1) λj=>opt (zi .neq 3 31 j 0) λd=>GD d false (λk=>k a c) (gV d a R e f g i h) c
def mQ:=λ(h:za) a d e f (R:VK)=>
 opt (xW a) λg=>opt (zg zz 64 g 0) λi=>zn 25 i 1 23 h λj=>vr 23 j d 45 h λk=>qe 45 h λb l=>opt (yh 45 b k l) λc=>opt (xW a) λm=>zn 64 m 1 57 c λn=>zn 45 b 3 3 c λo=>Yv zz 24 [n,o] c (aW a R b e d f)
theorem lz(hw:mQ h t0 t1 t2 t3 R):DC zz 27 [t0,t1,t2,t3] h R:=zC mixed (q:=qs) (n:=200) (Eq.mpr (by kernel_rfl) hw)
def eO:=λb (a:za) c d (e:LK)=>
 zn 69 b 1 2 a λf=>zn 69 c 1 2 a λg=>zu zz (fn 58) [d,pm 3,f,g] a (λi h=>e [] h)
def U5:=λc d e f (g:LK) (o:List aaa) (a:za)=>
 zn 53 c 1 3 a λh=>opt (zd zz 69 d a) λi=>opt (zd zz 69 e a) λj=>zu zz (fn 59) [h,i,j] a (λb k=>opt (Yt b 0) λl=>opt (Yt b 1) λm=>opt (yh 69 f l k) λn=>g [.bool false,m] n)
def VU:=λa b c f g h (i:LK) j (d:za)=>
 ze a true (zi .eql 3 105 j 1) d (λk e=>opt (pk a k (.bool false)) λl=>CD l (eO b e c f)
 (λm=>m [] e)
 (U5 g b c h i)) d
def Zd:=λe c f g h i (j:LK) k (d:za)=>
 opt (pk e k (.bool false)) λa=>ze a true (zg zz 69 c 0) d (λl b=>ze a true (zd zz 3 l b) b (VU a f c g h i j) b) d
def Ze:=λa c d e f g (h:LK) i (b:za)=>
 ze a true (zi .eql 3 100 i 1) b (Zd a c d e f g h) b
def Zf:=λe c f g h i (j:LK) k (d:za)=>
 opt (pk e (.bool true) k) λa=>ze a true (zg zz 69 c 0) d (λl b=>ze a true (zd zz 3 l b) b (Ze a f c g h i j) b) d
def Zg:=λa c d e f g (h:LK) i (b:za)=>
 ze a false (zi .eql 3 95 i 15) b (Zf a c d e f g h) b
def Zh:=λa f g h (i:LK) j (k:za)=>
 qe 69 k λe l=>opt (yh 69 e j l) λb=>zn 53 a 1 3 b λm=>opt (zi .eql 3 91 m 14) λc=>ze c false (zg zz 53 a 1) b (λn d=>ze c false (zd zz 3 n d) d (Zg c f e g a h i) d) b
def eP:=λe (a:za) f b (g:LK)=>
 opt (xW e) λh=>zn 116 h 2 59 a λi=>zn 53 f 6 22 a λj=>vr 22 j (nth b 1) 3 a λk=>vr 59 i k 69 a λc=>zT (nb [c] (zI zz 59 1 [(0,c)] a)) λd l=>zT (nb [nth b 0,d] (zv zz .append [59,59] 59 [nth b 0,d] l)) λm n=>g [m] n
def Jp:=λa (b:LK) c (d:za)=>
 opt (zi .add 3 161 (nth a 1) 1) λe=>b [nth c 0,e] d
def W5:=λb (f:LK) g a (c:za) (h:LK)=>
 zn 53 b 6 22 c λi=>zT (xE 22 i c) λj d=>opt (yo .lss 3 156 159 (nth a 1) j) λk=>CD k (λe=>e [] d)
 (λe=>f [nth a 0] d)
 (λm l=>BK (eP g l b a)
 (Jp a h))
def W6:=λa d e f (R:VK) (l:aaa) (c:za)=>
 zn 53 a 7 3 c λg=>opt (xW d) λh=>jV 116 h 1 3 g c λb=>zn 53 a 1 3 b λi=>zn 53 a 4 3 b λj=>zu zz (fn 27) [e,i,nth f 0,j] b (λm k=>rv [.bool true] k R)
def UA:=λa b d (R:VK) e (c:za)=>
 zn 53 a 1 3 c λf=>zu zz (fn 58) [b,pm 4,f,pm 0] c (W6 a d b e R)
def UB:=λb (a:za) c (d:LK)=>
 zn 53 b 7 3 a λe=>opt (xW c) λf=>jV 116 f 1 3 e a λg=>d [] g
def UC:=λb c e (R:VK) (l:aaa) (d:za)=>
 zn 53 b 8 3 d λf=>opt (xW c) λg=>jV 116 g 1 3 f d λa=>zn 69 e 1 2 a λh=>opt (zi .eql 2 224 h 1) λi=>CD i (UB b a c)
 (λj=>j [] a)
 (λm k=>rv [.bool true] k R)
def UD:=λa c d e (R:VK) (g:List aaa) (b:za)=>
 zn 69 a 1 2 b λf=>zu zz (fn 58) [c,pm 1,f,pm 0] b (UC d e a R)
def UE:=λ(e:za) (R:VK) f g h a=>
 opt (Yt a 0) λi=>opt (Yt a 1) λj=>qe 69 e λb k=>opt (yh 69 b i k) λc=>opt (YY zz .not j) λl=>CD l (λd=>rv [.bool false] c R)
 (λd=>d [.bool false] c)
 (UD b f g h R)
def UF:=λb (a:za) (c:LK)=>
 opt (xW b) λd=>zn 64 d 3 26 a λe=>opt (xW b) λf=>zn 64 f 4 3 a λg=>vr 26 e g 2 a λh=>c [h] a
def W7:=λa h (i:LK) b (c:za)=>
 opt (xW a) λj=>zn 64 j 4 3 c λk=>opt (zi .add 3 264 k 1) λl=>opt (xW a) λm=>jV 64 m 4 3 l c λd=>opt (xW a) λn=>opt (zg zz 64 n 2) λo=>zn 33 o 2 30 d λe=>opt (nb [pm 1,nth b 0] (z9 zz 97 [(0,(pm 1)),(1,(nth b 0))])) λf=>zT (nb [f] (zI zz 30 1 [(0,f)] d)) λg p=>zT (nb [e,g] (zv zz .append [30,30] 30 [e,g] p)) λq r=>opt (xW a) λs=>opt (zg zz 64 s 2) λt=>jV 33 t 2 30 q r λu=>zu zz (fn 26) [nth b 0] u (λv w=>opt (yh 69 h v w) λx=>i [.bool false] x)
def Jq:=λb g h (i:LK) j (a:za)=>
 opt (xW b) λk=>opt (zg zz 64 k 2) λl=>zn 33 l 2 30 a λc=>opt (xW g) λm=>zn 116 m 2 59 a λn=>zn 53 h 2 3 a λo=>opt (ym zz 59 n o) λp=>zn 69 p 1 2 a λd=>opt (nb [pm 2,d] (z9 zz 97 [(0,(pm 2)),(1,d)])) λe=>zT (nb [e] (zI zz 30 1 [(0,e)] a)) λf q=>zT (nb [c,f] (zv zz .append [30,30] 30 [c,f] q)) λr s=>opt (xW b) λt=>opt (zg zz 64 t 2) λu=>jV 33 u 2 30 r s λv=>i [nth j 0] v
def UG:=λb (a:za) c (R:VK) e (f:LK)=>
 opt (xW b) λg=>zn 116 g 2 59 a λh=>zn 53 c 2 3 a λi=>opt (ym zz 59 h i) λj=>zn 69 j 0 3 a λk=>opt (zi .neq 3 293 k 1) λl=>CD l (λd=>rv [.bool false] a R)
 (λd=>d [.bool false] a)
 (Jq e b c f)
def UH:=λb (a:za) c (d:LK)=>
 opt (xW b) λe=>zn 64 e 4 3 a λf=>opt (xW b) λg=>zn 64 g 3 26 a λh=>zT (xE 26 h a) λi _=>opt (yo .lss 3 244 249 f i) λj=>CD j (UF b a)
 (λk=>k [pm 0] a)
 (W7 b c d)
def W8:=λb c (a:za) d (R:VK) e (f:LK)=>
 opt (zi .eql 3 45 b 14) λg=>CD g (UG c a d R e)
 (λh=>h [.bool false] a)
 (λi j=>f [nth i 0] j)
def Jr:=λb (a:za) c d (R:VK) (j:LK)=>
 zn 53 b 2 3 a λe=>zu zz (fn 63) [c,e] a (λf g=>zu zz (fn 62) [d,f] g (λh i=>rv [h] i R))
def YK:=λa b (c:za) d e f (R:VK) (g:LK)=>
 opt (zi .eql 3 45 a 13) λh=>CD h (UH b c d)
 (W8 a e c f R b)
 (λi j=>g [nth i 0] j)
def Js:=λb (a:za) c (R:VK) d (l:LK)=>
 zn 53 b 1 3 a λe=>opt (xW c) λf=>zn 116 f 2 59 a λg=>zn 53 b 2 3 a λh=>vr 59 g h 69 a λi=>opt (zd zz 53 b a) λj=>qd zz 57 [c,j] a (λk=>qd zz 59 [e,i,k] a (UE a R d b c))
def ZP:=λa b (c:za) d e (R:VK) f (g:LK)=>
 opt (zi .eql 3 45 a 12) λh=>CD h (Jr b c d e R)
 (YK a e c f d b R)
 (λi j=>g [nth i 0] j)
def Zc:=λa b (c:za) d (R:VK) e f (g:LK)=>
 opt (zi .eql 3 45 a 11) λh=>CD h (Js b c d R e)
 (ZP a b c d e R f)
 (λi j=>g [nth i 0] j)
def Jt:=λb (a:za) c d (e:LK)=>
 opt (xW b) λf=>zn 116 f 3 3 a λg=>zn 53 c 5 2 a λh=>qd zz 61 [g,h] a (λi=>opt (yh 69 d i a) λj=>e [.bool false] j)
def kZ:=λc a b (d:za) e (R:VK) f (g:LK)=>
 opt (zi .eql 3 45 c 10) λh=>CD h (λl=>BK (λi=>LP (W5 a i b)
 [pp,pm 0] d)
 (UA a e b R))
 (Zc c a d b R e f)
 (λj k=>g [nth j 0] k)
def UI:=λc (a:za) b d (e:LK)=>
 opt (xW c) λf=>zn 64 f 7 22 a λg=>zn 53 b 1 3 a λh=>vr 22 g h 3 a λi=>zn 53 b 5 2 a λj=>qd zz 61 [i,j] a (λk=>opt (yh 69 d k a) λl=>e [.bool false] l)
def ke:=λa b (c:za) d e f (R:VK) (g:LK)=>
 opt (zi .eql 3 45 a 9) λh=>CD h (Jt b c d e)
 (kZ a d b c f R e)
 (λi j=>g [nth i 0] j)
def XY:=λc (a:za) d e f (g:LK)=>
 opt (zd zz 53 c a) λh=>zu zz (fn 60) [d,e,h] a (λb i=>opt (Yt b 0) λj=>opt (Yt b 1) λk=>opt (yh 69 f j i) λl=>g [.bool false,k] l)
def uk:=λa b (c:za) d e f (R:VK) (g:LK)=>
 opt (zi .eql 3 45 a 8) λh=>CD h (UI b c d e)
 (ke a f c d e b R)
 (λi j=>g [nth i 0,.bool true] j)
def Ju:=λc (a:za) b f g (h:LK)=>
 opt (xW c) λi=>zn 116 i 2 59 a λj=>zn 53 b 2 3 a λk=>vr 59 j k 69 a λl=>qe 69 a λd m=>opt (yh 69 d l m) λe=>opt (zd zz 53 b e) λn=>zu zz (fn 57) [c,n] e (Zh b d f g h)
def wT:=λa (c:za) d e f g (R:VK) (k:LK)=>
 opt (zi .eql 3 45 a 6) λh=>CD h (λb=>b [h] c)
 (λb=>opt (zi .eql 3 45 a 7) λl=>b [l] c)
 (λm i=>CD (nth m 0) (XY d i e f g)
 (uk a e i d g f R)
 (λj n=>k [nth j 0,nth j 1] n))
def Jv:=λb (a:za) d e (f:LK)=>
 zn 53 b 1 3 a λg=>opt (xW d) λh=>zn 116 h 2 59 a λi=>zn 53 b 2 3 a λj=>vr 59 i j 69 a λk=>qd zz 56 [g,k] a (λc=>opt (Yt c 0) λl=>opt (Yt c 1) λm=>opt (yh 69 e l a) λn=>f [.bool false,m] n)
def wD:=λa b (c:za) d e f (R:VK) (h:LK)=>
 opt (zi .eql 3 45 a 5) λi=>CD i (Ju b c d e f)
 (wT a c d e b f R)
 (λg j=>h [nth g 0,nth g 1] j)
def Jw:=λb (a:za) c d (e:LK)=>
 opt (xW b) λf=>zn 116 f 2 59 a λg=>zn 53 c 2 3 a λh=>vr 59 g h 69 a λi=>opt (yh 69 d i a) λj=>e [.bool false,.bool true] j
def xZ:=λa b (c:za) d e g (R:VK) (h:LK)=>
 opt (zi .eql 3 45 a 4) λi=>CD i (Jv b c d e)
 (wD a d c b g e R)
 (λf j=>h [nth f 0,nth f 1] j)
def k7:=λb (a:za) c (d:LK)=>
 zn 53 b 5 2 a λe=>zu zz (fn 26) [e] a (λf g=>opt (yh 69 c f g) λh=>d [.bool false,.bool true] h)
def xH:=λa b (c:za) d e g (R:VK) (h:LK)=>
 opt (zi .eql 3 45 a 3) λi=>CD i (Jw b c d e)
 (xZ a d c b e g R)
 (λf j=>h [nth f 0,nth f 1] j)
def wU:=λa b (c:za) d f g (R:VK) (h:LK)=>
 opt (zi .eql 3 45 a 2) λi=>CD i (k7 b c d)
 (xH a f c b d g R)
 (λe j=>h [nth e 0,nth e 1] j)
def qx:=λb (a:za) c (d:LK) e=>
 opt (zd zz 69 b a) λf=>opt (ym zz 59 c e) λg=>opt (yh 69 g f a) λh=>d [] h
def Jx:=λb (a:za) c d (e:LK)=>
 opt (xW b) λf=>zn 116 f 2 59 a λg=>opt (zd zz 53 c a) λh=>qd zz 54 [h] a (qx d a g e)
def uI:=λb c (R:VK) (g:List aaa) (a:za)=>
 zn 53 b 7 3 a λd=>opt (xW c) λe=>jV 116 e 1 3 d a λf=>rv [.bool true] f R
def Jy:=λa b d (R:VK) e (c:za)=>
 opt (zi .geq 3 319 e 0) λf=>CD f (Jx a c b d)
 (λg=>g [] c)
 (uI b a R)
def xU:=λ(R:VK) a f g b (c:za)=>
 opt (YY zz .not (nth b 1)) λh=>CD h (λd=>rv [.bool false] c R)
 (λd=>d [nth b 0] c)
 (λj e=>opt (zd zz 53 a e) λi=>zu zz (fn 54) [i] e (Jy f a g R))
def pD:=λ(h:za) a (R:VK)=>
 opt (xW a) λf=>zn 64 f 5 62 h λg=>opt (xW a) λi=>zn 64 i 5 62 h λj=>zT (xE 62 j h) λk _=>opt (zi .sub 3 22 k 1) λl=>opt (ym zz 62 g l) λb=>opt (xW a) λm=>opt (zg zz 64 m 0) λn=>zn 25 n 1 23 h λo=>opt (xW b) λp=>zn 116 p 0 3 h λq=>opt (ym zz 23 o q) λr=>zn 45 r 5 43 h λs=>opt (xW b) λt=>zn 116 t 1 3 h λu=>vr 43 s u 53 h λv=>qe 53 h λc w=>opt (yh 53 c v w) λx=>opt (nb [] (z9 zz 69 [])) λy=>qe 69 x λd z=>opt (yh 69 d y z) λe=>zn 53 c 0 3 e λA=>BK (wU A c e d b a R)
 (xU R c b d)
theorem pE(hw:pD h t0 R):DC zz 28 [t0] h R:=C7 mixed (q:=qs) (n:=200) (Eq.mpr (by kernel_rfl) hw)
def AK:=λ(h:za) a b c d (R:VK)=>
 opt (xW a) λi=>opt (zg zz 64 i 2) λj=>zn 33 j 3 31 h λe=>opt (nb [b,c,d] (z9 zz 74 [(0,b),(1,c),(2,d)])) λf=>zT (nb [f] (zI zz 31 1 [(0,f)] h)) λg k=>zT (nb [e,g] (zv zz .append [31,31] 31 [e,g] k)) λl m=>opt (xW a) λn=>opt (zg zz 64 n 2) λo=>jV 33 o 3 31 l m λp=>rv [] p R
theorem pA(hw:AK h t0 t1 t2 t3 R):DC zz 58 [t0,t1,t2,t3] h R:=zC mixed (q:=qs) (n:=200) (Eq.mpr (by kernel_rfl) hw)
def lg:=λa (c:za) (R:VK) (f:LK)=>
 opt (nb [] (z9 zz 69 [])) λd=>opt (yh 69 a d c) λb=>opt (zd zz 69 a b) λe=>rv [e,.bool false] b R
def At:=λa (d:za) (R:VK) b=>
 opt (Yt b 0) λe=>opt (Yt b 1) λf=>opt (yh 69 a e d) λc=>opt (zd zz 69 a c) λg=>rv [g,f] c R
def Au:=λb (a:za) c d e (R:VK) (j:LK)=>
 opt (xW b) λf=>zn 64 f 1 57 a λg=>zn 53 c 1 3 a λh=>opt (zd zz 69 d a) λi=>qd zz 97 [g,h,i] a (At e a R)
def Av:=λe b f g c (R:VK) (t:List aaa) (a:za)=>
 opt (nb [] (z9 zz 69 [])) λh=>opt (xW e) λi=>zn 64 i 1 57 a λj=>zn 53 b 1 3 a λk=>opt (zd zz 69 f a) λl=>opt (xW g) λm=>zn 116 m 2 59 a λn=>zn 53 b 3 3 a λo=>vr 59 n o 69 a λp=>Yv zz 98 [j,k,l,p] a (λq r=>opt (yh 69 c h r) λd=>opt (zd zz 69 c d) λs=>rv [s,q] d R)
def lh:=λa c d e (R:VK) f g (k:aaa) (b:za)=>
 zn 53 a 0 3 b λh=>opt (zi .eql 3 40 h 6) λi=>CD i (Au c b a d e R)
 (λj=>j [nth f 0] b)
 (Av c a d g e R)
def Aw:=λa c d e (R:VK) f g (b:za)=>
 zn 69 a 2 3 b λh=>zn 69 a 1 2 b λi=>zu zz (fn 58) [c,pm 2,h,i] b (lh d c a e R g f)
def aF:=λa b (R:VK) e f g h i (c:za)=>
 ze a false (zi .neq 3 29 i 2) c (λj d=>opt (pk a (.bool true) j) λk=>CD k (lg b d R)
 (λl=>l [.bool false] d)
 (Aw e f g b R h)) c
def lj:=λ(f:za) g (R:VK) h i j d=>
 opt (Yt d 0) λk=>opt (Yt d 1) λl=>qe 69 f λa m=>opt (yh 69 a k m) λe=>opt (YY zz .not l) λb=>ze b false (zg zz 69 a 0) e (λn c=>ze b false (zd zz 3 n c) c (aF b g R a h i j) c) e
def Hq:=λ(h:za) e c d (R:VK)=>
 opt (nb [d] (some (Value.cells d).toList)) λf=>nw h f 53 λb g=>qe 69 g λi a=>opt (xW c) λj=>zn 116 j 2 59 a λk=>zn 53 b 2 3 a λl=>vr 59 k l 69 a λm=>zn 53 b 5 2 a λn=>qd zz 26 [n] a (λo=>qd zz 59 [pm 11,m,o] a (lj a i R e b c))
theorem Hr(hw:Hq h t0 t1 t2 R):DC zz 60 [t0,t1,t2] h R:=zC mixed (q:=qs) (n:=200) (Eq.mpr (by kernel_rfl) hw)
def Hs:=λa c (R:VK) (k:List aaa) (d:za)=>
 opt (xW a) λe=>opt (zg zz 64 e 2) λf=>jV 33 f 0 3 (pm 1) d λb=>zn 69 c 1 2 b λg=>opt (xW a) λh=>opt (zg zz 64 h 2) λi=>jV 33 i 1 2 g b λj=>rv [.bool true] j R
def Ht:=λb (a:za) (R:VK) d (g:LK)=>
 zn 69 b 0 3 a λe=>opt (zi .neq 3 48 e 1) λf=>CD f (λc=>rv [.bool false] a R)
 (λc=>c [.bool false] a)
 (Hs d b R)
def Hu:=λb (a:za) c (d:LK)=>
 opt (xW b) λe=>zn 116 e 2 59 a λf=>opt (nb [] (z9 zz 69 [])) λg=>opt (ym zz 59 f (nth c 0)) λh=>opt (yh 69 h g a) λi=>d [] i
def Hv:=λa (c:za) d (e:LK)=>
 zu zz (fn 100) [nth a 0] c (λf b=>opt (YY zz .not f) λg=>CD g (Hu d b a)
 (λh=>h [] b)
 (λj i=>e [] i))
def Hw:=λa b (c:LK) (g:List aaa) (d:za)=>
 BK (Hv a d b)
 (λh e=>opt (zi .add 3 79 (nth a 0) 1) λf=>c [f] e)
def mN:=λa (e:LK) f g (h:LK) i (b:za)=>
 ze a true (zi .lss 3 76 i 16) b (λj c=>opt (pk a j (.bool false)) λk=>CD k (λd=>d [] c)
 (λd=>e [] c)
 (Hw f g h)) b
def mO:=λd (e:LK) f b (a:za) (g:LK)=>
 opt (xW d) λh=>zn 64 h 6 4 a λc=>GD c true (λi=>i (nth b 0) a) (mN c e b f g) a
def Hx:=λb (a:za) c d (e:LK)=>
 opt (xW b) λf=>zn 116 f 2 59 a λg=>zn 116 c 4 3 a λh=>opt (zd zz 69 d a) λi=>opt (ym zz 59 g h) λj=>opt (yh 69 j i a) λk=>e [] k
def mP:=λb c d (R:VK) (i:List aaa) (a:za)=>
 zn 116 b 4 3 a λe=>opt (zi .geq 3 92 e 0) λf=>CD f (Hx c a b d)
 (λg=>g [] a)
 (λj h=>rv [.bool true] h R)
def DL:=λb d e (R:VK) (m:List aaa) (a:za)=>
 opt (xW b) λf=>zn 64 f 5 62 a λg=>opt (xW b) λh=>zn 64 h 5 62 a λi=>zT (xE 62 i a) λj _=>opt (zi .sub 3 68 j 1) λk=>opt (ym zz 62 g k) λc=>BK (λl=>LP (mO b l c)
 [pm 0] a)
 (mP d c e R)
def pr:=λa c (R:VK) h (t:aaa) (b:za)=>
 opt (xW a) λi=>zn 64 i 5 62 b λd=>opt (xW a) λj=>zn 64 j 5 62 b λk=>zT (xE 62 k b) λl _=>opt (zi .sub 3 36 l 1) λe=>opt (nb [d] (cond (I9 none&&I9 (some e)) (Gw zz 62 d none (some e) b) none)) λm=>opt (xW a) λn=>jV 64 n 5 62 m b λf=>opt (xW a) λo=>zn 64 o 5 62 f λp=>zT (xE 62 p f) λq g=>opt (zi .eql 3 45 q 0) λr=>CD r (Ht c g R a)
 (λs=>s [.bool false] g)
 (DL a h c R)
def L8:=λ(h:za) b e (R:VK)=>
 opt (nb [e] (some (Value.cells e).toList)) λf=>nw h f 69 λg a=>opt (xW b) λi=>zn 64 i 5 62 a λj=>opt (xW b) λk=>zn 64 k 5 62 a λl=>zT (xE 62 l a) λm _=>opt (zi .sub 3 16 m 1) λn=>vr 62 j n 116 a λo=>qe 116 a λc p=>opt (yh 116 c o p) λd=>opt (xW b) λq=>zn 64 q 1 57 d λr=>zn 116 c 3 3 d λs=>Yv zz 99 [r,s] d (pr b g R c)
theorem DM(hw:L8 h t0 t1 R):DC zz 62 [t0,t1] h R:=zC mixed (q:=qs) (n:=200) (Eq.mpr (by kernel_rfl) hw)
def On:=λd e b (R:VK) (j:List aaa) (a:za)=>
 opt (xW d) λf=>zn 116 f 2 59 a λg=>vr 59 g e 69 a λh=>opt (yh 69 b h a) λc=>opt (zd zz 69 b c) λi=>rv [i] c R
def zds:=λ(h:za) f b (R:VK)=>
 qe 69 h λa c=>opt (zi .eql 3 5 b (-1)) λg=>CD g (λd=>opt (nb [] (z9 zz 69 [])) λi=>opt (yh 69 a i c) λe=>opt (zd zz 69 a e) λj=>rv [j] e R)
 (λd=>d [] c)
 (On f b a R)
theorem Tq(hw:zds h t0 t1 R):DC zz 63 [t0,t1] h R:=zC mixed (q:=qs) (n:=200) (Eq.mpr (by kernel_rfl) hw)
def AZ:=λd (a:za) b (R:VK) (i:LK)=>
 zn 53 d 5 2 a λe=>zu zz (fn 26) [e] a (λf g=>opt (yh 69 b f g) λc=>opt (zd zz 69 b c) λh=>rv [h] c R)
def A5:=λd e b (R:VK) (k:List aaa) (a:za)=>
 opt (xW d) λf=>zn 116 f 2 59 a λg=>zn 53 e 3 3 a λh=>vr 59 g h 69 a λi=>opt (yh 69 b i a) λc=>opt (zd zz 69 b c) λj=>rv [j] c R
def HO:=λ(h:za) e c (R:VK)=>
 opt (nb [c] (some (Value.cells c).toList)) λf=>nw h f 53 λa g=>qe 69 g λd b=>zn 53 a 3 3 b λi=>opt (zi .eql 3 6 i (-1)) λj=>CD j (AZ a b d R)
 (λk=>k [] b)
 (A5 e a d R)
theorem HQ(hw:HO h t0 t1 R):DC zz 57 [t0,t1] h R:=zC mixed (q:=qs) (n:=200) (Eq.mpr (by kernel_rfl) hw)
def mD:=λa (R:VK) c (b:za)=>
 ze a false (zi .geq 3 10 c 12) b (λd e=>opt (pk a (.bool true) d) λf=>rv [f] e R) b
def mE:=λa e (R:VK) f (b:za)=>
 ze a false (zi .eql 3 6 f 5) b (λg c=>opt (pk a (.bool true) g) λd=>GD d false (λh=>h e c) (mD d R) c) b
def Ta:=λ(h:za) a (R:VK)=>
 opt (zi .eql 3 3 a 3) λb=>GD b false (λc=>c a h) (mE b a R) h
theorem PR(hw:Ta h t0 R):DC zz 100 [t0] h R:=zC mixed (q:=qs) (n:=200) (Eq.mpr (by kernel_rfl) hw)
def Db:=λb a (c:LK) (j:List aaa) (d:za)=>
 BK (λe=>opt (ym zz 22 b (nth a 0)) λf=>opt (yh 3 f (pm (-1)) d) λg=>e [] g)
 (λk h=>opt (zi .add 3 25 (nth a 0) 1) λi=>c [i] h)
def oE:=λd (e:LK) f a (b:za) (g:LK)=>
 opt (yo .lss 3 22 23 (nth a 0) d) λh=>CD h (λc=>c [] b)
 (λc=>e [] b)
 (Db f a g)
def Dc:=λa b (R:VK) (q:List aaa) (c:za)=>
 opt (xW a) λh=>zn 61 h 0 58 c λd=>opt (nb [b] (z9 zz 114 [(0,b)])) λe=>zT (nb [e] (zI zz 58 1 [(0,e)] c)) λf i=>zT (nb [d,f] (zv zz .append [58,58] 58 [d,f] i)) λj k=>opt (xW a) λl=>jV 61 l 0 58 j k λg=>opt (xW a) λm=>zn 61 m 0 58 g λn=>zT (xE 58 n g) λo p=>rv [o,pm 0] p R
def oF:=λb (R:VK) a c (d:za)=>
 opt (xW b) λh=>zn 61 h 0 58 d λi=>zT (xE 58 i d) λj e=>opt (zi .geq 3 18 j 100000) λk=>CD k (λf=>rv [pm 0,pm 2] e R)
 (λf=>f [nth c 0,nth c 1] e)
 (λo l=>zT (XZ zz 22 a a l) λg m=>BK (λn=>LP (oE a n g)
 [pm 0] m)
 (Dc b g R))
def KO:=λc (R:VK) d e f (a:za)=>
 opt (pk c (.bool true) f) λg=>CD g (λb=>rv [pm 0,pm 1] a R)
 (λb=>b [pm 0,pm 0] a)
 (oF d R e)
def KP:=λa (R:VK) c d e (b:za)=>
 ze a false (zi .gtr 3 11 e 65536) b (KO a R c d) b
def NY:=λ(h:za) c a (R:VK)=>
 opt (zi .lss 3 8 a 0) λb=>GD b false (λd=>d a h) (KP b R c a) h
theorem LY(hw:NY h t0 t1 R):DC zz 24 [t0,t1] h R:=zC mixed (q:=qs) (n:=200) (Eq.mpr (by kernel_rfl) hw)
def oJ:=λa (R:VK) d (b:za)=>
 ze a true (zd zz 4 d b) b (λe c=>ze a true (YY zz .not e) c (λf g=>opt (pk a f (.bool false)) λh=>rv [h] g R) c) b
def oK:=λa d (R:VK) e (b:za)=>
 ze a true (ym zz 58 d e) b (λf c=>ze a true (zg zz 114 f 1) c (oJ a R) c) b
def oL:=λa c (R:VK) d (b:za)=>
 ze a true (zi .sub 3 21 d 1) b (oK a c R) b
def oM:=λa e (R:VK) f (c:za)=>
 ze a true (zg zz 61 f 0) c (λg b=>ze a true (zd zz 58 g b) b (λh d=>GD a true (λi=>i e d) (oL a h R) d) b) c
def oN:=λd e f (R:VK) g (b:za)=>
 opt (pk d g (.bool false)) λa=>GD a true (λh=>h e b) (λi c=>ze a true (xW i) c (oM a f R) c) b
def oO:=λa e f g (R:VK) h (c:za)=>
 GD a true (λi=>zT (xE 58 h c) λb j=>i b j) (λb d=>ze a true (yo .leq 3 8 13 e b) d (oN a f g R) d) c
def oP:=λa d e f (R:VK) g (c:za)=>
 ze a true (zg zz 61 g 0) c (λh b=>ze a true (zd zz 58 h b) b (oO a d e f R) b) c
def zfB:=λ(h:za) c b (R:VK)=>
 opt (zi .geq 3 5 b 1) λa=>GD a true (λf=>f b h) (λg d=>GD a true (λi=>i c d) (λj e=>ze a true (xW j) e (oP a g c b R) e) d) h
theorem zch(hw:zfB h t0 t1 R):DC zz 55 [t0,t1] h R:=zC mixed (q:=qs) (n:=200) (Eq.mpr (by kernel_rfl) hw)
def GV:=λb c (R:VK) (i:List aaa) (a:za)=>
 opt (xW b) λd=>zn 61 d 0 58 a λe=>opt (zi .sub 3 13 c 1) λf=>opt (ym zz 58 e f) λg=>jV 114 g 1 4 (.bool true) a λh=>rv [.bool true] h R
def S9:=λ(h:za) a b (R:VK)=>
 zu zz (fn 55) [a,b] h (λe c=>opt (YY zz .not e) λf=>CD f (λd=>rv [.bool false] c R)
 (λd=>d [.bool false] c)
 (GV a b R))
theorem PQ(hw:S9 h t0 t1 R):DC zz 99 [t0,t1] h R:=zC mixed (q:=qs) (n:=200) (Eq.mpr (by kernel_rfl) hw)
def Ho:=λb a (c:LK) (j:List aaa) (d:za)=>
 BK (λe=>opt (ym zz 22 b (nth a 0)) λf=>opt (yh 3 f (pm 0) d) λg=>e [] g)
 (λk h=>opt (zi .add 3 24 (nth a 0) 1) λi=>c [i] h)
def As:=λa (e:LK) b (f:za) (g:LK)=>
 zT (xE 22 a f) λh c=>opt (yo .lss 3 20 22 (nth b 0) h) λi=>CD i (λd=>d [] c)
 (λd=>e [] c)
 (Ho a b g)
def Hp:=λb c (R:VK) (k:List aaa) (a:za)=>
 opt (xW b) λd=>zn 61 d 0 58 a λe=>opt (zi .sub 3 15 c 1) λf=>opt (ym zz 58 e f) λg=>zn 114 g 0 22 a λh=>BK (λi=>LP (As h i)
 [pm 0] a)
 (λl j=>rv [.bool true] j R)
def Tj:=λ(h:za) a b (R:VK)=>
 zu zz (fn 55) [a,b] h (λe c=>opt (YY zz .not e) λf=>CD f (λd=>rv [.bool false] c R)
 (λd=>d [.bool false] c)
 (Hp a b R))
theorem PW(hw:Tj h t0 t1 R):DC zz 25 [t0,t1] h R:=zC mixed (q:=qs) (n:=200) (Eq.mpr (by kernel_rfl) hw)
def kV:=λa (R:VK) c (b:za)=>
 ze a true (zi .eql 2 59 c 0) b (λd e=>opt (pk a d (.bool false)) λf=>rv [f] e R) b
def kW:=λa d (R:VK) e (b:za)=>
 GD a true (λf=>f d b) (λg c=>ze a true (yo .rem 2 57 58 e g) c (kV a R) c) b
def kX:=λd e f (R:VK) g (c:za)=>
 opt (pk d g (.bool false)) λa=>ze a true (zg zz 69 e 1) c (λh b=>ze a true (zd zz 2 h b) b (kW a f R) b) c
def ZI:=λa d e f g (R:VK) h (b:za)=>
 ze a true (yo .sub 3 50 51 d h) b (λi c=>ze a true (yo .leq 2 39 52 e i) c (kX a f g R) c) b
def ZJ:=λa d f g (R:VK) h (b:za)=>
 GD a true (λi=>zT (xE 22 h b) λc _=>i c b) (λc e=>GD a true (λj=>j d e) (ZI a c f g d R) e) b
def j4:=λa d e f (R:VK) g (c:za)=>
 ze a true (zg zz 114 g 0) c (λh b=>ze a true (zd zz 22 h b) b (ZJ a d e f R) b) c
def j5:=λa d e f g (R:VK) h (b:za)=>
 ze a true (zi .sub 3 45 h 1) b (λi c=>ze a true (ym zz 58 d i) c (j4 a e f g R) c) b
def j6:=λa c e f (R:VK) g (d:za)=>
 ze a true (zg zz 69 c 2) d (λh b=>ze a true (zd zz 3 h b) b (j5 a g e f c R) b) d
def uG:=λa d e f (R:VK) g (c:za)=>
 ze a true (zg zz 61 g 0) c (λh b=>ze a true (zd zz 58 h b) b (j6 a d e f R) b) c
def vx:=λa e f g (R:VK) h (b:za)=>
 ze a true (zd zz 2 h b) b (λi c=>GD a true (λj=>j e c) (λk d=>ze a true (xW k) d (uG a f g i R) d) c) b
def vy:=λa d e (R:VK) (g:List aaa) (b:za)=>
 zn 69 a 1 2 b λf=>opt (zi .geq 2 35 f 0) λc=>ze c true (zg zz 69 a 1) b (vx c d a e R) b
def wh:=λa (R:VK) e f g h (b:za)=>
 ze a false (YY zz .not h) b (λi c=>opt (pk a (.bool true) i) λj=>CD j (λd=>rv [.bool false] c R)
 (λd=>d [.bool false] c)
 (vy e f g R)) b
def uU:=λa d (R:VK) e f g h (b:za)=>
 ze a false (zd zz 3 h b) b (λi c=>GD a false (λj=>zu zz (fn 55) [d,i] c (λk l=>j k l)) (wh a R e f g) c) b
def uV:=λf b c (R:VK) g h (d:za)=>
 opt (pk f (.bool true) h) λa=>GD a false (λi=>i b d) (λj e=>ze a false (zg zz 69 c 2) e (uU a j R c b g) e) d
def uW:=λa c d (R:VK) e f (b:za)=>
 ze a false (zi .neq 3 24 f 2) b (uV a c d R e) b
def uX:=λe c f (R:VK) g h (d:za)=>
 opt (pk e (.bool true) h) λa=>ze a false (zg zz 69 c 0) d (λi b=>ze a false (zd zz 3 i b) b (uW a f c R g) b) d
def qJ:=λa e f (R:VK) g h (c:za)=>
 GD a false (λi=>zu zz (fn 93) [h] c (λb j=>i b j)) (λb d=>ze a false (YY zz .not b) d (uX a e f R g) d) c
def uY:=λb c f (R:VK) g h (d:za)=>
 ze b true (zi .neq 3 14 h 8) d (λi a=>opt (pk b i (.bool false)) λe=>ze e false (zd zz 69 c a) a (qJ e c f R g) a) d
def Xg:=λa b f g (R:VK) h (c:za)=>
 ze a true (zi .neq 3 10 h 4) c (λi d=>opt (pk a i (.bool false)) λe=>GD e true (λj=>j b d) (uY e f g R b) d) c
def mF:=λ(h:za) e a b (R:VK)=>
 opt (nb [b] (some (Value.cells b).toList)) λf=>nw h f 69 λg c=>opt (zi .neq 3 7 a 1) λd=>GD d true (λi=>i a c) (Xg d a g e R) c
theorem i9(hw:mF h t0 t1 t2 R):DC zz 122 [t0,t1,t2] h R:=zC mixed (q:=qs) (n:=200) (Eq.mpr (by kernel_rfl) hw)
def GW:=λa (c:za) (R:VK) (f:LK)=>
 opt (nb [] (z9 zz 69 [])) λd=>opt (yh 69 a d c) λb=>opt (zd zz 69 a b) λe=>rv [e,.bool false] b R
def cW:=λe f a (g:LK) h i (b:za)=>
 opt (pk e i (.bool false)) λj=>vr 22 f (nth a 3) 3 b λk=>opt (zi .and 3 89 k 255) λc=>zT (nb [c] (vY zz 3 177 c b)) λl m=>opt (nb [pm 8,nth a 3] (zX zz .mul 3 (.const (pm 8)) (.tmp 92) (pm 8) (nth a 3))) λd=>zT (nb [d] (vY zz 3 164 d m)) λn o=>opt (yo .shl 177 91 94 l n) λp=>opt (yo .or 177 85 95 (nth a 0) p) λq=>g [q,h,j] o
def cX:=λa c d (e:LK) f g (b:za)=>
 ze a true (zi .eql 3 82 g 0) b (cW a c d e f) b
def cY:=λa c d (e:LK) f g (b:za)=>
 ze a true (zi .rem 3 81 g 8) b (cX a c d e f) b
def cZ:=λa d e (f:LK) g h (c:za)=>
 ze a true (ym zz 22 h (pm 0)) c (λi b=>ze a true (zd zz 3 i b) b (cY a d e f g) b) c
def dm:=λa f b g (h:LK) i j (c:za)=>
 ze a true (yo .eql 3 70 75 f j) c (λk d=>opt (pk a k (.bool false)) λe=>GD e true (λl=>l b d) (cZ e b g h i) d) c
def dp:=λa b e f (g:LK) h i (c:za)=>
 GD a true (λj=>j (nth b 3) c) (λk d=>ze a true (yo .add 3 73 74 i k) d (dm a e f b g h) d) c
def dq:=λa d e f (g:LK) h i (c:za)=>
 ze a true (ym zz 22 i (pm 0)) c (λj b=>ze a true (zd zz 3 j b) b (dp a d e f g h) b) c
def dr:=λa c e (f:LK) g h (b:za)=>
 ze a true (zd zz 3 h b) b (λi d=>GD a true (λj=>j c d) (dq a e i c f g) d) b
def KR:=λa b e (f:LK) g h (c:za)=>
 GD a true (λi=>i (nth b 3) c) (λj d=>ze a true (ym zz 22 h j) d (dr a e b f g) d) c
def KS:=λa b (f:LK) g h (c:za)=>
 ze (nth a 2) true (zi .geq 3 63 h 1000) c (λi d=>opt (pk (nth a 2) i (.bool false)) λe=>GD e true (λj=>j b d) (KR e a b f g) d) c
def KT:=λa d e (f:LK) g h (c:za)=>
 ze (nth a 2) true (ym zz 22 d h) c (λi b=>ze (nth a 2) true (zd zz 3 i b) b (KS a e f g) b) c
def KU:=λe a b (f:LK) g (c:za)=>
 opt (pk e g (.bool false)) λh=>GD (nth a 2) true (λi=>i b c) (λj d=>GD (nth a 2) true (λk=>k (nth a 3) d) (KT a j b f h) d) c
def KW:=λa c d (e:LK) f (b:za)=>
 ze a true (zi .lss 3 55 f 256) b (KU a c d e) b
def KX:=λa d e f (g:LK) h (c:za)=>
 ze a true (ym zz 22 d h) c (λi b=>ze a true (zd zz 3 i b) b (KW a e f g) b) c
def KY:=λa c (f:LK) g (d:za)=>
 opt (pk (nth a 1) g (.bool false)) λb=>GD b true (λh=>h c d) (λi e=>GD b true (λj=>j (nth a 3) e) (KX b i a c f) e) d
def KZ:=λa c (d:LK) e (b:za)=>
 ze (nth a 1) true (zi .geq 3 48 e 0) b (KY a c d) b
def K0:=λa d e (f:LK) g (c:za)=>
 ze (nth a 1) true (ym zz 22 d g) c (λh b=>ze (nth a 1) true (zd zz 3 h b) b (KZ a e f) b) c
def K1:=λb (c:LK) a (d:za)=>
 opt (zi .add 3 41 (nth b 3) 1) λe=>c [nth a 0,nth a 1,nth a 2,e] d
def K3:=λa b (e:LK) (j:List aaa) (c:za)=>
 BK (λf=>GD (nth a 1) true (λg=>g b c) (λh d=>GD (nth a 1) true (λi=>i (nth a 3) d) (K0 a h b f) d) c)
 (K1 a e)
def ZH:=λd (e:LK) f a (b:za) (g:LK)=>
 opt (yo .lss 3 38 39 (nth a 3) d) λh=>CD h (λc=>c [] b)
 (λc=>e [nth a 0,nth a 1,nth a 2] b)
 (K3 a f g)
def oQ:=λa (R:VK) c (d:za)=>
 zu zz (fn 26) [c] d (λe f=>opt (yh 69 a e f) λb=>opt (zd zz 69 a b) λg=>rv [g,.bool true] b R)
def oR:=λa (d:za) b e (R:VK) (j:LK)=>
 zT (nb [nth a 0] (vY zz 177 2 (nth a 0) d)) λf g=>opt (nb [pm 8,b] (zX zz .mul 3 (.const (pm 8)) (.tmp 102) (pm 8) b)) λc=>zT (nb [c] (vY zz 3 164 c g)) λh i=>zu zz (fn 94) [f,h] i (oQ e R)
def Dr:=λa b (R:VK) (j:List aaa) (d:za)=>
 zT (nb [nth a 0] (vY zz 177 2 (nth a 0) d)) λe f=>zu zz (fn 26) [e] f (λg h=>opt (yh 69 b g h) λc=>opt (zd zz 69 b c) λi=>rv [i,.bool true] c R)
def gd:=λa b (c:za) d (R:VK) e (h:LK)=>
 opt (zi .lss 3 98 a 8) λf=>CD f (oR b c a d R)
 (λg=>g [nth e 0] c)
 (Dr b d R)
def Ds:=λd (a:za) e b (R:VK) (m:LK)=>
 opt (xW d) λf=>zn 61 f 1 59 a λg=>vr 22 e (pm 0) 3 a λh=>opt (zi .sub 3 117 h 1000) λi=>opt (zi .quo 3 118 i 8) λj=>vr 59 g j 69 a λk=>opt (yh 69 b k a) λc=>opt (zd zz 69 b c) λl=>rv [l,.bool true] c R
def Dt:=λa (R:VK) (f:List aaa) (c:za)=>
 opt (nb [] (z9 zz 69 [])) λd=>opt (yh 69 a d c) λb=>opt (zd zz 69 a b) λe=>rv [e,.bool true] b R
def Uq:=λf a (R:VK) c g h b (d:za)=>
 CD (nth b 1) (gd f b d a R c)
 (λi=>i [nth c 0] d)
 (λj e=>CD (nth b 2) (Ds g e h a R)
 (λk=>k [nth j 0] e)
 (Dt a R))
def Du:=λd c b i (R:VK) j (a:za)=>
 opt (xW d) λk=>zn 61 k 0 58 a λl=>zn 69 c 2 3 a λm=>opt (zi .sub 3 24 m 1) λn=>opt (ym zz 58 l n) λo=>zn 114 o 0 22 a λe=>zn 69 c 1 2 a λf=>zn 69 c 1 2 a λp=>opt (yo .add 2 32 33 p b) λg=>opt (nb [e] (cond (I9 (some f)&&I9 (some g)) (Gw zz 22 e (some f) (some g) a) none)) λh=>opt (zi .eql 3 36 b 8) λq=>BK (λr=>LP (ZH b r h)
 [.int .u64 0,.bool true,q,pm 0] a)
 (Uq b i R j d h)
def Tb:=λ(h:za) a b c (R:VK)=>
 opt (nb [c] (some (Value.cells c).toList)) λi=>nw h i 69 λd j=>qe 69 j λe f=>opt (zd zz 69 d f) λk=>zu zz (fn 122) [a,b,k] f (λl g=>opt (YY zz .not l) λm=>CD m (GW e g R)
 (λn=>n [.bool false] g)
 (Du a d b e R))
theorem PS(hw:Tb h t0 t1 t2 R):DC zz 97 [t0,t1,t2] h R:=zC mixed (q:=qs) (n:=200) (Eq.mpr (by kernel_rfl) hw)
def DF:=λb (a:za) f (g:LK)=>
 opt (xW b) λh=>zn 61 h 1 59 a λc=>opt (zd zz 69 f a) λd=>zT (nb [d] (zI zz 59 1 [(0,d)] a)) λe i=>zT (nb [c,e] (zv zz .append [59,59] 59 [c,e] i)) λj k=>opt (xW b) λl=>jV 61 l 1 59 j k λm=>g [] m
def DG:=λd (b:za) a e (f:LK)=>
 zn 69 d 1 2 b λg=>opt (nb [pm 8,nth a 0] (zX zz .mul 3 (.const (pm 8)) (.tmp 92) (pm 8) (nth a 0))) λc=>zT (nb [c] (vY zz 3 164 c b)) λh i=>opt (yo .shr 2 91 94 g h) λj=>opt (zi .and 2 95 j 255) λk=>opt (ym zz 22 e (nth a 0)) λl=>opt (yh 3 l k i) λm=>f [] m
def gx:=λa d e f (g:LK) h (b:za)=>
 ze a true (zi .eql 3 85 h 1) b (λi c=>opt (pk a i (.bool false)) λj=>CD j (DG d c e f)
 (λk=>k [] c)
 (λm l=>g [] l)) b
def gy:=λc e f (g:LK) a (d:za)=>
 ze a true (zg zz 69 c 0) d (λh b=>ze a true (zd zz 3 h b) b (gx a c e f g) b) d
def DH:=λe (a:za) b f (g:LK)=>
 opt (xW e) λh=>zn 61 h 1 59 a λi=>zT (xE 59 i a) λj k=>opt (zi .sub 3 74 j 1) λc=>opt (nb [pm 8,c] (zX zz .mul 3 (.const (pm 8)) (.tmp 75) (pm 8) c)) λd=>opt (nb [pm 1000,d] (zX zz .add 3 (.const (pm 1000)) (.tmp 76) (pm 1000) d)) λl=>opt (yo .add 3 77 78 l (nth b 0)) λm=>opt (ym zz 22 f (nth b 0)) λn=>opt (yh 3 n m k) λo=>g [] o
def DI:=λa b (e:za) f g d (h:LK)=>
 opt (ym zz 22 a (nth b 0)) λi=>opt (yh 3 i (pm (-1)) e) λc=>CD f (DH g c b a)
 (λj=>opt (zd zz 69 d c) λk=>zu zz (fn 93) [k] c (gy d b a j))
 (λm l=>h [] l)
def DJ:=λb a c d e (f:LK) (j:List aaa) (g:za)=>
 BK (DI b a g c d e)
 (λk h=>opt (zi .add 3 62 (nth a 0) 1) λi=>f [i] h)
def gB:=λd (e:LK) f g h i a (b:za) (j:LK)=>
 opt (yo .lss 3 59 60 (nth a 0) d) λk=>CD k (λc=>c [] b)
 (λc=>e [] b)
 (DJ f a g h i j)
def oW:=λb c d e f (R:VK) (u:List aaa) (a:za)=>
 opt (xW b) λj=>zn 61 j 0 58 a λk=>zn 69 c 2 3 a λl=>opt (zi .sub 3 36 l 1) λm=>opt (ym zz 58 k m) λn=>zn 114 n 0 22 a λg=>zn 69 c 1 2 a λh=>zn 69 c 1 2 a λo=>opt (yo .add 2 44 45 o d) λi=>opt (nb [g] (cond (I9 (some h)&&I9 (some i)) (Gw zz 22 g (some h) (some i) a) none)) λp=>CD e (DF b a f)
 (λq=>q [] a)
 (λv r=>BK (λs=>LP (gB d s p e b f)
 [pm 0] r)
 (λw t=>rv [.bool true] t R))
def UT:=λa e (R:VK) f g h i j k (b:za)=>
 ze a false (pk e k (.bool false)) b (λl c=>opt (pk a (.bool true) l) λm=>CD m (λd=>rv [.bool false] c R)
 (λd=>d [.bool false] c)
 (oW f g h i j R)) b
def UU:=λa c (R:VK) d e f g h i (b:za)=>
 ze a true (zi .neq 3 27 i 8) b (UT c a R d e f g h) b
def WA:=λb c (R:VK) h i j k (d:za)=>
 opt (YY zz .not k) λa=>GD a false (λl=>l b d) (λm e=>GD a false (λn=>n m e) (λf g=>GD f true (λo=>o c g) (UU f a R h i c b j) g) e) d
def J6:=λe a b c (R:VK) f g (d:za)=>
 opt (pk e g (.bool false)) λh=>opt (zd zz 69 a d) λi=>zu zz (fn 122) [b,c,i] d (WA h c R b a f)
def J7:=λa c d e (R:VK) f g (b:za)=>
 ze a true (zi .eql 3 16 g 2) b (J6 a c d e R f) b
def J8:=λc e f g (R:VK) a (d:za)=>
 ze a true (zg zz 69 c 0) d (λh b=>ze a true (zd zz 3 h b) b (J7 a e f g R c) b) d
def N7:=λ(h:za) e f a b (R:VK)=>
 opt (nb [a] (some (Value.cells a).toList)) λg=>nw h g 69 λi j=>opt (nb [b] (some (Value.cells b).toList)) λk=>nw j k 69 λc d=>opt (zd zz 69 c d) λl=>zu zz (fn 93) [l] d (J8 c i e f R)
theorem L4(hw:N7 h t0 t1 t2 t3 R):DC zz 98 [t0,t1,t2,t3] h R:=zC mixed (q:=qs) (n:=200) (Eq.mpr (by kernel_rfl) hw)
def oG:=λa (R:VK) c (b:za)=>
 ze a true (zi .eql 3 12 c 0) b (λd e=>opt (pk a d (.bool false)) λf=>rv [f] e R) b
def Dg:=λb (a:za) (R:VK) (e:LK)=>
 zn 69 b 2 3 a λc=>opt (zi .geq 3 23 c 1) λd=>rv [d] a R
def Dh:=λb (a:za) (R:VK) (e:LK)=>
 zn 69 b 2 3 a λc=>opt (zi .eql 3 18 c 0) λd=>rv [d] a R
def oH:=λb c (a:za) (R:VK) (d:LK)=>
 opt (zi .eql 3 4 b 2) λe=>CD e (Dg c a R)
 (λf=>f [.bool false] a)
 (λg h=>d [nth g 0] h)
def oI:=λd (a:za) (R:VK) (g:LK)=>
 zn 69 d 1 2 a λe=>opt (zi .eql 2 8 e 0) λb=>ze b true (zg zz 69 d 2) a (λf c=>ze b true (zd zz 3 f c) c (oG b R) c) a
def f9:=λa b (c:za) (R:VK) (d:LK)=>
 opt (zi .eql 3 4 a 1) λe=>CD e (Dh b c R)
 (oH a b c R)
 (λf g=>d [nth f 0] g)
def Up:=λa b (c:za) (R:VK) (d:LK)=>
 opt (zi .eql 3 4 a 0) λe=>CD e (oI b c R)
 (f9 a b c R)
 (λf g=>d [nth f 0] g)
def NZ:=λ(h:za) a (R:VK)=>
 opt (nb [a] (some (Value.cells a).toList)) λd=>nw h d 69 λb c=>zn 69 b 0 3 c λe=>BK (Up e b c R)
 (λg f=>rv [.bool false] f R)
theorem LZ(hw:NZ h t0 R):DC zz 93 [t0] h R:=zC mixed (q:=qs) (n:=200) (Eq.mpr (by kernel_rfl) hw)
def zfC:=λ(h:za) a (R:VK)=>
 qe 69 h λb d=>opt (nb [pm 1,a] (z9 zz 69 [(0,(pm 1)),(1,a)])) λe=>opt (yh 69 b e d) λc=>opt (zd zz 69 b c) λf=>rv [f] c R
theorem zci(hw:zfC h t0 R):DC zz 26 [t0] h R:=zC mixed (q:=qs) (n:=200) (Eq.mpr (by kernel_rfl) hw)
def S5:=λa b c (R:VK) (h:List aaa) (e:za)=>
 opt (nb [pm 2,a,b] (z9 zz 69 [(0,(pm 2)),(2,a),(1,b)])) λf=>opt (yh 69 c f e) λd=>opt (zd zz 69 c d) λg=>rv [g] d R
def zfA:=λ(h:za) b f (R:VK)=>
 qe 69 h λa c=>opt (zi .lss 3 5 b 1) λg=>CD g (λd=>opt (nb [] (z9 zz 69 [])) λi=>opt (yh 69 a i c) λe=>opt (zd zz 69 a e) λj=>rv [j] e R)
 (λd=>d [] c)
 (S5 b f a R)
theorem zcg(hw:zfA h t0 t1 R):DC zz 61 [t0,t1] h R:=zC mixed (q:=qs) (n:=200) (Eq.mpr (by kernel_rfl) hw)
def E4:=λa b (h:za) (R:VK) (e:LK)=>
 opt (nb [pm 1,a] (zX zz .shl 2 (ci 1) (.tmp 17) (pm 1) a)) λc=>opt (yo .sub 2 16 18 b c) λd=>rv [d] h R
def S7:=λ(h:za) d a (R:VK)=>
 opt (nb [pm 1,a] (zX zz .shl 2 (ci 1) (.tmp 7) (pm 1) a)) λe=>opt (zi .sub 2 8 e 1) λf=>opt (yo .and 2 6 9 d f) λb=>opt (nb [a,.int .u64 1] (zX zz .sub 164 (.tmp 12) (.const (.int .u64 1)) a (.int .u64 1))) λc=>opt (nb [pm 1,c] (zX zz .shl 2 (ci 1) (.tmp 13) (pm 1) c)) λg=>opt (yo .geq 2 11 14 b g) λi=>CD i (E4 a b h R)
 (λj=>j [pm 0] h)
 (λl k=>rv [b] k R)
theorem GU(hw:S7 h t0 t1 R):DC zz 94 [t0,t1] h R:=zC mixed (q:=qs) (n:=200) (Eq.mpr (by kernel_rfl) hw)
def oX:=λa (c:za) (R:VK) (f:LK)=>
 opt (nb [] (z9 zz 69 [])) λd=>opt (yh 69 a d c) λb=>opt (zd zz 69 a b) λe=>rv [e,.bool false] b R
def Al:=λa (R:VK) c (d:za)=>
 zu zz (fn 26) [c] d (λe f=>opt (yh 69 a e f) λb=>opt (zd zz 69 a b) λg=>rv [g,.bool true] b R)
def Am:=λa (R:VK) c (d:za)=>
 zu zz (fn 26) [c] d (λe f=>opt (yh 69 a e f) λb=>opt (zd zz 69 a b) λg=>rv [g,.bool true] b R)
def oY:=λb (a:za) c (R:VK) (e:LK)=>
 zn 69 b 1 2 a λd=>zu zz (fn 94) [d,.int .u64 32] a (Am c R)
def An:=λb (a:za) c (R:VK) (e:LK)=>
 zn 69 b 1 2 a λd=>zu zz (fn 94) [d,.int .u64 8] a (Al c R)
def dK:=λb c (a:za) d (R:VK) e (f:LK)=>
 opt (zi .eql 3 15 b 4) λg=>CD g (oY c a d R)
 (λh=>h [nth e 0] a)
 (λi j=>f [nth i 0] j)
def Ao:=λe (a:za) b (R:VK) (j:LK)=>
 zn 69 e 1 2 a λc=>opt (nb [pm (-1),c] (zX zz .sub 2 (.const (pm (-1))) (.tmp 26) (pm (-1)) c)) λf=>zu zz (fn 26) [f] a (λg h=>opt (yh 69 b g h) λd=>opt (zd zz 69 b d) λi=>rv [i,.bool true] d R)
def Ky:=λa b (c:za) d (R:VK) e (f:LK)=>
 opt (zi .eql 3 15 a 3) λg=>CD g (An b c d R)
 (dK a b c d R e)
 (λh i=>f [nth h 0] i)
def aA:=λd (a:za) b (R:VK) (k:LK)=>
 zn 69 d 1 2 a λe=>opt (YY zz .xor e) λf=>opt (zi .add 2 20 f 1) λg=>zu zz (fn 26) [g] a (λh i=>opt (yh 69 b h i) λc=>opt (zd zz 69 b c) λj=>rv [j,.bool true] c R)
def QB:=λa b (c:za) d (R:VK) e (f:LK)=>
 opt (zi .eql 3 15 a 2) λg=>CD g (Ao b c d R)
 (Ky a b c d R e)
 (λh i=>f [nth h 0] i)
def gC:=λa b (c:za) d (R:VK) e (f:LK)=>
 opt (zi .eql 3 15 a 1) λg=>CD g (aA b c d R)
 (QB a b c d R e)
 (λh i=>f [nth h 0] i)
def N9:=λa (R:VK) (f:List aaa) (c:za)=>
 opt (nb [] (z9 zz 69 [])) λd=>opt (yh 69 a d c) λb=>opt (zd zz 69 a b) λe=>rv [e,.bool false] b R
def QC:=λc a (R:VK) d e f (b:za)=>
 opt (pk c (.bool true) f) λg=>CD g (oX a b R)
 (λh=>h [.bool false] b)
 (λi j=>BK (gC d e j a R i)
 (N9 a R))
def QD:=λa c (R:VK) d e f (b:za)=>
 ze a false (zi .neq 3 11 f 1) b (QC a c R d e) b
def QE:=λc e (R:VK) f g (d:za)=>
 opt (YY zz .not g) λa=>ze a false (zg zz 69 c 0) d (λh b=>ze a false (zd zz 3 h b) b (QD a e R f c) b) d
def Th:=λ(h:za) d a (R:VK)=>
 opt (nb [a] (some (Value.cells a).toList)) λe=>nw h e 69 λb f=>qe 69 f λg c=>opt (zd zz 69 b c) λi=>zu zz (fn 93) [i] c (QE b g R d)
theorem E6(hw:Th h t0 t1 R):DC zz 56 [t0,t1] h R:=zC mixed (q:=qs) (n:=200) (Eq.mpr (by kernel_rfl) hw)
def VC:=λa (R:VK) b (c:za)=>
 zT (nb [nth a 0] (vY zz 177 2 (nth a 0) c)) λd e=>zT (nb [nth b 0] (vY zz 177 2 (nth b 0) e)) λf g=>rv [d,f,.bool true] g R
def VD:=λd b (R:VK) e (c:za)=>
 opt (zi .lss 2 48 d 0) λf=>CD f (λa=>opt (YY zz .neg b) λg=>a [g] c)
 (λa=>a [b] c)
 (VC e R)
def VE:=λc d g (R:VK) e (f:za)=>
 opt (yo .quo 177 33 34 (nth c 0) (nth e 0)) λa=>opt (yo .mul 177 37 38 a (nth e 0)) λh=>opt (yo .sub 177 36 39 (nth c 0) h) λi=>opt (zi .lss 2 41 d 0) λj=>opt (zi .lss 2 43 g 0) λk=>opt (yo .neq 4 42 44 j k) λl=>CD l (λb=>opt (YY zz .neg a) λm=>b [m] f)
 (λb=>b [a] f)
 (VD d i R)
def VF:=λb c e (R:VK) f (d:za)=>
 opt (zi .lss 2 29 b 0) λg=>CD g (λa=>opt (YY zz .neg c) λh=>a [h] d)
 (λa=>a [c] d)
 (VE f e b R)
def Xy:=λa b (R:VK) (k:List aaa) (f:za)=>
 zT (nb [a] (vY zz 2 177 a f)) λd g=>zT (nb [b] (vY zz 2 177 b g)) λh e=>opt (zi .lss 2 25 a 0) λi=>CD i (λc=>opt (YY zz .neg d) λj=>c [j] e)
 (λc=>c [d] e)
 (VF b h a R)
def VG:=λc (R:VK) d e f (a:za)=>
 opt (pk c (.bool true) f) λg=>CD g (λb=>rv [pm 0,pm 0,.bool false] a R)
 (λb=>b [pm 0,pm 0,.bool false] a)
 (Xy d e R)
def VH:=λa b (R:VK) e f g (c:za)=>
 ze a true (zi .eql 2 17 g (-1)) c (λh d=>ze b false (pk a h (.bool false)) d (VG b R e f) d) c
def VI:=λa b (R:VK) g h (c:za)=>
 ze a false (zi .eql 2 14 h (-9223372036854775808)) c (λi d=>GD a false (λj=>j i d) (λe f=>GD e true (λk=>k b f) (VH e a R g b) f) d) c
def Df:=λ(h:za) a b (R:VK)=>
 opt (zi .eql 2 11 b 0) λc=>GD c false (λd=>d a h) (VI c b R a) h
theorem E3(hw:Df h t0 t1 R):DC zz 121 [t0,t1] h R:=zC mixed (q:=qs) (n:=200) (Eq.mpr (by kernel_rfl) hw)
def Oc:=λ(c:za) a (R:VK) (g:LK)=>
 zu zz (fn 26) [pm 1] c (λd e=>opt (yh 69 a d e) λb=>opt (zd zz 69 a b) λf=>rv [f] b R)
def Od:=λa (R:VK) (g:List aaa) (c:za)=>
 zu zz (fn 26) [pm 0] c (λd e=>opt (yh 69 a d e) λb=>opt (zd zz 69 a b) λf=>rv [f] b R)
def zdp:=λ(h:za) c (R:VK)=>
 qe 69 h λa b=>CD c (Oc b a R)
 (λd=>d [] b)
 (Od a R)
theorem Tk(hw:zdp h t0 R):DC zz 96 [t0] h R:=zC mixed (q:=qs) (n:=200) (Eq.mpr (by kernel_rfl) hw)
def Wf:=λa (c:za) (R:VK) (f:LK)=>
 opt (nb [] (z9 zz 69 [])) λd=>opt (yh 69 a d c) λb=>opt (zd zz 69 a b) λe=>rv [e,.bool false] b R
def UZ:=λa (R:VK) c (d:za)=>
 zu zz (fn 26) [nth c 0] d (λe f=>opt (yh 69 a e f) λb=>opt (zd zz 69 a b) λg=>rv [g,.bool true] b R)
def U0:=λc d e f (R:VK) (h:List aaa) (b:za)=>
 opt (zi .eql 3 44 c 15) λg=>CD g (λa=>a [d] b)
 (λa=>a [e] b)
 (UZ f R)
def Yn:=λa (c:za) (R:VK) (f:LK)=>
 opt (nb [] (z9 zz 69 [])) λd=>opt (yh 69 a d c) λb=>opt (zd zz 69 a b) λe=>rv [e,.bool false] b R
def ZD:=λa (b:za) (c:LK)=>
 opt (zi .and 2 92 (nth a 0) 1) λd=>opt (yo .sub 2 91 93 (nth a 0) d) λe=>opt (zi .quo 2 94 e 2) λf=>c [f] b
def j9:=λc a (b:za) (d:LK)=>
 opt (zi .eql 3 86 c 19) λe=>CD e (λf=>opt (yo .add 2 88 89 (nth a 0) (nth a 0)) λg=>f [g] b)
 (ZD a b)
 (λh i=>d [nth h 0] i)
def Za:=λa (b:LK) c (d:za)=>
 opt (zi .add 2 84 (nth a 1) 1) λe=>b [nth c 0,e] d
def Yo:=λd (e:LK) f a (b:za) (g:LK)=>
 opt (yo .lss 2 81 82 (nth a 1) d) λh=>CD h (λc=>c [] b)
 (λc=>e [nth a 0] b)
 (λj i=>BK (j9 f a i)
 (Za a g))
def Jm:=λa (R:VK) c (d:za)=>
 zu zz (fn 26) [nth c 0] d (λe f=>opt (yh 69 a e f) λb=>opt (zd zz 69 a b) λg=>rv [g,.bool true] b R)
def ZM:=λc a (R:VK) d e f g (b:za)=>
 opt (pk c (.bool true) g) λh=>CD h (Yn a b R)
 (λi=>i [.bool false] b)
 (λl j=>BK (λk=>LP (Yo d k e)
 [f,pm 0] j)
 (Jm a R))
def j7:=λa c (R:VK) d e f g (b:za)=>
 ze a false (zi .gtr 2 77 g 63) b (ZM a c R d e f) b
def ZN:=λc d (e:za) a (R:VK) (j:LK)=>
 opt (yo .geq 2 130 131 c d) λf=>zu zz (fn 96) [f] e (λg h=>opt (yh 69 a g h) λb=>opt (zd zz 69 a b) λi=>rv [i,.bool true] b R)
def Jl:=λc d (e:za) a (R:VK) (j:LK)=>
 opt (yo .gtr 2 124 125 c d) λf=>zu zz (fn 96) [f] e (λg h=>opt (yh 69 a g h) λb=>opt (zd zz 69 a b) λi=>rv [i,.bool true] b R)
def Uw:=λb c d (a:za) e (R:VK) (f:LK)=>
 opt (zi .eql 3 19 b 26) λg=>CD g (ZN c d a e R)
 (λh=>h [.bool false] a)
 (λi j=>f [nth i 0] j)
def Ux:=λc d (e:za) a (R:VK) (j:LK)=>
 opt (yo .leq 2 118 119 c d) λf=>zu zz (fn 96) [f] e (λg h=>opt (yh 69 a g h) λb=>opt (zd zz 69 a b) λi=>rv [i,.bool true] b R)
def WM:=λa b c (d:za) e (R:VK) (f:LK)=>
 opt (zi .eql 3 19 a 25) λg=>CD g (Jl b c d e R)
 (Uw a b c d e R)
 (λh i=>f [nth h 0] i)
def WN:=λc d (e:za) a (R:VK) (j:LK)=>
 opt (yo .lss 2 112 113 c d) λf=>zu zz (fn 96) [f] e (λg h=>opt (yh 69 a g h) λb=>opt (zd zz 69 a b) λi=>rv [i,.bool true] b R)
def XT:=λa b c (d:za) e (R:VK) (f:LK)=>
 opt (zi .eql 3 19 a 24) λg=>CD g (Ux b c d e R)
 (WM a b c d e R)
 (λh i=>f [nth h 0] i)
def XU:=λc d (e:za) a (R:VK) (j:LK)=>
 opt (yo .neq 2 106 107 c d) λf=>zu zz (fn 96) [f] e (λg h=>opt (yh 69 a g h) λb=>opt (zd zz 69 a b) λi=>rv [i,.bool true] b R)
def YH:=λa b c (d:za) e (R:VK) (f:LK)=>
 opt (zi .eql 3 19 a 23) λg=>CD g (WN b c d e R)
 (XT a b c d e R)
 (λh i=>f [nth h 0] i)
def YI:=λc d (e:za) a (R:VK) (j:LK)=>
 opt (yo .eql 2 100 101 c d) λf=>zu zz (fn 96) [f] e (λg h=>opt (yh 69 a g h) λb=>opt (zd zz 69 a b) λi=>rv [i,.bool true] b R)
def ZO:=λa b c (d:za) e (R:VK) (f:LK)=>
 opt (zi .eql 3 19 a 22) λg=>CD g (XU b c d e R)
 (YH a b c d e R)
 (λh i=>f [nth h 0] i)
def uZ:=λa (b:za) d (R:VK) e f (h:LK)=>
 opt (zi .lss 2 74 a 0) λc=>GD c false (λg=>g a b) (j7 c d R a e f) b
def uH:=λa b c (d:za) e (R:VK) (f:LK)=>
 opt (zi .eql 3 19 a 21) λg=>CD g (YI b c d e R)
 (ZO a b c d e R)
 (λh i=>f [nth h 0] i)
def j8:=λa b (e:za) c (R:VK) (l:LK)=>
 opt (yo .or 2 63 64 a b) λf=>opt (yo .and 2 66 67 a b) λg=>opt (yo .sub 2 65 68 f g) λh=>zu zz (fn 26) [h] e (λi j=>opt (yh 69 c i j) λd=>opt (zd zz 69 c d) λk=>rv [k,.bool true] d R)
def uh:=λa (c:za) d e (R:VK) f (i:LK)=>
 opt (zi .eql 3 19 a 19) λg=>CD g (λb=>b [g] c)
 (λb=>opt (zi .eql 3 19 a 20) λj=>b [j] c)
 (λk h=>CD (nth k 0) (uZ d h e R a f)
 (uH a f d h e R)
 (λl m=>i [nth l 0] m))
def ui:=λc d (e:za) a (R:VK) (j:LK)=>
 opt (yo .or 2 57 58 c d) λf=>zu zz (fn 26) [f] e (λg h=>opt (yh 69 a g h) λb=>opt (zd zz 69 a b) λi=>rv [i,.bool true] b R)
def vM:=λa b c (d:za) e (R:VK) (f:LK)=>
 opt (zi .eql 3 19 a 18) λg=>CD g (j8 b c d e R)
 (uh a d c e R b)
 (λh i=>f [nth h 0] i)
def vN:=λc d (e:za) a (R:VK) (j:LK)=>
 opt (yo .and 2 51 52 c d) λf=>zu zz (fn 26) [f] e (λg h=>opt (yh 69 a g h) λb=>opt (zd zz 69 a b) λi=>rv [i,.bool true] b R)
def vq:=λa b c (d:za) e (R:VK) (f:LK)=>
 opt (zi .eql 3 19 a 17) λg=>CD g (ui b c d e R)
 (vM a b c d e R)
 (λh i=>f [nth h 0] i)
def yS:=λa b c (d:za) e (R:VK) (f:LK)=>
 opt (zi .eql 3 19 a 16) λg=>CD g (vN b c d e R)
 (vq a b c d e R)
 (λh i=>f [nth h 0] i)
def y6:=λd a (R:VK) c e f g h (i:LK) j (b:za)=>
 CD (nth j 0) (λo=>opt (YY zz .not d) λk=>CD k (Wf a b R)
 (λl=>l [.bool false] b)
 (U0 c e f a R))
 (yS c g h b a R)
 (λm n=>i [nth m 0] n)
def wS:=λc d (e:za) a (R:VK) (j:LK)=>
 opt (yo .mul 2 34 35 c d) λf=>zu zz (fn 26) [f] e (λg h=>opt (yh 69 a g h) λb=>opt (zd zz 69 a b) λi=>rv [i,.bool true] b R)
def xY:=λa (c:za) e f (R:VK) g h i j (k:LK)=>
 opt (zi .eql 3 19 a 14) λd=>CD d (λb=>b [d] c)
 (λb=>opt (zi .eql 3 19 a 15) λl=>b [l] c)
 (y6 e f R a g h i j k)
def xD:=λc d (e:za) a (R:VK) (j:LK)=>
 opt (yo .sub 2 28 29 c d) λf=>zu zz (fn 26) [f] e (λg h=>opt (yh 69 a g h) λb=>opt (zd zz 69 a b) λi=>rv [i,.bool true] b R)
def xR:=λa b c (d:za) e (R:VK) f g h (i:LK)=>
 opt (zi .eql 3 19 a 13) λj=>CD j (wS b c d e R)
 (xY a d f e R g h b c)
 (λk l=>i [nth k 0] l)
def xw:=λc d (e:za) a (R:VK) (j:LK)=>
 opt (yo .add 2 22 23 c d) λf=>zu zz (fn 26) [f] e (λg h=>opt (yh 69 a g h) λb=>opt (zd zz 69 a b) λi=>rv [i,.bool true] b R)
def xL:=λa b c (d:za) e (R:VK) f g h (i:LK)=>
 opt (zi .eql 3 19 a 12) λj=>CD j (xD b c d e R)
 (xR a b c d e R f g h)
 (λk l=>i [nth k 0] l)
def zZ:=λa b c (d:za) e (R:VK) f g h (i:LK)=>
 opt (zi .eql 3 19 a 11) λj=>CD j (xw b c d e R)
 (xL a b c d e R f g h)
 (λk l=>i [nth k 0] l)
def yd:=λa (R:VK) (f:List aaa) (c:za)=>
 opt (nb [] (z9 zz 69 [])) λd=>opt (yh 69 a d c) λb=>opt (zd zz 69 a b) λe=>rv [e,.bool false] b R
def AJ:=λ(h:za) e b c (R:VK)=>
 qe 69 h λd f=>zu zz (fn 121) [b,c] f (λa g=>opt (Yt a 0) λi=>opt (Yt a 1) λj=>opt (Yt a 2) λk=>BK (zZ e b c g d R k j i)
 (yd d R))
theorem px(hw:AJ h t0 t1 t2 R):DC zz 95 [t0,t1,t2] h R:=zC mixed (q:=qs) (n:=200) (Eq.mpr (by kernel_rfl) hw)
def YF:=λa (c:za) (R:VK) (f:LK)=>
 opt (nb [] (z9 zz 69 [])) λd=>opt (yh 69 a d c) λb=>opt (zd zz 69 a b) λe=>rv [e,.bool false] b R
def qv:=λa (R:VK) b (d:za)=>
 opt (Yt b 0) λe=>opt (Yt b 1) λf=>opt (yh 69 a e d) λc=>opt (zd zz 69 a c) λg=>rv [g,f] c R
def xq:=λb (a:za) c d e (R:VK) (h:LK)=>
 zn 69 b 1 2 a λf=>zn 69 c 1 2 a λg=>zu zz (fn 95) [d,f,g] a (qv e R)
def xr:=λb (a:za) e c (R:VK) (m:LK)=>
 zn 69 b 2 3 a λf=>zn 69 b 1 2 a λg=>zn 69 e 1 2 a λh=>opt (yo .add 2 53 55 g h) λi=>zu zz (fn 61) [f,i] a (λj k=>opt (yh 69 c j k) λd=>opt (zd zz 69 c d) λl=>rv [l,.bool true] d R)
def mw:=λb (a:za) e c (R:VK) (m:LK)=>
 zn 69 b 2 3 a λf=>zn 69 e 1 2 a λg=>zn 69 b 1 2 a λh=>opt (yo .add 2 68 70 g h) λi=>zu zz (fn 61) [f,i] a (λj k=>opt (yh 69 c j k) λd=>opt (zd zz 69 c d) λl=>rv [l,.bool true] d R)
def xt:=λb (a:za) e c (R:VK) (m:LK)=>
 zn 69 b 2 3 a λf=>zn 69 b 1 2 a λg=>zn 69 e 1 2 a λh=>opt (yo .sub 2 83 85 g h) λi=>zu zz (fn 61) [f,i] a (λj k=>opt (yh 69 c j k) λd=>opt (zd zz 69 c d) λl=>rv [l,.bool true] d R)
def yU:=λa (c:za) (R:VK) (f:LK)=>
 opt (nb [] (z9 zz 69 [])) λd=>opt (yh 69 a d c) λb=>opt (zd zz 69 a b) λe=>rv [e,.bool false] b R
def xg:=λd (a:za) e f b (R:VK) (o:LK)=>
 opt (zd zz 69 d a) λg=>opt (zd zz 69 e a) λh=>opt (yo .eql 69 103 104 g h) λi=>opt (zi .eql 3 106 f 21) λj=>opt (yo .eql 4 105 107 i j) λk=>zu zz (fn 96) [k] a (λl m=>opt (yh 69 b l m) λc=>opt (zd zz 69 b c) λn=>rv [n,.bool true] c R)
def Qz:=λa (c:za) (R:VK) (f:LK)=>
 opt (nb [] (z9 zz 69 [])) λd=>opt (yh 69 a d c) λb=>opt (zd zz 69 a b) λe=>rv [e,.bool false] b R
def yE:=λc a (R:VK) (i:List aaa) (d:za)=>
 opt (zi .eql 3 129 c 22) λe=>zu zz (fn 96) [e] d (λf g=>opt (yh 69 a f g) λb=>opt (zd zz 69 a b) λh=>rv [h,.bool true] b R)
def yx:=λa e b (R:VK) f g h (c:za)=>
 ze a false (pk e h (.bool false)) c (λi d=>opt (pk a (.bool true) i) λj=>CD j (Qz b d R)
 (λk=>k [nth f 0] d)
 (yE g b R)) c
def yy:=λa c d (R:VK) e f g (b:za)=>
 ze a true (zi .neq 2 124 g 0) b (yx c a d R e f) b
def ZC:=λd e f (R:VK) g h a (c:za)=>
 ze a true (zg zz 69 d 1) c (λi b=>ze a true (zd zz 2 i b) b (yy a e f R g h) b) c
def yA:=λa d e (R:VK) f g h (b:za)=>
 ze a false (zi .eql 3 120 h 1) b (λi c=>GD a false (λj=>j i c) (ZC d a e R f g) c) b
def yr:=λe c f (R:VK) g h i (d:za)=>
 opt (pk e i (.bool false)) λa=>ze a false (zg zz 69 c 0) d (λj b=>ze a false (zd zz 3 j b) b (yA a c f R g h) b) d
def yu:=λa c d (R:VK) e f g (b:za)=>
 ze a true (zi .neq 2 115 g 0) b (yr a c d R e f) b
def qR:=λd e f (R:VK) g h (a:za)=>
 zn 69 d 0 3 a λi=>opt (zi .eql 3 111 i 1) λb=>ze b true (zg zz 69 d 1) a (λj c=>ze b true (zd zz 2 j c) c (yu b e f R h g) c) a
def yk:=λa b c d e (R:VK) h i (f:za)=>
 ze a true (zi .eql 3 100 i 2) f (λj g=>opt (pk a j (.bool false)) λk=>CD k (xg b g c d e R)
 (λl=>l [nth h 0] g)
 (qR b c e R d)) f
def ye:=λd e f g (R:VK) h (a:za)=>
 zn 69 d 0 3 a λi=>opt (zi .eql 3 96 i 2) λb=>ze b true (zg zz 69 e 0) a (λj c=>ze b true (zd zz 3 j c) c (yk b d e f g R h) c) a
def ud:=λa b (R:VK) e f g h i (c:za)=>
 ze a true (zi .neq 3 91 i 22) c (λj d=>opt (pk a j (.bool false)) λk=>CD k (yU b d R)
 (λl=>l [nth e 0] d)
 (ye f g h b R)) c
def yR:=λa d (R:VK) e f g (b:za)=>
 opt (zi .neq 3 88 a 21) λc=>GD c true (λh=>h a b) (ud c d R g e f a) b
def uS:=λa b c d (R:VK) g h i (e:za)=>
 ze a true (zi .eql 3 77 i 1) e (λj f=>opt (pk a j (.bool false)) λk=>CD k (xt b f c d R)
 (λl=>l [nth g 0] f)
 (yR h d R b c)) e
def uT:=λc d f g (R:VK) h (e:za)=>
 opt (zi .eql 3 73 c 12) λa=>ze a true (zg zz 69 d 0) e (λi b=>ze a true (zd zz 3 i b) b (uS a f d g R h c) b) e
def uu:=λa b c d (R:VK) g h i (e:za)=>
 ze a true (zi .eql 3 62 i 1) e (λj f=>opt (pk a j (.bool false)) λk=>CD k (mw b f c d R)
 (λl=>l [nth g 0] f)
 (uT h b c d R)) e
def uv:=λc d f g (R:VK) h (e:za)=>
 opt (zi .eql 3 58 c 11) λa=>ze a true (zg zz 69 d 0) e (λi b=>ze a true (zd zz 3 i b) b (uu a f d g R h c) b) e
def ue:=λa b c d (R:VK) g h i (e:za)=>
 ze a true (zi .eql 3 47 i 1) e (λj f=>opt (pk a j (.bool false)) λk=>CD k (xr b f c d R)
 (λl=>l [nth g 0] f)
 (uv h b c d R)) e
def uf:=λc d f g (R:VK) h (e:za)=>
 opt (zi .eql 3 43 c 11) λa=>ze a true (zg zz 69 d 0) e (λi b=>ze a true (zd zz 3 i b) b (ue a f d g R h c) b) e
def vQ:=λa b c d e (R:VK) h i (f:za)=>
 ze a true (zi .eql 3 32 i 1) f (λj g=>opt (pk a j (.bool false)) λk=>CD k (xq b g c d e R)
 (λl=>l [nth h 0] g)
 (uf d c b e R)) f
def vR:=λd e f g (R:VK) h (a:za)=>
 zn 69 d 0 3 a λi=>opt (zi .eql 3 28 i 1) λb=>ze b true (zg zz 69 e 0) a (λj c=>ze b true (zd zz 3 j c) c (vQ b d e f g R h) c) a
def wx:=λa b (R:VK) e f g h (c:za)=>
 ze a false (zi .eql 3 23 h 0) c (λi d=>opt (pk a (.bool true) i) λj=>CD j (YF b d R)
 (λk=>k [.bool false] d)
 (vR e f g b R)) c
def wy:=λe c f (R:VK) g h i (d:za)=>
 opt (pk e (.bool true) i) λa=>ze a false (zg zz 69 c 0) d (λj b=>ze a false (zd zz 3 j b) b (wx a f R g c h) b) d
def wz:=λa c d (R:VK) e f g (b:za)=>
 ze a false (zi .eql 3 18 g 0) b (wy a c d R e f) b
def wA:=λe c f g (R:VK) h i (d:za)=>
 opt (pk e (.bool true) i) λa=>ze a false (zg zz 69 c 0) d (λj b=>ze a false (zd zz 3 j b) b (wz a f g R c h) b) d
def tO:=λa e f g (R:VK) h i (c:za)=>
 GD a false (λj=>zu zz (fn 93) [i] c (λb k=>j b k)) (λb d=>ze a false (YY zz .not b) d (wA a e f g R h) d) c
def GK:=λ(h:za) i b c (R:VK)=>
 opt (nb [b] (some (Value.cells b).toList)) λj=>nw h j 69 λd k=>opt (nb [c] (some (Value.cells c).toList)) λl=>nw k l 69 λe m=>qe 69 m λn f=>opt (zd zz 69 d f) λo=>zu zz (fn 93) [o] f (λp a=>opt (YY zz .not p) λg=>ze g false (zd zz 69 e a) a (tO g d e n R i) a)
theorem tP(hw:GK h t0 t1 t2 R):DC zz 59 [t0,t1,t2] h R:=zC mixed (q:=qs) (n:=200) (Eq.mpr (by kernel_rfl) hw)
end Go.Dm
namespace Go.Ai
open Go.Ai Go.Proofs
theorem TM:FcN 116 5:=YL (by kernel_rfl) (by kernel_rfl)
theorem Bd:sL 57:=xV (by kernel_rfl)
theorem Ww:sL 58:=xV (by kernel_rfl)
theorem iR:sL 62:=xV (by kernel_rfl)
theorem zfK:SF 58 114 2 32:=λr v x n w h h1 h2 h3 h4=>Zj (e:=114) (e2:=114) (by kernel_rfl) (by kernel_rfl) (by kernel_rfl) (by kernel_rfl) (by decide) h1 h2 h3 h4
theorem zfL:SF 62 116 5 56:=λr v x n w h h1 h2 h3 h4=>Zj (e:=116) (e2:=116) (by kernel_rfl) (by kernel_rfl) (by kernel_rfl) (by kernel_rfl) (by decide) h1 h2 h3 h4
theorem T8:FcM 116 5:=Xr (by kernel_rfl)
theorem zfQ:SH 58:=λb o _ _ _ h=>vz (by kernel_rfl) b o _ h rfl
theorem zac:SH 62:=λb o _ _ _ h=>vz (by kernel_rfl) b o _ h rfl
theorem zae:Yu pu 116=some (.agg #[(pm 0),(pm 0),(pp),(pm 0),(pm 0)]):=zO (by kernel_rfl)
theorem zah(v0:Option Addr)(v0l v0c:Nat):z9 pu 114 [(0,(.slice v0 v0l v0c))]=some (.agg #[(.slice v0 v0l v0c),(.bool false)]):=zO (by kernel_rfl)
theorem pL(v0:Int)(v1:Int)(v2:Option Addr)(v2l v2c:Nat)(v3:Int)(v4:Int):z9 pu 116 [(0,(pm v0)),(1,(pm v1)),(2,(.slice v2 v2l v2c)),(3,(pm v3)),(4,(pm v4))]=some (.agg #[(pm v0),(pm v1),(.slice v2 v2l v2c),(pm v3),(pm v4)]):=zO (by kernel_rfl)
theorem zei:z9 pu 61 []=some (.agg #[(pp),(pp)]):=zO (by kernel_rfl)
theorem CX(v00:Option Addr)(v00l v00c:Nat)(v01:Option Addr)(v01l v01c:Nat)(v02:Int)(v1:Option Addr)(v3:Option Addr)(v3l v3c:Nat)(v6:Bool):z9 pu 64 [(0,(.agg #[(.slice v00 v00l v00c),(.slice v01 v01l v01c),(pm v02)])),(1,(.pointer v1)),(3,(.slice v3 v3l v3c)),(6,(.bool v6))]=some (.agg #[(.slice v00 v00l v00c),(.slice v01 v01l v01c),(pm v02),(.pointer v1),(pm 0),(pm 0),(pp),(pp),(pm 0),(.slice v3 v3l v3c),(pm 0),(pp),(.bool v6),(pp)]):=zO (by kernel_rfl)
theorem Ik(v0:Int)(v2:Int)(v1:Int):z9 pu 69 [(0,(pm v0)),(2,(pm v2)),(1,(pm v1))]=some (.agg #[(pm v0),(pm v1),(pm v2)]):=zO (by kernel_rfl)
theorem Rq(v00:Option Addr)(v00l v00c:Nat)(v01:Bool)(h:za):zI pu 58 1 [(0,(.agg #[(.slice v00 v00l v00c),(.bool v01)]))] h=some (.slice (some ⟨h.next,0,none⟩) 1 3,h.push (.cells [(.slice v00 v00l v00c),(.bool v01)] 114)):=zO (by kernel_rfl)
theorem Rr(v00:Int)(v01:Int)(v02:Option Addr)(v02l v02c:Nat)(v03:Int)(v04:Int)(h:za):zI pu 62 1 [(0,(.agg #[(pm v00),(pm v01),(.slice v02 v02l v02c),(pm v03),(pm v04)]))] h=some (.slice (some ⟨h.next,0,none⟩) 1 3,h.push (.cells [(pm v00),(pm v01),(.slice v02 v02l v02c),(pm v03),(pm v04)] 116)):=zO (by kernel_rfl)
theorem nu(n:Int)(h:za):vY pu 2 177 (pm n) h=some (.int .u64 (IntKind.wrap .u64 n),h):=zO (by kernel_rfl)
theorem Qe(n:Int)(h:za):vY pu 3 164 (pm n) h=some (.int .u64 (IntKind.wrap .u64 n),h):=zO (by kernel_rfl)
theorem nB(n:Int)(h:za):vY pu 3 177 (pm n) h=some (.int .u64 (IntKind.wrap .u64 n),h):=zO (by kernel_rfl)
theorem Wi:LQ 114 0:=λb o=>zO (by kernel_rfl)
theorem nK:Ud 114 1 1:=λb o=>zO (by kernel_rfl)
theorem zaO:LQ 116 0:=λb o=>zO (by kernel_rfl)
theorem fw:Ud 116 1 1:=λb o=>zO (by kernel_rfl)
theorem jv:Ud 116 2 2:=λb o=>zO (by kernel_rfl)
theorem BD:Ud 116 3 3:=λb o=>zO (by kernel_rfl)
theorem IF:Ud 116 4 4:=λb o=>zO (by kernel_rfl)
theorem kK:LQ 61 0:=λb o=>zO (by kernel_rfl)
theorem FK:Ud 61 1 1:=λb o=>zO (by kernel_rfl)
theorem O0:LQ 64 0:=λb o=>zO (by kernel_rfl)
theorem bX:Ud 64 1 3:=λb o=>zO (by kernel_rfl)
theorem YN:Ud 64 2 4:=λb o=>zO (by kernel_rfl)
theorem O1:Ud 64 3 9:=λb o=>zO (by kernel_rfl)
theorem FL:Ud 64 4 10:=λb o=>zO (by kernel_rfl)
theorem Vu:Ud 64 5 11:=λb o=>zO (by kernel_rfl)
theorem FM:Ud 64 6 12:=λb o=>zO (by kernel_rfl)
theorem O2:Ud 64 7 13:=λb o=>zO (by kernel_rfl)
theorem JN:NL 58 2:=λb o l c k i=>wN (e:=114) (by kernel_rfl) (by kernel_rfl)
theorem Pb:NL 62 5:=λb o l c k i=>wN (e:=116) (by kernel_rfl) (by kernel_rfl)
theorem zbf:SD 58:=λr a n c h=>zO (by kernel_rfl)
theorem zbg:SD 62:=λr a n c h=>zO (by kernel_rfl)
theorem zf8(k k2:IntKind)(l c:Int)(h:za)(h0:0<=l)(h1:l<=c)(h2:c<2^31):XZ pu 22 (.int k l) (.int k2 c) h=some (.slice (some ⟨h.next,0,none⟩) l.toNat (c.toNat+2),h.push (.cells (qO [(pm 0)] (c.toNat*1)) 3)):=m9 (e:=3) (z:=(pm 0)) (n:=1) (bytes:=8) (by kernel_rfl) (by kernel_rfl) (by kernel_rfl) rfl (by decide) (by decide) rfl h0 h1 h2
theorem zf9(k k2:IntKind)(l c:Int)(h:za)(h0:0<=l)(h1:l<=c)(h2:c<2^31):XZ pu 59 (.int k l) (.int k2 c) h=some (.slice (some ⟨h.next,0,none⟩) l.toNat (c.toNat+2),h.push (.cells (qO [(pm 0),(pm 0),(pm 0)] (c.toNat*3)) 69)):=m9 (e:=69) (z:=(.agg #[(pm 0),(pm 0),(pm 0)])) (n:=3) (bytes:=24) (by kernel_rfl) (by kernel_rfl) (by kernel_rfl) rfl (by decide) (by decide) rfl h0 h1 h2
theorem Pj(x y:Operand)(a b:Bool):zX pu .neq 4 x y (.bool a) (.bool b)=some (.bool (!(a == b))):=zO (by kernel_rfl)
theorem zgq(b off len c:Nat)(lo hi:Option aaa)(h:za):Gw pu 22 (.slice (some ⟨b,off,none⟩) len c) lo hi h=(uO hi len len).bind λhh=>(uO lo 0 hh).bind λl=>some (.slice (some ⟨b,off+l*1,none⟩) (hh-l) (cond (wide pu h b 1) (bQ c l) 0)):=pJ (e:=3) (by kernel_rfl) (by kernel_rfl)
theorem zgr(b off len c:Nat)(lo hi:Option aaa)(h:za):Gw pu 62 (.slice (some ⟨b,off,none⟩) len c) lo hi h=(uO hi len len).bind λhh=>(uO lo 0 hh).bind λl=>some (.slice (some ⟨b,off+l*5,none⟩) (hh-l) (cond (wide pu h b 5) (bQ c l) 0)):=pJ (e:=116) (by kernel_rfl) (by kernel_rfl)
end Go.Ai
