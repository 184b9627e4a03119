/- A part of the proof. -/
import Derived.Test.YthamlhbbhnicaaaGreatTN
import Derived.Test.YthamlhbbhnicaaaGreatTL
import Derived.Test.YthamlhbbhnicaaaGreatTM
import Derived.Test.YthamlhbbhnicaaaGreatChecked
import Derived.KernelRfl
import Derived.Test.YthamlhbbhnicaaaGreatTH
import Derived.Test.YthamlhbbhnicaaaGreatTI
import Derived.Test.YthamlhbbhnicaaaGreatTJ
set_option linter.unusedVariables false
set_option linter.unusedSimpArgs false
set_option maxRecDepth 100000
namespace Go.Rm
open Go.Ai Go.Proofs Go.Mem
open Go.Rtl (xG Pg zu)
structure PQ (p:Pg):Prop where
 ins:∀f,f∈p.funcs->∀x,x∈f.code->zhA p x
 s:∀f,f∈p.funcs->∀x,x∈f.code->x.op≠12->0<=x.s/\x.s<f.code.length
 t:∀f,f∈p.funcs->∀x,x∈f.code->x.op=11->0<=x.t/\x.t<f.code.length
 entry:∀f,f∈p.funcs->0<=f.entry/\f.entry<f.code.length
 par:∀f,f∈p.funcs->f.params.length<=100000 /\ ∀r,r∈f.params->r<100000
 main:0<=p.main/\p.main<p.funcs.length
 globals:p.globals.length<=200
structure FrI (p:Pg) (c:Fr):Prop where
 len:c.zf.length<=100000
 zf:∀v,v∈c.zf->vb v
 k9:wD c.k9
 at_:∃f,p.funcs[c.f]? = some f/\0<=c.pt/\c.pt<f.code.length
structure NS (p:Pg) (S:St):Prop where
 fr:∀c,c∈S.calls->FrI p c
 low:∀c,c∈S.calls.dropLast->∃i,j3 p c=some i/\i.op=10
 many:S.calls.length<=20000
 lk:(S.lk.length:Int)<=S.steps
 ev:(S.ev.length:Int)<=S.steps
 used:0<=S.used/\S.used<=S.steps
 mem:Js S.mem
 gl:S.gl.length=p.globals.length
 glb:∀z,z∈S.gl->wD z
theorem Dw{p:Pg}{c:Fr}(h:FrI p c):∃f i,p.funcs[c.f]? = some f/\f∈p.funcs/\j3 p c=some i/\i∈f.code:=by
 obtain⟨f,hf,h0,h1⟩:=h.at_;refine⟨f,f.code[c.pt.toNat]'(by omega),hf,aau hf,?_,List.getElem_mem _⟩;unfold j3;rw[hf];simp only[aaI];rw[aac (by omega),aae]
theorem NS.ok{p:Pg}{S:St}(g:PQ p)(x:NS p S)(hs:S.steps<=20000000):zf8 p S where
 fr c hc:=⟨(x.fr c hc).len,(x.fr c hc).zf,(x.fr c hc).k9⟩
 at_ c hc:=by
  obtain⟨f,i,_,hf,hi,hic⟩:=Dw (x.fr c hc);exact⟨i,hi,g.ins f hf i hic⟩
 low:=x.low
 many:=x.many
 lk:=by have:=x.lk;omega
 ev:=by have:=x.ev;omega
 used:=⟨x.used.1,by have:=x.used.2;omega⟩
 mem:=⟨x.mem.1,x.mem.2.1⟩
 gl:=x.gl
section
variable {p:Pg}{S:St}{world:List Int}{kept:Option (Int->Bool)}{ini:List Fr}{c:Fr}
theorem NS.top{S':St}{c':Fr}(x:NS p S)(e:S.calls=ini++[c])(e':S'.calls=ini++[c'])(hc:FrI p c')(hs:S'.steps=S.steps+1)(hlk:S'.lk.length<=S.lk.length+1)(hev:S'.ev.length<=S.ev.length+1)(hu:0<=S'.used/\S'.used<=S.used+1)(hm:Js S'.mem)(hg:S'.gl=S.gl):NS p S' where
 fr d hd:=by
  rw[e']at hd;rcases aaQ.1 hd with q|q
  ·exact x.fr d (by rw[e];simp[q])
  ·simp only[aaV]at q;subst q;exact hc
 low d hd:=by
  rw[e',aaY]at hd;exact x.low d (by rw[e,aaY];exact hd)
 many:=by have:=x.many;rw[e]at this;rw[e'];simpa using this
 lk:=by have:=x.lk;omega
 ev:=by have:=x.ev;omega
 used:=⟨hu.1,by have:=x.used.2;omega⟩
 mem:=hm
 gl:=by rw[hg];exact x.gl
 glb:=by rw[hg];exact x.glb
theorem FrI.set{c:Fr}{i:xG}{f:Go.Rtl.Fn}(g:PQ p)(x:FrI p c)(hf:p.funcs[c.f]? = some f)(hi:i∈f.code)(h12:i.op≠12){v:V}(hv:vb v){r:Int}(hr:r<100000){l:List V}(hl:l.length<=100000)(hlv:∀v,v∈l->vb v):FrI p {c with zf:=uz l r v,pt:=i.s}:=by
 refine⟨?_,zd5 hlv r hv,x.k9,f,hf,g.s f (aau hf) i hi h12⟩;have:=Ea l r v;show(uz l r v).length<=100000;omega
theorem zdU(g:PQ p)(x:NS p S)(hne:S.calls≠[])(hok:(kP p world kept {S with steps:=S.steps+1}).2=true):NS p (kP p world kept {S with steps:=S.steps+1}).1:=by
 rcases abF S.calls with e|⟨ini,c,e⟩
 ·exact absurd e hne
 simp only[abM]at e;have hcm:c∈S.calls:=by rw[e];simp
 have xc:=x.fr c hcm;obtain⟨f,i,hf,hfm,hi,hic⟩:=Dw xc;obtain⟨T,hT⟩:∃T:St,T = {S with steps:=S.steps+1}:=⟨_,rfl⟩;have Tc:T.calls=ini++[c]:=by rw[hT];exact e
 have est:kP p world kept {S with steps:=S.steps+1} = xq p world kept T c i:=by
  rw[<- hT];unfold kP;rw[Tc,abI];simp only[hi]
 rw[est]at hok ⊢;have ig:=g.ins f hfm i hic;have ga:∀r,vb (zT c.zf r):=zhi xc.zf
 have done:∀(T':St) (v:V),T'.calls=ini++[c]->T'.steps=S.steps+1->T'.lk.length<=S.lk.length+1->T'.ev.length<=S.ev.length+1->(0<=T'.used/\T'.used<=S.used+1)->Js T'.mem->T'.gl=S.gl->i.op≠12->vb v->NS p (uf T' c i v):=by
  intro T' v h1 h2 h3 h4 h5 h6 h7 h8 h9;refine x.top (c':={c with zf:=uz c.zf (zu i) v,pt:=i.s}) e ?_ (FrI.set g xc hf hic h8 h9 ig.w xc.len xc.zf) h2 h3 h4 h5 h6 h7;show(T'.calls.dropLast++[_])=_;rw[h1,aaY]
 have Ts:T.steps=S.steps+1:=by rw[hT]
 have Tl:T.lk=S.lk:=by rw[hT]
 have Te:T.ev=S.ev:=by rw[hT]
 have Tu:T.used=S.used:=by rw[hT]
 have Tm:T.mem=S.mem:=by rw[hT]
 have Tg:T.gl=S.gl:=by rw[hT]
 have u0:0<=T.used/\T.used<=S.used+1:=by rw[Tu];exact⟨x.used.1,by omega⟩
 have T1:∀v,i.op≠12->vb v->NS p (uf T c i v):=λv h8 hv=>done T v Tc Ts (by rw[Tl];omega) (by rw[Te];omega) u0 (by rw[Tm];exact x.mem) Tg h8 hv;have L1:∀k a b v,i.op≠12->vb v->NS p (uf (xh T k a b) c i v):=λk a b v h8 hv=>done (xh T k a b) v Tc Ts (by show(T.lk++[_]).length<=_;rw[Tl];simp) (by show T.ev.length<=_;rw[Te];omega) u0 (by show Js T.mem;rw[Tm];exact x.mem) Tg h8 hv;unfold xq at hok ⊢;by_cases h2:i.op=2
 ·have h:=h2;rw[aai h]at hok ⊢;exact T1 _ (by omega) (GR _)
 rw[aac h2]at hok ⊢;by_cases h3:i.op=3
 ·have h:=h3;rw[aai h]at hok ⊢;exact T1 _ (by omega) (ga _)
 rw[aac h3]at hok ⊢;by_cases h4:i.op=4
 ·have h:=h4;rw[aai h]at hok ⊢;cases hu:mM i.sub (zT c.zf i.a) with
  |none=>rw[hu]at hok;cases hok
  |some u=>exact T1 u (by omega) (ziH hu)
 rw[aac h4]at hok ⊢;by_cases h5:i.op=5
 ·have h:=h5;rw[aai h]at hok ⊢;have go:vb (yE c i):=by unfold yE;split;exact GR _;exact ga _
  cases hu:yG i.sub (zT c.zf i.a) (yE c i) with
  |none=>simp only[hu]at hok;cases hok
  |some u=>
   simp only[hu];split
   ·exact L1 _ _ _ u (by omega) (zd4 (ga _) go hu)
   ·exact T1 u (by omega) (zd4 (ga _) go hu)
 rw[aac h5]at hok ⊢;by_cases h6:i.op=6
 ·have h:=h6;rw[aai h]at hok ⊢;cases hA:yR c i with
  |none=>rw[hA]at hok;cases hok
  |some q=>
   rw[hA]at hok;simp only at hok ⊢;rw[Tm]at hok ⊢;cases hu:kZ S.mem i.sub q with
   |none=>rw[hu]at hok;cases hok
   |some u=>exact L1 _ _ _ u (by omega) (zaw x.mem hu)
 rw[aac h6]at hok ⊢;by_cases h7:i.op=7
 ·have h:=h7;rw[aai h]at hok ⊢;cases hA:yR c i with
  |none=>rw[hA]at hok;cases hok
  |some q=>
   rw[hA]at hok;simp only at hok ⊢;rw[Tm]at hok ⊢;cases hu:wX S.mem i.sub q (zT c.zf i.b) with
   |none=>rw[hu]at hok;cases hok
   |some M=>exact done {xh T 2 q.b q.n with mem:=M} v0 Tc Ts (by show(T.lk++[_]).length<=_;rw[Tl];simp) (by show T.ev.length<=_;rw[Te];omega) u0 (O8 x.mem (ga _) hu) Tg (by omega) t8
 rw[aac h7]at hok ⊢;by_cases h8:i.op=8
 ·have h:=h8;rw[aai h]at hok ⊢;refine T1 _ (by omega) (ND ?_);rw[Tg,aaB];cases hz:S.gl[i.sub.toNat]? with
  |none=>exact VJ
  |some z=>exact x.glb z (aau hz)
 rw[aac h8]at hok ⊢;by_cases h9:i.op=9
 ·have h:=h9;rw[aai h]at hok ⊢;exact T1 _ (by omega) (ND xc.k9)
 rw[aac h9]at hok ⊢;by_cases h10:i.op=10
 ·have h:=h10;rw[aai h]at hok ⊢;obtain⟨f2,f0,f1,f2',f3,f4⟩:=ig.call h;unfold wQ at hok ⊢;split at hok
  ·cases hok
  rename_i hmany;rw[aac hmany];simp only[f1]at hok ⊢;split at hok
  ·rename_i hal;rw[aai hal];have hm:=QZ f2.frame x.mem;have hTm:(xh T 4 i.sub 0).mem=S.mem:=Tm;have hTc:(xh T 4 i.sub 0).calls=S.calls:=Tc.trans e.symm
   have fI:FrI p ⟨i.sub.toNat,wC f2.params (i.args.map (zT c.zf)) [],(zW S.mem f2.frame).2.1,f2.entry⟩ :=
    ⟨XQ _ _ _ (by simp) λr hr=>by have:=f4 r hr;omega,Ee _ _ _ (λv hv=>by simp only[abm]at hv;obtain⟨r,_,rfl⟩:=hv;exact ga r) (λv hv=>by cases hv),hm.2,f2,f1,g.entry f2 (aau f1)⟩
   have hm':¬20000<=S.calls.length:=by have q:=hmany;rw[hTc]at q;exact q
   clear hmany;rw[hTm,hTc]at *
   refine⟨λd hd=>?_,λd hd=>?_,?_,?_,?_,⟨u0.1,?_⟩,hm.1,by show T.gl.length=_;rw[Tg];exact x.gl,by show ∀z,z∈T.gl->_;rw[Tg];exact x.glb⟩
   ·rcases aaQ.1 hd with q|q
    ·exact x.fr d q
    ·simp only[aaV]at q;subst q;exact fI
   ·have hd:d∈(S.calls++[(⟨i.sub.toNat,wC f2.params (i.args.map (zT c.zf)) [],(zW S.mem f2.frame).2.1,f2.entry⟩:Fr)]).dropLast:=hd;rw[aaY,e]at hd;rcases aaQ.1 hd with q|q
    ·exact x.low d (by rw[e,aaY];exact q)
    ·simp only[aaV]at q;subst q;exact⟨i,hi,h⟩
   ·show(S.calls++[_]).length<=20000;simp;omega
   ·show(((T.lk++[_]).length:Nat):Int)<=T.steps;rw[Tl,Ts];have:=x.lk;simp;omega
   ·show((T.ev.length:Nat):Int)<=T.steps;rw[Te,Ts];have:=x.ev;omega
   ·show T.used<=T.steps;rw[Tu,Ts];have:=x.used.2;omega
  ·cases hok
 rw[aac h10]at hok ⊢;by_cases h11:i.op=11
 ·have h:=h11;rw[aai h]at hok ⊢;unfold il at hok ⊢;cases hu:yG i.sub (zT c.zf i.a) (yE c i) with
  |none=>rw[hu]at hok;cases hok
  |some w=>
   simp only;refine x.top (c':={c with pt:=if w.n=0 then i.t else i.s}) e ?_ ⟨xc.len,xc.zf,xc.k9,f,hf,?_⟩ Ts (by show(T.lk++[_]).length<=_;rw[Tl];simp) (by show T.ev.length<=_;rw[Te];omega) u0 (by show Js T.mem;rw[Tm];exact x.mem) Tg
   ·show(T.calls.dropLast++[_])=_;rw[Tc,aaY]
   ·show 0<=(if w.n=0 then i.t else i.s)/\(if w.n=0 then i.t else i.s)<_;split
    ·exact g.t f hfm i hic h
    ·exact g.s f hfm i hic (by omega)
 rw[aac h11]at hok ⊢;by_cases h12:i.op=12
 ·have h:=h12;rw[aai h]at hok ⊢;unfold qi at hok ⊢;rw[Tc,abI,aaY]at hok ⊢;simp only at hok ⊢;rw[Tm]at hok ⊢;rcases abF ini with hini|⟨in2,bk,hini⟩
  ·subst hini;simp only[List.getLast?_nil]at hok ⊢;split at hok
   ·rename_i hk;rw[aai hk];refine⟨λd hd=>(by cases hd),λd hd=>(by cases hd),by show([]:List Fr).length<=_;simp,?_,?_,⟨u0.1,?_⟩,Gr x.mem,by show T.gl.length=_;rw[Tg];exact x.gl,by show ∀z,z∈T.gl->_;rw[Tg];exact x.glb⟩
    ·show((T.lk.length:Nat):Int)<=T.steps;rw[Tl,Ts];have:=x.lk;omega
    ·show((T.ev.length:Nat):Int)<=T.steps;rw[Te,Ts];have:=x.ev;omega
    ·show T.used<=T.steps;rw[Tu,Ts];have:=x.used.2;omega
   ·cases hok
  ·simp only[abM]at hini;subst hini;rw[abI]at hok ⊢;simp only at hok ⊢;have hbm:bk∈S.calls:=by rw[e];simp
   have xb:=x.fr bk hbm;obtain⟨fb,bi,hfb,hfbm,hbi,hbic⟩:=Dw xb;obtain⟨bi2,hbi2,h10'⟩:=x.low bk (by rw[e,aaY];simp);have:bi2=bi:=by rw[hbi]at hbi2;exact(abO hbi2).symm
   subst this;simp only[hbi,aaY]at hok ⊢
   have hwd:bi2.d<100000:=by
    have:=(g.ins fb hfbm bi2 hbic).w;unfold Go.Rtl.zu Go.Rtl.wr at this;rw[h10']at this;simpa using this
   have fI:=FrI.set (r:=bi2.d) (v:=zT c.zf i.a) (l:=kW kept bk.zf) g xb hfb hbic (by omega) (ga _) hwd (by rw[Dz];exact xb.len) (zff kept xb.zf);refine⟨λd hd=>?_,λd hd=>?_,?_,?_,?_,⟨u0.1,?_⟩,Gr x.mem,by show T.gl.length=_;rw[Tg];exact x.gl,by show ∀z,z∈T.gl->_;rw[Tg];exact x.glb⟩
   ·rcases aaQ.1 hd with q|q
    ·exact x.fr d (by rw[e];simp[q])
    ·simp only[aaV]at q;subst q;exact fI
   ·have hd:d∈(in2++[({bk with zf:=uz (kW kept bk.zf) bi2.d (zT c.zf i.a),pt:=bi2.s}:Fr)]).dropLast:=hd;rw[aaY]at hd;exact x.low d (by rw[e,aaY];simp[hd])
   ·show(in2++[_]).length<=20000;have:=x.many;rw[e]at this;simp at this ⊢;omega
   ·show((T.lk.length:Nat):Int)<=T.steps;rw[Tl,Ts];have:=x.lk;omega
   ·show((T.ev.length:Nat):Int)<=T.steps;rw[Te,Ts];have:=x.ev;omega
   ·show T.used<=T.steps;rw[Tu,Ts];have:=x.used.2;omega
 rw[aac h12]at hok ⊢;by_cases h13:i.op=13
 ·have h:=h13;rw[aai h]at hok ⊢;exact done _ _ Tc Ts (by show T.lk.length<=_;rw[Tl];omega) (by show(T.ev++[_]).length<=_;rw[Te];simp) (by show 0<=T.used+1/\T.used+1<=_;rw[Tu];have:=x.used.1;omega) (by show Js T.mem;rw[Tm];exact x.mem) Tg (by omega) (GR _)
 rw[aac h13]at hok ⊢;by_cases h14:i.op=14
 ·have h:=h14;rw[aai h]at hok ⊢;split at hok
  ·rename_i hk;rw[aai hk];exact done (ke T 2 _) _ Tc Ts (by show T.lk.length<=_;rw[Tl];omega) (by show(T.ev++[_]).length<=_;rw[Te];simp) u0 (by show Js T.mem;rw[Tm];exact x.mem) Tg (by omega) t8
  ·cases hok
 rw[aac h14]at hok ⊢;exact T1 _ h12 t8
end
theorem Gh:∀(n:Nat) (l:List Int),l.Nodup->(∀x,x∈l->0<=x/\x<n)->l.length<=n
 |0,l,_,h=>by
  cases l with
  |nil=>exact aam _
  |cons a l=>have:=h a (by simp);omega
 |n+1,l,hd,h=>by
  have:=Gh n (l.erase (n:Int)) (hd.erase _) λx hx=>by
   rw[hd.mem_erase_iff]at hx;have:=h x hx.2;omega
  rw[List.length_erase]at this;split at this <;> omega
theorem Q8{n m:Int}(h:Go.Rtl.xr n m=true):0<=n/\n<m:=by
 unfold Go.Rtl.xr at h;simpa using h
theorem GG{l:List Int}{zf:Int}(h:Go.Rtl.mf l zf=true):l.Nodup /\ ∀x,x∈l->0<=x/\x<zf:=by
 unfold Go.Rtl.mf at h;rw[aaD]at h
 have at_:∀i,(hi:i<l.length)->(0<=l[i]/\l[i]<zf) /\ ∀k,(hk:k<i)->l[k]≠l[i]:=by
  intro i hi;have:=h i (abz.2 hi);unfold Go.Rtl.iN at this;rw[aag,aaD]at this;obtain⟨a,b⟩:=this;have e:l.getD i 0=l[i]:=by rw[aaB,aae hi];rfl
  rw[e]at a b;refine⟨Q8 a,λk hk q=>?_⟩;have:=b k (abz.2 hk);have e2:l.getD k 0=l[k]'(by omega):=by rw[aaB,aae (by omega)];rfl
  rw[e2]at this;simp[q]at this
 refine⟨?_,λx hx=>?_⟩
 ·rw[List.nodup_iff_pairwise_ne,List.pairwise_iff_getElem];intro i j hi hj hij;exact(at_ j hj).2 i hij
 ·obtain⟨i,hi,rfl⟩:=List.getElem_of_mem hx;exact(at_ i hi).1
theorem zcs{n:Int}(h:Go.Rtl.ik n=true):wD n:=by
 unfold Go.Rtl.ik at h;simp at h;unfold wD;omega
theorem HU{p:Pg}(h:Go.Rtl.Ya p=true):PQ p:=by
 unfold Go.Rtl.Ya at h;rw[aag,aag,aaD,aaD]at h;obtain⟨hs,hg,hf⟩:=h;unfold Go.Rtl.nX at hs;simp only[aag,aaA,aaJ]at hs
 have fn:∀f,f∈p.funcs->((f.zf<=5000/\0<=f.entry/\f.entry<f.code.length)/\(f.params.Nodup /\ ∀x,x∈f.params->0<=x/\x<f.zf)) /\ ∀x,x∈f.code->Go.Rtl.Ww f x=true/\Go.Rtl.ZL p x=true:=by
  intro f hm;have:=hf f hm;rw[aag,aaD]at this;obtain⟨r,i⟩:=this;unfold Go.Rtl.jG at r;rw[aag,aag,aaD]at r;obtain⟨r1,r2,r3⟩:=r;unfold Go.Rtl.Jw at r1;simp only[aag,aaA,aaJ]at r1;exact⟨⟨by omega,GG r2⟩,λx hx=>⟨r3 x hx,i x hx⟩⟩
 have par:∀f,f∈p.funcs->f.params.length<=100000 /\ ∀r,r∈f.params->r<100000:=by
  intro f hm;obtain⟨⟨⟨a,_⟩,b,c⟩,_⟩:=fn f hm;refine⟨?_,λr hr=>by have:=c r hr;omega⟩;have:=Gh f.zf.toNat f.params b λx hx=>by have:=c x hx;omega
  omega
 have ins:∀f,f∈p.funcs->∀x,x∈f.code->(∀s,s∈Go.Rtl.ql x->0<=s/\s<f.code.length)/\Go.Rtl.UG f x=true/\Go.Rtl.ZL p x=true:=by
  intro f hm x hx;obtain⟨_,q⟩:=fn f hm;obtain⟨q1,q2⟩:=q x hx;unfold Go.Rtl.Ww at q1;simp only[aag,aaD]at q1;exact⟨λs hs=>Q8 (q1.2.2.1 s hs),q1.2.2.2.2,q2⟩
 refine⟨λf hm x hx=>?_,λf hm x hx h12=>?_,λf hm x hx h11=>?_,λf hm=>(fn f hm).1.1.2,par,by omega,by omega⟩
 ·obtain⟨_,m,ip⟩:=ins f hm x hx;obtain⟨⟨⟨hregs,_⟩,_⟩,_⟩:=fn f hm;unfold Go.Rtl.UG at m;simp only[aag,abf,aaR]at m;obtain⟨_,_,m⟩:=m;unfold Go.Rtl.ZL at ip;rw[aag]at ip;obtain⟨i1,i2⟩:=ip;refine⟨?_,λh8=>?_,λh67=>?_,λh10=>?_⟩
  ·unfold zu;split
   ·rename_i hw;rcases m with⟨_,m⟩|m
    ·omega
    ·unfold Go.Rtl.KZ Go.Rtl.Jb at m;rw[hw]at m;simp only[aag,abq,acT]at m;have:=Q8 m.2;omega
   ·omega
  ·unfold Go.Rtl.zcZ at i2;rw[h8]at i2;simp only[ac2,abq,acT,aag]at i2;have:=Q8 i2.1;omega
  ·rcases m with⟨m,_⟩|m
   ·omega
   ·unfold Go.Rtl.KZ Go.Rtl.WR at m;rw[aag]at m;have m:=m.1;rw[aac (by omega),aac (by omega),aac (by omega),aac (by omega),aai (by omega)]at m;exact zcs m
  ·unfold Go.Rtl.C6 at i1;rw[h10]at i1;simp only[ac2,abq,acT,aag,aaR]at i1;have w:=Q8 i1.1;obtain⟨g,hg⟩:∃g,p.funcs[x.sub.toNat]? = some g:=⟨_,aae (by omega)⟩;have hpa:Go.Rtl.iO p x.sub=g.params.length:=by simp only[Go.Rtl.iO,hg]
   rw[hpa]at i1;have gm:=aau hg;exact⟨g,w.1,hg,by omega,par g gm⟩
 ·refine(ins f hm x hx).1 x.s ?_;unfold Go.Rtl.ql;rw[aac h12];split <;> simp
 ·refine(ins f hm x hx).1 x.t ?_;unfold Go.Rtl.ql;rw[aac (by omega),aai h11];simp
theorem Bk:∀(ns:List Int) (M:MM) (l:List Int),Js M->(∀z,z∈l->wD z)->Js (xK ns M l).1/\(xK ns M l).2.length=l.length+ns.length /\ ∀z,z∈(xK ns M l).2->wD z
 |[],M,l,h,hl=>⟨h,by simp[xK],hl⟩
 |n::ns,M,l,h,hl=>by
  have a:=QZ n h
  obtain⟨b,c,d⟩:=Bk ns ((Xl (zW M n).1 (zW M n).2.1).getD (zW M n).1) (l++[(zW M n).2.1]) (zax a.1) λz hz=>by
   rcases aaQ.1 hz with q|q
   ·exact hl z q
   ·simp only[aaV]at q;subst q;exact a.2
  refine⟨b,?_,d⟩;show(xK ns _ _).2.length=_;rw[c];simp;omega
theorem nL:∀(ns:List Int) (n:Int) (M:MM) (l:List Int),xK (ns++[n]) M l=(((Xl (zW (xK ns M l).1 n).1 (zW (xK ns M l).1 n).2.1).getD (zW (xK ns M l).1 n).1),(xK ns M l).2++[(zW (xK ns M l).1 n).2.1])
 |[],n,M,l=>rfl
 |m::ns,n,M,l=>nL ns n _ _
theorem DF:Js []:=⟨λi B h=>(by cases h),by decide,λi B h=>(by cases h)⟩
def uC(p:Pg):St:=⟨(xK p.globals [] []).1,0,0,0,[],[],0,(xK p.globals [] []).2,[]⟩
theorem S9{p:Pg}(g:PQ p)(args:List Int)(hok:(kg p args).2=true):NS p (kg p args).1:=by
 obtain⟨gm,gl,gb⟩:=Bk p.globals [] [] DF (λz h=>by cases h);have e:kg p args=wQ p (uC p) p.main (args.map qj):=rfl;rw[e]at hok ⊢;unfold wQ at hok ⊢;rw[aac (by show ¬20000<=0;omega)]at hok ⊢;obtain⟨f,hf⟩:∃f,p.funcs[p.main.toNat]? = some f:=⟨_,aae (by have:=g.main;omega)⟩;have fm:=aau hf;simp only[hf]at hok ⊢;split at hok
 ·rename_i hal;rw[aai hal];have a:=QZ f.frame gm;refine⟨λc hc=>?_,λc hc=>(by cases hc),?_,?_,?_,⟨Int.le_refl _,Int.le_refl _⟩,a.1,?_,gb⟩
  ·have hc:c∈[(⟨p.main.toNat,wC f.params (args.map qj) [],(zW (uC p).mem f.frame).2.1,f.entry⟩:Fr)]:=hc;simp only[aaV]at hc;subst hc;refine⟨?_,Ee _ _ _ (λv hv=>?_) (λv hv=>by cases hv),a.2,f,hf,g.entry f fm⟩
   ·exact XQ _ _ _ (by simp) λr hr=>by have:=(g.par f fm).2 r hr;omega
   ·simp only[abm]at hv;obtain⟨n,_,rfl⟩:=hv;exact GR n
  ·show([]++[_]).length<=20000;simp
  ·show((0:Nat):Int)<=0;omega
  ·show((0:Nat):Int)<=0;omega
  ·show(xK p.globals [] []).2.length=_;rw[gl];simp
 ·cases hok
structure Ext (S S':St):Prop where
 ev:S.ev <+: S'.ev
 lk:S.lk <+: S'.lk
theorem Ext.refl(S:St):Ext S S:=⟨acx _,acx _⟩
theorem Ext.trans{a b c:St}(x:Ext a b)(y:Ext b c):Ext a c:=⟨x.ev.trans y.ev,x.lk.trans y.lk⟩
theorem dU{S S':St}(h1:S'.ev=S.ev)(h2:S'.lk=S.lk):Ext S S':=⟨h1 ▸ acx _,h2 ▸ acx _⟩
theorem ME(S:St)(k a b:Int):Ext S (xh S k a b):=⟨acx _,List.prefix_append _ _⟩
theorem Gg(S:St)(k v:Int):Ext S (ke S k v):=⟨List.prefix_append _ _,acx _⟩
structure oh (S:St) (r:St×Bool):Prop where
 ext:Ext S r.1
 steps:r.1.steps=S.steps
 kind:r.1.kind=S.kind\/r.1.kind=1
theorem oh.refl(S:St)(b:Bool):oh S (S,b):=⟨Ext.refl S,rfl,.inl rfl⟩
theorem YW{S S':St}(c:Fr)(i:xG)(v:V)(b:Bool)(x:oh S (S',b)):oh S (uf S' c i v,b):=⟨x.ext.trans (dU rfl rfl),x.steps,x.kind⟩
theorem bR(S:St)(k a b:Int)(o:Bool):oh S (xh S k a b,o):=⟨ME S k a b,rfl,.inl rfl⟩
theorem zaV(S:St)(k v:Int)(o:Bool):oh S (ke S k v,o):=⟨Gg S k v,rfl,.inl rfl⟩
theorem zaU{S S0:St}(p:Pg)(n:Int)(args:List V)(x:oh S0 (S,true)):oh S0 (wQ p S n args):=by
 have y:∀b,oh S0 (S,b):=λb=>⟨x.ext,x.steps,x.kind⟩;unfold wQ;split
 ·exact y _
 ·split
  ·exact y _
  ·split
   ·exact⟨x.ext.trans (dU rfl rfl),x.steps,x.kind⟩
   ·exact⟨x.ext.trans (dU rfl rfl),x.steps,x.kind⟩
theorem zaW(p:Pg)(kept:Option (Int->Bool))(S:St)(v:V):oh S (qi p kept S v):=by
 unfold qi;split
 ·exact oh.refl _ _
 ·split
  ·split
   ·exact⟨dU rfl rfl,rfl,.inr rfl⟩
   ·exact⟨dU rfl rfl,rfl,.inl rfl⟩
  ·split
   ·exact oh.refl _ _
   ·exact⟨dU rfl rfl,rfl,.inl rfl⟩
theorem zdX(S:St)(c:Fr)(i:xG):oh S (il S c i):=by
 unfold il;split
 ·exact oh.refl _ _
 ·exact⟨(ME S 1 _ 0).trans (dU rfl rfl),rfl,.inl rfl⟩
theorem zaX(p:Pg)(world:List Int)(kept:Option (Int->Bool))(S:St)(c:Fr)(i:xG):oh S (xq p world kept S c i):=by
 unfold xq;by_cases h2:i.op=2
 ·rw[aai h2];exact YW _ _ _ _ (oh.refl _ _)
 rw[aac h2];by_cases h3:i.op=3
 ·rw[aai h3];exact YW _ _ _ _ (oh.refl _ _)
 rw[aac h3];by_cases h4:i.op=4
 ·rw[aai h4];cases mM i.sub (zT c.zf i.a) with
  |none=>exact oh.refl _ _
  |some v=>exact YW _ _ _ _ (oh.refl _ _)
 rw[aac h4];by_cases h5:i.op=5
 ·rw[aai h5]
  have h:∀o,oh S ((if (i.sub=14\/i.sub=15)/\(zT c.zf i.a).k=1/\(yE c i).k=1 then xh S 3 (zT c.zf i.a).n (yE c i).n else S),o):=by
   intro o;split
   ·exact bR _ _ _ _ _
   ·exact oh.refl _ _
  cases yG i.sub (zT c.zf i.a) (yE c i) with
  |none=>exact h _
  |some v=>exact YW _ _ _ _ (h _)
 rw[aac h5];by_cases h6:i.op=6
 ·rw[aai h6];cases yR c i with
  |none=>exact oh.refl _ _
  |some q=>
   simp only[];cases kZ S.mem i.sub q with
   |none=>exact bR _ _ _ _ _
   |some v=>exact YW _ _ _ _ (bR _ _ _ _ _)
 rw[aac h6];by_cases h7:i.op=7
 ·rw[aai h7];cases yR c i with
  |none=>exact oh.refl _ _
  |some q=>
   simp only[];cases wX S.mem i.sub q (zT c.zf i.b) with
   |none=>exact bR _ _ _ _ _
   |some M=>
    have:=bR S 2 q.b q.n true;exact YW _ _ _ _ ⟨this.ext.trans (dU rfl rfl),rfl,.inl rfl⟩
 rw[aac h7];by_cases h8:i.op=8
 ·rw[aai h8];exact YW _ _ _ _ (oh.refl _ _)
 rw[aac h8];by_cases h9:i.op=9
 ·rw[aai h9];exact YW _ _ _ _ (oh.refl _ _)
 rw[aac h9];by_cases h10:i.op=10
 ·rw[aai h10];exact zaU _ _ _ (bR _ _ _ _ _)
 rw[aac h10];by_cases h11:i.op=11
 ·rw[aai h11];exact zdX _ _ _
 rw[aac h11];by_cases h12:i.op=12
 ·rw[aai h12];exact zaW _ _ _ _
 rw[aac h12];by_cases h13:i.op=13
 ·rw[aai h13];exact YW _ _ _ _ ⟨(Gg S 1 _).trans (dU rfl rfl),rfl,.inl rfl⟩
 rw[aac h13];by_cases h14:i.op=14
 ·rw[aai h14];by_cases hk:(zT c.zf i.a).k=1
  ·rw[aai hk];exact YW _ _ _ _ (zaV _ _ _ _)
  ·rw[aac hk];exact oh.refl _ _
 rw[aac h14];exact YW _ _ _ _ (oh.refl _ _)
theorem NB(p:Pg)(world:List Int)(kept:Option (Int->Bool))(S:St):oh S (kP p world kept S):=by
 unfold kP;split
 ·exact oh.refl _ _
 ·split
  ·exact oh.refl _ _
  ·exact zaX _ _ _ _ _ _
def OV(r:St×Bool):Prop:=r.2=true/\r.1.kind=0
instance (r:St×Bool):Decidable (OV r):=by unfold OV;infer_instance
section
variable (p:Pg)(world:List Int)(kept:Option (Int->Bool))
def DQ(r:St×Bool):St×Bool:=if OV r then kP p world kept {r.1 with steps:=r.1.steps+1} else r
def rq:Nat->St×Bool->St×Bool
 |0,r=>r
 |n+1,r=>rq n (DQ p world kept r)
def Gq(r:St×Bool):St×Bool:=if OV r then ({r.1 with kind:=2},r.2) else r
theorem Gp:∀(n:Nat) (r:St×Bool),¬OV r->rq p world kept n r=r
 |0,r,h=>rfl
 |n+1,r,h=>by
  unfold rq DQ;rw[aac h];exact Gp n r h
theorem Gn:∀(n:Nat) (r:St×Bool),QY p world kept n r=Gq (rq p world kept n r)
 |0,(S,ok)=>rfl
 |n+1,(S,ok)=>by
  show(if ok=true/\S.kind=0 then QY p world kept n (kP p world kept {S with steps:=S.steps+1}) else (S,ok))=Gq (rq p world kept n (DQ p world kept (S,ok)));by_cases h:ok=true/\S.kind=0
  ·have g:OV (S,ok):=h;rw[aai h,Gn n];unfold DQ;rw[aai g]
  ·have g:¬OV (S,ok):=h;rw[aac h];unfold DQ;rw[aac g,Gp p world kept n _ g];unfold Gq;rw[aac g]
end
theorem AP(p:Pg)(args:List Int):(kg p args).1.kind=0/\(kg p args).1.steps=0/\(kg p args).1.ev=[]/\(kg p args).1.lk=[]:=by
 unfold kg wQ;split
 ·exact⟨rfl,rfl,rfl,rfl⟩
 ·split
  ·exact⟨rfl,rfl,rfl,rfl⟩
  ·split <;> exact⟨rfl,rfl,rfl,rfl⟩
open Go.Rtl (wB qE wt zL zC Old inc)
theorem Ta(p:Pg)(world:List Int)(kept:Option (Int->Bool))(S:St)(hk:S.kind=0)(hok:(kP p world kept S).2=true)(hk':(kP p world kept S).1.kind=0):(kP p world kept S).1.calls≠[]:=by
 have top:∀(S:St) (c:Fr),(za0 S c).calls≠[]:=λS c h=>by
  have h:S.calls.dropLast++[c]=[]:=h;simp at h
 revert hok hk'
 unfold kP;cases hc:S.calls.getLast? with
 |none=>intro hok;cases hok
 |some c=>
 simp only;cases hi:j3 p c with
 |none=>intro hok;cases hok
 |some i=>
 simp only;unfold xq;by_cases h2:i.op=2
 ·rw[aai h2];intro _ _;exact top _ _
 rw[aac h2];by_cases h3:i.op=3
 ·rw[aai h3];intro _ _;exact top _ _
 rw[aac h3];by_cases h4:i.op=4
 ·rw[aai h4];cases mM i.sub (zT c.zf i.a) with
  |none=>intro hok;cases hok
  |some v=>intro _ _;exact top _ _
 rw[aac h4];by_cases h5:i.op=5
 ·rw[aai h5];cases yG i.sub (zT c.zf i.a) (yE c i) with
  |none=>intro hok;cases hok
  |some v=>intro _ _;exact top _ _
 rw[aac h5];by_cases h6:i.op=6
 ·rw[aai h6];cases yR c i with
  |none=>intro hok;cases hok
  |some q=>
   simp only[];cases kZ S.mem i.sub q with
   |none=>intro hok;cases hok
   |some v=>intro _ _;exact top _ _
 rw[aac h6];by_cases h7:i.op=7
 ·rw[aai h7];cases yR c i with
  |none=>intro hok;cases hok
  |some q=>
   simp only[];cases wX S.mem i.sub q (zT c.zf i.b) with
   |none=>intro hok;cases hok
   |some M=>intro _ _;exact top _ _
 rw[aac h7];by_cases h8:i.op=8
 ·rw[aai h8];intro _ _;exact top _ _
 rw[aac h8];by_cases h9:i.op=9
 ·rw[aai h9];intro _ _;exact top _ _
 rw[aac h9];by_cases h10:i.op=10
 ·rw[aai h10];unfold wQ;split
  ·intro hok;cases hok
  split
  ·intro hok;cases hok
  split
  ·intro _ _ h;have h:(xh S 4 i.sub 0).calls++[_]=[]:=h;simp at h
  ·intro hok;cases hok
 rw[aac h10];by_cases h11:i.op=11
 ·rw[aai h11];unfold il;split
  ·intro hok;cases hok
  ·intro _ _;exact top _ _
 rw[aac h11];by_cases h12:i.op=12
 ·rw[aai h12];unfold qi;split
  ·intro hok;cases hok
  split
  ·split
   ·intro _ q;cases q
   ·intro hok;cases hok
  ·split
   ·intro hok;cases hok
   ·intro _ _ h;simp at h
 rw[aac h12];by_cases h13:i.op=13
 ·rw[aai h13];intro _ _;exact top _ _
 rw[aac h13];by_cases h14:i.op=14
 ·rw[aai h14];split
  ·intro _ _;exact top _ _
  ·intro hok;cases hok
 rw[aac h14];intro _ _;exact top _ _
theorem MA{p:Pg}{S:St}{n:Int}{args:List V}{f:Go.Rtl.Fn}(hf:p.funcs[n.toNat]? = some f):((wQ p S n args).2=true->(wQ p S n args).1.calls=S.calls++[⟨n.toNat,wC f.params args [],(zW S.mem f.frame).2.1,f.entry⟩])/\((wQ p S n args).2=false->(wQ p S n args).1.calls=S.calls)/\(wQ p S n args).1.gl=S.gl/\(wQ p S n args).1.used=S.used:=by
 unfold wQ;split
 ·exact⟨λq=>(by cases q),λ_=>rfl,rfl,rfl⟩
 simp only[hf];split
 ·exact⟨λ_=>rfl,λq=>(by cases q),rfl,rfl⟩
 ·exact⟨λq=>(by cases q),λ_=>rfl,rfl,rfl⟩
section
variable {lo:yU}{h:za}{b mb wb:Nat}{p:Pg}{world:List Int}{gl kv wn:aaa}{fuel:Int}{kept:Option (Int->Bool)}
theorem zgM(hp:Rd lo (wB · p))(g:PQ p)(hK:KV kv kept)(hwl:world.length<4611686018427387904){T:St×Bool}(x:NR lo h p b mb wb world gl kv wn T.1)(hI:T.2=true->NS p T.1/\(T.1.kind=0->T.1.calls≠[]))(hs:T.1.steps=0)(hf0:0<=fuel)(hf1:fuel<=10000000){J:List aaa->za->Prop}
  (k:∀h' S ok,QY p world kept fuel.toNat T=(S,ok)->NR lo h' p b mb wb world gl kv wn S->J [.bool ok] h') :
  LP (λvs64 h65 j63=>GD (nth vs64 0) true (λk66=>k66 (yB b) h65) (U4 vs64 J (yB b) (pm fuel) j63) h65) [.bool T.2] h:=by
 refine qY (λm vs h'=>∃S ok,vs=[.bool ok]/\NR lo h' p b mb wb world gl kv wn S/\(ok=true->NS p S/\(S.kind=0->S.calls≠[])/\S.steps+m=fuel)/\QY p world kept fuel.toNat T=QY p world kept m (S,ok))
  fuel.toNat ⟨T.1,T.2,rfl,x,λq=>⟨(hI q).1,(hI q).2,by omega⟩,rfl⟩ ?_
 rintro m vs h' ⟨S,ok,rfl,x,hI,hl⟩
 have out:¬(ok=true/\S.kind=0)->J [.bool ok] h':=λq=>by
  refine k h' S ok ?_ x;rw[hl];cases m with
  |zero=>show(if ok=true/\S.kind=0 then ({S with kind:=2},ok) else (S,ok))=_;rw[aac q]
  |succ m=>show(if ok=true/\S.kind=0 then _ else (S,ok))=_;rw[aac q]
 obtain⟨ev,lk,cl,fbs,hlen,s⟩:=x;have gm:=s.get;unfold xo yB at gm;unfold yB;cases ok with
 |false=>
  simp only[EE,nth,ne_eq,JR,JS,JT,U4];exact out (by simp)
 |true=>
  by_cases hk:¬S.kind=0
  ·simp only[EE,nth,ne_eq,zA,zj,j8,WJ,JR,JS,JT,U4,gm,hk];exact out (by simp[hk])
  have hk:S.kind=0:=acg.1 hk;obtain⟨I,hne,hsf⟩:=hI rfl;have hne:=hne hk;cases m with
  |zero=>
   have e:S.steps=fuel:=by omega
   simp only[EE,nth,↓BK,Nat.reduceAdd,ne_eq,zA,zj,j8,dV,WJ,sm,JR,JS,JT,U4,gm,hk,e];simp only[EE,WU,j8,WJ,Fl];refine yp s (by simp) rfl λh2 s2=>?_;refine k h2 {S with kind:=2} true ?_ ⟨ev,lk,cl,fbs,hlen,s2⟩;rw[hl];show(if true=true/\S.kind=0 then ({S with kind:=2},true) else (S,true))=_;rw[aai ⟨rfl,hk⟩]
  |succ m=>
   have e:¬S.steps=fuel:=by omega
   have h0:0<=S.steps:=by have:=I.lk;omega
   have hw:IntKind.wrap .i64 (S.steps+1)=S.steps+1:=Go.Mem.ui (by omega) (by omega);simp only[EE,nth,↓BK,Nat.reduceAdd,ne_eq,zA,zj,j8,dV,WJ,sm,JR,JS,JT,U4,gm,hk,e];simp only[EE,Nat.reduceAdd,zA,zj,WU,dV,WJ,Fm,gm,hw];refine yp s (by simp) rfl λh2 s2=>?_;have ok2:=I.ok g (by omega);refine Em (zhe (S:={S with steps:=S.steps+1}) hp hK hwl ⟨ev,lk,cl,fbs,hlen,s2⟩ ⟨ok2.fr,ok2.at_,ok2.low,ok2.many,ok2.lk,ok2.ev,ok2.used,ok2.mem,ok2.gl⟩ hne) ?_;rintro v h3 ⟨rfl,x3⟩;refine⟨m,by omega,_,_,rfl,x3,λq=>⟨zdU g I hne q,λq2=>Ta p world kept _ hk q q2,?_⟩,?_⟩
   ·have:=(NB p world kept {S with steps:=S.steps+1}).steps;rw[this];show S.steps+1+(m:Int)=fuel;omega
   ·rw[hl];show(if true=true/\S.kind=0 then _ else (S,true))=_;rw[aai ⟨rfl,hk⟩]
end
end Go.Rm
namespace Go.Dm
open Go.Ai Go.Proofs Go.Mem Go.Rm
theorem Eg(n:Int):Go.Rm.ui n=(BitVec.ofInt 64 n).toInt:=by
 show IntKind.wrap .i64 n=_;rw[BitVec.toInt_ofInt];simp only[IntKind.wrap,IntKind.bits,IntKind.signed,Int.bmod];simp;split <;> split <;> omega
theorem zf3(x:BitVec 64):Go.Rm.ui (x.toNat:Int)=x.toInt:=by
 rw[Eg]
 congr 1
 apply BitVec.eq_of_toNat_eq;simp
theorem Eh{n:Int}(h:wD n):Go.Rm.ui n=n:=Go.Mem.ui h.1 h.2
theorem zgB(x:BitVec 64):wD x.toInt:=by
 have:=BitVec.toInt_lt (x:=x);have:=BitVec.le_toInt (x:=x)
 constructor <;> omega
theorem HV(n:Int):wD (Go.Rm.ui n):=by
 rw[Eg];exact zgB _
theorem zim(n:Int):BitVec.ofInt 64 (Go.Rm.ui n)=BitVec.ofInt 64 n:=by rw[Eg,BitVec.ofInt_toInt]
theorem pK(f:BitVec 64->BitVec 64->BitVec 64)(a b:Int):WZ f a b=(f (BitVec.ofInt 64 a) (BitVec.ofInt 64 b)).toInt:=zf3 _
theorem ofInt_sub(a b:Int):BitVec.ofInt 64 (a-b)=BitVec.ofInt 64 a-BitVec.ofInt 64 b:=by
 rw[Int.sub_eq_add_neg,acX,BitVec.ofInt_neg,BitVec.sub_eq_add_neg]
theorem zeZ(a:Int):Go.Rm.notM a=(~~~ BitVec.ofInt 64 a).toInt:=by
 unfold Go.Rm.notM;rw[zf3,show BitVec.ofInt 64 (-1)=BitVec.allOnes 64 from rfl,BitVec.allOnes_xor]
theorem not_eq(a:Int):Go.Rm.ui (-1-a)=Go.Rm.notM a:=by
 rw[zeZ,Eg]
 congr 1
 rw[<- BitVec.allOnes_sub_eq_not,ofInt_sub];rfl
theorem neg_eq(a:Int):Go.Rm.ui (Go.Rm.notM a+1)=Go.Rm.ui (0-a):=by
 rw[<- not_eq,Eg (_+1),Eg (0-a)]
 congr 1
 rw[acX,zim,<- acX]
 congr 1
 omega
theorem xor_eq(a b:Int):Go.Rm.ui (WZ (· ||| ·) a b-WZ (· &&& ·) a b)=WZ (· ^^^ ·) a b:=by
 rw[pK,pK,pK,Eg]
 congr 1
 rw[ofInt_sub,BitVec.ofInt_toInt,BitVec.ofInt_toInt];generalize BitVec.ofInt 64 a=x;generalize BitVec.ofInt 64 b=y;show(x ||| y)-(x &&& y)=x ^^^ y
 have e:(x ^^^ y)+(x &&& y)=x ||| y:=by
  rw[BitVec.add_eq_or_of_and_eq_zero]
  ·ext i
   simp only[BitVec.getElem_or,BitVec.getElem_xor,BitVec.getElem_and];cases x[i] <;> cases y[i] <;> rfl
  ·ext i
   simp only[BitVec.getElem_xor,BitVec.getElem_and,BitVec.getElem_zero];cases x[i] <;> cases y[i] <;> rfl
 rw[<- e,BitVec.add_sub_cancel]
theorem zdO{a:Int}(k:Nat):Go.Rm.ui (Go.Rm.ui (a*2^k)+Go.Rm.ui (a*2^k))=Go.Rm.ui (a*2^(k+1)):=by
 rw[Eg (_+_),acX,zim,<- acX,Eg]
 congr 2
 rw[Int.pow_succ,<- Int.mul_assoc];omega
theorem zel(a:Int):WZ (· &&& ·) a 1=a%2:=by
 rw[pK]
 have e:(BitVec.ofInt 64 a &&& BitVec.ofInt 64 1)=BitVec.ofNat 64 (a%2).toNat:=by
  apply BitVec.eq_of_toNat_eq;simp only[BitVec.toNat_and,BitVec.toNat_ofInt,BitVec.toNat_ofNat];rw[show((1:Int)%((2^64:Nat):Int)).toNat=1 from rfl,Nat.and_one_is_mod];have h1:a%((2^64:Nat):Int)%2=a%2:=Int.emod_emod_of_dvd a (by decide);omega
 show(BitVec.ofInt 64 a &&& BitVec.ofInt 64 1).toInt=_;rw[e,BitVec.toInt_ofNat'];have h2:a%2=0\/a%2=1:=by omega
 rcases h2 with h|h <;> rw[h] <;> rfl
theorem zdP{a:Int}(h:wD a):Go.Rm.ui ((Go.Rm.ui (a-WZ (· &&& ·) a 1)).tdiv 2)=a.fdiv 2:=by
 obtain⟨h1,h2⟩:=h;rw[zel,Eh (n:=a-a%2) ⟨by omega,by omega⟩]
 have e:(a-a%2).tdiv 2=a/2:=by
  have:a-a%2=a/2*2:=by omega
  rw[this,Int.mul_tdiv_cancel _ (by decide)]
 rw[e,acd _ (by decide),Eh ⟨by omega,by omega⟩]
theorem zaj(a:Int)(k:Nat):(a.fdiv (2^k)).fdiv 2=a.fdiv (2^(k+1)):=by
 have p:(0:Int)<=2^k:=Int.pow_nonneg (by decide);have p2:(0:Int)<=2^(k+1):=Int.pow_nonneg (by decide);rw[acd _ p,acd _ p2,acd _ (by decide),Int.ediv_ediv_of_nonneg p,Int.pow_succ]
theorem SF{a:Int}(h:wD a)(k:Nat):wD (a.fdiv (2^k)):=by
 have p:(0:Int)<2^k:=Int.pow_pos (by decide);rw[acd _ (Int.le_of_lt p)];obtain⟨h1,h2⟩:=h
 constructor
 ·rw[Int.le_ediv_iff_mul_le p];have:(1:Int)<=2^k:=p
  calc (-9223372036854775808:Int)*2^k <= -9223372036854775808*1:=by
        apply Int.mul_le_mul_of_nonpos_left <;> omega
   _<=a:=by omega
 ·apply Int.ediv_lt_of_lt_mul p;have:(1:Int)<=2^k:=p
  calc a<9223372036854775808*1:=by omega
   _<=9223372036854775808*2^k:=Int.mul_le_mul_of_nonneg_left this (by decide)
theorem pE(a:Int)(n:Nat)(hn:n<64):WZ (· &&& ·) a (2^n-1:Nat)=a%(2^n:Nat):=by
 have hp:2^n<2^64:=Nat.pow_lt_pow_right (by decide) hn;have hp0:0<2^n:=Nat.two_pow_pos n;have hq:2^n<=2^63:=Nat.pow_le_pow_right (by decide) (by omega);have m0:0<=a%((2^n:Nat):Int):=Int.emod_nonneg _ (by omega);have m1:a%((2^n:Nat):Int)<((2^n:Nat):Int):=Int.emod_lt_of_pos _ (by omega);rw[pK]
 have e:(BitVec.ofInt 64 a &&& BitVec.ofInt 64 ((2^n-1:Nat):Int))=BitVec.ofNat 64 (a%((2^n:Nat):Int)).toNat:=by
  apply BitVec.eq_of_toNat_eq;simp only[BitVec.toNat_and,BitVec.toNat_ofInt,BitVec.toNat_ofNat];have h0:(((2^n-1:Nat):Int)%((2^64:Nat):Int)).toNat=2^n-1:=by omega
  rw[h0,Nat.and_two_pow_sub_one_eq_mod]
  have h1:a%((2^64:Nat):Int)%((2^n:Nat):Int)=a%((2^n:Nat):Int):=Int.emod_emod_of_dvd a (by
   have:(2:Nat)^n ∣ 2^64:=Nat.pow_dvd_pow 2 (by omega);exact Int.natCast_dvd_natCast.2 this)
  have h2:0<=a%((2^64:Nat):Int):=Int.emod_nonneg _ (by decide)
  have h3:((a%((2^64:Nat):Int)).toNat%2^n:Nat)=(a%((2^64:Nat):Int)%((2^n:Nat):Int)).toNat:=by
   apply Int.ofNat.inj;show(((a%((2^64:Nat):Int)).toNat%2^n:Nat):Int)=((a%((2^64:Nat):Int)%((2^n:Nat):Int)).toNat:Int);rw[abW (by rw[h1];exact m0),Int.natCast_emod,abW h2]
  rw[h3,h1];rw[Nat.mod_eq_of_lt (by omega)]
 show(BitVec.ofInt 64 a &&& BitVec.ofInt 64 ((2^n-1:Nat):Int)).toInt=_;rw[e,BitVec.toInt_eq_toNat_of_lt (by rw[BitVec.toNat_ofNat];rw[Nat.mod_eq_of_lt (by omega)];omega),BitVec.toNat_ofNat,Nat.mod_eq_of_lt (by omega)];omega
def zeD(a:Int)(n:Nat):Int:=if a%(2^n:Nat) ≥ (2^(n-1):Nat) then a%(2^n:Nat)-(2^n:Nat) else a%(2^n:Nat)
theorem zeC(a:Int):zeD a 8=Go.Rm.ui (IntKind.wrap .i8 a):=by
 unfold zeD
 have:IntKind.wrap .i8 a=if a%256 ≥ 128 then a%256-256 else a%256:=by
  simp[IntKind.wrap,IntKind.bits,IntKind.signed]
 rw[this,Eh (by split <;> constructor <;> omega)];rfl
theorem zcK(a:Int):zeD a 32=Go.Rm.ui (IntKind.wrap .i32 a):=by
 unfold zeD
 have:IntKind.wrap .i32 a=if a%4294967296 ≥ 2147483648 then a%4294967296-4294967296 else a%4294967296:=by
  simp[IntKind.wrap,IntKind.bits,IntKind.signed]
 rw[this,Eh (by split <;> constructor <;> omega)];rfl
abbrev wu(n:Int):Int:=IntKind.wrap .u64 n
theorem Ei(n:Int):wu n=n%18446744073709551616:=by
 simp[wu,IntKind.wrap,IntKind.bits,IntKind.signed]
open Go.Proofs.Tryz
noncomputable abbrev zz:=prog
abbrev VK:=aaa->za->Prop
abbrev LK:=List aaa->za->Prop
abbrev ci(n:Int):Operand := .const (pm n)
abbrev fn(n:Nat):aaa := .func (.func n) #[] #[]
variable {h:za}{t0 t1 t2 t3 t4 t5 t6:aaa}{R:VK}
def qs:FuncId->Nat:=λg=>[0,0,0,0,0,0,0,0,0,0,0,0,0,0,0,0,0,0,0,0,0,0,2,0,0,0,0,0,0,0,0,0,0,0,0,0,0,0,0,0,0,0,0,2,2,2,2,0,2,0,2,0,2,0,0,0,0,0,0,0,0,0,0,0,0,0,0,0,0,0,0,0,0,0,0,0,0,0,0,2,2,2,2,2,0,0,2,0,0,0,0,0,0,0,0,0,0,0,0,2,2].getD g 0
theorem mixed:prog.follows .mixedOrders=true:=acY Tryz.checked
theorem zU{f:FuncId}{args:List aaa}{X:Prop}(e:wpF zz (UL zz qs) 200 f args h R=X)(hw:X):DC zz f args h R:=fe mixed (q:=qs) (n:=200) (Eq.mpr e hw)
def G6:=λa (c:za) (R:VK) (f:LK)=>
 opt (nb [] (zY zz 33 [])) λd=>opt (ye 33 a d c) λb=>opt (zd zz 33 a b) λe=>rv [e,pm 1] b R
def Ra:=λa b (f:LK) (m:aaa) (c:za)=>
 opt (x0 a) λg=>zn 61 g 7 22 c λd=>zQ (nb [b] (zH zz 22 1 [(0,b)] c)) λe h=>zQ (nb [d,e] (zB zz .append [22,22] 22 [d,e] h)) λi j=>opt (x0 a) λk=>j5 61 k 7 22 i j λl=>f [] l
def Rb:=λa (e:LK) b (c:za)=>
 opt (Yk b 0) λd=>opt (Yk b 1) λh=>opt (x0 a) λf=>zn 61 f 1 54 c λg=>zq zz (fn 21) [g,d] c (Ra a d e)
def Rc:=λb (a:za) c d (e:LK)=>
 opt (x0 b) λf=>zn 61 f 1 54 a λg=>zn 25 c 0 22 a λh=>wP 22 h (nth d 0) 3 a λi=>YO zz 20 [g,i] a (Rb b e)
def Re:=λb c a (d:LK) (h:List aaa) (e:za)=>
 BK (Rc b e c a)
 (λi f=>opt (zh .add 3 60 (nth a 0) 1) λg=>d [g] f)
def Rf:=λa (f:LK) g b (c:za) (h:LK)=>
 zn 25 a 0 22 c λi=>zQ (xw 22 i c) λj d=>opt (yi .lss 3 55 58 (nth b 0) j) λk=>CD k (λe=>e [] d)
 (λe=>f [] d)
 (Re g a b h)
def Rg:=λa (d:LK) b (e:za)=>
 zQ (nb [b] (zH zz 56 1 [(0,b)] e)) λc f=>zQ (nb [nth a 0,c] (zB zz .append [56,56] 56 [nth a 0,c] f)) λg h=>d [g] h
def Rh:=λc a (b:za) (d:LK)=>
 wP 26 c (nth a 1) 2 b λe=>zq zz (fn 22) [e] b (Rg a d)
def Ri:=λa (b:LK) c (d:za)=>
 opt (zh .add 3 95 (nth a 1) 1) λe=>b [nth c 0,e] d
def I6:=λb (e:LK) a (f:za) (g:LK)=>
 zQ (xw 26 b f) λh c=>opt (yi .lss 3 91 93 (nth a 1) h) λi=>CD i (λd=>d [] c)
 (λd=>e [nth a 0] c)
 (λk j=>BK (Rh b a j)
 (Ri a g))
def I7:=λa (b:za) (c g:LK)=>
 opt (x0 a) λd=>opt (zg zz 61 d 2) λe=>j5 33 e 0 3 (pm 2) b λf=>c [] f
def I8:=λa (b:za) (c:LK)=>
 opt (x0 a) λd=>opt (zg zz 61 d 2) λe=>j5 33 e 0 3 (pm 3) b λf=>c [] f
def fP:=λa d (e:LK) f (b:za)=>
 ze a true (zh .eql 3 144 f 0) b (λg c=>opt (pk a g (.bool false)) λh=>CD h (I8 d c)
 (λi=>i [] c)
 (λk j=>e [] j)) b
def fQ:=λa d (e:LK) f (c:za)=>
 ze a true (zg zz 33 f 0) c (λg b=>ze a true (zd zz 3 g b) b (fP a d e) b) c
def fR:=λa d (e:LK) f (b:za)=>
 ze a true (x0 f) b (λg c=>ze a true (zg zz 61 g 2) c (fQ a d e) c) b
def I9:=λa (e:LK) (o:List aaa) (b:za)=>
 opt (x0 a) λf=>opt (zg zz 61 f 2) λg=>zn 33 g 4 3 b λh=>opt (zh .add 3 131 h 1) λi=>opt (x0 a) λj=>opt (zg zz 61 j 2) λk=>j5 33 k 4 3 i b λl=>zq zz (fn 24) [a] l (λm c=>opt (Z7 zz .not m) λd=>GD d true (λn=>n a c) (fR d a e) c)
def BO:=λa (b:za) c (d e:LK)=>
 opt (x0 a) λf=>opt (zg zz 61 f 2) λg=>zn 33 g 4 3 b λh=>opt (yi .eql 3 120 121 h c) λi=>CD i (I7 a b d)
 (λj=>j [] b)
 (I9 a e)
def BP:=λb (c:LK) e (m:List aaa) (a:za) (f:LK)=>
 opt (x0 b) λg=>opt (zg zz 61 g 2) λh=>zn 33 h 0 3 a λi=>opt (zh .eql 3 114 i 0) λj=>CD j (λd=>d [] a)
 (λd=>c [] a)
 (λn k=>BK (BO b k e c)
 (λo l=>f [] l))
def BR:=λd a (R:VK) (h:List aaa) (b:za)=>
 opt (x0 d) λe=>zn 61 e 2 33 b λf=>opt (ye 33 a f b) λc=>opt (zd zz 33 a c) λg=>rv [g,pm 0] c R
def La:=λc a d e (R:VK) f (b:za)=>
 zn 25 c 2 3 b λg=>zq zz (fn 23) [a,g,nth f 0,pm (-1)] b (λj h=>BK (λi=>LP (BP a i d)
 [] h)
 (BR a e R))
def Lb:=λa b c j k l (R:VK) (t:List aaa) (d:za)=>
 opt (zd zz 25 a d) λe=>opt (nb [] (zY zz 58 [])) λf=>opt (nb [f] (some (Value.cells f).toList)) λm=>nw d m 58 λg n=>opt (nb [e,g,b,c] (zY zz 61 [(0,e),(1,g),(3,b),(6,c)])) λh=>opt (nb [h] (some (Value.cells h).toList)) λo=>nw n o 61 λi p=>BK (λq=>LP (Rf a q i)
 [pm 0] p)
 (λu r=>BK (λs=>LP (I6 j s)
 [pp,pm 0] r)
 (La a i k l R))
def JX:=λa b (R:VK) e f g h i j (c:za)=>
 ze a false (zh .gtr 3 44 j 10000000) c (λk d=>opt (pk a (.bool true) k) λl=>CD l (G6 b d R)
 (λm=>m [pm 0] d)
 (Lb e f g h i b R)) c
def JY:=λa b f (R:VK) g h i j k (c:za)=>
 ze a false (zh .lss 3 40 k 0) c (λl d=>opt (pk a (.bool true) l) λe=>GD e false (λm=>m b d) (JX e f R g h i j b) d) c
def BS:=λa f b g (R:VK) h i j k l (c:za)=>
 ze a false (yi .neq 3 28 36 f l) c (λm d=>opt (pk a (.bool true) m) λe=>GD e false (λn=>n b d) (JY e b g R h i j k) d) c
def BT:=λa d e f (R:VK) g h i j k (b:za)=>
 ze a false (zd zz 22 k b) b (λl c=>GD a false (λm=>zQ (xw 22 l c) λn o=>m n o) (BS a d e f R g h i j) c) b
def BU:=λa d e f g (R:VK) h i j k l (b:za)=>
 ze a false (yh zz 23 d l) b (λm c=>ze a false (zg zz 49 m 1) c (BT a e f g R h i j k) c) b
def BV:=λa c e f g (R:VK) h i j k (d:za)=>
 ze a false (zg zz 25 c 2) d (λl b=>ze a false (zd zz 3 l b) b (BU a k e f g R c h i j) b) d
def BW:=λa c e f (R:VK) g h i j (d:za)=>
 ze a false (zg zz 25 c 1) d (λk b=>ze a false (zd zz 23 k b) b (BV a c j e f R g h i) b) d
def BX:=λb e f g (R:VK) h i j (c:za)=>
 opt (Z7 zz .not (nth j 0)) λa=>GD a false (λk=>k b c) (λl d=>GD a false (λm=>zQ (xw 26 l d) λn o=>m n o) (BW a e f g R h i b) d) c
def Lc:=λc d e f g (R:VK) h i (a:za)=>
 CD c (λb=>opt (zd zz 25 d a) λj=>zq zz (fn 19) [j] a (λk l=>b [k] l))
 (λb=>b [i] a)
 (BX e d f g R h c)
def zfs:=λ(h:za) a d e f g (R:VK)=>
 opt (nb [a] (some (Value.cells a).toList)) λi=>nw h i 25 λb j=>uH 33 j λk c=>opt (zd zz 25 b c) λl=>zq zz (fn 18) [l] c (Lc g b d f k R e)
theorem zbq(hw:zfs h t0 t1 t2 t3 t4 R):DC zz 8 [t0,t1,t2,t3,t4] h R:=zU (by kernel_rfl) hw
def U6:=λa (b:za) (R:VK) (f:LK)=>
 opt (x0 a) λc=>opt (zg zz 61 c 2) λd=>j5 33 d 0 3 (pm 3) b λe=>rv [] e R
def J7:=λc (a:za) b d e (f:LK)=>
 zn 49 c 1 22 a λg=>wP 22 g (nth b 0) 3 a λh=>wP 56 d (nth b 0) 66 a λi=>opt (yh zz 56 e h) λj=>opt (ye 66 j i a) λk=>f [] k
def J8:=λb a c d (e:LK) (i:List aaa) (f:za)=>
 BK (J7 b f a c d)
 (λj g=>opt (zh .add 3 52 (nth a 0) 1) λh=>e [h] g)
def U7:=λa (e:LK) f g b (h:za) (i:LK)=>
 zQ (xw 56 a h) λj c=>opt (yi .lss 3 48 50 (nth b 0) j) λk=>CD k (λd=>d [] c)
 (λd=>e [] c)
 (J8 f b a g i)
def J9:=λb k c d e f (R:VK) (r:List aaa) (a:za)=>
 opt (x0 b) λl=>zn 61 l 5 59 a λg=>zn 49 k 4 3 a λh=>opt (nb [c,h,d,e,f] (zY zz 97 [(0,c),(1,h),(2,d),(3,e),(4,f)])) λi=>zQ (nb [i] (zH zz 59 1 [(0,i)] a)) λj m=>zQ (nb [g,j] (zB zz .append [59,59] 59 [g,j] m)) λn o=>opt (x0 b) λp=>j5 61 p 5 59 n o λq=>rv [] q R
def U8:=λa e f g h i (R:VK) (l:List aaa) (b:za)=>
 zn 49 a 2 3 b λc=>zQ (Wo zz 56 c c b) λd j=>BK (λk=>LP (U7 e k a d)
 [pm 0] j)
 (J9 f a g d h i R)
def Vg:=λa b (R:VK) e f g h i j (c:za)=>
 ze a false (zh .geq 3 38 j 20000) c (λk d=>opt (pk a (.bool true) k) λl=>CD l (U6 b d R)
 (λm=>m [] d)
 (U8 e f b g h i R)) c
def lG:=λa d (R:VK) e f g h i j (b:za)=>
 ze a false (zd zz 59 j b) b (λk c=>GD a false (λl=>zQ (xw 59 k c) λm n=>l m n) (Vg a d R e f g h i) c) b
def lH:=λa d (R:VK) e f g h i j (b:za)=>
 ze a false (x0 j) b (λk c=>ze a false (zg zz 61 k 5) c (lG a d R e f g h i) c) b
def dq:=λa (R:VK) e f g h b (c:za)=>
 opt (Yk b 0) λi=>opt (Yk b 1) λj=>opt (zh .neq 3 31 j 0) λd=>GD d false (λk=>k a c) (lH d a R e f g i h) c
def oV:=λ(h:za) a d e f (R:VK)=>
 opt (x0 a) λg=>opt (zg zz 61 g 0) λi=>zn 25 i 1 23 h λj=>wP 23 j d 49 h λk=>uH 49 h λb l=>opt (ye 49 b k l) λc=>opt (x0 a) λm=>zn 61 m 1 54 c λn=>zn 49 b 3 3 c λo=>YO zz 20 [n,o] c (dq a R b e d f)
theorem nc(hw:oV h t0 t1 t2 t3 R):DC zz 23 [t0,t1,t2,t3] h R:=zU (by kernel_rfl) hw
def gU:=λb (a:za) c d (e:LK)=>
 zn 66 b 1 2 a λf=>zn 66 c 1 2 a λg=>zq zz (fn 47) [d,pm 3,f,g] a (λi h=>e [] h)
def QI:=λc d e f (g:LK) (o:List aaa) (a:za)=>
 zn 51 c 1 3 a λh=>opt (zd zz 66 d a) λi=>opt (zd zz 66 e a) λj=>zq zz (fn 48) [h,i,j] a (λb k=>opt (Yk b 0) λl=>opt (Yk b 1) λm=>opt (ye 66 f l k) λn=>g [.bool false,m] n)
def Ut:=λa b c f g h (i:LK) j (d:za)=>
 ze a true (zh .eql 3 105 j 1) d (λk e=>opt (pk a k (.bool false)) λl=>CD l (gU b e c f)
 (λm=>m [] e)
 (QI g b c h i)) d
def Zj:=λe c f g h i (j:LK) k (d:za)=>
 opt (pk e k (.bool false)) λa=>ze a true (zg zz 66 c 0) d (λl b=>ze a true (zd zz 3 l b) b (Ut a f c g h i j) b) d
def Zk:=λa c d e f g (h:LK) i (b:za)=>
 ze a true (zh .eql 3 100 i 1) b (Zj a c d e f g h) b
def Zl:=λe c f g h i (j:LK) k (d:za)=>
 opt (pk e (.bool true) k) λa=>ze a true (zg zz 66 c 0) d (λl b=>ze a true (zd zz 3 l b) b (Zk a f c g h i j) b) d
def Zm:=λa c d e f g (h:LK) i (b:za)=>
 ze a false (zh .eql 3 95 i 15) b (Zl a c d e f g h) b
def Zn:=λa f g h (i:LK) j (k:za)=>
 uH 66 k λe l=>opt (ye 66 e j l) λb=>zn 51 a 1 3 b λm=>opt (zh .eql 3 91 m 14) λc=>ze c false (zg zz 51 a 1) b (λn d=>ze c false (zd zz 3 n d) d (Zm c f e g a h i) d) b
def gV:=λe (a:za) f b (g:LK)=>
 opt (x0 e) λh=>zn 97 h 2 56 a λi=>zn 51 f 6 22 a λj=>wP 22 j (nth b 1) 3 a λk=>wP 56 i k 66 a λc=>zQ (nb [c] (zH zz 56 1 [(0,c)] a)) λd l=>zQ (nb [nth b 0,d] (zB zz .append [56,56] 56 [nth b 0,d] l)) λm n=>g [m] n
def aE:=λa (b:LK) c (d:za)=>
 opt (zh .add 3 161 (nth a 1) 1) λe=>b [nth c 0,e] d
def Vv:=λb (f:LK) g a (c:za) (h:LK)=>
 zn 51 b 6 22 c λi=>zQ (xw 22 i c) λj d=>opt (yi .lss 3 156 159 (nth a 1) j) λk=>CD k (λe=>e [] d)
 (λe=>f [nth a 0] d)
 (λm l=>BK (gV g l b a)
 (aE a h))
def Vw:=λa d e f (R:VK) (l:aaa) (c:za)=>
 zn 51 a 7 3 c λg=>opt (x0 d) λh=>j5 97 h 1 3 g c λb=>zn 51 a 1 3 b λi=>zn 51 a 4 3 b λj=>zq zz (fn 23) [e,i,nth f 0,j] b (λm k=>rv [.bool true] k R)
def Qd:=λa b d (R:VK) e (c:za)=>
 zn 51 a 1 3 c λf=>zq zz (fn 47) [b,pm 4,f,pm 0] c (Vw a d b e R)
def Qe:=λb (a:za) c (d:LK)=>
 zn 51 b 7 3 a λe=>opt (x0 c) λf=>j5 97 f 1 3 e a λg=>d [] g
def Qf:=λb c e (R:VK) (l:aaa) (d:za)=>
 zn 51 b 8 3 d λf=>opt (x0 c) λg=>j5 97 g 1 3 f d λa=>zn 66 e 1 2 a λh=>opt (zh .eql 2 224 h 1) λi=>CD i (Qe b a c)
 (λj=>j [] a)
 (λm k=>rv [.bool true] k R)
def Qg:=λa c d e (R:VK) (g:List aaa) (b:za)=>
 zn 66 a 1 2 b λf=>zq zz (fn 47) [c,pm 1,f,pm 0] b (Qf d e a R)
def Qh:=λ(e:za) (R:VK) f g h a=>
 opt (Yk a 0) λi=>opt (Yk a 1) λj=>uH 66 e λb k=>opt (ye 66 b i k) λc=>opt (Z7 zz .not j) λl=>CD l (λd=>rv [.bool false] c R)
 (λd=>d [.bool false] c)
 (Qg b f g h R)
def Qi:=λb (a:za) (c:LK)=>
 opt (x0 b) λd=>zn 61 d 3 26 a λe=>opt (x0 b) λf=>zn 61 f 4 3 a λg=>wP 26 e g 2 a λh=>c [h] a
def Vx:=λa h (i:LK) b (c:za)=>
 opt (x0 a) λj=>zn 61 j 4 3 c λk=>opt (zh .add 3 264 k 1) λl=>opt (x0 a) λm=>j5 61 m 4 3 l c λd=>opt (x0 a) λn=>opt (zg zz 61 n 2) λo=>zn 33 o 2 30 d λe=>opt (nb [pm 1,nth b 0] (zY zz 78 [(0,(pm 1)),(1,(nth b 0))])) λf=>zQ (nb [f] (zH zz 30 1 [(0,f)] d)) λg p=>zQ (nb [e,g] (zB zz .append [30,30] 30 [e,g] p)) λq r=>opt (x0 a) λs=>opt (zg zz 61 s 2) λt=>j5 33 t 2 30 q r λu=>zq zz (fn 22) [nth b 0] u (λv w=>opt (ye 66 h v w) λx=>i [.bool false] x)
def aF:=λb g h (i:LK) j (a:za)=>
 opt (x0 b) λk=>opt (zg zz 61 k 2) λl=>zn 33 l 2 30 a λc=>opt (x0 g) λm=>zn 97 m 2 56 a λn=>zn 51 h 2 3 a λo=>opt (yh zz 56 n o) λp=>zn 66 p 1 2 a λd=>opt (nb [pm 2,d] (zY zz 78 [(0,(pm 2)),(1,d)])) λe=>zQ (nb [e] (zH zz 30 1 [(0,e)] a)) λf q=>zQ (nb [c,f] (zB zz .append [30,30] 30 [c,f] q)) λr s=>opt (x0 b) λt=>opt (zg zz 61 t 2) λu=>j5 33 u 2 30 r s λv=>i [nth j 0] v
def Qj:=λb (a:za) c (R:VK) e (f:LK)=>
 opt (x0 b) λg=>zn 97 g 2 56 a λh=>zn 51 c 2 3 a λi=>opt (yh zz 56 h i) λj=>zn 66 j 0 3 a λk=>opt (zh .neq 3 293 k 1) λl=>CD l (λd=>rv [.bool false] a R)
 (λd=>d [.bool false] a)
 (aF e b c f)
def Qk:=λb (a:za) c (d:LK)=>
 opt (x0 b) λe=>zn 61 e 4 3 a λf=>opt (x0 b) λg=>zn 61 g 3 26 a λh=>zQ (xw 26 h a) λi _=>opt (yi .lss 3 244 249 f i) λj=>CD j (Qi b a)
 (λk=>k [pm 0] a)
 (Vx b c d)
def Vy:=λb c (a:za) d (R:VK) e (f:LK)=>
 opt (zh .eql 3 45 b 14) λg=>CD g (Qj c a d R e)
 (λh=>h [.bool false] a)
 (λi j=>f [nth i 0] j)
def aG:=λb (a:za) c d (R:VK) (j:LK)=>
 zn 51 b 2 3 a λe=>zq zz (fn 52) [c,e] a (λf g=>zq zz (fn 51) [d,f] g (λh i=>rv [h] i R))
def Y8:=λa b (c:za) d e f (R:VK) (g:LK)=>
 opt (zh .eql 3 45 a 13) λh=>CD h (Qk b c d)
 (Vy a e c f R b)
 (λi j=>g [nth i 0] j)
def aH:=λb (a:za) c (R:VK) d (l:LK)=>
 zn 51 b 1 3 a λe=>opt (x0 c) λf=>zn 97 f 2 56 a λg=>zn 51 b 2 3 a λh=>wP 56 g h 66 a λi=>opt (zd zz 51 b a) λj=>uT zz 46 [c,j] a (λk=>uT zz 48 [e,i,k] a (Qh a R d b c))
def Z0:=λa b (c:za) d e (R:VK) f (g:LK)=>
 opt (zh .eql 3 45 a 12) λh=>CD h (aG b c d e R)
 (Y8 a e c f d b R)
 (λi j=>g [nth i 0] j)
def Zi:=λa b (c:za) d (R:VK) e f (g:LK)=>
 opt (zh .eql 3 45 a 11) λh=>CD h (aH b c d R e)
 (Z0 a b c d e R f)
 (λi j=>g [nth i 0] j)
def aI:=λb (a:za) c d (e:LK)=>
 opt (x0 b) λf=>zn 97 f 3 3 a λg=>zn 51 c 5 2 a λh=>uT zz 50 [g,h] a (λi=>opt (ye 66 d i a) λj=>e [.bool false] j)
def jg:=λc a b (d:za) e (R:VK) f (g:LK)=>
 opt (zh .eql 3 45 c 10) λh=>CD h (λl=>BK (λi=>LP (Vv a i b)
 [pp,pm 0] d)
 (Qd a e b R))
 (Zi c a d b R e f)
 (λj k=>g [nth j 0] k)
def Ql:=λc (a:za) b d (e:LK)=>
 opt (x0 c) λf=>zn 61 f 7 22 a λg=>zn 51 b 1 3 a λh=>wP 22 g h 3 a λi=>zn 51 b 5 2 a λj=>uT zz 50 [i,j] a (λk=>opt (ye 66 d k a) λl=>e [.bool false] l)
def ko:=λa b (c:za) d e f (R:VK) (g:LK)=>
 opt (zh .eql 3 45 a 9) λh=>CD h (aI b c d e)
 (jg a d b c f R e)
 (λi j=>g [nth i 0] j)
def Wm:=λc (a:za) d e f (g:LK)=>
 opt (zd zz 51 c a) λh=>zq zz (fn 49) [d,e,h] a (λb i=>opt (Yk b 0) λj=>opt (Yk b 1) λk=>opt (ye 66 f j i) λl=>g [.bool false,k] l)
def ux:=λa b (c:za) d e f (R:VK) (g:LK)=>
 opt (zh .eql 3 45 a 8) λh=>CD h (Ql b c d e)
 (ko a f c d e b R)
 (λi j=>g [nth i 0,.bool true] j)
def aJ:=λc (a:za) b f g (h:LK)=>
 opt (x0 c) λi=>zn 97 i 2 56 a λj=>zn 51 b 2 3 a λk=>wP 56 j k 66 a λl=>uH 66 a λd m=>opt (ye 66 d l m) λe=>opt (zd zz 51 b e) λn=>zq zz (fn 46) [c,n] e (Zn b d f g h)
def wZ:=λa (c:za) d e f g (R:VK) (k:LK)=>
 opt (zh .eql 3 45 a 6) λh=>CD h (λb=>b [h] c)
 (λb=>opt (zh .eql 3 45 a 7) λl=>b [l] c)
 (λm i=>CD (nth m 0) (Wm d i e f g)
 (ux a e i d g f R)
 (λj n=>k [nth j 0,nth j 1] n))
def aK:=λb (a:za) d e (f:LK)=>
 zn 51 b 1 3 a λg=>opt (x0 d) λh=>zn 97 h 2 56 a λi=>zn 51 b 2 3 a λj=>wP 56 i j 66 a λk=>uT zz 45 [g,k] a (λc=>opt (Yk c 0) λl=>opt (Yk c 1) λm=>opt (ye 66 e l a) λn=>f [.bool false,m] n)
def wM:=λa b (c:za) d e f (R:VK) (h:LK)=>
 opt (zh .eql 3 45 a 5) λi=>CD i (aJ b c d e f)
 (wZ a c d e b f R)
 (λg j=>h [nth g 0,nth g 1] j)
def aL:=λb (a:za) c d (e:LK)=>
 opt (x0 b) λf=>zn 97 f 2 56 a λg=>zn 51 c 2 3 a λh=>wP 56 g h 66 a λi=>opt (ye 66 d i a) λj=>e [.bool false,.bool true] j
def wg:=λa b (c:za) d e g (R:VK) (h:LK)=>
 opt (zh .eql 3 45 a 4) λi=>CD i (aK b c d e)
 (wM a d c b g e R)
 (λf j=>h [nth f 0,nth f 1] j)
def jh:=λb (a:za) c (d:LK)=>
 zn 51 b 5 2 a λe=>zq zz (fn 22) [e] a (λf g=>opt (ye 66 c f g) λh=>d [.bool false,.bool true] h)
def xJ:=λa b (c:za) d e g (R:VK) (h:LK)=>
 opt (zh .eql 3 45 a 3) λi=>CD i (aL b c d e)
 (wg a d c b e g R)
 (λf j=>h [nth f 0,nth f 1] j)
def w6:=λa b (c:za) d f g (R:VK) (h:LK)=>
 opt (zh .eql 3 45 a 2) λi=>CD i (jh b c d)
 (xJ a f c b d g R)
 (λe j=>h [nth e 0,nth e 1] j)
def qG:=λb (a:za) c (d:LK) e=>
 opt (zd zz 66 b a) λf=>opt (yh zz 56 c e) λg=>opt (ye 66 g f a) λh=>d [] h
def aM:=λb (a:za) c d (e:LK)=>
 opt (x0 b) λf=>zn 97 f 2 56 a λg=>opt (zd zz 51 c a) λh=>uT zz 43 [h] a (qG d a g e)
def uP:=λb c (R:VK) (g:List aaa) (a:za)=>
 zn 51 b 7 3 a λd=>opt (x0 c) λe=>j5 97 e 1 3 d a λf=>rv [.bool true] f R
def aN:=λa b d (R:VK) e (c:za)=>
 opt (zh .geq 3 319 e 0) λf=>CD f (aM a c b d)
 (λg=>g [] c)
 (uP b a R)
def xY:=λ(R:VK) a f g b (c:za)=>
 opt (Z7 zz .not (nth b 1)) λh=>CD h (λd=>rv [.bool false] c R)
 (λd=>d [nth b 0] c)
 (λj e=>opt (zd zz 51 a e) λi=>zq zz (fn 43) [i] e (aN f a g R))
def sV:=λ(h:za) a (R:VK)=>
 opt (x0 a) λf=>zn 61 f 5 59 h λg=>opt (x0 a) λi=>zn 61 i 5 59 h λj=>zQ (xw 59 j h) λk _=>opt (zh .sub 3 22 k 1) λl=>opt (yh zz 59 g l) λb=>opt (x0 a) λm=>opt (zg zz 61 m 0) λn=>zn 25 n 1 23 h λo=>opt (x0 b) λp=>zn 97 p 0 3 h λq=>opt (yh zz 23 o q) λr=>zn 49 r 5 47 h λs=>opt (x0 b) λt=>zn 97 t 1 3 h λu=>wP 47 s u 51 h λv=>uH 51 h λc w=>opt (ye 51 c v w) λx=>opt (nb [] (zY zz 66 [])) λy=>uH 66 x λd z=>opt (ye 66 d y z) λe=>zn 51 c 0 3 e λA=>BK (w6 A c e d b a R)
 (xY R c b d)
theorem sW(hw:sV h t0 R):DC zz 24 [t0] h R:=EW mixed (q:=qs) (n:=200) (Eq.mpr (by kernel_rfl) hw)
def Cy:=λ(h:za) a b c d (R:VK)=>
 opt (x0 a) λi=>opt (zg zz 61 i 2) λj=>zn 33 j 3 31 h λe=>opt (nb [b,c,d] (zY zz 71 [(0,b),(1,c),(2,d)])) λf=>zQ (nb [f] (zH zz 31 1 [(0,f)] h)) λg k=>zQ (nb [e,g] (zB zz .append [31,31] 31 [e,g] k)) λl m=>opt (x0 a) λn=>opt (zg zz 61 n 2) λo=>j5 33 o 3 31 l m λp=>rv [] p R
theorem sR(hw:Cy h t0 t1 t2 t3 R):DC zz 47 [t0,t1,t2,t3] h R:=zU (by kernel_rfl) hw
def mZ:=λa (c:za) (R:VK) (f:LK)=>
 opt (nb [] (zY zz 66 [])) λd=>opt (ye 66 a d c) λb=>opt (zd zz 66 a b) λe=>rv [e,.bool false] b R
def Cd:=λa (d:za) (R:VK) b=>
 opt (Yk b 0) λe=>opt (Yk b 1) λf=>opt (ye 66 a e d) λc=>opt (zd zz 66 a c) λg=>rv [g,f] c R
def Ce:=λb (a:za) c d e (R:VK) (j:LK)=>
 opt (x0 b) λf=>zn 61 f 1 54 a λg=>zn 51 c 1 3 a λh=>opt (zd zz 66 d a) λi=>uT zz 83 [g,h,i] a (Cd e a R)
def Cf:=λe b f g c (R:VK) (t:List aaa) (a:za)=>
 opt (nb [] (zY zz 66 [])) λh=>opt (x0 e) λi=>zn 61 i 1 54 a λj=>zn 51 b 1 3 a λk=>opt (zd zz 66 f a) λl=>opt (x0 g) λm=>zn 97 m 2 56 a λn=>zn 51 b 3 3 a λo=>wP 56 n o 66 a λp=>YO zz 84 [j,k,l,p] a (λq r=>opt (ye 66 c h r) λd=>opt (zd zz 66 c d) λs=>rv [s,q] d R)
def m3:=λa c d e (R:VK) f g (k:aaa) (b:za)=>
 zn 51 a 0 3 b λh=>opt (zh .eql 3 40 h 6) λi=>CD i (Ce c b a d e R)
 (λj=>j [nth f 0] b)
 (Cf c a d g e R)
def Cg:=λa c d e (R:VK) f g (b:za)=>
 zn 66 a 2 3 b λh=>zn 66 a 1 2 b λi=>zq zz (fn 47) [c,pm 2,h,i] b (m3 d c a e R g f)
def cL:=λa b (R:VK) e f g h i (c:za)=>
 ze a false (zh .neq 3 29 i 2) c (λj d=>opt (pk a (.bool true) j) λk=>CD k (mZ b d R)
 (λl=>l [.bool false] d)
 (Cg e f g b R h)) c
def m4:=λ(f:za) g (R:VK) h i j d=>
 opt (Yk d 0) λk=>opt (Yk d 1) λl=>uH 66 f λa m=>opt (ye 66 a k m) λe=>opt (Z7 zz .not l) λb=>ze b false (zg zz 66 a 0) e (λn c=>ze b false (zd zz 3 n c) c (cL b g R a h i j) c) e
def Lm:=λ(h:za) e c d (R:VK)=>
 opt (nb [d] (some (Value.cells d).toList)) λf=>nw h f 51 λb g=>uH 66 g λi a=>opt (x0 c) λj=>zn 97 j 2 56 a λk=>zn 51 b 2 3 a λl=>wP 56 k l 66 a λm=>zn 51 b 5 2 a λn=>uT zz 22 [n] a (λo=>uT zz 48 [pm 11,m,o] a (m4 a i R e b c))
theorem Ln(hw:Lm h t0 t1 t2 R):DC zz 49 [t0,t1,t2] h R:=zU (by kernel_rfl) hw
def Lo:=λa c (R:VK) (k:List aaa) (d:za)=>
 opt (x0 a) λe=>opt (zg zz 61 e 2) λf=>j5 33 f 0 3 (pm 1) d λb=>zn 66 c 1 2 b λg=>opt (x0 a) λh=>opt (zg zz 61 h 2) λi=>j5 33 i 1 2 g b λj=>rv [.bool true] j R
def Lp:=λb (a:za) (R:VK) d (g:LK)=>
 zn 66 b 0 3 a λe=>opt (zh .neq 3 48 e 1) λf=>CD f (λc=>rv [.bool false] a R)
 (λc=>c [.bool false] a)
 (Lo d b R)
def Lq:=λb (a:za) c (d:LK)=>
 opt (x0 b) λe=>zn 97 e 2 56 a λf=>opt (nb [] (zY zz 66 [])) λg=>opt (yh zz 56 f (nth c 0)) λh=>opt (ye 66 h g a) λi=>d [] i
def Lr:=λa (c:za) d (e:LK)=>
 zq zz (fn 86) [nth a 0] c (λf b=>opt (Z7 zz .not f) λg=>CD g (Lq d b a)
 (λh=>h [] b)
 (λj i=>e [] i))
def Ls:=λa b (c:LK) (g:List aaa) (d:za)=>
 BK (Lr a d b)
 (λh e=>opt (zh .add 3 79 (nth a 0) 1) λf=>c [f] e)
def oS:=λa (e:LK) f g (h:LK) i (b:za)=>
 ze a true (zh .lss 3 76 i 16) b (λj c=>opt (pk a j (.bool false)) λk=>CD k (λd=>d [] c)
 (λd=>e [] c)
 (Ls f g h)) b
def oT:=λd (e:LK) f b (a:za) (g:LK)=>
 opt (x0 d) λh=>zn 61 h 6 4 a λc=>GD c true (λi=>i (nth b 0) a) (oS c e b f g) a
def Lt:=λb (a:za) c d (e:LK)=>
 opt (x0 b) λf=>zn 97 f 2 56 a λg=>zn 97 c 4 3 a λh=>opt (zd zz 66 d a) λi=>opt (yh zz 56 g h) λj=>opt (ye 66 j i a) λk=>e [] k
def oU:=λb c d (R:VK) (i:List aaa) (a:za)=>
 zn 97 b 4 3 a λe=>opt (zh .geq 3 92 e 0) λf=>CD f (Lt c a b d)
 (λg=>g [] a)
 (λj h=>rv [.bool true] h R)
def Fz:=λb d e (R:VK) (m:List aaa) (a:za)=>
 opt (x0 b) λf=>zn 61 f 5 59 a λg=>opt (x0 b) λh=>zn 61 h 5 59 a λi=>zQ (xw 59 i a) λj _=>opt (zh .sub 3 68 j 1) λk=>opt (yh zz 59 g k) λc=>BK (λl=>LP (oT b l c)
 [pm 0] a)
 (oU d c e R)
def sJ:=λa c (R:VK) h (t:aaa) (b:za)=>
 opt (x0 a) λi=>zn 61 i 5 59 b λd=>opt (x0 a) λj=>zn 61 j 5 59 b λk=>zQ (xw 59 k b) λl _=>opt (zh .sub 3 36 l 1) λe=>opt (nb [d] (cond (Nc none&&Nc (some e)) (Iu zz 59 d none (some e) b) none)) λm=>opt (x0 a) λn=>j5 61 n 5 59 m b λf=>opt (x0 a) λo=>zn 61 o 5 59 f λp=>zQ (xw 59 p f) λq g=>opt (zh .eql 3 45 q 0) λr=>CD r (Lp c g R a)
 (λs=>s [.bool false] g)
 (Fz a h c R)
def N4:=λ(h:za) b e (R:VK)=>
 opt (nb [e] (some (Value.cells e).toList)) λf=>nw h f 66 λg a=>opt (x0 b) λi=>zn 61 i 5 59 a λj=>opt (x0 b) λk=>zn 61 k 5 59 a λl=>zQ (xw 59 l a) λm _=>opt (zh .sub 3 16 m 1) λn=>wP 59 j n 97 a λo=>uH 97 a λc p=>opt (ye 97 c o p) λd=>opt (x0 b) λq=>zn 61 q 1 54 d λr=>zn 97 c 3 3 d λs=>YO zz 85 [r,s] d (sJ b g R c)
theorem FA(hw:N4 h t0 t1 R):DC zz 51 [t0,t1] h R:=zU (by kernel_rfl) hw
def RJ:=λd e b (R:VK) (j:List aaa) (a:za)=>
 opt (x0 d) λf=>zn 97 f 2 56 a λg=>wP 56 g e 66 a λh=>opt (ye 66 b h a) λc=>opt (zd zz 66 b c) λi=>rv [i] c R
def zfw:=λ(h:za) f b (R:VK)=>
 uH 66 h λa c=>opt (zh .eql 3 5 b (-1)) λg=>CD g (λd=>opt (nb [] (zY zz 66 [])) λi=>opt (ye 66 a i c) λe=>opt (zd zz 66 a e) λj=>rv [j] e R)
 (λd=>d [] c)
 (RJ f b a R)
theorem zbz(hw:zfw h t0 t1 R):DC zz 52 [t0,t1] h R:=zU (by kernel_rfl) hw
def CO:=λd (a:za) b (R:VK) (i:LK)=>
 zn 51 d 5 2 a λe=>zq zz (fn 22) [e] a (λf g=>opt (ye 66 b f g) λc=>opt (zd zz 66 b c) λh=>rv [h] c R)
def CP:=λd e b (R:VK) (k:List aaa) (a:za)=>
 opt (x0 d) λf=>zn 97 f 2 56 a λg=>zn 51 e 3 3 a λh=>wP 56 g h 66 a λi=>opt (ye 66 b i a) λc=>opt (zd zz 66 b c) λj=>rv [j] c R
def LQ:=λ(h:za) e c (R:VK)=>
 opt (nb [c] (some (Value.cells c).toList)) λf=>nw h f 51 λa g=>uH 66 g λd b=>zn 51 a 3 3 b λi=>opt (zh .eql 3 6 i (-1)) λj=>CD j (CO a b d R)
 (λk=>k [] b)
 (CP e a d R)
theorem LR(hw:LQ h t0 t1 R):DC zz 46 [t0,t1] h R:=zU (by kernel_rfl) hw
def WC:=λa (R:VK) c (b:za)=>
 ze a false (zh .geq 3 10 c 12) b (λd e=>opt (pk a (.bool true) d) λf=>rv [f] e R) b
def Xp:=λa e (R:VK) f (b:za)=>
 ze a false (zh .eql 3 6 f 5) b (λg c=>opt (pk a (.bool true) g) λd=>GD d false (λh=>h e c) (WC d R) c) b
def BM:=λ(h:za) a (R:VK)=>
 opt (zh .eql 3 3 a 3) λb=>GD b false (λc=>c a h) (Xp b a R) h
theorem si(hw:BM h t0 R):DC zz 86 [t0] h R:=zU (by kernel_rfl) hw
def EZ:=λb a (c:LK) (j:List aaa) (d:za)=>
 BK (λe=>opt (yh zz 22 b (nth a 0)) λf=>opt (ye 3 f (pm (-1)) d) λg=>e [] g)
 (λk h=>opt (zh .add 3 25 (nth a 0) 1) λi=>c [i] h)
def rU:=λd (e:LK) f a (b:za) (g:LK)=>
 opt (yi .lss 3 22 23 (nth a 0) d) λh=>CD h (λc=>c [] b)
 (λc=>e [] b)
 (EZ f a g)
def E0:=λa b (R:VK) (q:List aaa) (c:za)=>
 opt (x0 a) λh=>zn 58 h 0 55 c λd=>opt (nb [b] (zY zz 95 [(0,b)])) λe=>zQ (nb [e] (zH zz 55 1 [(0,e)] c)) λf i=>zQ (nb [d,f] (zB zz .append [55,55] 55 [d,f] i)) λj k=>opt (x0 a) λl=>j5 58 l 0 55 j k λg=>opt (x0 a) λm=>zn 58 m 0 55 g λn=>zQ (xw 55 n g) λo p=>rv [o,pm 0] p R
def rV:=λb (R:VK) a c (d:za)=>
 opt (x0 b) λh=>zn 58 h 0 55 d λi=>zQ (xw 55 i d) λj e=>opt (zh .geq 3 18 j 100000) λk=>CD k (λf=>rv [pm 0,pm 2] e R)
 (λf=>f [nth c 0,nth c 1] e)
 (λo l=>zQ (Wo zz 22 a a l) λg m=>BK (λn=>LP (rU a n g)
 [pm 0] m)
 (E0 b g R))
def Jz:=λc (R:VK) d e f (a:za)=>
 opt (pk c (.bool true) f) λg=>CD g (λb=>rv [pm 0,pm 1] a R)
 (λb=>b [pm 0,pm 0] a)
 (rV d R e)
def JA:=λa (R:VK) c d e (b:za)=>
 ze a false (zh .gtr 3 11 e 65536) b (Jz a R c d) b
def P0:=λ(h:za) c a (R:VK)=>
 opt (zh .lss 3 8 a 0) λb=>GD b false (λd=>d a h) (JA b R c a) h
theorem NW(hw:P0 h t0 t1 R):DC zz 20 [t0,t1] h R:=zU (by kernel_rfl) hw
def rZ:=λa (R:VK) d (b:za)=>
 ze a true (zd zz 4 d b) b (λe c=>ze a true (Z7 zz .not e) c (λf g=>opt (pk a f (.bool false)) λh=>rv [h] g R) c) b
def r8:=λa d (R:VK) e (b:za)=>
 ze a true (yh zz 55 d e) b (λf c=>ze a true (zg zz 95 f 1) c (rZ a R) c) b
def r9:=λa c (R:VK) d (b:za)=>
 ze a true (zh .sub 3 21 d 1) b (r8 a c R) b
def sa:=λa e (R:VK) f (c:za)=>
 ze a true (zg zz 58 f 0) c (λg b=>ze a true (zd zz 55 g b) b (λh d=>GD a true (λi=>i e d) (r9 a h R) d) b) c
def sd:=λd e f (R:VK) g (b:za)=>
 opt (pk d g (.bool false)) λa=>GD a true (λh=>h e b) (λi c=>ze a true (x0 i) c (sa a f R) c) b
def sg:=λa e f g (R:VK) h (c:za)=>
 GD a true (λi=>zQ (xw 55 h c) λb j=>i b j) (λb d=>ze a true (yi .leq 3 8 13 e b) d (sd a f g R) d) c
def sh:=λa d e f (R:VK) g (c:za)=>
 ze a true (zg zz 58 g 0) c (λh b=>ze a true (zd zz 55 h b) b (sg a d e f R) b) c
def zhI:=λ(h:za) c b (R:VK)=>
 opt (zh .geq 3 5 b 1) λa=>GD a true (λf=>f b h) (λg d=>GD a true (λi=>i c d) (λj e=>ze a true (x0 j) e (sh a g c b R) e) d) h
theorem zeh(hw:zhI h t0 t1 R):DC zz 44 [t0,t1] h R:=zU (by kernel_rfl) hw
def IN:=λb c (R:VK) (i:List aaa) (a:za)=>
 opt (x0 b) λd=>zn 58 d 0 55 a λe=>opt (zh .sub 3 13 c 1) λf=>opt (yh zz 55 e f) λg=>j5 95 g 1 4 (.bool true) a λh=>rv [.bool true] h R
def zbl:=λ(h:za) a b (R:VK)=>
 zq zz (fn 44) [a,b] h (λe c=>opt (Z7 zz .not e) λf=>CD f (λd=>rv [.bool false] c R)
 (λd=>d [.bool false] c)
 (IN a b R))
theorem TE(hw:zbl h t0 t1 R):DC zz 85 [t0,t1] h R:=zU (by kernel_rfl) hw
def Lj:=λb a (c:LK) (j:List aaa) (d:za)=>
 BK (λe=>opt (yh zz 22 b (nth a 0)) λf=>opt (ye 3 f (pm 0) d) λg=>e [] g)
 (λk h=>opt (zh .add 3 24 (nth a 0) 1) λi=>c [i] h)
def Cc:=λa (e:LK) b (f:za) (g:LK)=>
 zQ (xw 22 a f) λh c=>opt (yi .lss 3 20 22 (nth b 0) h) λi=>CD i (λd=>d [] c)
 (λd=>e [] c)
 (Lj a b g)
def Ll:=λb c (R:VK) (k:List aaa) (a:za)=>
 opt (x0 b) λd=>zn 58 d 0 55 a λe=>opt (zh .sub 3 15 c 1) λf=>opt (yh zz 55 e f) λg=>zn 95 g 0 22 a λh=>BK (λi=>LP (Cc h i)
 [pm 0] a)
 (λl j=>rv [.bool true] j R)
def zbt:=λ(h:za) a b (R:VK)=>
 zq zz (fn 44) [a,b] h (λe c=>opt (Z7 zz .not e) λf=>CD f (λd=>rv [.bool false] c R)
 (λd=>d [.bool false] c)
 (Ll a b R))
theorem TK(hw:zbt h t0 t1 R):DC zz 21 [t0,t1] h R:=zU (by kernel_rfl) hw
def jb:=λa (R:VK) c (b:za)=>
 ze a true (zh .eql 2 59 c 0) b (λd e=>opt (pk a d (.bool false)) λf=>rv [f] e R) b
def jc:=λa d (R:VK) e (b:za)=>
 GD a true (λf=>f d b) (λg c=>ze a true (yi .rem 2 57 58 e g) c (jb a R) c) b
def jd:=λd e f (R:VK) g (c:za)=>
 opt (pk d g (.bool false)) λa=>ze a true (zg zz 66 e 1) c (λh b=>ze a true (zd zz 2 h b) b (jc a f R) b) c
def ZT:=λa d e f g (R:VK) h (b:za)=>
 ze a true (yi .sub 3 50 51 d h) b (λi c=>ze a true (yi .leq 2 39 52 e i) c (jd a f g R) c) b
def ZU:=λa d f g (R:VK) h (b:za)=>
 GD a true (λi=>zQ (xw 22 h b) λc _=>i c b) (λc e=>GD a true (λj=>j d e) (ZT a c f g d R) e) b
def Za:=λa d e f (R:VK) g (c:za)=>
 ze a true (zg zz 95 g 0) c (λh b=>ze a true (zd zz 22 h b) b (ZU a d e f R) b) c
def Zb:=λa d e f g (R:VK) h (b:za)=>
 ze a true (zh .sub 3 45 h 1) b (λi c=>ze a true (yh zz 55 d i) c (Za a e f g R) c) b
def Zc:=λa c e f (R:VK) g (d:za)=>
 ze a true (zg zz 66 c 2) d (λh b=>ze a true (zd zz 3 h b) b (Zb a g e f c R) b) d
def uN:=λa d e f (R:VK) g (c:za)=>
 ze a true (zg zz 58 g 0) c (λh b=>ze a true (zd zz 55 h b) b (Zc a d e f R) b) c
def vF:=λa e f g (R:VK) h (b:za)=>
 ze a true (zd zz 2 h b) b (λi c=>GD a true (λj=>j e c) (λk d=>ze a true (x0 k) d (uN a f g i R) d) c) b
def vG:=λa d e (R:VK) (g:List aaa) (b:za)=>
 zn 66 a 1 2 b λf=>opt (zh .geq 2 35 f 0) λc=>ze c true (zg zz 66 a 1) b (vF c d a e R) b
def wx:=λa (R:VK) e f g h (b:za)=>
 ze a false (Z7 zz .not h) b (λi c=>opt (pk a (.bool true) i) λj=>CD j (λd=>rv [.bool false] c R)
 (λd=>d [.bool false] c)
 (vG e f g R)) b
def u4:=λa d (R:VK) e f g h (b:za)=>
 ze a false (zd zz 3 h b) b (λi c=>GD a false (λj=>zq zz (fn 44) [d,i] c (λk l=>j k l)) (wx a R e f g) c) b
def u5:=λf b c (R:VK) g h (d:za)=>
 opt (pk f (.bool true) h) λa=>GD a false (λi=>i b d) (λj e=>ze a false (zg zz 66 c 2) e (u4 a j R c b g) e) d
def u6:=λa c d (R:VK) e f (b:za)=>
 ze a false (zh .neq 3 24 f 2) b (u5 a c d R e) b
def u7:=λe c f (R:VK) g h (d:za)=>
 opt (pk e (.bool true) h) λa=>ze a false (zg zz 66 c 0) d (λi b=>ze a false (zd zz 3 i b) b (u6 a f c R g) b) d
def qR:=λa e f (R:VK) g h (c:za)=>
 GD a false (λi=>zq zz (fn 79) [h] c (λb j=>i b j)) (λb d=>ze a false (Z7 zz .not b) d (u7 a e f R g) d) c
def u9:=λb c f (R:VK) g h (d:za)=>
 ze b true (zh .neq 3 14 h 8) d (λi a=>opt (pk b i (.bool false)) λe=>ze e false (zd zz 66 c a) a (qR e c f R g) a) d
def XD:=λa b f g (R:VK) h (c:za)=>
 ze a true (zh .neq 3 10 h 4) c (λi d=>opt (pk a i (.bool false)) λe=>GD e true (λj=>j b d) (u9 e f g R b) d) c
def oN:=λ(h:za) e a b (R:VK)=>
 opt (nb [b] (some (Value.cells b).toList)) λf=>nw h f 66 λg c=>opt (zh .neq 3 7 a 1) λd=>GD d true (λi=>i a c) (XD d a g e R) c
theorem mV(hw:oN h t0 t1 t2 R):DC zz 100 [t0,t1,t2] h R:=zU (by kernel_rfl) hw
def IS:=λa (c:za) (R:VK) (f:LK)=>
 opt (nb [] (zY zz 66 [])) λd=>opt (ye 66 a d c) λb=>opt (zd zz 66 a b) λe=>rv [e,.bool false] b R
def fu:=λe f a (g:LK) h i (b:za)=>
 opt (pk e i (.bool false)) λj=>wP 22 f (nth a 3) 3 b λk=>opt (zh .and 3 89 k 255) λc=>zQ (nb [c] (ud zz 3 156 c b)) λl m=>opt (nb [pm 8,nth a 3] (zX zz .mul 3 (.const (pm 8)) (.tmp 92) (pm 8) (nth a 3))) λd=>zQ (nb [d] (ud zz 3 144 d m)) λn o=>opt (yi .shl 156 91 94 l n) λp=>opt (yi .or 156 85 95 (nth a 0) p) λq=>g [q,h,j] o
def fw:=λa c d (e:LK) f g (b:za)=>
 ze a true (zh .eql 3 82 g 0) b (fu a c d e f) b
def fy:=λa c d (e:LK) f g (b:za)=>
 ze a true (zh .rem 3 81 g 8) b (fw a c d e f) b
def fA:=λa d e (f:LK) g h (c:za)=>
 ze a true (yh zz 22 h (pm 0)) c (λi b=>ze a true (zd zz 3 i b) b (fy a d e f g) b) c
def fB:=λa f b g (h:LK) i j (c:za)=>
 ze a true (yi .eql 3 70 75 f j) c (λk d=>opt (pk a k (.bool false)) λe=>GD e true (λl=>l b d) (fA e b g h i) d) c
def fC:=λa b e f (g:LK) h i (c:za)=>
 GD a true (λj=>j (nth b 3) c) (λk d=>ze a true (yi .add 3 73 74 i k) d (fB a e f b g h) d) c
def fD:=λa d e f (g:LK) h i (c:za)=>
 ze a true (yh zz 22 i (pm 0)) c (λj b=>ze a true (zd zz 3 j b) b (fC a d e f g h) b) c
def fE:=λa c e (f:LK) g h (b:za)=>
 ze a true (zd zz 3 h b) b (λi d=>GD a true (λj=>j c d) (fD a e i c f g) d) b
def JD:=λa b e (f:LK) g h (c:za)=>
 GD a true (λi=>i (nth b 3) c) (λj d=>ze a true (yh zz 22 h j) d (fE a e b f g) d) c
def JE:=λa b (f:LK) g h (c:za)=>
 ze (nth a 2) true (zh .geq 3 63 h 1000) c (λi d=>opt (pk (nth a 2) i (.bool false)) λe=>GD e true (λj=>j b d) (JD e a b f g) d) c
def JF:=λa d e (f:LK) g h (c:za)=>
 ze (nth a 2) true (yh zz 22 d h) c (λi b=>ze (nth a 2) true (zd zz 3 i b) b (JE a e f g) b) c
def JG:=λe a b (f:LK) g (c:za)=>
 opt (pk e g (.bool false)) λh=>GD (nth a 2) true (λi=>i b c) (λj d=>GD (nth a 2) true (λk=>k (nth a 3) d) (JF a j b f h) d) c
def JH:=λa c d (e:LK) f (b:za)=>
 ze a true (zh .lss 3 55 f 256) b (JG a c d e) b
def JI:=λa d e f (g:LK) h (c:za)=>
 ze a true (yh zz 22 d h) c (λi b=>ze a true (zd zz 3 i b) b (JH a e f g) b) c
def JJ:=λa c (f:LK) g (d:za)=>
 opt (pk (nth a 1) g (.bool false)) λb=>GD b true (λh=>h c d) (λi e=>GD b true (λj=>j (nth a 3) e) (JI b i a c f) e) d
def JK:=λa c (d:LK) e (b:za)=>
 ze (nth a 1) true (zh .geq 3 48 e 0) b (JJ a c d) b
def JL:=λa d e (f:LK) g (c:za)=>
 ze (nth a 1) true (yh zz 22 d g) c (λh b=>ze (nth a 1) true (zd zz 3 h b) b (JK a e f) b) c
def JM:=λb (c:LK) a (d:za)=>
 opt (zh .add 3 41 (nth b 3) 1) λe=>c [nth a 0,nth a 1,nth a 2,e] d
def JN:=λa b (e:LK) (j:List aaa) (c:za)=>
 BK (λf=>GD (nth a 1) true (λg=>g b c) (λh d=>GD (nth a 1) true (λi=>i (nth a 3) d) (JL a h b f) d) c)
 (JM a e)
def ZS:=λd (e:LK) f a (b:za) (g:LK)=>
 opt (yi .lss 3 38 39 (nth a 3) d) λh=>CD h (λc=>c [] b)
 (λc=>e [nth a 0,nth a 1,nth a 2] b)
 (JN a f g)
def sj:=λa (R:VK) c (d:za)=>
 zq zz (fn 22) [c] d (λe f=>opt (ye 66 a e f) λb=>opt (zd zz 66 a b) λg=>rv [g,.bool true] b R)
def sk:=λa (d:za) b e (R:VK) (j:LK)=>
 zQ (nb [nth a 0] (ud zz 156 2 (nth a 0) d)) λf g=>opt (nb [pm 8,b] (zX zz .mul 3 (.const (pm 8)) (.tmp 102) (pm 8) b)) λc=>zQ (nb [c] (ud zz 3 144 c g)) λh i=>zq zz (fn 80) [f,h] i (sj e R)
def Ff:=λa b (R:VK) (j:List aaa) (d:za)=>
 zQ (nb [nth a 0] (ud zz 156 2 (nth a 0) d)) λe f=>zq zz (fn 22) [e] f (λg h=>opt (ye 66 b g h) λc=>opt (zd zz 66 b c) λi=>rv [i,.bool true] c R)
def i3:=λa b (c:za) d (R:VK) e (h:LK)=>
 opt (zh .lss 3 98 a 8) λf=>CD f (sk b c a d R)
 (λg=>g [nth e 0] c)
 (Ff b d R)
def Fg:=λd (a:za) e b (R:VK) (m:LK)=>
 opt (x0 d) λf=>zn 58 f 1 56 a λg=>wP 22 e (pm 0) 3 a λh=>opt (zh .sub 3 117 h 1000) λi=>opt (zh .quo 3 118 i 8) λj=>wP 56 g j 66 a λk=>opt (ye 66 b k a) λc=>opt (zd zz 66 b c) λl=>rv [l,.bool true] c R
def Fh:=λa (R:VK) (f:List aaa) (c:za)=>
 opt (nb [] (zY zz 66 [])) λd=>opt (ye 66 a d c) λb=>opt (zd zz 66 a b) λe=>rv [e,.bool true] b R
def U3:=λf a (R:VK) c g h b (d:za)=>
 CD (nth b 1) (i3 f b d a R c)
 (λi=>i [nth c 0] d)
 (λj e=>CD (nth b 2) (Fg g e h a R)
 (λk=>k [nth j 0] e)
 (Fh a R))
def Fi:=λd c b i (R:VK) j (a:za)=>
 opt (x0 d) λk=>zn 58 k 0 55 a λl=>zn 66 c 2 3 a λm=>opt (zh .sub 3 24 m 1) λn=>opt (yh zz 55 l n) λo=>zn 95 o 0 22 a λe=>zn 66 c 1 2 a λf=>zn 66 c 1 2 a λp=>opt (yi .add 2 32 33 p b) λg=>opt (nb [e] (cond (Nc (some f)&&Nc (some g)) (Iu zz 22 e (some f) (some g) a) none)) λh=>opt (zh .eql 3 36 b 8) λq=>BK (λr=>LP (ZS b r h)
 [.int .u64 0,.bool true,q,pm 0] a)
 (U3 b i R j d h)
def zbn:=λ(h:za) a b c (R:VK)=>
 opt (nb [c] (some (Value.cells c).toList)) λi=>nw h i 66 λd j=>uH 66 j λe f=>opt (zd zz 66 d f) λk=>zq zz (fn 100) [a,b,k] f (λl g=>opt (Z7 zz .not l) λm=>CD m (IS e g R)
 (λn=>n [.bool false] g)
 (Fi a d b e R))
theorem TG(hw:zbn h t0 t1 t2 R):DC zz 83 [t0,t1,t2] h R:=zU (by kernel_rfl) hw
def Ft:=λb (a:za) f (g:LK)=>
 opt (x0 b) λh=>zn 58 h 1 56 a λc=>opt (zd zz 66 f a) λd=>zQ (nb [d] (zH zz 56 1 [(0,d)] a)) λe i=>zQ (nb [c,e] (zB zz .append [56,56] 56 [c,e] i)) λj k=>opt (x0 b) λl=>j5 58 l 1 56 j k λm=>g [] m
def Fu:=λd (b:za) a e (f:LK)=>
 zn 66 d 1 2 b λg=>opt (nb [pm 8,nth a 0] (zX zz .mul 3 (.const (pm 8)) (.tmp 92) (pm 8) (nth a 0))) λc=>zQ (nb [c] (ud zz 3 144 c b)) λh i=>opt (yi .shr 2 91 94 g h) λj=>opt (zh .and 2 95 j 255) λk=>opt (yh zz 22 e (nth a 0)) λl=>opt (ye 3 l k i) λm=>f [] m
def i6:=λa d e f (g:LK) h (b:za)=>
 ze a true (zh .eql 3 85 h 1) b (λi c=>opt (pk a i (.bool false)) λj=>CD j (Fu d c e f)
 (λk=>k [] c)
 (λm l=>g [] l)) b
def i7:=λc e f (g:LK) a (d:za)=>
 ze a true (zg zz 66 c 0) d (λh b=>ze a true (zd zz 3 h b) b (i6 a c e f g) b) d
def Fv:=λe (a:za) b f (g:LK)=>
 opt (x0 e) λh=>zn 58 h 1 56 a λi=>zQ (xw 56 i a) λj k=>opt (zh .sub 3 74 j 1) λc=>opt (nb [pm 8,c] (zX zz .mul 3 (.const (pm 8)) (.tmp 75) (pm 8) c)) λd=>opt (nb [pm 1000,d] (zX zz .add 3 (.const (pm 1000)) (.tmp 76) (pm 1000) d)) λl=>opt (yi .add 3 77 78 l (nth b 0)) λm=>opt (yh zz 22 f (nth b 0)) λn=>opt (ye 3 n m k) λo=>g [] o
def Fw:=λa b (e:za) f g d (h:LK)=>
 opt (yh zz 22 a (nth b 0)) λi=>opt (ye 3 i (pm (-1)) e) λc=>CD f (Fv g c b a)
 (λj=>opt (zd zz 66 d c) λk=>zq zz (fn 79) [k] c (i7 d b a j))
 (λm l=>h [] l)
def Fx:=λb a c d e (f:LK) (j:List aaa) (g:za)=>
 BK (Fw b a g c d e)
 (λk h=>opt (zh .add 3 62 (nth a 0) 1) λi=>f [i] h)
def i9:=λd (e:LK) f g h i a (b:za) (j:LK)=>
 opt (yi .lss 3 59 60 (nth a 0) d) λk=>CD k (λc=>c [] b)
 (λc=>e [] b)
 (Fx f a g h i j)
def ss:=λb c d e f (R:VK) (u:List aaa) (a:za)=>
 opt (x0 b) λj=>zn 58 j 0 55 a λk=>zn 66 c 2 3 a λl=>opt (zh .sub 3 36 l 1) λm=>opt (yh zz 55 k m) λn=>zn 95 n 0 22 a λg=>zn 66 c 1 2 a λh=>zn 66 c 1 2 a λo=>opt (yi .add 2 44 45 o d) λi=>opt (nb [g] (cond (Nc (some h)&&Nc (some i)) (Iu zz 22 g (some h) (some i) a) none)) λp=>CD e (Ft b a f)
 (λq=>q [] a)
 (λv r=>BK (λs=>LP (i9 d s p e b f)
 [pm 0] r)
 (λw t=>rv [.bool true] t R))
def Qw:=λa e (R:VK) f g h i j k (b:za)=>
 ze a false (pk e k (.bool false)) b (λl c=>opt (pk a (.bool true) l) λm=>CD m (λd=>rv [.bool false] c R)
 (λd=>d [.bool false] c)
 (ss f g h i j R)) b
def Qx:=λa c (R:VK) d e f g h i (b:za)=>
 ze a true (zh .neq 3 27 i 8) b (Qw c a R d e f g h) b
def W6:=λb c (R:VK) h i j k (d:za)=>
 opt (Z7 zz .not k) λa=>GD a false (λl=>l b d) (λm e=>GD a false (λn=>n m e) (λf g=>GD f true (λo=>o c g) (Qx f a R h i c b j) g) e) d
def cC:=λe a b c (R:VK) f g (d:za)=>
 opt (pk e g (.bool false)) λh=>opt (zd zz 66 a d) λi=>zq zz (fn 100) [b,c,i] d (W6 h c R b a f)
def cD:=λa c d e (R:VK) f g (b:za)=>
 ze a true (zh .eql 3 16 g 2) b (cC a c d e R f) b
def cE:=λc e f g (R:VK) a (d:za)=>
 ze a true (zg zz 66 c 0) d (λh b=>ze a true (zd zz 3 h b) b (cD a e f g R c) b) d
def Rj:=λ(h:za) e f a b (R:VK)=>
 opt (nb [a] (some (Value.cells a).toList)) λg=>nw h g 66 λi j=>opt (nb [b] (some (Value.cells b).toList)) λk=>nw j k 66 λc d=>opt (zd zz 66 c d) λl=>zq zz (fn 79) [l] d (cE c i e f R)
theorem N0(hw:Rj h t0 t1 t2 t3 R):DC zz 84 [t0,t1,t2,t3] h R:=zU (by kernel_rfl) hw
def rW:=λa (R:VK) c (b:za)=>
 ze a true (zh .eql 3 12 c 0) b (λd e=>opt (pk a d (.bool false)) λf=>rv [f] e R) b
def E4:=λb (a:za) (R:VK) (e:LK)=>
 zn 66 b 2 3 a λc=>opt (zh .geq 3 23 c 1) λd=>rv [d] a R
def E5:=λb (a:za) (R:VK) (e:LK)=>
 zn 66 b 2 3 a λc=>opt (zh .eql 3 18 c 0) λd=>rv [d] a R
def rX:=λb c (a:za) (R:VK) (d:LK)=>
 opt (zh .eql 3 4 b 2) λe=>CD e (E4 c a R)
 (λf=>f [.bool false] a)
 (λg h=>d [nth g 0] h)
def rY:=λd (a:za) (R:VK) (g:LK)=>
 zn 66 d 1 2 a λe=>opt (zh .eql 2 8 e 0) λb=>ze b true (zg zz 66 d 2) a (λf c=>ze b true (zd zz 3 f c) c (rW b R) c) a
def i0:=λa b (c:za) (R:VK) (d:LK)=>
 opt (zh .eql 3 4 a 1) λe=>CD e (E5 b c R)
 (rX a b c R)
 (λf g=>d [nth f 0] g)
def U2:=λa b (c:za) (R:VK) (d:LK)=>
 opt (zh .eql 3 4 a 0) λe=>CD e (rY b c R)
 (i0 a b c R)
 (λf g=>d [nth f 0] g)
def oE:=λ(h:za) a (R:VK)=>
 opt (nb [a] (some (Value.cells a).toList)) λd=>nw h d 66 λb c=>zn 66 b 0 3 c λe=>BK (U2 e b c R)
 (λg f=>rv [.bool false] f R)
theorem mU(hw:oE h t0 R):DC zz 79 [t0] h R:=zU (by kernel_rfl) hw
def zhJ:=λ(h:za) a (R:VK)=>
 uH 66 h λb d=>opt (nb [pm 1,a] (zY zz 66 [(0,(pm 1)),(1,a)])) λe=>opt (ye 66 b e d) λc=>opt (zd zz 66 b c) λf=>rv [f] c R
theorem zei(hw:zhJ h t0 R):DC zz 22 [t0] h R:=zU (by kernel_rfl) hw
def zbh:=λa b c (R:VK) (h:List aaa) (e:za)=>
 opt (nb [pm 2,a,b] (zY zz 66 [(0,(pm 2)),(2,a),(1,b)])) λf=>opt (ye 66 c f e) λd=>opt (zd zz 66 c d) λg=>rv [g] d R
def zhH:=λ(h:za) b f (R:VK)=>
 uH 66 h λa c=>opt (zh .lss 3 5 b 1) λg=>CD g (λd=>opt (nb [] (zY zz 66 [])) λi=>opt (ye 66 a i c) λe=>opt (zd zz 66 a e) λj=>rv [j] e R)
 (λd=>d [] c)
 (zbh b f a R)
theorem zeg(hw:zhH h t0 t1 R):DC zz 50 [t0,t1] h R:=zU (by kernel_rfl) hw
def G3:=λa b (h:za) (R:VK) (e:LK)=>
 opt (nb [pm 1,a] (zX zz .shl 2 (ci 1) (.tmp 17) (pm 1) a)) λc=>opt (yi .sub 2 16 18 b c) λd=>rv [d] h R
def zbj:=λ(h:za) d a (R:VK)=>
 opt (nb [pm 1,a] (zX zz .shl 2 (ci 1) (.tmp 7) (pm 1) a)) λe=>opt (zh .sub 2 8 e 1) λf=>opt (yi .and 2 6 9 d f) λb=>opt (nb [a,.int .u64 1] (zX zz .sub 144 (.tmp 12) (.const (.int .u64 1)) a (.int .u64 1))) λc=>opt (nb [pm 1,c] (zX zz .shl 2 (ci 1) (.tmp 13) (pm 1) c)) λg=>opt (yi .geq 2 11 14 b g) λi=>CD i (G3 a b h R)
 (λj=>j [pm 0] h)
 (λl k=>rv [b] k R)
theorem IM(hw:zbj h t0 t1 R):DC zz 80 [t0,t1] h R:=zU (by kernel_rfl) hw
def su:=λa (c:za) (R:VK) (f:LK)=>
 opt (nb [] (zY zz 66 [])) λd=>opt (ye 66 a d c) λb=>opt (zd zz 66 a b) λe=>rv [e,.bool false] b R
def B5:=λa (R:VK) c (d:za)=>
 zq zz (fn 22) [c] d (λe f=>opt (ye 66 a e f) λb=>opt (zd zz 66 a b) λg=>rv [g,.bool true] b R)
def B6:=λa (R:VK) c (d:za)=>
 zq zz (fn 22) [c] d (λe f=>opt (ye 66 a e f) λb=>opt (zd zz 66 a b) λg=>rv [g,.bool true] b R)
def sw:=λb (a:za) c (R:VK) (e:LK)=>
 zn 66 b 1 2 a λd=>zq zz (fn 80) [d,.int .u64 32] a (B6 c R)
def B7:=λb (a:za) c (R:VK) (e:LK)=>
 zn 66 b 1 2 a λd=>zq zz (fn 80) [d,.int .u64 8] a (B5 c R)
def fU:=λb c (a:za) d (R:VK) e (f:LK)=>
 opt (zh .eql 3 15 b 4) λg=>CD g (sw c a d R)
 (λh=>h [nth e 0] a)
 (λi j=>f [nth i 0] j)
def B8:=λe (a:za) b (R:VK) (j:LK)=>
 zn 66 e 1 2 a λc=>opt (nb [pm (-1),c] (zX zz .sub 2 (.const (pm (-1))) (.tmp 26) (pm (-1)) c)) λf=>zq zz (fn 22) [f] a (λg h=>opt (ye 66 b g h) λd=>opt (zd zz 66 b d) λi=>rv [i,.bool true] d R)
def Jf:=λa b (c:za) d (R:VK) e (f:LK)=>
 opt (zh .eql 3 15 a 3) λg=>CD g (B7 b c d R)
 (fU a b c d R e)
 (λh i=>f [nth h 0] i)
def cG:=λd (a:za) b (R:VK) (k:LK)=>
 zn 66 d 1 2 a λe=>opt (Z7 zz .xor e) λf=>opt (zh .add 2 20 f 1) λg=>zq zz (fn 22) [g] a (λh i=>opt (ye 66 b h i) λc=>opt (zd zz 66 b c) λj=>rv [j,.bool true] c R)
def Kf:=λa b (c:za) d (R:VK) e (f:LK)=>
 opt (zh .eql 3 15 a 2) λg=>CD g (B8 b c d R)
 (Jf a b c d R e)
 (λh i=>f [nth h 0] i)
def la:=λa b (c:za) d (R:VK) e (f:LK)=>
 opt (zh .eql 3 15 a 1) λg=>CD g (cG b c d R)
 (Kf a b c d R e)
 (λh i=>f [nth h 0] i)
def Rn:=λa (R:VK) (f:List aaa) (c:za)=>
 opt (nb [] (zY zz 66 [])) λd=>opt (ye 66 a d c) λb=>opt (zd zz 66 a b) λe=>rv [e,.bool false] b R
def Kg:=λc a (R:VK) d e f (b:za)=>
 opt (pk c (.bool true) f) λg=>CD g (su a b R)
 (λh=>h [.bool false] b)
 (λi j=>BK (la d e j a R i)
 (Rn a R))
def Kh:=λa c (R:VK) d e f (b:za)=>
 ze a false (zh .neq 3 11 f 1) b (Kg a c R d e) b
def Ki:=λc e (R:VK) f g (d:za)=>
 opt (Z7 zz .not g) λa=>ze a false (zg zz 66 c 0) d (λh b=>ze a false (zd zz 3 h b) b (Kh a e R f c) b) d
def zbr:=λ(h:za) d a (R:VK)=>
 opt (nb [a] (some (Value.cells a).toList)) λe=>nw h e 66 λb f=>uH 66 f λg c=>opt (zd zz 66 b c) λi=>zq zz (fn 79) [i] c (Ki b g R d)
theorem G7(hw:zbr h t0 t1 R):DC zz 45 [t0,t1] h R:=zU (by kernel_rfl) hw
def V4:=λa (R:VK) b (c:za)=>
 zQ (nb [nth a 0] (ud zz 156 2 (nth a 0) c)) λd e=>zQ (nb [nth b 0] (ud zz 156 2 (nth b 0) e)) λf g=>rv [d,f,.bool true] g R
def V5:=λd b (R:VK) e (c:za)=>
 opt (zh .lss 2 48 d 0) λf=>CD f (λa=>opt (Z7 zz .neg b) λg=>a [g] c)
 (λa=>a [b] c)
 (V4 e R)
def V6:=λc d g (R:VK) e (f:za)=>
 opt (yi .quo 156 33 34 (nth c 0) (nth e 0)) λa=>opt (yi .mul 156 37 38 a (nth e 0)) λh=>opt (yi .sub 156 36 39 (nth c 0) h) λi=>opt (zh .lss 2 41 d 0) λj=>opt (zh .lss 2 43 g 0) λk=>opt (yi .neq 4 42 44 j k) λl=>CD l (λb=>opt (Z7 zz .neg a) λm=>b [m] f)
 (λb=>b [a] f)
 (V5 d i R)
def V7:=λb c e (R:VK) f (d:za)=>
 opt (zh .lss 2 29 b 0) λg=>CD g (λa=>opt (Z7 zz .neg c) λh=>a [h] d)
 (λa=>a [c] d)
 (V6 f e b R)
def XU:=λa b (R:VK) (k:List aaa) (f:za)=>
 zQ (nb [a] (ud zz 2 156 a f)) λd g=>zQ (nb [b] (ud zz 2 156 b g)) λh e=>opt (zh .lss 2 25 a 0) λi=>CD i (λc=>opt (Z7 zz .neg d) λj=>c [j] e)
 (λc=>c [d] e)
 (V7 b h a R)
def V8:=λc (R:VK) d e f (a:za)=>
 opt (pk c (.bool true) f) λg=>CD g (λb=>rv [pm 0,pm 0,.bool false] a R)
 (λb=>b [pm 0,pm 0,.bool false] a)
 (XU d e R)
def V9:=λa b (R:VK) e f g (c:za)=>
 ze a true (zh .eql 2 17 g (-1)) c (λh d=>ze b false (pk a h (.bool false)) d (V8 b R e f) d) c
def Ua:=λa b (R:VK) g h (c:za)=>
 ze a false (zh .eql 2 14 h (-9223372036854775808)) c (λi d=>GD a false (λj=>j i d) (λe f=>GD e true (λk=>k b f) (V9 e a R g b) f) d) c
def E3:=λ(h:za) a b (R:VK)=>
 opt (zh .eql 2 11 b 0) λc=>GD c false (λd=>d a h) (Ua c b R a) h
theorem GZ(hw:E3 h t0 t1 R):DC zz 99 [t0,t1] h R:=zU (by kernel_rfl) hw
def Rq:=λ(c:za) a (R:VK) (g:LK)=>
 zq zz (fn 22) [pm 1] c (λd e=>opt (ye 66 a d e) λb=>opt (zd zz 66 a b) λf=>rv [f] b R)
def Rr:=λa (R:VK) (g:List aaa) (c:za)=>
 zq zz (fn 22) [pm 0] c (λd e=>opt (ye 66 a d e) λb=>opt (zd zz 66 a b) λf=>rv [f] b R)
def zft:=λ(h:za) c (R:VK)=>
 uH 66 h λa b=>CD c (Rq b a R)
 (λd=>d [] b)
 (Rr a R)
theorem zbu(hw:zft h t0 R):DC zz 82 [t0] h R:=zU (by kernel_rfl) hw
def WG:=λa (c:za) (R:VK) (f:LK)=>
 opt (nb [] (zY zz 66 [])) λd=>opt (ye 66 a d c) λb=>opt (zd zz 66 a b) λe=>rv [e,.bool false] b R
def QC:=λa (R:VK) c (d:za)=>
 zq zz (fn 22) [nth c 0] d (λe f=>opt (ye 66 a e f) λb=>opt (zd zz 66 a b) λg=>rv [g,.bool true] b R)
def QD:=λc d e f (R:VK) (h:List aaa) (b:za)=>
 opt (zh .eql 3 44 c 15) λg=>CD g (λa=>a [d] b)
 (λa=>a [e] b)
 (QC f R)
def YH:=λa (c:za) (R:VK) (f:LK)=>
 opt (nb [] (zY zz 66 [])) λd=>opt (ye 66 a d c) λb=>opt (zd zz 66 a b) λe=>rv [e,.bool false] b R
def ZN:=λa (b:za) (c:LK)=>
 opt (zh .and 2 92 (nth a 0) 1) λd=>opt (yi .sub 2 91 93 (nth a 0) d) λe=>opt (zh .quo 2 94 e 2) λf=>c [f] b
def Zf:=λc a (b:za) (d:LK)=>
 opt (zh .eql 3 86 c 19) λe=>CD e (λf=>opt (yi .add 2 88 89 (nth a 0) (nth a 0)) λg=>f [g] b)
 (ZN a b)
 (λh i=>d [nth h 0] i)
def Zg:=λa (b:LK) c (d:za)=>
 opt (zh .add 2 84 (nth a 1) 1) λe=>b [nth c 0,e] d
def YI:=λd (e:LK) f a (b:za) (g:LK)=>
 opt (yi .lss 2 81 82 (nth a 1) d) λh=>CD h (λc=>c [] b)
 (λc=>e [nth a 0] b)
 (λj i=>BK (Zf f a i)
 (Zg a g))
def aB:=λa (R:VK) c (d:za)=>
 zq zz (fn 22) [nth c 0] d (λe f=>opt (ye 66 a e f) λb=>opt (zd zz 66 a b) λg=>rv [g,.bool true] b R)
def ZX:=λc a (R:VK) d e f g (b:za)=>
 opt (pk c (.bool true) g) λh=>CD h (YH a b R)
 (λi=>i [.bool false] b)
 (λl j=>BK (λk=>LP (YI d k e)
 [f,pm 0] j)
 (aB a R))
def Zd:=λa c (R:VK) d e f g (b:za)=>
 ze a false (zh .gtr 2 77 g 63) b (ZX a c R d e f) b
def ZY:=λc d (e:za) a (R:VK) (j:LK)=>
 opt (yi .geq 2 130 131 c d) λf=>zq zz (fn 82) [f] e (λg h=>opt (ye 66 a g h) λb=>opt (zd zz 66 a b) λi=>rv [i,.bool true] b R)
def aA:=λc d (e:za) a (R:VK) (j:LK)=>
 opt (yi .gtr 2 124 125 c d) λf=>zq zz (fn 82) [f] e (λg h=>opt (ye 66 a g h) λb=>opt (zd zz 66 a b) λi=>rv [i,.bool true] b R)
def U9:=λb c d (a:za) e (R:VK) (f:LK)=>
 opt (zh .eql 3 19 b 26) λg=>CD g (ZY c d a e R)
 (λh=>h [.bool false] a)
 (λi j=>f [nth i 0] j)
def Qa:=λc d (e:za) a (R:VK) (j:LK)=>
 opt (yi .leq 2 118 119 c d) λf=>zq zz (fn 82) [f] e (λg h=>opt (ye 66 a g h) λb=>opt (zd zz 66 a b) λi=>rv [i,.bool true] b R)
def Vh:=λa b c (d:za) e (R:VK) (f:LK)=>
 opt (zh .eql 3 19 a 25) λg=>CD g (aA b c d e R)
 (U9 a b c d e R)
 (λh i=>f [nth h 0] i)
def Vi:=λc d (e:za) a (R:VK) (j:LK)=>
 opt (yi .lss 2 112 113 c d) λf=>zq zz (fn 82) [f] e (λg h=>opt (ye 66 a g h) λb=>opt (zd zz 66 a b) λi=>rv [i,.bool true] b R)
def Wh:=λa b c (d:za) e (R:VK) (f:LK)=>
 opt (zh .eql 3 19 a 24) λg=>CD g (Qa b c d e R)
 (Vh a b c d e R)
 (λh i=>f [nth h 0] i)
def Wi:=λc d (e:za) a (R:VK) (j:LK)=>
 opt (yi .neq 2 106 107 c d) λf=>zq zz (fn 82) [f] e (λg h=>opt (ye 66 a g h) λb=>opt (zd zz 66 a b) λi=>rv [i,.bool true] b R)
def Y5:=λa b c (d:za) e (R:VK) (f:LK)=>
 opt (zh .eql 3 19 a 23) λg=>CD g (Vi b c d e R)
 (Wh a b c d e R)
 (λh i=>f [nth h 0] i)
def Y6:=λc d (e:za) a (R:VK) (j:LK)=>
 opt (yi .eql 2 100 101 c d) λf=>zq zz (fn 82) [f] e (λg h=>opt (ye 66 a g h) λb=>opt (zd zz 66 a b) λi=>rv [i,.bool true] b R)
def ZZ:=λa b c (d:za) e (R:VK) (f:LK)=>
 opt (zh .eql 3 19 a 22) λg=>CD g (Wi b c d e R)
 (Y5 a b c d e R)
 (λh i=>f [nth h 0] i)
def qc:=λa (b:za) d (R:VK) e f (h:LK)=>
 opt (zh .lss 2 74 a 0) λc=>GD c false (λg=>g a b) (Zd c d R a e f) b
def uO:=λa b c (d:za) e (R:VK) (f:LK)=>
 opt (zh .eql 3 19 a 21) λg=>CD g (Y6 b c d e R)
 (ZZ a b c d e R)
 (λh i=>f [nth h 0] i)
def Ze:=λa b (e:za) c (R:VK) (l:LK)=>
 opt (yi .or 2 63 64 a b) λf=>opt (yi .and 2 66 67 a b) λg=>opt (yi .sub 2 65 68 f g) λh=>zq zz (fn 22) [h] e (λi j=>opt (ye 66 c i j) λd=>opt (zd zz 66 c d) λk=>rv [k,.bool true] d R)
def uu:=λa (c:za) d e (R:VK) f (i:LK)=>
 opt (zh .eql 3 19 a 19) λg=>CD g (λb=>b [g] c)
 (λb=>opt (zh .eql 3 19 a 20) λj=>b [j] c)
 (λk h=>CD (nth k 0) (qc d h e R a f)
 (uO a f d h e R)
 (λl m=>i [nth l 0] m))
def uv:=λc d (e:za) a (R:VK) (j:LK)=>
 opt (yi .or 2 57 58 c d) λf=>zq zz (fn 22) [f] e (λg h=>opt (ye 66 a g h) λb=>opt (zd zz 66 a b) λi=>rv [i,.bool true] b R)
def vU:=λa b c (d:za) e (R:VK) (f:LK)=>
 opt (zh .eql 3 19 a 18) λg=>CD g (Ze b c d e R)
 (uu a d c e R b)
 (λh i=>f [nth h 0] i)
def vV:=λc d (e:za) a (R:VK) (j:LK)=>
 opt (yi .and 2 51 52 c d) λf=>zq zz (fn 22) [f] e (λg h=>opt (ye 66 a g h) λb=>opt (zd zz 66 a b) λi=>rv [i,.bool true] b R)
def vy:=λa b c (d:za) e (R:VK) (f:LK)=>
 opt (zh .eql 3 19 a 17) λg=>CD g (uv b c d e R)
 (vU a b c d e R)
 (λh i=>f [nth h 0] i)
def yV:=λa b c (d:za) e (R:VK) (f:LK)=>
 opt (zh .eql 3 19 a 16) λg=>CD g (vV b c d e R)
 (vy a b c d e R)
 (λh i=>f [nth h 0] i)
def y8:=λd a (R:VK) c e f g h (i:LK) j (b:za)=>
 CD (nth j 0) (λo=>opt (Z7 zz .not d) λk=>CD k (WG a b R)
 (λl=>l [.bool false] b)
 (QD c e f a R))
 (yV c g h b a R)
 (λm n=>i [nth m 0] n)
def wY:=λc d (e:za) a (R:VK) (j:LK)=>
 opt (yi .mul 2 34 35 c d) λf=>zq zz (fn 22) [f] e (λg h=>opt (ye 66 a g h) λb=>opt (zd zz 66 a b) λi=>rv [i,.bool true] b R)
def x9:=λa (c:za) e f (R:VK) g h i j (k:LK)=>
 opt (zh .eql 3 19 a 14) λd=>CD d (λb=>b [d] c)
 (λb=>opt (zh .eql 3 19 a 15) λl=>b [l] c)
 (y8 e f R a g h i j k)
def xH:=λc d (e:za) a (R:VK) (j:LK)=>
 opt (yi .sub 2 28 29 c d) λf=>zq zz (fn 22) [f] e (λg h=>opt (ye 66 a g h) λb=>opt (zd zz 66 a b) λi=>rv [i,.bool true] b R)
def xW:=λa b c (d:za) e (R:VK) f g h (i:LK)=>
 opt (zh .eql 3 19 a 13) λj=>CD j (wY b c d e R)
 (x9 a d f e R g h b c)
 (λk l=>i [nth k 0] l)
def xE:=λc d (e:za) a (R:VK) (j:LK)=>
 opt (yi .add 2 22 23 c d) λf=>zq zz (fn 22) [f] e (λg h=>opt (ye 66 a g h) λb=>opt (zd zz 66 a b) λi=>rv [i,.bool true] b R)
def xP:=λa b c (d:za) e (R:VK) f g h (i:LK)=>
 opt (zh .eql 3 19 a 12) λj=>CD j (xH b c d e R)
 (xW a b c d e R f g h)
 (λk l=>i [nth k 0] l)
def ya:=λa b c (d:za) e (R:VK) f g h (i:LK)=>
 opt (zh .eql 3 19 a 11) λj=>CD j (xE b c d e R)
 (xP a b c d e R f g h)
 (λk l=>i [nth k 0] l)
def yc:=λa (R:VK) (f:List aaa) (c:za)=>
 opt (nb [] (zY zz 66 [])) λd=>opt (ye 66 a d c) λb=>opt (zd zz 66 a b) λe=>rv [e,.bool false] b R
def Cv:=λ(h:za) e b c (R:VK)=>
 uH 66 h λd f=>zq zz (fn 99) [b,c] f (λa g=>opt (Yk a 0) λi=>opt (Yk a 1) λj=>opt (Yk a 2) λk=>BK (ya e b c g d R k j i)
 (yc d R))
theorem sM(hw:Cv h t0 t1 t2 R):DC zz 81 [t0,t1,t2] h R:=zU (by kernel_rfl) hw
def YY:=λa (c:za) (R:VK) (f:LK)=>
 opt (nb [] (zY zz 66 [])) λd=>opt (ye 66 a d c) λb=>opt (zd zz 66 a b) λe=>rv [e,.bool false] b R
def qF:=λa (R:VK) b (d:za)=>
 opt (Yk b 0) λe=>opt (Yk b 1) λf=>opt (ye 66 a e d) λc=>opt (zd zz 66 a c) λg=>rv [g,f] c R
def xB:=λb (a:za) c d e (R:VK) (h:LK)=>
 zn 66 b 1 2 a λf=>zn 66 c 1 2 a λg=>zq zz (fn 81) [d,f,g] a (qF e R)
def xC:=λb (a:za) e c (R:VK) (m:LK)=>
 zn 66 b 2 3 a λf=>zn 66 b 1 2 a λg=>zn 66 e 1 2 a λh=>opt (yi .add 2 53 55 g h) λi=>zq zz (fn 50) [f,i] a (λj k=>opt (ye 66 c j k) λd=>opt (zd zz 66 c d) λl=>rv [l,.bool true] d R)
def oz:=λb (a:za) e c (R:VK) (m:LK)=>
 zn 66 b 2 3 a λf=>zn 66 e 1 2 a λg=>zn 66 b 1 2 a λh=>opt (yi .add 2 68 70 g h) λi=>zq zz (fn 50) [f,i] a (λj k=>opt (ye 66 c j k) λd=>opt (zd zz 66 c d) λl=>rv [l,.bool true] d R)
def xD:=λb (a:za) e c (R:VK) (m:LK)=>
 zn 66 b 2 3 a λf=>zn 66 b 1 2 a λg=>zn 66 e 1 2 a λh=>opt (yi .sub 2 83 85 g h) λi=>zq zz (fn 50) [f,i] a (λj k=>opt (ye 66 c j k) λd=>opt (zd zz 66 c d) λl=>rv [l,.bool true] d R)
def yX:=λa (c:za) (R:VK) (f:LK)=>
 opt (nb [] (zY zz 66 [])) λd=>opt (ye 66 a d c) λb=>opt (zd zz 66 a b) λe=>rv [e,.bool false] b R
def xi:=λd (a:za) e f b (R:VK) (o:LK)=>
 opt (zd zz 66 d a) λg=>opt (zd zz 66 e a) λh=>opt (yi .eql 66 103 104 g h) λi=>opt (zh .eql 3 106 f 21) λj=>opt (yi .eql 4 105 107 i j) λk=>zq zz (fn 82) [k] a (λl m=>opt (ye 66 b l m) λc=>opt (zd zz 66 b c) λn=>rv [n,.bool true] c R)
def Kd:=λa (c:za) (R:VK) (f:LK)=>
 opt (nb [] (zY zz 66 [])) λd=>opt (ye 66 a d c) λb=>opt (zd zz 66 a b) λe=>rv [e,.bool false] b R
def yF:=λc a (R:VK) (i:List aaa) (d:za)=>
 opt (zh .eql 3 129 c 22) λe=>zq zz (fn 82) [e] d (λf g=>opt (ye 66 a f g) λb=>opt (zd zz 66 a b) λh=>rv [h,.bool true] b R)
def yx:=λa e b (R:VK) f g h (c:za)=>
 ze a false (pk e h (.bool false)) c (λi d=>opt (pk a (.bool true) i) λj=>CD j (Kd b d R)
 (λk=>k [nth f 0] d)
 (yF g b R)) c
def yy:=λa c d (R:VK) e f g (b:za)=>
 ze a true (zh .neq 2 124 g 0) b (yx c a d R e f) b
def ZM:=λd e f (R:VK) g h a (c:za)=>
 ze a true (zg zz 66 d 1) c (λi b=>ze a true (zd zz 2 i b) b (yy a e f R g h) b) c
def yA:=λa d e (R:VK) f g h (b:za)=>
 ze a false (zh .eql 3 120 h 1) b (λi c=>GD a false (λj=>j i c) (ZM d a e R f g) c) b
def yu:=λe c f (R:VK) g h i (d:za)=>
 opt (pk e i (.bool false)) λa=>ze a false (zg zz 66 c 0) d (λj b=>ze a false (zd zz 3 j b) b (yA a c f R g h) b) d
def yw:=λa c d (R:VK) e f g (b:za)=>
 ze a true (zh .neq 2 115 g 0) b (yu a c d R e f) b
def qZ:=λd e f (R:VK) g h (a:za)=>
 zn 66 d 0 3 a λi=>opt (zh .eql 3 111 i 1) λb=>ze b true (zg zz 66 d 1) a (λj c=>ze b true (zd zz 2 j c) c (yw b e f R h g) c) a
def ym:=λa b c d e (R:VK) h i (f:za)=>
 ze a true (zh .eql 3 100 i 2) f (λj g=>opt (pk a j (.bool false)) λk=>CD k (xi b g c d e R)
 (λl=>l [nth h 0] g)
 (qZ b c e R d)) f
def yd:=λd e f g (R:VK) h (a:za)=>
 zn 66 d 0 3 a λi=>opt (zh .eql 3 96 i 2) λb=>ze b true (zg zz 66 e 0) a (λj c=>ze b true (zd zz 3 j c) c (ym b d e f g R h) c) a
def um:=λa b (R:VK) e f g h i (c:za)=>
 ze a true (zh .neq 3 91 i 22) c (λj d=>opt (pk a j (.bool false)) λk=>CD k (yX b d R)
 (λl=>l [nth e 0] d)
 (yd f g h b R)) c
def yT:=λa d (R:VK) e f g (b:za)=>
 opt (zh .neq 3 88 a 21) λc=>GD c true (λh=>h a b) (um c d R g e f a) b
def uX:=λa b c d (R:VK) g h i (e:za)=>
 ze a true (zh .eql 3 77 i 1) e (λj f=>opt (pk a j (.bool false)) λk=>CD k (xD b f c d R)
 (λl=>l [nth g 0] f)
 (yT h d R b c)) e
def uY:=λc d f g (R:VK) h (e:za)=>
 opt (zh .eql 3 73 c 12) λa=>ze a true (zg zz 66 d 0) e (λi b=>ze a true (zd zz 3 i b) b (uX a f d g R h c) b) e
def uD:=λa b c d (R:VK) g h i (e:za)=>
 ze a true (zh .eql 3 62 i 1) e (λj f=>opt (pk a j (.bool false)) λk=>CD k (oz b f c d R)
 (λl=>l [nth g 0] f)
 (uY h b c d R)) e
def uE:=λc d f g (R:VK) h (e:za)=>
 opt (zh .eql 3 58 c 11) λa=>ze a true (zg zz 66 d 0) e (λi b=>ze a true (zd zz 3 i b) b (uD a f d g R h c) b) e
def uo:=λa b c d (R:VK) g h i (e:za)=>
 ze a true (zh .eql 3 47 i 1) e (λj f=>opt (pk a j (.bool false)) λk=>CD k (xC b f c d R)
 (λl=>l [nth g 0] f)
 (uE h b c d R)) e
def uq:=λc d f g (R:VK) h (e:za)=>
 opt (zh .eql 3 43 c 11) λa=>ze a true (zg zz 66 d 0) e (λi b=>ze a true (zd zz 3 i b) b (uo a f d g R h c) b) e
def vY:=λa b c d e (R:VK) h i (f:za)=>
 ze a true (zh .eql 3 32 i 1) f (λj g=>opt (pk a j (.bool false)) λk=>CD k (xB b g c d e R)
 (λl=>l [nth h 0] g)
 (uq d c b e R)) f
def vZ:=λd e f g (R:VK) h (a:za)=>
 zn 66 d 0 3 a λi=>opt (zh .eql 3 28 i 1) λb=>ze b true (zg zz 66 e 0) a (λj c=>ze b true (zd zz 3 j c) c (vY b d e f g R h) c) a
def wE:=λa b (R:VK) e f g h (c:za)=>
 ze a false (zh .eql 3 23 h 0) c (λi d=>opt (pk a (.bool true) i) λj=>CD j (YY b d R)
 (λk=>k [.bool false] d)
 (vZ e f g b R)) c
def wF:=λe c f (R:VK) g h i (d:za)=>
 opt (pk e (.bool true) i) λa=>ze a false (zg zz 66 c 0) d (λj b=>ze a false (zd zz 3 j b) b (wE a f R g c h) b) d
def wI:=λa c d (R:VK) e f g (b:za)=>
 ze a false (zh .eql 3 18 g 0) b (wF a c d R e f) b
def wJ:=λe c f g (R:VK) h i (d:za)=>
 opt (pk e (.bool true) i) λa=>ze a false (zg zz 66 c 0) d (λj b=>ze a false (zd zz 3 j b) b (wI a f g R c h) b) d
def BA:=λa e f g (R:VK) h i (c:za)=>
 GD a false (λj=>zq zz (fn 79) [i] c (λb k=>j b k)) (λb d=>ze a false (Z7 zz .not b) d (wJ a e f g R h) d) c
def IC:=λ(h:za) i b c (R:VK)=>
 opt (nb [b] (some (Value.cells b).toList)) λj=>nw h j 66 λd k=>opt (nb [c] (some (Value.cells c).toList)) λl=>nw k l 66 λe m=>uH 66 m λn f=>opt (zd zz 66 d f) λo=>zq zz (fn 79) [o] f (λp a=>opt (Z7 zz .not p) λg=>ze g false (zd zz 66 e a) a (BA g d e n R i) a)
theorem BB(hw:IC h t0 t1 t2 R):DC zz 48 [t0,t1,t2] h R:=zU (by kernel_rfl) hw
end Go.Dm
namespace Go.Ai
open Go.Ai Go.Proofs
theorem CV:AU 54:=xZ (by kernel_rfl)
theorem WX:AU 55:=xZ (by kernel_rfl)
theorem mz:AU 59:=xZ (by kernel_rfl)
theorem zfz:FcN 97 5:=Y9 (by kernel_rfl) (by kernel_rfl)
theorem zhT:FcA 55 95 2 32:=λr v x n w h h1 h2 h3 h4=>Zo (e:=95) (e2:=95) (by kernel_rfl) (by kernel_rfl) (by kernel_rfl) (by kernel_rfl) (by decide) h1 h2 h3 h4
theorem zhU:FcA 59 97 5 56:=λr v x n w h h1 h2 h3 h4=>Zo (e:=97) (e2:=97) (by kernel_rfl) (by kernel_rfl) (by kernel_rfl) (by kernel_rfl) (by decide) h1 h2 h3 h4
theorem zh0:FcS 55:=λb o _ _ _ h=>vH (by kernel_rfl) b o _ h rfl
theorem zca:FcS 59:=λb o _ _ _ h=>vH (by kernel_rfl) b o _ h rfl
theorem zfE:FcM 97 5:=YN (by kernel_rfl)
theorem zfF:Yd pu 97=some (.agg #[(pm 0),(pm 0),(pp),(pm 0),(pm 0)]):=zJ (by kernel_rfl)
theorem zgn:zY pu 58 []=some (.agg #[(pp),(pp)]):=zJ (by kernel_rfl)
theorem EG(v00:Option Addr)(v00l v00c:Nat)(v01:Option Addr)(v01l v01c:Nat)(v02:Int)(v1:Option Addr)(v3:Option Addr)(v3l v3c:Nat)(v6:Bool):zY pu 61 [(0,(.agg #[(.slice v00 v00l v00c),(.slice v01 v01l v01c),(pm v02)])),(1,(.pointer v1)),(3,(.slice v3 v3l v3c)),(6,(.bool v6))]=some (.agg #[(.slice v00 v00l v00c),(.slice v01 v01l v01c),(pm v02),(.pointer v1),(pm 0),(pm 0),(pp),(pp),(pm 0),(.slice v3 v3l v3c),(pm 0),(pp),(.bool v6),(pp)]):=zJ (by kernel_rfl)
theorem Mk(v0:Int)(v2:Int)(v1:Int):zY pu 66 [(0,(pm v0)),(2,(pm v2)),(1,(pm v1))]=some (.agg #[(pm v0),(pm v1),(pm v2)]):=zJ (by kernel_rfl)
theorem zeq(v0:Option Addr)(v0l v0c:Nat):zY pu 95 [(0,(.slice v0 v0l v0c))]=some (.agg #[(.slice v0 v0l v0c),(.bool false)]):=zJ (by kernel_rfl)
theorem AX(v0:Int)(v1:Int)(v2:Option Addr)(v2l v2c:Nat)(v3:Int)(v4:Int):zY pu 97 [(0,(pm v0)),(1,(pm v1)),(2,(.slice v2 v2l v2c)),(3,(pm v3)),(4,(pm v4))]=some (.agg #[(pm v0),(pm v1),(.slice v2 v2l v2c),(pm v3),(pm v4)]):=zJ (by kernel_rfl)
theorem zaa(v00:Option Addr)(v00l v00c:Nat)(v01:Bool)(h:za):zH pu 55 1 [(0,(.agg #[(.slice v00 v00l v00c),(.bool v01)]))] h=some (.slice (some ⟨h.next,0,none⟩) 1 3,h.push (.cells [(.slice v00 v00l v00c),(.bool v01)] 95)):=zJ (by kernel_rfl)
theorem zab(v00:Int)(v01:Int)(v02:Option Addr)(v02l v02c:Nat)(v03:Int)(v04:Int)(h:za):zH pu 59 1 [(0,(.agg #[(pm v00),(pm v01),(.slice v02 v02l v02c),(pm v03),(pm v04)]))] h=some (.slice (some ⟨h.next,0,none⟩) 1 3,h.push (.cells [(pm v00),(pm v01),(.slice v02 v02l v02c),(pm v03),(pm v04)] 97)):=zJ (by kernel_rfl)
theorem pO(n:Int)(h:za):ud pu 2 156 (pm n) h=some (.int .u64 (IntKind.wrap .u64 n),h):=zJ (by kernel_rfl)
theorem QQ(n:Int)(h:za):ud pu 3 144 (pm n) h=some (.int .u64 (IntKind.wrap .u64 n),h):=zJ (by kernel_rfl)
theorem pP(n:Int)(h:za):ud pu 3 156 (pm n) h=some (.int .u64 (IntKind.wrap .u64 n),h):=zJ (by kernel_rfl)
theorem kS:NP 58 0:=λb o=>zJ (by kernel_rfl)
theorem HF:UN 58 1 1:=λb o=>zJ (by kernel_rfl)
theorem Ss:NP 61 0:=λb o=>zJ (by kernel_rfl)
theorem dX:UN 61 1 3:=λb o=>zJ (by kernel_rfl)
theorem Xc:UN 61 2 4:=λb o=>zJ (by kernel_rfl)
theorem Su:UN 61 3 9:=λb o=>zJ (by kernel_rfl)
theorem HG:UN 61 4 10:=λb o=>zJ (by kernel_rfl)
theorem VU:UN 61 5 11:=λb o=>zJ (by kernel_rfl)
theorem HH:UN 61 6 12:=λb o=>zJ (by kernel_rfl)
theorem Sv:UN 61 7 13:=λb o=>zJ (by kernel_rfl)
theorem UW:NP 95 0:=λb o=>zJ (by kernel_rfl)
theorem Bh:UN 95 1 1:=λb o=>zJ (by kernel_rfl)
theorem zeF:NP 97 0:=λb o=>zJ (by kernel_rfl)
theorem pW:UN 97 1 1:=λb o=>zJ (by kernel_rfl)
theorem Ye:UN 97 2 2:=λb o=>zJ (by kernel_rfl)
theorem HJ:UN 97 3 3:=λb o=>zJ (by kernel_rfl)
theorem Sy:UN 97 4 4:=λb o=>zJ (by kernel_rfl)
theorem bG:PM 55 2:=λb o l c k i=>wU (e:=95) (by kernel_rfl) (by kernel_rfl)
theorem SI:PM 59 5:=λb o l c k i=>wU (e:=97) (by kernel_rfl) (by kernel_rfl)
theorem zda:FcE 55:=λr a n c h=>zJ (by kernel_rfl)
theorem zdb:FcE 59:=λr a n c h=>zJ (by kernel_rfl)
theorem zij(k k2:IntKind)(l c:Int)(h:za)(h0:0<=l)(h1:l<=c)(h2:c<2^31):Wo pu 22 (.int k l) (.int k2 c) h=some (.slice (some ⟨h.next,0,none⟩) l.toNat (c.toNat+2),h.push (.cells (qX [(pm 0)] (c.toNat*1)) 3)):=pD (e:=3) (z:=(pm 0)) (n:=1) (bytes:=8) (by kernel_rfl) (by kernel_rfl) (by kernel_rfl) rfl (by decide) (by decide) rfl h0 h1 h2
theorem zik(k k2:IntKind)(l c:Int)(h:za)(h0:0<=l)(h1:l<=c)(h2:c<2^31):Wo pu 56 (.int k l) (.int k2 c) h=some (.slice (some ⟨h.next,0,none⟩) l.toNat (c.toNat+2),h.push (.cells (qX [(pm 0),(pm 0),(pm 0)] (c.toNat*3)) 66)):=pD (e:=66) (z:=(.agg #[(pm 0),(pm 0),(pm 0)])) (n:=3) (bytes:=24) (by kernel_rfl) (by kernel_rfl) (by kernel_rfl) rfl (by decide) (by decide) rfl h0 h1 h2
theorem SX(x y:Operand)(a b:Bool):zX pu .neq 4 x y (.bool a) (.bool b)=some (.bool (!(a == b))):=zJ (by kernel_rfl)
theorem ziB(b off len c:Nat)(lo hi:Option aaa)(h:za):Iu pu 22 (.slice (some ⟨b,off,none⟩) len c) lo hi h=(uV hi len len).bind λhh=>(uV lo 0 hh).bind λl=>some (.slice (some ⟨b,off+l*1,none⟩) (hh-l) (cond (wide pu h b 1) (dQ c l) 0)):=th (e:=3) (by kernel_rfl) (by kernel_rfl)
theorem ziC(b off len c:Nat)(lo hi:Option aaa)(h:za):Iu pu 59 (.slice (some ⟨b,off,none⟩) len c) lo hi h=(uV hi len len).bind λhh=>(uV lo 0 hh).bind λl=>some (.slice (some ⟨b,off+l*5,none⟩) (hh-l) (cond (wide pu h b 5) (dQ c l) 0)):=th (e:=97) (by kernel_rfl) (by kernel_rfl)
end Go.Ai
