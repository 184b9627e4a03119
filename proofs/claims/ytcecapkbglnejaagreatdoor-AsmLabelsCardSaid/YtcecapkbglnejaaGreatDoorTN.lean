/- A part of the proof. -/
import Derived.Test.YtcecapkbglnejaaGreatDoorTM
import Derived.Test.YtcecapkbglnejaaGreatDoorTI
import Derived.Test.YtcecapkbglnejaaGreatDoorTK
set_option linter.unusedVariables false
set_option linter.unusedSimpArgs false
set_option maxRecDepth 100000
namespace Go.Rm
open Go.Ai Go.Proofs Go.Mem
open Go.Rtl (zD zT Old wu uJ VR inc)
section
variable {lo:yQ}{h:za}{L:List HP}{wv:Value}{world:List Int}
theorem Mu(hw:zD h wv world)(hl:world.length*8<=2^47)(s:Sat lo h L):DC Tryz.prog 81 [wv] h (λv h'=>yo v=false/\wi v=true/\Sat lo h' (kg 2 1 v (world.map w9)::L)):=by
 apply pO;unfold mZ;have SR:=LN hw;rcases hw with⟨rfl,rfl⟩|⟨b,off,cp,rfl,hc⟩
 ·simp only[EE,Mz];exact Xi _ _ s
 ·simp only[EE,Iy,OL];have s1:=s.push (.cells [] 2);have s2:Sat lo (h.push (.cells [] 2)) (kg 2 1 (.slice (some ⟨h.next,0,none⟩) 0 2) []::L):=Wj (rows:=[]) (c:=2) (by decide) (by simp) (by simp) s1
  have hap:∀r,zk Tryz.prog .append [26,26] r [.slice (some ⟨h.next,0,none⟩) 0 2,.slice (some ⟨b,off,none⟩) world.length cp] (h.push (.cells [] 2))=Yq (h.push (.cells [] 2)) 2 1 8 world.length (world.map w9).flatten (.slice (some ⟨h.next,0,none⟩) 0 2):=λr=>by
   have f:=(SR.old (Old.push h (.cells [] 2))).first (by decide) (qL (f:=w9) (λ_=>rfl) world);rw[aaD]at f;exact P1 r _ _ world.length _ _ rfl f (by simp[w9,List.all_flatten];exact λ_ _=>rfl) (by rw[Go.Rtl.wu (qL (f:=w9) (λ_=>rfl) world),aaD])
  by_cases h0:world=[]
  ·subst h0;have:Yq (h.push (.cells [] 2)) 2 1 8 ([]:List Int).length (([]:List Int).map w9).flatten (.slice (some ⟨h.next,0,none⟩) 0 2)=some (.slice (some ⟨h.next,0,none⟩) 0 2,h.push (.cells [] 2)):=rfl;simp only[EE]
   first|exact s2|exact⟨rfl,rfl,s2⟩|exact⟨rfl,rfl,rfl,s2⟩
  ·obtain⟨b',c',h3,a1,s3⟩:=LL s2 (by simp) (world.map w9) (qL (f:=w9) (λ_=>rfl) world) 8 (by simp;omega) (by simpa using h0);rw[aaD]at a1 s3;simp only[EE,hap,a1];rw[aaz,aau,ack]at s3
   first|exact s3|exact⟨rfl,rfl,s3⟩
theorem Pw(hw:zD h wv world)(hl:world.length*8<=2^47)(s:Sat lo h L):DC Tryz.prog 61 [wv] h (λv h'=>∃wb wn,v=xN wb/\Sat lo h' (pt wb (.cells [wn,.int .i64 0] 151)::kg 2 1 wn (world.map w9)::L)):=by
 apply FQ;unfold HN;refine yb (by kernel_rfl) (by simp only[yP,hw.Y0,aaK]) (Mu hw hl s) ?_;rintro v h1 ⟨n1,c1,s1⟩;obtain⟨a,c,rfl⟩:=eF s1;rw[aaD]at s1;simp only[EE,Value.cells,Is];refine vp s1 λwb h2 s2=>?_;simp only[EE];exact⟨wb,_,rfl,s2⟩
end
end Go.Rm
namespace Go.As
open Go.Ai Go.Proofs Go.Mem Go.Rm
open Go.Rtl (zD zT Old)
structure wZ where
 op:Int
 r:Int
 m:Int
 sub:Int
 cc:Int
 l:Int
 k:Int
structure Fn where
 nm:ByteArray
 cv:Value
 code:List wZ
structure Pg where
 gv:Value
 globals:List Int
 fv:Value
 funcs:List Fn
 main:Int
 params:Int
abbrev wZ.row(x:wZ):List Value:=[.int .i64 x.op,.int .i64 x.r,.int .i64 x.m,.int .i64 x.sub,.int .i64 x.cc,.int .i64 x.l,.int .i64 x.k]
abbrev wZ.val(x:wZ):Value := .agg #[.int .i64 x.op,.int .i64 x.r,.int .i64 x.m,.int .i64 x.sub,.int .i64 x.cc,.int .i64 x.l,.int .i64 x.k]
abbrev Fn.row(f:Fn):List Value:=[.string f.nm,f.cv]
abbrev Fn.val(f:Fn):Value := .agg #[.string f.nm,f.cv]
abbrev Pg.row(p:Pg):List Value:=[p.gv,p.fv,.int .i64 p.main,.int .i64 p.params]
abbrev Pg.val(p:Pg):Value := .agg #[p.gv,p.fv,.int .i64 p.main,.int .i64 p.params]
structure UF (h:za) (f:Fn):Prop where
 code:zT h f.cv 7 (f.code.map wZ.row)
 mQ:f.code.length*56<=140737488351232
structure qW (h:za) (p:Pg):Prop where
 globals:zD h p.gv p.globals
 Gu:p.globals.length<=17592186043904
 funcs:zT h p.fv 2 (p.funcs.map Fn.row)
 IT:p.funcs.length*24<=140737488351232
 fns:∀f,f∈p.funcs->UF h f
section
variable {h h':za}{f:Fn}{p:Pg}
theorem UF.old(S:UF h f)(e:Old h h'):UF h' f:=⟨S.code.old e,S.mQ⟩
theorem UF.lock(S:UF h f):UF h.lock f:=⟨S.code.lock,S.mQ⟩
theorem qW.old(S:qW h p)(e:Old h h'):qW h' p:=⟨S.globals.old e,S.Gu,S.funcs.old e,S.IT,λf hf=>(S.fns f hf).old e⟩
theorem qW.lock(S:qW h p):qW h.lock p:=⟨S.globals.lock,S.Gu,S.funcs.lock,S.IT,λf hf=>(S.fns f hf).lock⟩
end
structure Fr where
 f:Nat
 pt:Int
 YR:Int
 size:Int
 l6:V
structure St where
 mem:MM
 used:Int
 kind:Int
 exit:Int
 ev:List (Int×Int)
 lk:List (Int×Int×Int)
 steps:Int
 gl:List Int
 calls:List Fr
 Xm:List V
 flags:Bool
 a:V
 b:V
 stack:Int
 sw:Int
def ql(S:St)(k a b:Int):St:={S with lk:=S.lk++[(k,a,b)]}
def jt(S:St)(k v:Int):St:={S with ev:=S.ev++[(k,v)]}
def Za(S:St)(c:Fr):St:={S with calls:=S.calls.dropLast++[c]}
def vQ(S:St)(r:Int)(v:V):St:={S with Xm:=S.Xm.set r.toNat v}
def zB(S:St)(r:Int):V:=Dm S.Xm r
def w4(lim:Int)(S:St)(n:Int):St×Bool:=if lim-S.stack<n then ({S with kind:=4},false) else ({S with stack:=S.stack+n,sw:=max S.sw (S.stack+n)},true)
def vB(lim:Int)(S:St)(f:Nat):St:=if (w4 lim S 8).2=true then { (w4 lim S 8).1 with calls:=(w4 lim S 8).1.calls++[⟨f,0,0,0,v0⟩]} else (w4 lim S 8).1
def vL(S:St)(to:Int)(o:Option V):St×Bool:=(vQ S to (o.getD v0),o.isSome)
def Ws:List wZ->Int->Int->Int->Int
 |[],_,_,z=>z
 |x::xs,l,n,z=>Ws xs l (n+1) (if x.op=20/\x.l=l then n else z)
def jv(p:Pg)(f:Nat)(l:Int):Int:=match p.funcs[f]? with
 |none=>0
 |some g=>Ws g.code l 0 0
def Uz(v:V):V:=qN (v.n.fdiv (2^63))
def yW(S:St)(i:wZ):St×Bool:=match yw 11 (zB S i.m) (qN i.k) with
 |none=>(S,false)
 |some q=>if q.k=2 then (if i.op=4 then (match Vx S.mem i.sub q (zB S i.r) with
   |none=>(ql S 2 q.b q.n,false)
   |some M=>({ql S 2 q.b q.n with mem:=M},true)) else vL (ql S 2 q.b q.n) i.r (Q5 S.mem i.sub q)) else (S,false)
def Yj(S:St)(m:V):St×Bool :=
 if (zB S 0).k=1/\m.k=1 then
  (if zB S 2=Uz (zB S 0) then
   (if (vL (ql S 3 (zB S 0).n m.n) 0 (yw 14 (zB S 0) m)).2=true then vL (vL (ql S 3 (zB S 0).n m.n) 0 (yw 14 (zB S 0) m)).1 2 (yw 15 (zB S 0) m)
    else vL (ql S 3 (zB S 0).n m.n) 0 (yw 14 (zB S 0) m))
   else (ql S 3 (zB S 0).n m.n,false))
 else (S,false)
def Yv(S:St)(c:Fr):St×Bool :=
 if c.YR≠0 then (S,false)
 else if S.calls.dropLast≠[] then ({S with flags:=false,stack:=S.stack-8,calls:=S.calls.dropLast},true)
 else if (zB S 0).k=1 then ({S with flags:=false,stack:=S.stack-8,calls:=[],kind:=1,exit:=(zB S 0).n},true)
 else ({S with flags:=false,stack:=S.stack-8,calls:=[]},false)
def w8(lim:Int)(S:St)(c:Fr)(i:wZ):St×Bool :=
 if i.op=24 then (if c.YR=0\/c.size≠i.k then (S,false) else
  (Za (vQ {S with mem:=(Ux S.mem c.YR).getD S.mem,stack:=S.stack-c.size} 4 c.l6) {c with YR:=0},true))
 else if c.YR≠0 then (S,false)
 else if (w4 lim S i.k).2=true then
  (Za (vQ { (w4 lim S i.k).1 with mem:=(w7 S.mem i.k).1} 4 (oK (w7 S.mem i.k).2.1 0)) {c with YR:=(w7 S.mem i.k).2.1,size:=i.k,l6:=zB S 4},decide ((w7 S.mem i.k).2.2=0))
 else ((w4 lim S i.k).1,true)
def VA(p:Pg)(S:St)(c:Fr)(i:wZ):St×Bool:=match yw i.cc S.a S.b with
 |none=>(S,false)
 |some v=>if S.flags=true then ((if v.n=0 then ql S 1 v.n 0 else Za (ql S 1 v.n 0) {c with pt:=jv p c.f i.l}),true) else (S,false)
def zl(p:Pg)(lim:Int)(world:List Int)(S:St)(c:Fr)(i:wZ):St×Bool :=
 if i.op=1 then (vQ S i.r (zB S i.m),true)
 else if i.op=2 then (vQ S i.r (qN i.k),true)
 else if i.op=3\/i.op=4 then yW S i
 else if i.op=5 then vL S i.r (yw 11 (zB S i.m) (qN i.k))
 else if i.op=6 then (vQ S i.r (oK (S.gl.getD i.sub.toNat 0) i.k),true)
 else if i.op=7 then vL S i.r (yw i.sub (zB S i.r) (zB S i.m))
 else if i.op=8\/i.op=11 then vL S i.r (yw i.sub (zB S i.r) (qN i.k))
 else if i.op=9 then vL S i.r (fA i.sub (zB S i.r))
 else if i.op=10 then vL S i.r (fA i.sub (zB S i.m))
 else if i.op=12 then (if (zB S 1).k=1 then vL S i.r (yw i.sub (zB S i.r) (qN (Wx (· &&& ·) (zB S 1).n 63))) else (S,false))
 else if i.op=13 then (vQ S 2 (Uz (zB S 0)),decide ((zB S 0).k=1))
 else if i.op=14 then Yj S (zB S i.m)
 else if i.op=15 then ({S with flags:=true,a:=zB S i.r,b:=zB S i.m},true)
 else if i.op=16 then ({S with flags:=true,a:=zB S i.r,b:=qN i.k},true)
 else if i.op=17 then (if S.flags=true then vL S i.r (yw i.cc S.a S.b) else (S,false))
 else if i.op=18 then (Za S {c with pt:=jv p c.f i.l},true)
 else if i.op=19 then VA p S c i
 else if i.op=21 then (vB lim (ql {S with flags:=false} 4 i.sub 0) i.sub.toNat,true)
 else if i.op=22 then Yv S c
 else if i.op=23\/i.op=24 then w8 lim S c i
 else if i.op=25 then (vQ {jt S 1 (Yl world S.used) with used:=S.used+1} 0 (qN (Yl world S.used)),true)
 else if i.op=26 then (if (zB S 0).k=1 then (jt S 2 (zB S 0).n,true) else (S,false))
 else (S,true)
def Yr(p:Pg)(f:Nat):List wZ:=match p.funcs[f]? with
 |none=>[]
 |some g=>g.code
def dM(r:St×Bool):St:=if r.2=true then r.1 else {r.1 with kind:=3}
def Qk(p:Pg)(lim:Int)(world:List Int)(lab:Bool)(fuel:Int)(S:St):St:=match S.calls.getLast? with
 |none=>{S with kind:=3}
 |some c=>if c.pt=(Yr p c.f).length then {S with kind:=3} else match (Yr p c.f)[c.pt.toNat]? with
  |none=>{S with kind:=3}
  |some i=>if i.op=20/\lab=false then Za S {c with pt:=c.pt+1} else if S.steps=fuel then {S with kind:=2} else
   dM (zl p lim world {Za S {c with pt:=c.pt+1} with steps:=S.steps+1} {c with pt:=c.pt+1} i)
def Q7(p:Pg)(lim:Int)(world:List Int)(lab:Bool)(fuel:Int)(S:St):St:=if S.kind=0 then Qk p lim world lab fuel S else S
def Zr(p:Pg)(lim:Int)(world:List Int)(lab:Bool)(fuel:Int):Nat->St->St
 |0,S=>S
 |n+1,S=>Zr p lim world lab fuel n (Q7 p lim world lab fuel S)
def order:List Int:=[7,6,2,1,8,9]
def Vn:List Int->List Int->List V->List V
 |r::rs,a::l2,l=>Vn rs l2 (l.set r.toNat (qN a))
 |_,_,l=>l
def JG(p:Pg)(args:List Int):St:=⟨(vX p.globals [] []).1,0,0,0,[],[],0,(vX p.globals [] []).2,[],Vn order args (List.replicate 16 v0),false,v0,v0,0,0⟩
def Ud(p:Pg)(lim:Int)(args:List Int):St:=vB lim (JG p args) p.main.toNat
def Ends(p:Pg)(lim:Int)(args world:List Int)(lab:Bool)(fuel:Int)(T:St):Prop:=T.kind≠0 /\ ∃n,T=Zr p lim world lab fuel n (Ud p lim args)
structure Ext (S S':St):Prop where
 ev:S.ev <+: S'.ev
 lk:S.lk <+: S'.lk
theorem Ext.refl(S:St):Ext S S:=⟨abB _,abB _⟩
theorem Ext.trans{a b c:St}(x:Ext a b)(y:Ext b c):Ext a c:=⟨x.ev.trans y.ev,x.lk.trans y.lk⟩
structure Fi (S:St) (r:St×Bool):Prop where
 ext:Ext S r.1
 steps:r.1.steps=S.steps
 kind:r.1.kind=S.kind\/r.1.kind=1\/r.1.kind=4
 L3:r.1.ev.length<=S.ev.length+1/\r.1.lk.length<=S.lk.length+1
theorem Fi.same{S S':St}{b:Bool}(e:S'.ev=S.ev)(l:S'.lk=S.lk)(s:S'.steps=S.steps)(k:S'.kind=S.kind\/S'.kind=1\/S'.kind=4):Fi S (S',b) :=
 ⟨⟨e ▸ abB _,l ▸ abB _⟩,s,k,by rw[e];exact abC _,by rw[l];exact abC _⟩
theorem Fi.Dx{S S':St}{b:Bool}{x:Int×Int×Int}(e:S'.ev=S.ev)(l:S'.lk=S.lk++[x])(s:S'.steps=S.steps)(k:S'.kind=S.kind\/S'.kind=1\/S'.kind=4):Fi S (S',b) :=
 ⟨⟨e ▸ abB _,l ▸ List.prefix_append _ _⟩,s,k,by rw[e];exact abC _,by rw[l];simp⟩
theorem Fi.NL{S S':St}{b:Bool}{x:Int×Int}(e:S'.ev=S.ev++[x])(l:S'.lk=S.lk)(s:S'.steps=S.steps)(k:S'.kind=S.kind\/S'.kind=1\/S'.kind=4):Fi S (S',b) :=
 ⟨⟨e ▸ List.prefix_append _ _,l ▸ abB _⟩,s,k,by rw[e];simp,by rw[l];exact abC _⟩
theorem lu(lim:Int)(S:St)(n:Int):(w4 lim S n).1.ev=S.ev/\(w4 lim S n).1.lk=S.lk/\(w4 lim S n).1.steps=S.steps/\((w4 lim S n).1.kind=S.kind\/(w4 lim S n).1.kind=4)/\((w4 lim S n).2=true->(w4 lim S n).1.kind=S.kind):=by
 unfold w4;split
 ·exact⟨rfl,rfl,rfl,.inr rfl,λq=>by cases q⟩
 ·exact⟨rfl,rfl,rfl,.inl rfl,λ_=>rfl⟩
theorem eU(lim:Int)(S:St)(f:Nat):(vB lim S f).ev=S.ev/\(vB lim S f).lk=S.lk/\(vB lim S f).steps=S.steps/\((vB lim S f).kind=S.kind\/(vB lim S f).kind=4):=by
 obtain⟨a,b,c,d,_⟩:=lu lim S 8;unfold vB;split <;> exact⟨a,b,c,d⟩
theorem DW(S:St)(i:wZ):Fi S (yW S i):=by
 unfold yW;split
 ·exact .same rfl rfl rfl (.inl rfl)
 split
 ·split
  ·split
   ·exact .Dx rfl rfl rfl (.inl rfl)
   ·exact .Dx rfl rfl rfl (.inl rfl)
  ·exact .Dx rfl rfl rfl (.inl rfl)
 ·exact .same rfl rfl rfl (.inl rfl)
theorem Nk(S:St)(m:V):Fi S (Yj S m):=by
 unfold Yj;split
 ·split
  ·split
   ·exact .Dx rfl rfl rfl (.inl rfl)
   ·exact .Dx rfl rfl rfl (.inl rfl)
  ·exact .Dx rfl rfl rfl (.inl rfl)
 ·exact .same rfl rfl rfl (.inl rfl)
theorem Nm(S:St)(c:Fr):Fi S (Yv S c):=by
 unfold Yv;split
 ·exact .same rfl rfl rfl (.inl rfl)
 split
 ·exact .same rfl rfl rfl (.inl rfl)
 split
 ·exact .same rfl rfl rfl (.inr (.inl rfl))
 ·exact .same rfl rfl rfl (.inl rfl)
theorem G6(lim:Int)(S:St)(c:Fr)(i:wZ):Fi S (w8 lim S c i):=by
 obtain⟨a,b,d,e,_⟩:=lu lim S i.k;have e:(w4 lim S i.k).1.kind=S.kind\/(w4 lim S i.k).1.kind=1\/(w4 lim S i.k).1.kind=4:=e.imp id .inr;unfold w8;split
 ·split
  ·exact .same rfl rfl rfl (.inl rfl)
  ·exact .same rfl rfl rfl (.inl rfl)
 split
 ·exact .same rfl rfl rfl (.inl rfl)
 split
 ·exact .same a b d e
 ·exact .same a b d e
theorem Nl(p:Pg)(S:St)(c:Fr)(i:wZ):Fi S (VA p S c i):=by
 unfold VA;split
 ·exact .same rfl rfl rfl (.inl rfl)
 split
 ·split
  ·exact .Dx rfl rfl rfl (.inl rfl)
  ·exact .Dx rfl rfl rfl (.inl rfl)
 ·exact .same rfl rfl rfl (.inl rfl)
theorem G7(p:Pg)(lim:Int)(world:List Int)(S:St)(c:Fr)(i:wZ):Fi S (zl p lim world S c i):=by
 have same:∀{S':St} {b:Bool},S'.ev=S.ev->S'.lk=S.lk->S'.steps=S.steps->S'.kind=S.kind->Fi S (S',b):=λa b c d => .same a b c (.inl d);unfold zl;by_cases h0:i.op=1
 ·rw[aam h0];exact same rfl rfl rfl rfl
 rw[aak h0];by_cases h1:i.op=2
 ·rw[aam h1];exact same rfl rfl rfl rfl
 rw[aak h1];by_cases h2:i.op=3\/i.op=4
 ·rw[aam h2];exact DW _ _
 rw[aak h2];by_cases h3:i.op=5
 ·rw[aam h3];exact same rfl rfl rfl rfl
 rw[aak h3];by_cases h4:i.op=6
 ·rw[aam h4];exact same rfl rfl rfl rfl
 rw[aak h4];by_cases h5:i.op=7
 ·rw[aam h5];exact same rfl rfl rfl rfl
 rw[aak h5];by_cases h6:i.op=8\/i.op=11
 ·rw[aam h6];exact same rfl rfl rfl rfl
 rw[aak h6];by_cases h7:i.op=9
 ·rw[aam h7];exact same rfl rfl rfl rfl
 rw[aak h7];by_cases h8:i.op=10
 ·rw[aam h8];exact same rfl rfl rfl rfl
 rw[aak h8];by_cases h9:i.op=12
 ·rw[aam h9];split
  ·exact same rfl rfl rfl rfl
  ·exact same rfl rfl rfl rfl
 rw[aak h9];by_cases h10:i.op=13
 ·rw[aam h10];exact same rfl rfl rfl rfl
 rw[aak h10];by_cases h11:i.op=14
 ·rw[aam h11];exact Nk _ _
 rw[aak h11];by_cases h12:i.op=15
 ·rw[aam h12];exact same rfl rfl rfl rfl
 rw[aak h12];by_cases h13:i.op=16
 ·rw[aam h13];exact same rfl rfl rfl rfl
 rw[aak h13];by_cases h14:i.op=17
 ·rw[aam h14];split
  ·exact same rfl rfl rfl rfl
  ·exact same rfl rfl rfl rfl
 rw[aak h14];by_cases h15:i.op=18
 ·rw[aam h15];exact same rfl rfl rfl rfl
 rw[aak h15];by_cases h16:i.op=19
 ·rw[aam h16];exact Nl _ _ _ _
 rw[aak h16];by_cases h17:i.op=21
 ·rw[aam h17];obtain⟨a,b,d,e⟩:=eU lim (ql {S with flags:=false} 4 i.sub 0) i.sub.toNat;exact .Dx a b d (e.imp id .inr)
 rw[aak h17];by_cases h18:i.op=22
 ·rw[aam h18];exact Nm _ _
 rw[aak h18];by_cases h19:i.op=23\/i.op=24
 ·rw[aam h19];exact G6 _ _ _ _
 rw[aak h19];by_cases h20:i.op=25
 ·rw[aam h20];exact .NL rfl rfl rfl (.inl rfl)
 rw[aak h20];by_cases h21:i.op=26
 ·rw[aam h21];split
  ·exact .NL rfl rfl rfl (.inl rfl)
  ·exact same rfl rfl rfl rfl
 rw[aak h21];exact same rfl rfl rfl rfl
section
variable (p:Pg)(lim:Int)(world:List Int)(lab:Bool)(fuel:Int)
structure TX (S T:St):Prop where
 ext:Ext S T
 steps:(T.steps=S.steps/\T.ev=S.ev/\T.lk=S.lk)\/(T.steps=S.steps+1/\S.steps≠fuel/\T.ev.length<=S.ev.length+1/\T.lk.length<=S.lk.length+1)
 two:T.kind=2->T = {S with kind:=2} /\ S.steps=fuel
theorem BM(S:St)(h:S.kind=0):TX fuel S (Qk p lim world lab fuel S):=by
 have three:TX fuel S {S with kind:=3}:=⟨⟨abB S.ev,abB S.lk⟩,.inl ⟨rfl,rfl,rfl⟩,λq=>by cases q⟩;unfold Qk;split
 ·exact three
 split
 ·exact three
 split
 ·exact three
 split
 ·exact⟨⟨abB S.ev,abB S.lk⟩,.inl ⟨rfl,rfl,rfl⟩,λq=>by have q:S.kind=2:=q;rw[h]at q;cases q⟩
 split
 ·rename_i e;exact⟨⟨abB S.ev,abB S.lk⟩,.inl ⟨rfl,rfl,rfl⟩,λ_=>⟨rfl,e⟩⟩
 ·rename_i c _ _ _ i _ _ e;have x:=G7 p lim world {Za S {c with pt:=c.pt+1} with steps:=S.steps+1} {c with pt:=c.pt+1} i;generalize zl p lim world {Za S {c with pt:=c.pt+1} with steps:=S.steps+1} {c with pt:=c.pt+1} i=r at x;have k:=x.kind;have s:=x.steps;unfold dM;split
  ·refine⟨⟨x.ext.ev,x.ext.lk⟩,.inr ⟨s,e,x.L3⟩,λq=>?_⟩;rcases k with k|k|k
   ·have k:r.1.kind=S.kind:=k;rw[h]at k;omega
   ·omega
   ·omega
  ·exact⟨⟨x.ext.ev,x.ext.lk⟩,.inr ⟨s,e,x.L3⟩,λq=>by cases q⟩
theorem GN(S:St):Ext S (Q7 p lim world lab fuel S)/\(((Q7 p lim world lab fuel S).steps=S.steps/\(Q7 p lim world lab fuel S).ev=S.ev/\(Q7 p lim world lab fuel S).lk=S.lk)\/((Q7 p lim world lab fuel S).steps=S.steps+1/\S.steps≠fuel/\(Q7 p lim world lab fuel S).ev.length<=S.ev.length+1/\(Q7 p lim world lab fuel S).lk.length<=S.lk.length+1)):=by
 unfold Q7;split
 ·have:=BM p lim world lab fuel S (by assumption);exact⟨this.ext,this.steps⟩
 ·exact⟨Ext.refl _,.inl ⟨rfl,rfl,rfl⟩⟩
theorem dZ:∀(n:Nat) (S:St),S.kind≠0->Zr p lim world lab fuel n S=S
 |0,S,h=>rfl
 |n+1,S,h=>by
  unfold Zr Q7;rw[aak h];exact dZ n S h
theorem bM:∀(n m:Nat) (S:St),Zr p lim world lab fuel (n+m) S=Zr p lim world lab fuel m (Zr p lim world lab fuel n S)
 |0,m,S=>by rw[aau];rfl
 |n+1,m,S=>by
  rw[show n+1+m=(n+m)+1 by omega];exact bM n m _
theorem Lf{S:St}{n m:Nat}(h1:(Zr p lim world lab fuel n S).kind≠0)(h2:(Zr p lim world lab fuel m S).kind≠0):Zr p lim world lab fuel n S=Zr p lim world lab fuel m S:=by
 rcases Nat.le_total n m with q|q
 ·obtain⟨d,rfl⟩:=Nat.le.dest q;rw[bM,dZ _ _ _ _ _ d _ h1]
 ·obtain⟨d,rfl⟩:=Nat.le.dest q;rw[bM,dZ _ _ _ _ _ d _ h2]
end
theorem BS(p:Pg)(lim:Int)(args:List Int):((Ud p lim args).kind=0\/(Ud p lim args).kind=4)/\(Ud p lim args).steps=0/\(Ud p lim args).ev=[]/\(Ud p lim args).lk=[]:=by
 obtain⟨a,b,c,d⟩:=eU lim (JG p args) p.main.toNat;exact⟨d,c,a,b⟩
theorem lH(p:Pg)(lim:Int)(world:List Int)(lab:Bool)(fuel:Int):∀(n:Nat) (S:St),S.steps<=fuel->(S.ev.length:Int)<=S.steps->(S.lk.length:Int)<=S.steps->(Zr p lim world lab fuel n S).steps<=fuel/\((Zr p lim world lab fuel n S).ev.length:Int)<=(Zr p lim world lab fuel n S).steps/\((Zr p lim world lab fuel n S).lk.length:Int)<=(Zr p lim world lab fuel n S).steps
 |0,S,h,a,b=>⟨h,a,b⟩
 |n+1,S,h,a,b=>by
  unfold Zr;rcases (GN p lim world lab fuel S).2 with⟨q,e,l⟩|⟨q,e,l,m⟩
  ·exact lH p lim world lab fuel n _ (by omega) (by rw[e,q];exact a) (by rw[l,q];exact b)
  ·exact lH p lim world lab fuel n _ (by omega) (by omega) (by omega)
theorem E3{p:Pg}{lim:Int}{args world:List Int}{lab:Bool}{fuel:Int}{A:St}(h0:0<=fuel)(a:Ends p lim args world lab fuel A):(A.ev.length:Int)<=fuel/\(A.lk.length:Int)<=fuel:=by
 obtain⟨_,i,rfl⟩:=a;obtain⟨_,s0,e,l⟩:=BS p lim args;obtain⟨x,y,z⟩:=lH p lim world lab fuel i (Ud p lim args) (by omega) (by rw[e,s0];decide) (by rw[l,s0];decide);omega
end Go.As
namespace Go.Ai
noncomputable section
variable {P:Program}
theorem E7{α β:Type}{x:Sem α}{f:α->Sem β}{a:α}(h:z9 P x=some a):z9 P (x >>= f)=z9 P (f a):=by
 induction x with
 |pure b=>simp only[z9,aab]at h;subst h;rfl
 |program k ih=>exact ih P h
 |_=>cases h
def Wb:Nat->List (Int×Value)->List UE
 |_,[]=>[]
 |n,(k,v)::l=>(.int .i64 k,v,n)::Wb (n+1) l
def Q6(l:List (Int×Value)):vg := .map (Wb 0 l) l.length
def Q3:List (Int×Value)->Int->Option Nat
 |[],_=>none
 |(a,_)::l,k=>if a=k then some 0 else (Q3 l k).map (· + 1)
def bG:List (Int×Value)->Int->Option Value
 |[],_=>none
 |(a,v)::l,k=>if a=k then some v else bG l k
def Vt:List (Int×Value)->Int->Value->List (Int×Value)
 |[],k,v=>[(k,v)]
 |(a,w)::l,k,v=>if a=k then (a,v)::l else (a,w)::Vt l k v
theorem bH:∀(l:List (Int×Value)) (k k':Int) (v:Value),bG (Vt l k v) k'=if k=k' then some v else bG l k'
 |[],k,k',v=>rfl
 |(a,w)::l,k,k',v=>by
  unfold Vt;by_cases h:a=k
  ·rw[aam h];subst h;unfold bG;by_cases h2:a=k'
   ·rw[aam h2,aam h2]
   ·rw[aak h2,aak h2,aak h2]
  ·rw[aak h];unfold bG;rw[bH l];by_cases h2:a=k'
   ·rw[aam h2,aam h2,aak (by omega)]
   ·rw[aak h2,aak h2]
theorem iR:∀(n:Nat) (l:List (Int×Value)),((Wb n l).all λe=>flat e.1)=true
 |_,[]=>rfl
 |n,(k,v)::l=>by show(true&&(Wb (n+1) l).all λe=>flat e.1)=true;rw[iR];rfl
theorem oX(kind:IntKind)(k:Int):∀(l:List (Int×Value)) (n i:Nat),Instr.findNow (.int kind) (.int .i64 k) ((Wb n l).map λe=>aM e.1) i=some ((Q3 l k).map λj=>(i+j,undef))
 |[],n,i=>rfl
 |(a,v)::l,n,i=>by
  show(match Instr.sameNow (.int kind) (.int .i64 k) (.int .i64 a) with
   |some true=>some (some (i,undef))
   |some false=>Instr.findNow (.int kind) (.int .i64 k) ((Wb (n+1) l).map λe=>aM e.1) (i+1)
   |none=>none)=some ((if a=k then some 0 else (Q3 l k).map (· + 1)).map λj=>(i+j,undef))
  have e:Instr.sameNow (.int kind) (.int .i64 k) (.int .i64 a)=some (k == a):=rfl;rw[e];by_cases h:a=k
  ·rw[aam h,h,ab9];rfl
  ·rw[aak h,beq_eq_false_iff_ne.2 (λq=>h q.symm)];simp only;rw[oX kind k l];cases Q3 l k with
   |none=>rfl
   |some j=>simp only[abq,aab,aag,abg];omega
theorem IW{kt:TypeId}{kind:IntKind}(hk:z9 P (underlying kt)=some (.int kind))(k:Int)(n:Nat)(l:List (Int×Value)):oD P kt (.int .i64 k) (Wb n l)=some (Q3 l k):=by
 have e:z9 P (Instr.findKey kt (.int .i64 k) ((Wb n l).map λe=>aM e.1))=some ((Q3 l k).map λj=>(0+j,undef)):=by
  unfold Instr.findKey;rw[E7 hk,oX kind k l n 0];rfl
 unfold oD;rw[iR,e];cases Q3 l k with
 |none=>rfl
 |some j=>simp only[abq,aau];rfl
theorem EA{kt:TypeId}{kind:IntKind}(hk:z9 P (underlying kt)=some (.int kind))(b:Bool)(k:Int):z9 P (Instr.checkKey b 10000 kt (.int .i64 k))=some ():=by
 show z9 P (underlying kt >>= _)=_;rw[E7 hk];rfl
theorem r8:∀{l:List (Int×Value)} {k:Int} {n:Nat},(Q3 l k=none->bG l k=none) /\ ∀j,Q3 l k=some j->∃v,bG l k=some v/\(Wb n l)[j]? = some (.int .i64 k,v,n+j)
 |[],k,n=>⟨λ_=>rfl,λj h=>by cases h⟩
 |(a,v)::l,k,n=>by
  obtain⟨i1,i2⟩:=r8 (l:=l) (k:=k) (n:=n+1);unfold Q3 bG;by_cases h:a=k
  ·rw[aam h,aam h];refine⟨λq=>(by cases q),λj q=>?_⟩;cases q;exact⟨v,rfl,by rw[h];rfl⟩
  ·rw[aak h,aak h];cases hi:Q3 l k with
   |none=>exact⟨λ_=>i1 hi,λj q=>by cases q⟩
   |some m=>
    refine⟨λq=>(by cases q),λj q=>?_⟩;simp only[abq,aab]at q;subst q;obtain⟨w,h1,h2⟩:=i2 m hi;exact⟨w,h1,by show(Wb (n+1) l)[m]? = _;rw[h2,show n+1+m=n+(m+1) by omega]⟩
theorem EN:∀{l:List (Int×Value)} {k:Int} {n:Nat} (v:Value),(Q3 l k=none->Wb n (Vt l k v)=Wb n l++[(.int .i64 k,v,n+l.length)]/\(Vt l k v).length=l.length+1) /\ ∀j,Q3 l k=some j->Wb n (Vt l k v)=(Wb n l).set j (.int .i64 k,v,n+j)/\(Vt l k v).length=l.length
 |[],k,n,v=>⟨λ_=>⟨rfl,rfl⟩,λj h=>by cases h⟩
 |(a,w)::l,k,n,v=>by
  obtain⟨i1,i2⟩:=EN (l:=l) (k:=k) (n:=n+1) v;unfold Q3 Vt;by_cases h:a=k
  ·rw[aam h,aam h];refine⟨λq=>(by cases q),λj q=>?_⟩;cases q;rw[h];exact⟨rfl,rfl⟩
  ·rw[aak h,aak h];cases hi:Q3 l k with
   |none=>
    obtain⟨e1,e2⟩:=i1 hi;refine⟨λ_=>⟨?_,?_⟩,λj q=>by cases q⟩
    ·show(_,w,n)::Wb (n+1) (Vt l k v)=_;rw[e1,show n+1+l.length=n+(l.length+1) by omega];rfl
    ·show(Vt l k v).length+1=_;rw[e2];rfl
   |some m=>
    obtain⟨e1,e2⟩:=i2 m hi;refine⟨λq=>(by cases q),λj q=>?_⟩;simp only[abq,aab]at q;subst q;refine⟨?_,?_⟩
    ·show(_,w,n)::Wb (n+1) (Vt l k v)=_;rw[e1,show n+1+m=n+(m+1) by omega];rfl
    ·show(Vt l k v).length+1=_;rw[e2];rfl
section
variable {t kt et:TypeId}{kind:IntKind}{z:Value}{h:za}{b:Nat}{l:List (Int×Value)}
theorem Br(ht:z9 P (underlying t)=some (.map kt et))(hk:z9 P (underlying kt)=some (.int kind))(hz:wD P et=some z)(g:h.get b=some (Q6 l))(k:Int)(ok:Bool) :
  Ym P t (.map (some b)) (.int .i64 k) ok h=some (match bG l k with
   |some v=>cond ok (.tuple #[v,.bool true]) v
   |none=>cond ok (.tuple #[z,.bool false]) z):=by
 have em:eY h (.map (some b))=some (Wb 0 l):=by unfold eY;simp only[g];rfl
 unfold Ym;rw[ht,em];simp only[EA hk,IW hk];obtain⟨i1,i2⟩:=r8 (l:=l) (k:=k) (n:=0);cases hi:Q3 l k with
 |none=>simp only[i1 hi,hz]
 |some j=>
  obtain⟨v,h1,h2⟩:=i2 j hi;simp only[h1,h2]
theorem BV(ht:z9 P (underlying t)=some (.map kt et))(hk:z9 P (underlying kt)=some (.int kind))(g:h.get b=some (Q6 l))(w:h.ro<=b)(k:Int)(v:Value) :
  jj P t (.map (some b)) (.int .i64 k) v h=some (h.set b (some (Q6 (Vt l k v)))):=by
 unfold jj;simp only[ht,g,Q6,EA hk,IW hk,Nat.ble_eq_true_of_le w,aax];obtain⟨i1,i2⟩:=EN (l:=l) (k:=k) (n:=0) v;obtain⟨_,i4⟩:=r8 (l:=l) (k:=k) (n:=0);cases hi:Q3 l k with
 |none=>
  obtain⟨e1,e2⟩:=i1 hi;simp only[e1,e2,aau]
 |some j=>
  obtain⟨e1,e2⟩:=i2 j hi;obtain⟨v',_,h2⟩:=i4 j hi;have sb:Instr.sameBits 10000 (.int .i64 k) (.int .i64 k)=true:=by show((IntKind.i64 == .i64)&&(k == k))=true;simp
  simp only[h2,sb,aax,e1,e2]
end
end
end Go.Ai
namespace Go.As
open Go.Ai Go.Proofs Go.Mem Go.Rm
def VX:List wZ->Int->List (Int×Value)->List (Int×Value)
 |[],_,m=>m
 |x::xs,n,m=>VX xs (n+1) (if x.op=20 then Vt m x.l (.int .i64 n) else m)
def TH(m:List (Int×Value))(l z:Int):Prop:=bG m l=some (.int .i64 z)\/(bG m l=none/\z=0)
theorem lC:∀(xs:List wZ) (l n z:Int) (m:List (Int×Value)),TH m l z->TH (VX xs n m) l (Ws xs l n z)
 |[],l,n,z,m,h=>h
 |x::xs,l,n,z,m,h=>by
  refine lC xs l (n+1) _ _ ?_;by_cases h1:x.op=20
  ·rw[aam h1];unfold TH;rw[bH];by_cases h2:x.l=l
   ·rw[aam h2,aam ⟨h1,h2⟩];exact .inl rfl
   ·rw[aak h2,aak (λq=>h2 q.2)];exact h
  ·rw[aak h1,aak (λq=>h1 q.1)];exact h
theorem ph:∀(xs:List wZ) (x:wZ) (n:Int) (m:List (Int×Value)),VX (xs++[x]) n m=if x.op=20 then Vt (VX xs n m) x.l (.int .i64 (n+xs.length)) else VX xs n m
 |[],x,n,m=>by simp[VX]
 |y::xs,x,n,m=>by
  show VX (xs++[x]) (n+1) _=_;rw[ph xs];show _=if x.op=20 then Vt (VX xs (n+1) _) x.l (.int .i64 (n+((xs.length+1:Nat):Int))) else VX xs (n+1) _;rw[show n+1+(xs.length:Int)=n+((xs.length+1:Nat):Int) by omega]
def Jd(k:Int):Bool:=decide (k=IntKind.wrap .i64 (IntKind.wrap .i32 k))
def sr(op:Int):Bool:=decide (op=1\/op=3\/op=5\/op=7\/op=10\/op=2\/op=6\/op=8\/op=9\/op=11\/op=12\/op=17\/op=4\/op=15\/op=16)
def bR(op:Int):Bool:=decide (op=1\/op=3\/op=5\/op=7\/op=10\/op=4\/op=15\/op=14)
def UD(op:Int):Bool:=decide (op=1\/op=3\/op=5\/op=7\/op=10\/op=2\/op=6\/op=8\/op=9\/op=11\/op=12\/op=17)
def qk(op:Int):Bool:=decide (op=3\/op=4\/op=5\/op=1)
def YX(i:wZ):Bool := !(sr i.op&&(decide (i.r<0)||(decide (16<=i.r)||(UD i.op&&decide (i.r=4)))))&&(!bR i.op||(decide (0<=i.m)&&(decide (i.m<16)&&(!decide (i.m=4)||qk i.op))))
def Wd(n:Int):Bool:=decide (21<=n)&&decide (n<=26)
def QR(s:Int):Bool:=decide (s=11\/s=12\/s=13\/s=16\/s=17\/s=18)
def yi(gl:List Int)(i:wZ):Bool :=
 if i.op=3\/i.op=4 then decide (i.sub=1\/i.sub=4\/i.sub=8)&&Jd i.k
 else if i.op=5\/i.op=16 then Jd i.k
 else if i.op=6 then decide (0<=i.sub)&&(decide (i.sub<gl.length)&&(decide (0<=i.k)&&decide (i.k<=gl.getD i.sub.toNat 0)))
 else if i.op=7 then QR i.sub
 else if i.op=8 then QR i.sub&&Jd i.k
 else if i.op=9 then decide (i.sub=1\/i.sub=2)
 else if i.op=10 then decide (i.sub=3\/i.sub=4)
 else if i.op=11 then decide (i.sub=19\/i.sub=20)&&(decide (0<=i.k)&&decide (i.k<=63))
 else if i.op=12 then decide (i.sub=19\/i.sub=20)
 else if i.op=17\/i.op=19 then Wd i.cc
 else if i.op=20 then decide (0<=i.l)&&decide (i.l<=10000000)
 else if i.op=23\/i.op=24 then decide (0<=i.k)&&decide (i.k<=65536)
 else true
def Z7(gl:List Int)(i:wZ):Bool:=decide (1<=i.op)&&(decide (i.op<=26)&&(YX i&&yi gl i))
def hasB(m:List (Int×Value))(l:Int):Bool:=match bG m l with
 |some (.bool b)=>b
 |_=>false
def jx(gl:List Int):List wZ->List (Int×Value)->Bool->Option (List (Int×Value)×Bool)
 |[],m,some?=>some (m,some?)
 |x::xs,m,some?=>if Z7 gl x=false then none else if x.op=20 then (if hasB m x.l=true then none else jx gl xs (Vt m x.l (.bool true)) some?) else jx gl xs m true
def Wq(n:Nat)(m:List (Int×Value))(x:wZ):Bool := !(decide (x.op=18\/x.op=19) && !hasB m x.l) && !(decide (x.op=21)&&(decide (x.sub<0)||decide ((n:Int)<=x.sub)))
def e7(n:Nat)(code:List wZ):Option (List (Int×Value)×Bool)->Bool
 |none=>false
 |some r=>code.all (Wq n r.1)&&r.2
def mz(p:Pg)(f:Fn):Bool := !decide (100000<(f.code.length:Int))&&e7 p.funcs.length f.code (jx p.globals f.code [] false)
def u3(p:Pg):Bool := !decide (p.main<0)&&(!decide ((p.funcs.length:Int)<=p.main)&&(!decide ((100:Int)<p.funcs.length)&&(!decide ((200:Int)<p.globals.length)&&(!decide (p.params<0) && !decide (6<p.params)))))
def Xf(p:Pg):Bool:=u3 p&&(p.globals.all (λn => !decide (n<0) && !decide (65536<n))&&p.funcs.all (mz p))
open Go.Rtl (zD zT Old xq xz)
theorem qA{u v w:Value}{h:za}{R:Value->za->Prop}(ha:yo u=false)(hb:yo v=false)(hc:yo w=false):rv [u,v,w] h R=R (.tuple #[u,v,w]) h:=by
 apply propext;simp only[rv,yP,ha,hb,hc,aaK,j3,ace]
theorem F7(a b c:Bool):WM (.tuple #[.bool a,.bool b,.bool c]) 0=some (.bool a):=rfl
theorem F8(a b c:Bool):WM (.tuple #[.bool a,.bool b,.bool c]) 1=some (.bool b):=rfl
theorem F9(a b c:Bool):WM (.tuple #[.bool a,.bool b,.bool c]) 2=some (.bool c):=rfl
theorem Qb(k:Int)(h:za):vH Tryz.prog 75 [.int .i64 k] h (.bool (Jd k)):=by
 apply xq;apply FE;unfold Cv Jd;by_cases hk:k=IntKind.wrap .i64 (IntKind.wrap .i32 k)
 ·simp only[EE,Xc,fM];simp[xz]
 ·simp only[EE,Xc,fM];simp[xz]
theorem ME(n:Int)(h:za):DC Tryz.prog 100 [.int .i64 n] h (λv h1=>(∃a,v=.tuple #[.int .i64 a,.bool (Wd n)])/\h1=h):=by
 apply Ft;unfold Cb;by_cases h21:n=21
 ·subst h21;simp only[EE,↓BK,XS];exact⟨_,rfl⟩
 by_cases h22:n=22
 ·subst h22;simp only[EE,↓BK,Int.reduceEq,Va,XS];exact⟨_,rfl⟩
 by_cases h23:n=23
 ·subst h23;simp only[EE,↓BK,Int.reduceEq,Uh,Va,XS];exact⟨_,rfl⟩
 by_cases h24:n=24
 ·subst h24;simp only[EE,↓BK,Int.reduceEq,J4,QJ,Uh,Va,XS];exact⟨_,rfl⟩
 by_cases h25:n=25
 ·subst h25;simp only[EE,↓BK,Int.reduceEq,gi,J4,QJ,Uh,Va,XS];exact⟨_,rfl⟩
 by_cases h26:n=26
 ·subst h26;simp only[EE,↓BK,Int.reduceEq,QJ,Uh,Va,XS];exact⟨_,rfl⟩
 simp only[EE,↓BK,gi,J4,QJ,Uh,Va,XS,h21,h22,h23,h24,h25,h26];have e:Wd n=false:=by unfold Wd;simp;omega
 rw[e];exact⟨_,rfl⟩
theorem iK(n:Int)(h:za):vH Tryz.prog 77 [.int .i64 n] h (.bool (Wd n)):=by
 apply xq;apply mD;unfold Js;refine yb (by kernel_rfl) rfl (ME n _) ?_;rintro v h1 ⟨⟨a,rfl⟩,rfl⟩;simp only[EE];rfl
theorem Az(n:Int)(h:za):vH Tryz.prog 76 [.int .i64 n] h (.bool (QR n)):=by
 apply xq;apply HC;unfold HA;by_cases h11:n=11
 ·subst h11;simp only[EE,nth,↓BK,VE];rfl
 by_cases h12:n=12
 ·subst h12;simp only[EE,nth,↓BK,Int.reduceEq,UN,VE];rfl
 by_cases h13:n=13
 ·subst h13;simp only[EE,nth,↓BK,Int.reduceEq,Kt,UN,VE];rfl
 by_cases h16:n=16
 ·subst h16;simp only[EE,nth,↓BK,Int.reduceEq,J9,Kt,UN,VE];rfl
 by_cases h17:n=17
 ·subst h17;simp only[EE,nth,↓BK,Int.reduceEq,fD,J9,Kt,UN,VE];rfl
 by_cases h18:n=18
 ·subst h18;simp only[EE,nth,↓BK,Int.reduceEq,fD,J9,Kt,UN,VE];rfl
 simp only[EE,nth,↓BK,fD,J9,Kt,UN,VE,h11,h12,h13,h16,h17,h18];have e:QR n=false:=by unfold QR;simp;omega
 rw[e];rfl
theorem MY(x:wZ)(h:za):vH Tryz.prog 99 [x.val] h (.tuple #[.bool (sr x.op),.bool (bR x.op),.bool (UD x.op)]):=by
 apply jn rfl;apply CG;unfold p8;obtain⟨op,r,m,sub,cc,l,k⟩:=x;by_cases h1:op=1
 ·subst h1;simp only[EE,nth,↓nw,Value.cells,↓BK,zw,zh,zg,vr,vt,qA];rfl
 by_cases h3:op=3
 ·subst h3;simp only[EE,nth,↓nw,Value.cells,↓BK,Int.reduceEq,zw,zh,zg,uC,vr,vt,qA];rfl
 by_cases h5:op=5
 ·subst h5;simp only[EE,nth,↓nw,Value.cells,↓BK,Int.reduceEq,zw,zh,zg,uX,uC,vr,vt,qA];rfl
 by_cases h7:op=7
 ·subst h7;simp only[EE,nth,↓nw,Value.cells,↓BK,Int.reduceEq,zw,zh,zg,qa,uX,uC,vr,vt,qA];rfl
 by_cases h10:op=10
 ·subst h10;simp only[EE,nth,↓nw,Value.cells,↓BK,Int.reduceEq,zw,zh,zg,qa,uX,uC,vr,vt,qA];rfl
 by_cases h2:op=2
 ·subst h2;simp only[EE,nth,↓nw,Value.cells,↓BK,Int.reduceEq,zw,zh,zg,qa,uX,uC,qb,qc,vr,vt,qA];rfl
 by_cases h6:op=6
 ·subst h6;simp only[EE,nth,↓nw,Value.cells,↓BK,Int.reduceEq,zw,zh,zg,qa,uX,uC,ko,qb,qc,vr,vt,qA];rfl
 by_cases h8:op=8
 ·subst h8;simp only[EE,nth,↓nw,Value.cells,↓BK,Int.reduceEq,zw,zh,zg,qa,uX,uC,jq,ko,qb,qc,vr,vt,qA];rfl
 by_cases h9:op=9
 ·subst h9;simp only[EE,nth,↓nw,Value.cells,↓BK,Int.reduceEq,zw,zh,zg,qa,uX,uC,Zg,jq,ko,qb,qc,vr,vt,qA];rfl
 by_cases h11:op=11
 ·subst h11;simp only[EE,nth,↓nw,Value.cells,↓BK,Int.reduceEq,zw,zh,zg,qa,uX,uC,ZV,Zg,jq,ko,qb,qc,vr,vt,qA];rfl
 by_cases h12:op=12
 ·subst h12;simp only[EE,nth,↓nw,Value.cells,↓BK,Int.reduceEq,zw,zh,zg,qa,uX,uC,YN,ZV,Zg,jq,ko,qb,qc,vr,vt,qA];rfl
 by_cases h17:op=17
 ·subst h17;simp only[EE,nth,↓nw,Value.cells,↓BK,Int.reduceEq,zw,zh,zg,qa,uX,uC,YN,ZV,Zg,jq,ko,qb,qc,vr,vt,qA];rfl
 by_cases h4:op=4
 ·subst h4;simp only[EE,nth,↓nw,Value.cells,↓BK,Int.reduceEq,zw,zh,zg,qa,uX,uC,YN,ZV,Zg,jq,ko,Xu,Xv,qb,qc,vr,vt,qA];rfl
 by_cases h15:op=15
 ·subst h15;simp only[EE,nth,↓nw,Value.cells,↓BK,Int.reduceEq,zw,zh,zg,qa,uX,uC,YN,ZV,Zg,jq,ko,Xu,Xv,qb,qc,vr,vt,qA];rfl
 by_cases h16:op=16
 ·subst h16;simp only[EE,nth,↓nw,Value.cells,↓BK,Int.reduceEq,zw,zh,zg,qa,uX,uC,YN,ZV,Zg,jq,ko,UW,Xu,Xv,qb,qc,vr,vt,qA];rfl
 by_cases h14:op=14
 ·subst h14;simp only[EE,nth,↓nw,Value.cells,↓BK,Int.reduceEq,zw,zh,zg,qa,uX,uC,YN,ZV,Zg,jq,ko,cX,UW,Xu,Xv,qb,qc,vr,vt,qA];rfl
 simp only[EE,nth,↓nw,Value.cells,↓BK,zw,zh,zg,qa,uX,uC,YN,ZV,Zg,jq,ko,cX,UW,Xu,Xv,qb,qc,vr,vt,qA,h1,h3,h5,h7,h10,h2,h6,h8,h9,h11,h12,h17,h4,h15,h16,h14];have e1:sr op=false:=by unfold sr;simp;omega
 have e2:bR op=false:=by unfold bR;simp;omega
 have e3:UD op=false:=by unfold UD;simp;omega
 rw[e1,e2,e3];rfl
theorem Tp{x:wZ}{H:za}{b1:Nat}{B:Bool}{vs:List Value}(g:H.get b1=some (.cells x.row 50))(hB:B=(decide (0<=x.m)&&(decide (x.m<16)&&(!decide (x.m=4)||qk x.op)))):yn (.pointer (some ⟨b1,0,none⟩)) (xz B) vs H:=by
 obtain⟨op,r,m,sub,cc,l,k⟩:=x;simp only at hB g;by_cases o3:op=3
 ·subst o3;by_cases m0:0<=m
  ·by_cases m1:m<16
   ·by_cases m4:m=4
    ·simp only[EE,Int.reduceLT,Int.reduceLE,zw,zh,zg,xM,xf,xg,xh,xi,xj,xk,xl,xn,xo,yJ,yn,g,m4];rw[hB];simp[xz,m4,qk]
    ·simp only[EE,zw,zh,zg,xM,xf,xg,xh,xi,xj,xk,xl,xn,xo,yJ,yn,g,m0,m1,m4];rw[hB];simp[xz,m0,m1,m4,qk]
   ·simp only[EE,zw,zh,zg,xM,xf,xg,xh,xi,xj,xk,xl,xn,xo,yJ,yn,g,m0,m1];rw[hB];simp[xz,m0,m1,qk]
  ·simp only[EE,zw,zh,zg,xM,xf,xg,xh,xi,xj,xk,xl,xn,xo,yJ,yn,g,m0];rw[hB];simp[xz,m0,qk]
 by_cases o4:op=4
 ·subst o4;by_cases m0:0<=m
  ·by_cases m1:m<16
   ·by_cases m4:m=4
    ·simp only[EE,Int.reduceEq,Int.reduceLT,Int.reduceLE,zw,zh,zg,xM,xf,xg,xh,xi,xj,xk,xl,xn,xo,yJ,yn,g,m4];rw[hB];simp[xz,m4,qk]
    ·simp only[EE,Int.reduceEq,zw,zh,zg,xM,xf,xg,xh,xi,xj,xk,xl,xn,xo,yJ,yn,g,m0,m1,m4];rw[hB];simp[xz,m0,m1,m4,qk]
   ·simp only[EE,Int.reduceEq,zw,zh,zg,xM,xf,xg,xh,xi,xj,xk,xl,xn,xo,yJ,yn,g,m0,m1];rw[hB];simp[xz,m0,m1,qk]
  ·simp only[EE,Int.reduceEq,zw,zh,zg,xM,xf,xg,xh,xi,xj,xk,xl,xn,xo,yJ,yn,g,m0];rw[hB];simp[xz,m0,qk]
 by_cases o5:op=5
 ·subst o5;by_cases m0:0<=m
  ·by_cases m1:m<16
   ·by_cases m4:m=4
    ·simp only[EE,Int.reduceEq,Int.reduceLT,Int.reduceLE,zw,zh,zg,xM,xf,xg,xh,xi,xj,xk,xl,xn,xo,yJ,yn,g,m4];rw[hB];simp[xz,m4,qk]
    ·simp only[EE,Int.reduceEq,zw,zh,zg,xM,xf,xg,xh,xi,xj,xk,xl,xn,xo,yJ,yn,g,m0,m1,m4];rw[hB];simp[xz,m0,m1,m4,qk]
   ·simp only[EE,Int.reduceEq,zw,zh,zg,xM,xf,xg,xh,xi,xj,xk,xl,xn,xo,yJ,yn,g,m0,m1];rw[hB];simp[xz,m0,m1,qk]
  ·simp only[EE,Int.reduceEq,zw,zh,zg,xM,xf,xg,xh,xi,xj,xk,xl,xn,xo,yJ,yn,g,m0];rw[hB];simp[xz,m0,qk]
 by_cases o1:op=1
 ·subst o1;by_cases m0:0<=m
  ·by_cases m1:m<16
   ·by_cases m4:m=4
    ·simp only[EE,Int.reduceEq,Int.reduceLT,Int.reduceLE,zw,zh,zg,xM,xf,xg,xh,xi,xj,xk,xl,xn,xo,yJ,yn,g,m4];rw[hB];simp[xz,m4,qk]
    ·simp only[EE,Int.reduceEq,zw,zh,zg,xM,xf,xg,xh,xi,xj,xk,xl,xn,xo,yJ,yn,g,m0,m1,m4];rw[hB];simp[xz,m0,m1,m4,qk]
   ·simp only[EE,Int.reduceEq,zw,zh,zg,xM,xf,xg,xh,xi,xj,xk,xl,xn,xo,yJ,yn,g,m0,m1];rw[hB];simp[xz,m0,m1,qk]
  ·simp only[EE,Int.reduceEq,zw,zh,zg,xM,xf,xg,xh,xi,xj,xk,xl,xn,xo,yJ,yn,g,m0];rw[hB];simp[xz,m0,qk]
 have ef:qk op=false:=by unfold qk;simp[o3,o4,o5,o1]
 by_cases m0:0<=m
 ·by_cases m1:m<16
  ·by_cases m4:m=4
   ·simp only[EE,Int.reduceLT,Int.reduceLE,zw,zh,zg,xM,xf,xg,xh,xi,xj,xk,xl,xn,xo,yJ,yn,g,m4,o3,o4,o5,o1];rw[hB];simp[xz,m4,ef]
   ·simp only[EE,zw,zh,zg,xM,xf,xg,xh,xi,xj,xk,xl,xn,xo,yJ,yn,g,m0,m1,m4,o3,o4,o5,o1];rw[hB];simp[xz,m0,m1,m4,ef]
  ·simp only[EE,zw,zh,zg,xM,xf,xg,xh,xi,xj,xk,xl,xn,xo,yJ,yn,g,m0,m1,o3,o4,o5,o1];rw[hB];simp[xz,m0,m1,ef]
 ·simp only[EE,zw,zh,zg,xM,xf,xg,xh,xi,xj,xk,xl,xn,xo,yJ,yn,g,m0,o3,o4,o5,o1];rw[hB];simp[xz,m0,ef]
theorem RJ{x:wZ}{H:za}{b1:Nat}{B:Bool}{bad:Bool}{t10:Bool}(g:H.get b1=some (.cells x.row 50))(hb:(t10&&bad)=false)(hB:B=(!bR x.op||(decide (0<=x.m)&&(decide (x.m<16)&&(!decide (x.m=4)||qk x.op)))))(v:Value)(hv:t10=true->v=.bool bad)(h0:t10=false->True):qo (.bool t10) (xz B) (.bool (bR x.op)) (.pointer (some ⟨b1,0,none⟩)) v H:=by
 have fin:∀vs,yn (.pointer (some ⟨b1,0,none⟩)) (xz B) vs H\/bR x.op=false:=λvs=>by
  cases hm:bR x.op with
  |false=>exact .inr rfl
  |true=>exact .inl (Tp g (by rw[hB,hm];rfl))
 cases t10 with
 |false=>
  cases hm:bR x.op with
  |false=>simp only[EE,qo];rw[hB,hm];rfl
  |true=>simp only[EE,nth,qo];rcases fin [.bool false] with q|q;exact q;rw[hm]at q;cases q
 |true=>
  have hbad:bad=false:=by simpa using hb
  subst hbad;rw[hv rfl];cases hm:bR x.op with
  |false=>simp only[EE,qo];rw[hB,hm];rfl
  |true=>simp only[EE,nth,qo];rcases fin [.bool false] with q|q;exact q;rw[hm]at q;cases q
theorem Dq(x:wZ)(h:za):vH Tryz.prog 74 [x.val] h (.bool (YX x)):=by
 apply xq;generalize h.lock=L;apply mH;unfold JE;simp only[EE,↓nw,Value.cells,aac,Nat.reduceAdd,yg,v8];refine zi (by kernel_rfl) rfl (MY x _) ?_;have g:(L.push (.cells x.row 50)).get L.next=some (.cells x.row 50):=zO;generalize L.push (.cells x.row 50)=H at g ⊢;obtain⟨op,r,m,sub,cc,l,k⟩:=x;simp only at g ⊢;cases hr:sr op with
 |false=>
  have hB:YX ⟨op,r,m,sub,cc,l,k⟩=(!bR op||(decide (0<=m)&&(decide (m<16)&&(!decide (m=4)||qk op)))):=by unfold YX;simp only[hr,Bool.false_and,aa1,abO]
  simp only[EE,k9,ja,jb,jc,jd,jf,jg,jh,F7,F8,F9];exact RJ (x:=⟨op,r,m,sub,cc,l,k⟩) (t10:=false) (bad:=false) g rfl hB _ (λq=>by cases q) (λ_=>trivial)
 |true=>
  have bad:∀{v},v=.bool true->YX ⟨op,r,m,sub,cc,l,k⟩=false->qo (.bool true) (xz (YX ⟨op,r,m,sub,cc,l,k⟩)) (.bool (bR op)) (.pointer (some ⟨L.next,0,none⟩)) v H:=by
   rintro v rfl hf;rw[hf];simp only[EE,qo];rfl
  have good:∀{v},v=.bool false->(decide (r<0)||(decide (16<=r)||(UD op&&decide (r=4))))=false->qo (.bool true) (xz (YX ⟨op,r,m,sub,cc,l,k⟩)) (.bool (bR op)) (.pointer (some ⟨L.next,0,none⟩)) v H:=by
   rintro v rfl hf;have hB:YX ⟨op,r,m,sub,cc,l,k⟩=(!bR op||(decide (0<=m)&&(decide (m<16)&&(!decide (m=4)||qk op)))):=by unfold YX;simp only[hr,hf,Bool.and_false,aa1,abO]
   exact RJ (x:=⟨op,r,m,sub,cc,l,k⟩) (t10:=true) (bad:=false) g rfl hB _ (λ_=>rfl) (λq=>by cases q)
  by_cases r0:r<0
  ·simp only[EE,zw,zh,wJ,k9,ja,jb,jc,jd,jf,jg,jh,g,F7,F8,F9,r0];exact bad rfl (by unfold YX;simp[hr,r0])
  by_cases r1:r ≥ 16
  ·simp only[EE,zw,zh,wJ,k9,ja,jb,jc,jd,jf,jg,jh,g,F7,F8,F9,r0,r1];exact bad rfl (by have r1:16<=r:=r1;unfold YX;simp[hr,r1])
  have r1':¬16<=r:=r1;cases hw:UD op with
  |false=>
   simp only[EE,zw,zh,wJ,k9,ja,jb,jc,jd,jf,jg,jh,g,F7,F8,F9,r0,r1];exact good rfl (by simp[r0,r1',hw])
  |true=>
   by_cases r4:r=4
   ·subst r4;simp only[EE,zw,zh,wJ,k9,ja,jb,jc,jd,jf,jg,jh,g,F7,F8,F9,r0,r1];exact bad rfl (by unfold YX;simp[hr,hw])
   ·simp only[EE,zw,zh,wJ,k9,ja,jb,jc,jd,jf,jg,jh,g,F7,F8,F9,r0,r1,r4];exact good rfl (by simp[r0,r1',r4])
theorem Qy{h:za}{sv:Value}{zs:List Int}(S:zD h sv zs)(r:TypeId)(h':za):zk Tryz.prog .len [22] r [sv] h'=some (.int .i64 zs.length,h'):=by
 rcases S with⟨rfl,rfl⟩|⟨b,off,cp,rfl,_⟩
 ·simp only[sk,aaz]
 ·simp only[sk]
theorem fo{h:za}{sv:Value}{zs:List Int}(S:zD h sv zs){i:Nat}{z:Int}(hz:zs[i]? = some z):∃b o c t,zA Tryz.prog 22 sv (.int .i64 i)=some (.pointer (some ⟨b,o,none⟩))/\b<h.next/\h.get b=some (.cells c t)/\c[o]? = some (.int .i64 z):=by
 have hi:i<zs.length:=by
  rcases aaA i zs.length with q|q
  ·exact q
  ·rw[aao q]at hz;cases hz
 rcases S with⟨rfl,rfl⟩|⟨b,off,cp,rfl,hc⟩
 ·cases hz
 ·obtain⟨c,t,hb,hg,hat⟩:=hc (by intro e;subst e;cases hz);have h0:(0:Int)<=i:=by omega
  have h1:(i:Int)<(zs.length:Int):=by omega
  exact⟨b,off+i,c,t,by simp only[I7,h0,h1,aac,and_self,abH,aaE],hb,hg,hat i z hz⟩
section
variable {gl:List Int}{gv:Value}{H:za}{b:Nat}{B:Bool}{vs:List Value}{x:wZ}
theorem Th{r m sub cc l k:Int}(g:H.get b=some (.cells (wZ.row ⟨3,r,m,sub,cc,l,k⟩) 50))(S:zD H gv gl)(hB:B=yi gl ⟨3,r,m,sub,cc,l,k⟩):zo (.pointer (some ⟨b,0,none⟩)) (xz B) gv vs H:=by
 by_cases s1:sub=1
 ·subst s1;simp only[EE,nth,↓BK,zw,yR,zh,zg,zF,zV,kA,kD,kI,kK,kL,qO,zC,zo,g];refine zi (by kernel_rfl) rfl (Qb k _) ?_;simp only[EE];rw[hB];simp[xz,yi]
 by_cases s4:sub=4
 ·subst s4;simp only[EE,nth,↓BK,zw,yR,zh,zg,zF,zV,kA,kD,kI,kK,kL,qO,zC,zo,g,s1];refine zi (by kernel_rfl) rfl (Qb k _) ?_;simp only[EE];rw[hB];simp[xz,yi,s1]
 by_cases s8:sub=8
 ·subst s8;simp only[EE,nth,↓BK,zw,yR,zh,zg,zF,zV,kA,kD,kI,kK,kL,qO,zC,zo,g,s1,s4];refine zi (by kernel_rfl) rfl (Qb k _) ?_;simp only[EE];rw[hB];simp[xz,yi,s1,s4]
 simp only[EE,nth,↓BK,zw,zh,zg,zF,kA,kD,kI,kK,kL,qO,zC,zo,g,s1,s4,s8];rw[hB];simp[xz,yi,s1,s4,s8]
theorem Ti{r m sub cc l k:Int}(g:H.get b=some (.cells (wZ.row ⟨4,r,m,sub,cc,l,k⟩) 50))(S:zD H gv gl)(hB:B=yi gl ⟨4,r,m,sub,cc,l,k⟩):zo (.pointer (some ⟨b,0,none⟩)) (xz B) gv vs H:=by
 by_cases s1:sub=1
 ·subst s1;simp only[EE,nth,↓BK,Int.reduceEq,zw,yR,zh,zg,zF,zV,kA,kD,kI,kK,kL,qO,zC,zo,g];refine zi (by kernel_rfl) rfl (Qb k _) ?_;simp only[EE];rw[hB];simp[xz,yi]
 by_cases s4:sub=4
 ·subst s4;simp only[EE,nth,↓BK,Int.reduceEq,zw,yR,zh,zg,zF,zV,kA,kD,kI,kK,kL,qO,zC,zo,g,s1];refine zi (by kernel_rfl) rfl (Qb k _) ?_;simp only[EE];rw[hB];simp[xz,yi,s1]
 by_cases s8:sub=8
 ·subst s8;simp only[EE,nth,↓BK,Int.reduceEq,zw,yR,zh,zg,zF,zV,kA,kD,kI,kK,kL,qO,zC,zo,g,s1,s4];refine zi (by kernel_rfl) rfl (Qb k _) ?_;simp only[EE];rw[hB];simp[xz,yi,s1,s4]
 simp only[EE,nth,↓BK,Int.reduceEq,zw,zh,zg,zF,kA,kD,kI,kK,kL,qO,zC,zo,g,s1,s4,s8];rw[hB];simp[xz,yi,s1,s4,s8]
theorem Tj{r m sub cc l k:Int}(g:H.get b=some (.cells (wZ.row ⟨5,r,m,sub,cc,l,k⟩) 50))(S:zD H gv gl)(hB:B=yi gl ⟨5,r,m,sub,cc,l,k⟩):zo (.pointer (some ⟨b,0,none⟩)) (xz B) gv vs H:=by
 simp only[EE,nth,↓BK,Int.reduceEq,zw,yR,zh,zg,zV,UL,zN,zC,zo,g];refine zi (by kernel_rfl) rfl (Qb k _) ?_;simp only[EE];rw[hB];simp[xz,yi]
theorem Ry{r m sub cc l k:Int}(g:H.get b=some (.cells (wZ.row ⟨16,r,m,sub,cc,l,k⟩) 50))(S:zD H gv gl)(hB:B=yi gl ⟨16,r,m,sub,cc,l,k⟩):zo (.pointer (some ⟨b,0,none⟩)) (xz B) gv vs H:=by
 simp only[EE,nth,↓BK,Int.reduceEq,zw,yR,zh,zg,zV,UL,zN,zC,zo,g];refine zi (by kernel_rfl) rfl (Qb k _) ?_;simp only[EE];rw[hB];simp[xz,yi]
theorem Tk{r m sub cc l k:Int}(g:H.get b=some (.cells (wZ.row ⟨6,r,m,sub,cc,l,k⟩) 50))(S:zD H gv gl)(hB:B=yi gl ⟨6,r,m,sub,cc,l,k⟩):zo (.pointer (some ⟨b,0,none⟩)) (xz B) gv vs H:=by
 have nl:=S.Y0;have hl:=Qy S 3;by_cases s0:0<=sub
 ·by_cases s1:sub<(gl.length:Int)
  ·by_cases k0:0<=k
   ·obtain⟨z,hz⟩:∃z,gl[sub.toNat]? = some z:=⟨_,aae (by omega)⟩;obtain⟨bb,oo,c,t,ha,hbb,hgt,hat⟩:=fo S hz;rw[Int.toNat_of_nonneg s0]at ha;have hd:gl.getD sub.toNat 0=z:=by rw[aaR,hz];rfl
    by_cases k1:k<=z
    ·simp only[EE,nth,↓BK,Int.reduceEq,zw,yR,zh,zg,zF,zV,Yw,Yx,Yy,Yz,ZP,ZQ,ZR,ZS,ZT,zQ,zN,zC,zo,g,nl,hl,s0,s1,k0,ha,hgt,hat,k1];rw[hB];simp only[yi,hd];simp[xz,s0,s1,k0,k1]
    ·simp only[EE,nth,↓BK,Int.reduceEq,zw,yR,zh,zg,zF,zV,Yw,Yx,Yy,Yz,ZP,ZQ,ZR,ZS,ZT,zQ,zN,zC,zo,g,nl,hl,s0,s1,k0,ha,hgt,hat,k1];rw[hB];simp only[yi,hd];simp[xz,s0,s1,k0,k1]
   ·simp only[EE,nth,↓BK,Int.reduceEq,zw,yR,zh,zg,zF,zV,Yw,Yx,Yy,Yz,ZP,ZQ,ZR,ZS,ZT,zQ,zN,zC,zo,g,nl,hl,s0,s1,k0];rw[hB];simp[xz,yi,s0,s1,k0]
  ·simp only[EE,nth,↓BK,Int.reduceEq,zw,zh,zg,zF,Yw,Yx,Yy,Yz,ZP,ZQ,ZR,ZS,ZT,zQ,zN,zC,zo,g,nl,hl,s0,s1];rw[hB];simp[xz,yi,s0,s1]
 ·simp only[EE,nth,↓BK,Int.reduceEq,zw,zh,zg,zF,Yw,Yx,Yy,Yz,ZP,ZQ,ZR,ZS,ZT,zQ,zN,zC,zo,g,s0];rw[hB];simp[xz,yi,s0]
theorem Tl{r m sub cc l k:Int}(g:H.get b=some (.cells (wZ.row ⟨7,r,m,sub,cc,l,k⟩) 50))(S:zD H gv gl)(hB:B=yi gl ⟨7,r,m,sub,cc,l,k⟩):zo (.pointer (some ⟨b,0,none⟩)) (xz B) gv vs H:=by
 simp only[EE,nth,↓BK,Int.reduceEq,zw,zh,zg,zF,J5,zY,zQ,zN,zC,zo,g];refine zi (by kernel_rfl) rfl (Az sub _) ?_;simp only[EE];rw[hB];simp[xz,yi]
theorem Tm{r m sub cc l k:Int}(g:H.get b=some (.cells (wZ.row ⟨8,r,m,sub,cc,l,k⟩) 50))(S:zD H gv gl)(hB:B=yi gl ⟨8,r,m,sub,cc,l,k⟩):zo (.pointer (some ⟨b,0,none⟩)) (xz B) gv vs H:=by
 simp only[EE,nth,↓BK,Int.reduceEq,zw,zh,zg,zF,z8,zY,zQ,zN,zC,zo,g];refine zi (by kernel_rfl) rfl (Az sub _) ?_;cases ha:QR sub with
 |false=>
  simp only[EE,UI,UJ];rw[hB];simp[xz,yi,ha]
 |true=>
  simp only[EE,zw,yR,zV,UI,UJ,g];refine zi (by kernel_rfl) rfl (Qb k _) ?_;simp only[EE];rw[hB];simp[xz,yi,ha]
theorem Tn{r m sub cc l k:Int}(g:H.get b=some (.cells (wZ.row ⟨9,r,m,sub,cc,l,k⟩) 50))(S:zD H gv gl)(hB:B=yi gl ⟨9,r,m,sub,cc,l,k⟩):zo (.pointer (some ⟨b,0,none⟩)) (xz B) gv vs H:=by
 by_cases s1:sub=1
 ·subst s1;simp only[EE,nth,↓BK,Int.reduceEq,zw,zh,zg,zF,Wz,WH,yd,z8,zY,zQ,zN,zC,zo,g];rw[hB];simp[xz,yi]
 by_cases s2:sub=2
 ·subst s2;simp only[EE,nth,↓BK,Int.reduceEq,zw,zh,zg,zF,Wz,WH,yd,z8,zY,zQ,zN,zC,zo,g,s1];rw[hB];simp[xz,yi,s1]
 simp only[EE,nth,↓BK,Int.reduceEq,zw,zh,zg,zF,Wz,WH,yd,z8,zY,zQ,zN,zC,zo,g,s1,s2];rw[hB];simp[xz,yi,s1,s2]
theorem Rv{r m sub cc l k:Int}(g:H.get b=some (.cells (wZ.row ⟨10,r,m,sub,cc,l,k⟩) 50))(S:zD H gv gl)(hB:B=yi gl ⟨10,r,m,sub,cc,l,k⟩):zo (.pointer (some ⟨b,0,none⟩)) (xz B) gv vs H:=by
 by_cases s3:sub=3
 ·subst s3;simp only[EE,nth,↓BK,Int.reduceEq,zw,zh,zg,zF,WA,WG,yk,yd,z8,zY,zQ,zN,zC,zo,g];rw[hB];simp[xz,yi]
 by_cases s4:sub=4
 ·subst s4;simp only[EE,nth,↓BK,Int.reduceEq,zw,zh,zg,zF,WA,WG,yk,yd,z8,zY,zQ,zN,zC,zo,g,s3];rw[hB];simp[xz,yi,s3]
 simp only[EE,nth,↓BK,Int.reduceEq,zw,zh,zg,zF,WA,WG,yk,yd,z8,zY,zQ,zN,zC,zo,g,s3,s4];rw[hB];simp[xz,yi,s3,s4]
theorem Rx{r m sub cc l k:Int}(g:H.get b=some (.cells (wZ.row ⟨12,r,m,sub,cc,l,k⟩) 50))(S:zD H gv gl)(hB:B=yi gl ⟨12,r,m,sub,cc,l,k⟩):zo (.pointer (some ⟨b,0,none⟩)) (xz B) gv vs H:=by
 by_cases s19:sub=19
 ·subst s19;simp only[EE,nth,↓BK,Int.reduceEq,zw,zh,zg,zF,WB,WE,w5,yL,yk,yd,z8,zY,zQ,zN,zC,zo,g];rw[hB];simp[xz,yi]
 by_cases s20:sub=20
 ·subst s20;simp only[EE,nth,↓BK,Int.reduceEq,zw,zh,zg,zF,WB,WE,w5,yL,yk,yd,z8,zY,zQ,zN,zC,zo,g,s19];rw[hB];simp[xz,yi,s19]
 simp only[EE,nth,↓BK,Int.reduceEq,zw,zh,zg,zF,WB,WE,w5,yL,yk,yd,z8,zY,zQ,zN,zC,zo,g,s19,s20];rw[hB];simp[xz,yi,s19,s20]
theorem Rw{r m sub cc l k:Int}(g:H.get b=some (.cells (wZ.row ⟨11,r,m,sub,cc,l,k⟩) 50))(S:zD H gv gl)(hB:B=yi gl ⟨11,r,m,sub,cc,l,k⟩):zo (.pointer (some ⟨b,0,none⟩)) (xz B) gv vs H:=by
 by_cases s19:sub=19
 ·subst s19;by_cases k0:0<=k
  ·by_cases k1:k<=63
   ·simp only[EE,nth,↓BK,Int.reduceEq,zw,yR,zh,zg,zF,zV,kB,kC,kE,kF,kG,kJ,yL,yk,yd,z8,zY,zQ,zN,zC,zo,g,k0,k1];rw[hB];simp[xz,yi,k0,k1]
   ·simp only[EE,nth,↓BK,Int.reduceEq,zw,yR,zh,zg,zF,zV,kB,kC,kE,kF,kG,kJ,yL,yk,yd,z8,zY,zQ,zN,zC,zo,g,k0,k1];rw[hB];simp[xz,yi,k0,k1]
  ·simp only[EE,nth,↓BK,Int.reduceEq,zw,yR,zh,zg,zF,zV,kB,kC,kE,kF,kG,kJ,yL,yk,yd,z8,zY,zQ,zN,zC,zo,g,k0];rw[hB];simp[xz,yi,k0]
 by_cases s20:sub=20
 ·subst s20;by_cases k0:0<=k
  ·by_cases k1:k<=63
   ·simp only[EE,nth,↓BK,Int.reduceEq,zw,yR,zh,zg,zF,zV,kB,kC,kE,kF,kG,kJ,yL,yk,yd,z8,zY,zQ,zN,zC,zo,g,s19,k0,k1];rw[hB];simp[xz,yi,s19,k0,k1]
   ·simp only[EE,nth,↓BK,Int.reduceEq,zw,yR,zh,zg,zF,zV,kB,kC,kE,kF,kG,kJ,yL,yk,yd,z8,zY,zQ,zN,zC,zo,g,s19,k0,k1];rw[hB];simp[xz,yi,s19,k0,k1]
  ·simp only[EE,nth,↓BK,Int.reduceEq,zw,yR,zh,zg,zF,zV,kB,kC,kE,kF,kG,kJ,yL,yk,yd,z8,zY,zQ,zN,zC,zo,g,s19,k0];rw[hB];simp[xz,yi,s19,k0]
 simp only[EE,nth,↓BK,Int.reduceEq,zw,zh,zg,zF,kB,kC,kE,kF,kG,kJ,yL,yk,yd,z8,zY,zQ,zN,zC,zo,g,s19,s20];rw[hB];simp[xz,yi,s19,s20]
theorem Rz{r m sub cc l k:Int}(g:H.get b=some (.cells (wZ.row ⟨17,r,m,sub,cc,l,k⟩) 50))(S:zD H gv gl)(hB:B=yi gl ⟨17,r,m,sub,cc,l,k⟩):zo (.pointer (some ⟨b,0,none⟩)) (xz B) gv vs H:=by
 simp only[EE,nth,↓BK,Int.reduceEq,zw,zh,zg,U9,UK,vO,w5,yL,yk,yd,z8,zY,zQ,zN,zC,zo,g];refine zi (by kernel_rfl) rfl (iK cc _) ?_;simp only[EE];rw[hB];simp[xz,yi]
theorem RE{r m sub cc l k:Int}(g:H.get b=some (.cells (wZ.row ⟨19,r,m,sub,cc,l,k⟩) 50))(S:zD H gv gl)(hB:B=yi gl ⟨19,r,m,sub,cc,l,k⟩):zo (.pointer (some ⟨b,0,none⟩)) (xz B) gv vs H:=by
 simp only[EE,nth,↓BK,Int.reduceEq,zw,zh,zg,U9,UK,vO,w5,yL,yk,yd,z8,zY,zQ,zN,zC,zo,g];refine zi (by kernel_rfl) rfl (iK cc _) ?_;simp only[EE];rw[hB];simp[xz,yi]
theorem RG{r m sub cc l k:Int}(g:H.get b=some (.cells (wZ.row ⟨20,r,m,sub,cc,l,k⟩) 50))(S:zD H gv gl)(hB:B=yi gl ⟨20,r,m,sub,cc,l,k⟩):zo (.pointer (some ⟨b,0,none⟩)) (xz B) gv vs H:=by
 by_cases k0:0<=l
 ·by_cases k1:l<=10000000
  ·simp only[EE,nth,↓BK,Int.reduceEq,zw,zh,zg,vh,WC,WD,uO,vO,w5,yL,yk,yd,z8,zY,zQ,zN,zC,zo,g,k0,k1];rw[hB];simp[xz,yi,k0,k1]
  ·simp only[EE,nth,↓BK,Int.reduceEq,zw,zh,zg,vh,WC,WD,uO,vO,w5,yL,yk,yd,z8,zY,zQ,zN,zC,zo,g,k0,k1];rw[hB];simp[xz,yi,k0,k1]
 ·simp only[EE,nth,↓BK,Int.reduceEq,zw,zh,zg,vh,WC,WD,uO,vO,w5,yL,yk,yd,z8,zY,zQ,zN,zC,zo,g,k0];rw[hB];simp[xz,yi,k0]
theorem RH{r m sub cc l k:Int}(g:H.get b=some (.cells (wZ.row ⟨23,r,m,sub,cc,l,k⟩) 50))(S:zD H gv gl)(hB:B=yi gl ⟨23,r,m,sub,cc,l,k⟩):zo (.pointer (some ⟨b,0,none⟩)) (xz B) gv vs H:=by
 by_cases k0:0<=k
 ·by_cases k1:k<=65536
  ·simp only[EE,nth,↓BK,Int.reduceEq,zw,yR,zh,zg,zV,jR,jS,kH,uO,vO,w5,yL,yk,yd,z8,zY,zQ,zN,zC,zo,g,k0,k1];rw[hB];simp[xz,yi,k0,k1]
  ·simp only[EE,nth,↓BK,Int.reduceEq,zw,yR,zh,zg,zV,jR,jS,kH,uO,vO,w5,yL,yk,yd,z8,zY,zQ,zN,zC,zo,g,k0,k1];rw[hB];simp[xz,yi,k0,k1]
 ·simp only[EE,nth,↓BK,Int.reduceEq,zw,yR,zh,zg,zV,jR,jS,kH,uO,vO,w5,yL,yk,yd,z8,zY,zQ,zN,zC,zo,g,k0];rw[hB];simp[xz,yi,k0]
theorem RI{r m sub cc l k:Int}(g:H.get b=some (.cells (wZ.row ⟨24,r,m,sub,cc,l,k⟩) 50))(S:zD H gv gl)(hB:B=yi gl ⟨24,r,m,sub,cc,l,k⟩):zo (.pointer (some ⟨b,0,none⟩)) (xz B) gv vs H:=by
 by_cases k0:0<=k
 ·by_cases k1:k<=65536
  ·simp only[EE,nth,↓BK,Int.reduceEq,zw,yR,zh,zg,zV,jR,jS,kH,uO,vO,w5,yL,yk,yd,z8,zY,zQ,zN,zC,zo,g,k0,k1];rw[hB];simp[xz,yi,k0,k1]
  ·simp only[EE,nth,↓BK,Int.reduceEq,zw,yR,zh,zg,zV,jR,jS,kH,uO,vO,w5,yL,yk,yd,z8,zY,zQ,zN,zC,zo,g,k0,k1];rw[hB];simp[xz,yi,k0,k1]
 ·simp only[EE,nth,↓BK,Int.reduceEq,zw,yR,zh,zg,zV,jR,jS,kH,uO,vO,w5,yL,yk,yd,z8,zY,zQ,zN,zC,zo,g,k0];rw[hB];simp[xz,yi,k0]
theorem OP(g:H.get b=some (.cells x.row 50))(S:zD H gv gl)(hB:B=yi gl x):zo (.pointer (some ⟨b,0,none⟩)) (xz B) gv vs H:=by
 obtain⟨op,r,m,sub,cc,l,k⟩:=x;by_cases o3:op=3
 ·subst o3;exact Th g S hB
 by_cases o4:op=4
 ·subst o4;exact Ti g S hB
 by_cases o5:op=5
 ·subst o5;exact Tj g S hB
 by_cases o16:op=16
 ·subst o16;exact Ry g S hB
 by_cases o6:op=6
 ·subst o6;exact Tk g S hB
 by_cases o7:op=7
 ·subst o7;exact Tl g S hB
 by_cases o8:op=8
 ·subst o8;exact Tm g S hB
 by_cases o9:op=9
 ·subst o9;exact Tn g S hB
 by_cases o10:op=10
 ·subst o10;exact Rv g S hB
 by_cases o11:op=11
 ·subst o11;exact Rw g S hB
 by_cases o12:op=12
 ·subst o12;exact Rx g S hB
 by_cases o17:op=17
 ·subst o17;exact Rz g S hB
 by_cases o19:op=19
 ·subst o19;exact RE g S hB
 by_cases o20:op=20
 ·subst o20;exact RG g S hB
 by_cases o23:op=23
 ·subst o23;exact RH g S hB
 by_cases o24:op=24
 ·subst o24;exact RI g S hB
 simp only[EE,nth,↓BK,zw,zh,zg,kH,uO,vO,w5,yL,yk,yd,z8,zY,zQ,zN,zC,zo,g,o3,o4,o5,o16,o6,o7,o8,o9,o10,o11,o12,o17,o19,o20,o23,o24];rw[hB];simp[xz,yi,o3,o4,o5,o16,o6,o7,o8,o9,o10,o11,o12,o17,o19,o20,o23,o24]
theorem Gv(S:zD H gv gl):vH Tryz.prog 56 [x.val,gv] H (.bool (Z7 gl x)):=by
 apply xq;replace S:=S.lock;generalize H.lock=L at S;apply pQ;unfold cG;have nl:=S.Y0;simp only[EE,↓nw,Value.cells,zw,zh,zg];have S2:=S.old (Old.push L (.cells x.row 50));have g:(L.push (.cells x.row 50)).get L.next=some (.cells x.row 50):=zO;generalize L.push (.cells x.row 50)=G at g S2 ⊢;obtain⟨op,r,m,sub,cc,l,k⟩:=x;simp only at g ⊢;by_cases o1:op<1
 ·have e:Z7 gl ⟨op,r,m,sub,cc,l,k⟩=false:=by have q:¬1<=op:=by omega
                                             unfold Z7;simp[q]
  simp only[EE,Y6,WI,WJ,o1];rw[e];rfl
 by_cases o2:op>26
 ·have e:Z7 gl ⟨op,r,m,sub,cc,l,k⟩=false:=by have q:¬op<=26:=by omega
                                             unfold Z7;simp[q]
  simp only[EE,zw,zh,zg,Y6,WI,WJ,g,o1,o2];rw[e];rfl
 simp only[EE,aac,Nat.reduceAdd,yg,zw,zh,v8,zg,WI,WJ,g,o1,o2];refine zi (by kernel_rfl) rfl (Dq ⟨op,r,m,sub,cc,l,k⟩ G) ?_
 have e:Z7 gl ⟨op,r,m,sub,cc,l,k⟩=(YX ⟨op,r,m,sub,cc,l,k⟩&&yi gl ⟨op,r,m,sub,cc,l,k⟩):=by
  have q1:1<=op:=by omega
  have q2:op<=26:=by omega
  unfold Z7;simp only[q1,q2,decide_true,abO]
 cases hr:YX ⟨op,r,m,sub,cc,l,k⟩ with
 |false=>
  simp only[EE,Y6];rw[e,hr];rfl
 |true=>
  simp only[EE,Y6];exact OP (x:=⟨op,r,m,sub,cc,l,k⟩) g S2 (by rw[e,hr];rfl)
end
open Go.Rtl (inc Hf C2 ZX WQ U2 get_some)
section
variable {h:za}{sv:Value}{rows:List (List Value)}
theorem XC(S:zT h sv 7 rows){i:Nat}{r:List Value}(hr:rows[i]? = some r)(hn:r.length=7):∃b o c t,zA Tryz.prog 45 sv (.int .i64 i)=some (.pointer (some ⟨b,o,none⟩))/\b<h.next/\h.get b=some (.cells c t)/\o+7<=c.length/\(c.drop o).take 7=r /\ ∀k,k<7->c[o+k]? = r[k]?:=by
 obtain⟨b,o,c,t,⟨off,cp,rfl,rfl⟩,hi,hb,hg,hl,ht,hk⟩:=S.spot hr hn;have h1:0<=(i:Int)/\(i:Int)<(rows.length:Int):=by omega
 exact⟨b,off+i*7,c,t,by simp only[eW,h1,aaE,and_self,aac],hb,hg,hl,ht,hk⟩
theorem Up(S:zT h sv 2 rows){i:Nat}{r:List Value}(hr:rows[i]? = some r)(hn:r.length=2):∃b o c t,zA Tryz.prog 23 sv (.int .i64 i)=some (.pointer (some ⟨b,o,none⟩))/\b<h.next/\h.get b=some (.cells c t)/\o+2<=c.length/\(c.drop o).take 2=r /\ ∀k,k<2->c[o+k]? = r[k]?:=by
 obtain⟨b,o,c,t,⟨off,cp,rfl,rfl⟩,hi,hb,hg,hl,ht,hk⟩:=S.spot hr hn;have h1:0<=(i:Int)/\(i:Int)<(rows.length:Int):=by omega
 exact⟨b,off+i*2,c,t,by simp only[Bo,h1,aaE,and_self,aac],hb,hg,hl,ht,hk⟩
theorem Zq{l:List wZ}{n:Nat}(S:zT h sv n (l.map wZ.row))(r:TypeId)(h':za):zk Tryz.prog .len [45] r [sv] h'=some (.int .i64 l.length,h'):=by
 rcases S with⟨rfl,e⟩|⟨b,off,cp,rfl,_⟩
 ·have:l=[]:=by simpa using e
  subst this;simp only[lF,aaz]
 ·simp only[lF,aaD]
theorem Z8{l:List Fn}{n:Nat}(S:zT h sv n (l.map Fn.row))(r:TypeId)(h':za):zk Tryz.prog .len [23] r [sv] h'=some (.int .i64 l.length,h'):=by
 rcases S with⟨rfl,e⟩|⟨b,off,cp,rfl,_⟩
 ·have:l=[]:=by simpa using e
  subst this;simp only[dV,aaz]
 ·simp only[dV,aaD]
end
theorem SQ(h:za):(vS h).1=.map (some h.next):=rfl
theorem mk2(h:za):(vS h).2=h.push (Q6 []):=rfl
theorem T2:z9 Tryz.prog (underlying 3)=some (.int .i64):=by kernel_rfl
theorem T3:z9 Tryz.prog (underlying 122)=some (.map 3 4):=by kernel_rfl
theorem zrB:wD Tryz.prog 4=some (.bool false):=by kernel_rfl
def iE(m:List (Int×Value)):Prop := ∀k v,bG m k=some v->v=.bool true
theorem RU{h:za}{b:Nat}{m:List (Int×Value)}(hb:iE m)(g:h.get b=some (Q6 m))(k:Int):Ym Tryz.prog 122 (.map (some b)) (.int .i64 k) false h=some (.bool (hasB m k)):=by
 rw[Br T3 T2 zrB g k false];unfold hasB;cases e:bG m k with
 |none=>rfl
 |some v=>rw[hb k v e];rfl
theorem Gf{m:List (Int×Value)}(hb:iE m)(k:Int):iE (Vt m k (.bool true)):=by
 intro k' v e;rw[bH]at e;by_cases q:k=k'
 ·rw[aam q]at e;exact(acw e).symm
 ·rw[aak q]at e;exact hb k' v e
theorem bW(gl:List Int):∀(xs ys:List wZ) (m:List (Int×Value)) (s:Bool),jx gl (xs++ys) m s=(jx gl xs m s).bind λr=>jx gl ys r.1 r.2
 |[],ys,m,s=>rfl
 |x::xs,ys,m,s=>by
  show(if Z7 gl x=false then none else if x.op=20 then (if hasB m x.l=true then none else jx gl (xs++ys) _ s) else jx gl (xs++ys) m true)=Option.bind (if Z7 gl x=false then none else if x.op=20 then (if hasB m x.l=true then none else jx gl xs _ s) else jx gl xs m true) _;rw[bW gl xs,bW gl xs]
  repeat' split
  all_goals rfl
theorem Qp(gl:List Int):∀(xs:List wZ) (m:List (Int×Value)) (s:Bool) {r:List (Int×Value)×Bool},iE m->jx gl xs m s=some r->iE r.1
 |[],m,s,r,hb,e=>by cases e;exact hb
 |x::xs,m,s,r,hb,e=>by
  have e:(if Z7 gl x=false then none else if x.op=20 then (if hasB m x.l=true then none else jx gl xs _ s) else jx gl xs m true)=some r:=e;split at e
  ·cases e
  split at e
  ·split at e
   ·cases e
   ·exact Qp gl xs _ _ (Gf hb _) e
  ·exact Qp gl xs _ _ hb e
section
variable {h:za}{p:Pg}{f:Fn}
theorem Dp(P:qW h p)(hf:f∈p.funcs):vH Tryz.prog 31 [p.val,f.val] h (.bool (mz p f)):=by
 apply xq;replace P:=P.lock;generalize h.lock=L at P;apply Y3;intro wf;apply mF;unfold JD;have F:=P.fns f hf;have s0:Sat (.of L) L []:=Sat.self wf.2;have RP:Rd (.of L) (qW · p):=Rd.of (yQ.qQ L) P λh' o=>P.old o;have gvn:=P.globals.Y0;have fvn:=P.funcs.Y0;have cvn:=F.code.Y0;have cvc:=F.code.iI;have gvc:=P.globals.iI;have fvc:=P.funcs.iI;have cl:=λH=>Zq F.code 3 H;have fl:=λH=>Z8 P.funcs 3 H;simp only[EE,Value.cells];refine vp s0 λb2 h2 s2=>?_;simp only[];refine vp s2 λb3 h4 s4=>?_;have g3:=s4.get;simp only[EE,zw,kO,vD,cvn,g3,cl];by_cases c1:(f.code.length:Int)>100000
 ·simp only[EE,c1];have:mz p f=false:=by unfold mz;simp[show(100000:Int)<f.code.length from c1]
  rw[this];rfl
 have c1':¬(100000:Int)<f.code.length:=c1;have hB:mz p f=e7 p.funcs.length f.code (jx p.globals f.code [] false):=by unfold mz;rw[abQ c1'];rfl
 simp only[EE,zw,kO,vD,K8,c1];have sm:=s4.push (Q6 []);have gm3:=(sm.p 1).get;simp only[EE,nth,↓yy,mk2,gm3,cvn,cl];generalize hmb:h4.next=mb at sm gm3 ⊢;generalize h4.push (Q6 [])=h5 at sm gm3 ⊢
 have bad:∀n m s,jx p.globals (f.code.take n) m s=none->jx p.globals f.code m s=none:=λn m s e=>by
  rw[<- List.take_append_drop n f.code,bW,e];rfl
 refine jz (λn vs h'=>∃(i:Nat) (m:List (Int×Value)) (more:Bool) (v0:Value),i<=f.code.length/\n=f.code.length-i/\vs=[v0,.bool more,.int .i64 (i:Nat)]/\jx p.globals (f.code.take i) [] false=some (m,more)/\Sat (.of L) h' [pt mb (Q6 m),pt b3 (.cells f.row 47),pt b2 (.cells p.row 25)])
  f.code.length ⟨0,[],false,.bool false,aa5 _,rfl,rfl,rfl,sm⟩ ?_
 rintro n vs h' ⟨i,m,more,v0,hi,rfl,rfl,hscan,s⟩;unfold aG;by_cases hc:(i:Int)<(f.code.length:Int)
 ·obtain⟨x,hx,hxm⟩:=get_some (l:=f.code) (k:=i) (by omega);have F2:=(RP.at s).fns f hf;obtain⟨bi,oi,ci,ti,ha,hbi,hgi,hle,htk,_⟩:=XC F2.code (i:=i) (r:=x.row) (by rw[aaw,hx];rfl) rfl;have et:f.code.take (i+1)=f.code.take i++[x]:=by rw[abT,hx];rfl
  have hsn:=bW p.globals (f.code.take i) [x] [] false;rw[<- et,hscan]at hsn;have hsn:jx p.globals (f.code.take (i+1)) [] false=if Z7 p.globals x=false then none else if x.op=20 then (if hasB m x.l=true then none else some (Vt m x.l (.bool true),more)) else some (m,true):=hsn;have no:jx p.globals (f.code.take (i+1)) [] false=none->mz p f=false:=λe=>by rw[hB,bad _ _ _ e];rfl
  simp only[EE,nth,Value.cells,↓yy,aac,yg,v8,oL,aF,hc,ha,hgi,hle,htk];refine vp s λb8 h6 s6=>?_;simp only[EE,Nat.reduceAdd,oI];refine xQ s6 (by simp) rfl λh7 s7=>?_;have g8:=s7.get;have g2:=(s7.p 3).get;simp only[EE,zf,aac,Nat.reduceAdd,yg,zw,u5,v8,wI,g8,g2];refine zi (by kernel_rfl) (by simp only[yP,gvn,aaK];rfl) (Gv (x:=x) (RP.at s7).globals) ?_;cases hI:Z7 p.globals x with
  |false=>
   simp only[EE];rw[no (by rw[hsn,aam hI])];rfl
  |true=>
   rw[aak (by rw[hI];simp)]at hsn;simp only[EE,zf,Nat.reduceAdd,zw,zh,zg,aE,g8];by_cases o20:x.op=20
   ·rw[aam o20]at hsn;have lk:=RU (Qp p.globals _ _ _ (λk v e=>by cases e) hscan) (s7.p 1).get x.l;simp only[EE,zf,Nat.reduceAdd,zw,zh,vh,aD,g8,o20,SQ,hmb,lk];cases hl:hasB m x.l with
    |true=>
     simp only[EE];rw[no (by rw[hsn,aam hl])];rfl
    |false=>
     rw[aak (by rw[hl];simp)]at hsn;have up:=BV (v := .bool true) T3 T2 (s7.p 1).get (s7.p 1).wr x.l;simp only[EE,nth,zf,Nat.reduceAdd,zw,zh,vh,aC,UU,g8,SQ,hmb,up,inc (show i<4611686018427387904 by have:=F.mQ;omega)];exact⟨f.code.length-(i+1),by omega,i+1,_,_,_,by omega,rfl,rfl,hsn,((s7.p 1).set _).k [0,2,3]⟩
   ·rw[aak o20]at hsn;simp only[EE,nth,UU,o20,inc (show i<4611686018427387904 by have:=F.mQ;omega)];exact⟨f.code.length-(i+1),by omega,i+1,_,_,_,by omega,rfl,rfl,hsn,s7.k [1,2,3]⟩
 ·have hi9:i=f.code.length:=by omega
  subst hi9;rw[abX]at hscan;rw[hscan]at hB;have hB:mz p f=(f.code.all (Wq p.funcs.length m)&&more):=hB;have g3:=(s.p 1).get;simp only[EE,nth,hc];simp only[EE,nth,↓yy,zw,kO,vD,K7,g3,cvn,cl];have hbm:=Qp p.globals _ _ _ (λk v e=>by cases e) hscan
  refine jz (λn vs h'=>∃(i:Nat) (v0:Value),i<=f.code.length/\n=f.code.length-i/\vs=[v0,.int .i64 (i:Nat)]/\(∀k,k<i->C2 f.code (Wq p.funcs.length m) k=true)/\Sat (.of L) h' [pt mb (Q6 m),pt b3 (.cells f.row 47),pt b2 (.cells p.row 25)])
   f.code.length ⟨0,v0,aa5 _,rfl,rfl,λk hk=>by omega,s⟩ ?_
  rintro n vs h' ⟨i,v0,hi,rfl,rfl,hall,s⟩;unfold K6;by_cases hc:(i:Int)<(f.code.length:Int)
  ·obtain⟨x,hx,hxm⟩:=get_some (l:=f.code) (k:=i) (by omega);have F2:=(RP.at s).fns f hf;obtain⟨bi,oi,ci,ti,ha,hbi,hgi,hle,htk,_⟩:=XC F2.code (i:=i) (r:=x.row) (by rw[aaw,hx];rfl) rfl;have no:Wq p.funcs.length m x=false->mz p f=false:=λe=>by rw[hB,WQ hx e];rfl
   have go:Wq p.funcs.length m x=true->∀k,k<i+1->C2 f.code (Wq p.funcs.length m) k=true:=λe k hk=>by
    by_cases q:k=i
    ·subst q;rw[U2 hx];exact e
    ·exact hall k (by omega)
   have hin:=inc (show i<4611686018427387904 by have:=F.mQ;omega);simp only[EE,nth,Value.cells,↓yy,aac,yg,v8,oL,K5,hc,ha,hgi,hle,htk];refine vp s λb10 h6 s6=>?_;simp only[EE,Nat.reduceAdd,oI];refine xQ s6 (by simp) rfl λh7 s7=>?_;have g10:=s7.get;have g2:=(s7.p 3).get;have lk:=RU hbm (s7.p 1).get x.l
   have fin:(∀v,Wq p.funcs.length m x=true->∃m1,m1<f.code.length-i /\ ∃(i':Nat) (v0:Value),i'<=f.code.length/\m1=f.code.length-i' /\ [v,.int .i64 ((i+1:Nat):Int)]=[v0,Value.int .i64 (i':Nat)]/\(∀k,k<i'->C2 f.code (Wq p.funcs.length m) k=true)/\Sat (.of L) h7 [pt mb (Q6 m),pt b3 (.cells f.row 47),pt b2 (.cells p.row 25)]) :=
    λv e=>⟨f.code.length-(i+1),by omega,i+1,v,by omega,rfl,rfl,go e,s7.k [1,2,3]⟩
   by_cases o18:x.op=18
   ·have hh:Wq p.funcs.length m x=hasB m x.l:=(by unfold Wq;simp[o18]);simp only[EE,↓yy,zf,Nat.reduceAdd,zw,zh,zg,vh,kX,kY,kZ,k7,k8,g10,o18,SQ,hmb,lk];cases hl:hasB m x.l with
    |false=>simp only[EE];rw[no (by rw[hh,hl])];rfl
    |true=>
     simp only[EE,nth,zf,Nat.reduceAdd,Int.reduceEq,zw,zh,zg,jY,jZ,j0,kS,kU,kV,kW,Yi,g10,o18,hin];exact fin _ (by rw[hh,hl])
   by_cases o19:x.op=19
   ·have hh:Wq p.funcs.length m x=hasB m x.l:=(by unfold Wq;simp[o19]);simp only[EE,↓yy,zf,Nat.reduceAdd,Int.reduceEq,zw,zh,zg,vh,kX,kY,kZ,k7,k8,g10,o19,SQ,hmb,lk];cases hl:hasB m x.l with
    |false=>simp only[EE];rw[no (by rw[hh,hl])];rfl
    |true=>
     simp only[EE,nth,zf,Nat.reduceAdd,Int.reduceEq,zw,zh,zg,jY,jZ,j0,kS,kU,kV,kW,Yi,g10,o19,hin];exact fin _ (by rw[hh,hl])
   by_cases o21:x.op=21
   ·by_cases s0:x.sub<0
    ·simp only[EE,↓yy,zf,Nat.reduceAdd,Int.reduceEq,zw,zh,zg,zF,jY,jZ,j0,kS,kU,kV,kW,kX,kY,kZ,k7,k8,g10,o21,s0];rw[no (by unfold Wq;simp[o21,s0])];rfl
    by_cases s1:x.sub ≥ (p.funcs.length:Int)
    ·simp only[EE,↓yy,zf,Nat.reduceAdd,Int.reduceEq,zw,vM,zh,yM,zg,zF,jY,jZ,j0,kS,kU,kV,kW,kX,kY,kZ,k7,k8,g10,g2,fvn,fl,o21,s0,s1];rw[no (by have s1:(p.funcs.length:Int)<=x.sub:=s1;unfold Wq;simp[o21,s1])];rfl
    simp only[EE,nth,↓yy,zf,Nat.reduceAdd,Int.reduceEq,zw,vM,zh,yM,zg,zF,jY,jZ,j0,kS,kU,kV,kW,kX,kY,kZ,k7,k8,Yi,g10,g2,fvn,fl,o21,s0,s1,hin];exact fin _ (by have s1:¬(p.funcs.length:Int)<=x.sub:=s1;unfold Wq;simp[o21,s0,s1])
   simp only[EE,nth,↓yy,zf,Nat.reduceAdd,zw,zh,zg,jY,jZ,j0,kS,kU,kV,kW,kX,kY,kZ,k7,k8,Yi,g10,o18,o19,o21,hin];exact fin _ (by unfold Wq;simp[o18,o19,o21])
  ·have hi9:i=f.code.length:=by omega
   subst hi9;simp only[EE,nth,hc];rw[hB,ZX hall];simp[xz]
end
def rW(n:Int):Bool := !decide (n<0) && !decide (65536<n)
section
variable {p:Pg}
theorem Tf{lo:yQ}{H:za}{b1:Nat}{vs:List Value}(RP:Rd lo (qW · p))(s:Sat lo H [pt b1 (.cells p.row 25)]){B:Bool}(hB:B=p.funcs.all (mz p)):cH (.pointer (some ⟨b1,0,none⟩)) (xz B) vs H:=by
 have P:=RP.at s;have g1:=s.get;have fvn:=P.funcs.Y0;have fl:=λh'=>Z8 P.funcs 3 h';unfold cH;simp only[EE,↓yy,zw,vM,yM,g1,fvn,fl]
 refine jz (λn vs h'=>∃(i:Nat) (v0:Value),i<=p.funcs.length/\n=p.funcs.length-i/\vs=[v0,.int .i64 (i:Nat)]/\(∀k,k<i->C2 p.funcs (mz p) k=true)/\Sat lo h' [pt b1 (.cells p.row 25)])
  p.funcs.length ⟨0,nth vs 0,aa5 _,rfl,rfl,λk hk=>by omega,s⟩ ?_
 rintro n vs h' ⟨i,v0,hi,rfl,rfl,hall,s⟩;unfold tD;by_cases hc:(i:Int)<(p.funcs.length:Int)
 ·obtain⟨f,hf,hfm⟩:=get_some (l:=p.funcs) (k:=i) (by omega);obtain⟨bi,oi,ci,ti,ha,hbi,hgi,hle,htk,_⟩:=Up (RP.at s).funcs (i:=i) (r:=f.row) (by rw[aaw,hf];rfl) rfl;have cvn:=(P.fns f hfm).code.Y0;have cvc:=(P.fns f hfm).code.iI;have gvn:=P.globals.Y0;simp only[EE,nth,Value.cells,↓yy,aac,yg,QQ,Ez,tB,hc,ha,hgi,hle,htk];refine vp s λb6 h6 s6=>?_;simp only[EE,Nat.reduceAdd,Ev];refine xQ s6 (by simp) (by simp[cvc];rfl) λh7 s7=>?_;have g6:=s7.get;have g1:=(s7.p 1).get;simp only[EE,zf,aac,Nat.reduceAdd,yg,Xn,QQ,g6,g1];refine zi (by kernel_rfl) (by simp only[yP];rfl) (Dp (RP.at s7) hfm) ?_;cases hF:mz p f with
  |false=>
   simp only[EE,gj];rw[hB,WQ hf hF];rfl
  |true=>
   simp only[EE,nth,gj,tC,inc (show i<4611686018427387904 by have:=P.IT;omega)]
   exact⟨p.funcs.length-(i+1),by omega,i+1,_,by omega,rfl,rfl,λk hk=>(by
    by_cases q:k=i
    ·subst q;rw[U2 hf];exact hF
    ·exact hall k (by omega)),s7.k [1]⟩
 ·have hi9:i=p.funcs.length:=by omega
  subst hi9;simp only[EE,nth,hc];rw[hB,ZX hall];rfl
theorem Tg{lo:yQ}{H:za}{b1:Nat}{vs:List Value}(RP:Rd lo (qW · p))(s:Sat lo H [pt b1 (.cells p.row 25)]){B:Bool}(hB:B=(p.globals.all rW&&p.funcs.all (mz p))):cI (.pointer (some ⟨b1,0,none⟩)) (xz B) vs H:=by
 have P:=RP.at s;have g1:=s.get;have gvn:=P.globals.Y0;have gl:=λh'=>Qy P.globals 3 h';unfold cI;simp only[EE,↓yy,zw,u5,wI,g1,gvn,gl]
 refine jz (λn vs h'=>∃(i:Nat) (v0:Value),i<=p.globals.length/\n=p.globals.length-i/\vs=[v0,.int .i64 (i:Nat)]/\(∀k,k<i->C2 p.globals rW k=true)/\Sat lo h' [pt b1 (.cells p.row 25)])
  p.globals.length ⟨0,nth vs 0,aa5 _,rfl,rfl,λk hk=>by omega,s⟩ ?_
 rintro n vs h' ⟨i,v0,hi,rfl,rfl,hall,s⟩;unfold tA;by_cases hc:(i:Int)<(p.globals.length:Int)
 ·obtain⟨z,hz,hzm⟩:=get_some (l:=p.globals) (k:=i) (by omega);obtain⟨bi,oi,ci,ti,ha,hbi,hgi,hat⟩:=fo (RP.at s).globals hz;have no:rW z=false->B=false:=λe=>by rw[hB,WQ hz e];rfl
  by_cases z0:z<0
  ·simp only[EE,nth,↓yy,zw,zh,J6,J7,J8,hc,ha,hgi,hat,z0];rw[no (by unfold rW;simp[z0])];rfl
  by_cases z1:z>65536
  ·simp only[EE,nth,↓yy,zw,zh,J6,J7,J8,hc,ha,hgi,hat,z0,z1];rw[no (by have z1:65536<z:=z1;unfold rW;simp[z1])];rfl
  simp only[EE,nth,↓yy,zw,zh,J6,J7,J8,tw,hc,ha,hgi,hat,z0,z1,inc (show i<4611686018427387904 by have:=P.Gu;omega)]
  exact⟨p.globals.length-(i+1),by omega,i+1,_,by omega,rfl,rfl,λk hk=>(by
   by_cases q:k=i
   ·subst q;rw[U2 hz];have z1:¬65536<z:=z1;unfold rW;simp[z0,z1]
   ·exact hall k (by omega)),s⟩
 ·have hi9:i=p.globals.length:=by omega
  subst hi9;simp only[EE,nth,hc];exact Tf RP s (by rw[hB,ZX hall];rfl)
theorem Qd{h:za}(P:qW h p):vH Tryz.prog 17 [p.val] h (.bool (Xf p)):=by
 apply xq;replace P:=P.lock;generalize h.lock=L at P;apply Y3;intro wf;apply Fv;unfold Cc;have s0:Sat (.of L) L []:=Sat.self wf.2;have RP:Rd (.of L) (qW · p):=Rd.of (yQ.qQ L) P λh' o=>P.old o;have gvn:=P.globals.Y0;have fvn:=P.funcs.Y0;have fl:=λh'=>Z8 P.funcs 3 h';have gl:=λh'=>Qy P.globals 3 h';simp only[EE,Value.cells];refine vp s0 λb1 h2 s2=>?_;have g1:=s2.get;have no:u3 p=false->Xf p=false:=λe=>by unfold Xf;rw[e];rfl
 by_cases c1:p.main<0
 ·simp only[EE,zw,zh,jm,YA,YB,YC,YD,YE,YF,YG,YH,YI,YJ,YK,g1,c1];rw[no (by unfold u3;simp[c1])];rfl
 by_cases c2:p.main ≥ (p.funcs.length:Int)
 ·simp only[EE,zw,vM,zh,yM,jm,YA,YB,YC,YD,YE,YF,YG,YH,YI,YJ,YK,g1,fvn,fl,c1,c2];rw[no (by have c2:(p.funcs.length:Int)<=p.main:=c2;unfold u3;simp[c2])];rfl
 by_cases c3:(p.funcs.length:Int)>100
 ·simp only[EE,zw,vM,zh,yM,jm,YA,YB,YC,YD,YE,YF,YG,YH,YI,YJ,YK,g1,fvn,fl,c1,c2,c3];rw[no (by have c3:(100:Int)<p.funcs.length:=c3;unfold u3;simp[c3])];rfl
 by_cases c4:(p.globals.length:Int)>200
 ·simp only[EE,zw,u5,vM,zh,wI,yM,jm,YA,YB,YC,YD,YE,YF,YG,YH,YI,YJ,YK,g1,fvn,fl,gvn,gl,c1,c2,c3,c4];rw[no (by have c4:(200:Int)<p.globals.length:=c4;unfold u3;simp[c4])];rfl
 by_cases c5:p.params<0
 ·simp only[EE,zw,u5,vM,zh,wI,yM,jm,j4,YA,YB,YC,YD,YE,YF,YG,YH,YI,YJ,YK,g1,fvn,fl,gvn,gl,c1,c2,c3,c4,c5];rw[no (by unfold u3;simp[c5])];rfl
 by_cases c6:p.params>6
 ·simp only[EE,zw,u5,vM,zh,wI,yM,jm,j4,YA,YB,YC,YD,YE,YF,YG,YH,YI,YJ,YK,g1,fvn,fl,gvn,gl,c1,c2,c3,c4,c5,c6];rw[no (by have c6:6<p.params:=c6;unfold u3;simp[c6])];rfl
 simp only[EE,zw,u5,vM,zh,wI,yM,jm,j4,YA,YB,YC,YD,YE,YF,YG,YH,YI,YJ,YK,g1,fvn,fl,gvn,gl,c1,c2,c3,c4,c5,c6];refine Tg RP s2 ?_
 have hs:u3 p=true:=by
  have c2:¬(p.funcs.length:Int)<=p.main:=c2;have c3:¬(100:Int)<p.funcs.length:=c3;have c4:¬(200:Int)<p.globals.length:=c4;have c6:¬6<p.params:=c6;unfold u3;simp[c1,c2,c3,c4,c5,c6]
 unfold Xf;rw[hs];rfl
end
end Go.As
namespace Go.Ar
open Go.Ai Go.Proofs
open Go.Rtl (zD zT Old xq xz)
open Go.Rm (jn)
open Go.As (wZ sr bR UD qk QR Wd)
def Qr(k:Int):Bool:=decide (-2147483648<=k)&&decide (k<=2147483647)
theorem WS(k:Int)(h:za):vH Tryz.prog 53 [.int .i64 k] h (.bool (Qr k)):=by
 apply xq;apply CM;unfold ra;by_cases a:k ≥ -2147483648
 ·by_cases b:k<=2147483647
  ·simp only[EE,Int.reduceNeg,KD,a,b];simp[xz,Qr];omega
  ·simp only[EE,Int.reduceNeg,KD,a,b];simp[xz,Qr];omega
 ·simp only[EE,Int.reduceNeg,KD,a];simp[xz,Qr];omega
theorem Re(k:Int)(h:za):vH Tryz.prog 55 [.int .i64 k] h (.bool (Wd k)):=by
 apply xq;apply HI;unfold HG;by_cases a:k ≥ 21
 ·by_cases b:k<=26
  ·simp only[EE,fE,a,b];simp[xz,Wd];omega
  ·simp only[EE,fE,a,b];simp[xz,Wd];omega
 ·simp only[EE,fE,a];simp[xz,Wd];omega
theorem Az(n:Int)(h:za):vH Tryz.prog 54 [.int .i64 n] h (.bool (QR n)):=by
 apply xq;apply FC;unfold Cq;by_cases h11:n=11
 ·subst h11;simp only[EE,XZ,X0,X1,X2,X3];rfl
 by_cases h12:n=12
 ·subst h12;simp only[EE,Int.reduceEq,XZ,X0,X1,X2,X3];rfl
 by_cases h13:n=13
 ·subst h13;simp only[EE,Int.reduceEq,XZ,X0,X1,X2,X3];rfl
 by_cases h16:n=16
 ·subst h16;simp only[EE,Int.reduceEq,XZ,X0,X1,X2,X3];rfl
 by_cases h17:n=17
 ·subst h17;simp only[EE,Int.reduceEq,XZ,X0,X1,X2,X3];rfl
 by_cases h18:n=18
 ·subst h18;simp only[EE,Int.reduceEq,XZ,X0,X1,X2,X3];rfl
 simp only[EE,XZ,X0,X1,X2,X3,h11,h12,h13,h16,h17,h18];have e:QR n=false:=by unfold QR;simp;omega
 rw[e];rfl
theorem Ki(x:wZ)(h:za):vH Tryz.prog 52 [x.val] h (.bool (UD x.op)):=by
 apply xq;apply Aj;unfold im;obtain⟨op,r,m,sub,cc,l,k⟩:=x;by_cases h1:op=1
 ·subst h1;simp only[EE,nth,↓nw,Value.cells,↓BK,zw,zh,zg,v5];rfl
 by_cases h2:op=2
 ·subst h2;simp only[EE,nth,↓nw,Value.cells,↓BK,Int.reduceEq,zw,zh,zg,uF,v5];rfl
 by_cases h3:op=3
 ·subst h3;simp only[EE,nth,↓nw,Value.cells,↓BK,Int.reduceEq,zw,zh,zg,qI,uF,v5];rfl
 by_cases h5:op=5
 ·subst h5;simp only[EE,nth,↓nw,Value.cells,↓BK,Int.reduceEq,zw,zh,zg,q7,qI,uF,v5];rfl
 by_cases h6:op=6
 ·subst h6;simp only[EE,nth,↓nw,Value.cells,↓BK,Int.reduceEq,zw,zh,zg,ji,q7,qI,uF,v5];rfl
 by_cases h7:op=7
 ·subst h7;simp only[EE,nth,↓nw,Value.cells,↓BK,Int.reduceEq,zw,zh,zg,j1,ji,q7,qI,uF,v5];rfl
 by_cases h8:op=8
 ·subst h8;simp only[EE,nth,↓nw,Value.cells,↓BK,Int.reduceEq,zw,zh,zg,ZJ,j1,ji,q7,qI,uF,v5];rfl
 by_cases h9:op=9
 ·subst h9;simp only[EE,nth,↓nw,Value.cells,↓BK,Int.reduceEq,zw,zh,zg,Yp,ZJ,j1,ji,q7,qI,uF,v5];rfl
 by_cases h10:op=10
 ·subst h10;simp only[EE,nth,↓nw,Value.cells,↓BK,Int.reduceEq,zw,zh,zg,Xy,Yp,ZJ,j1,ji,q7,qI,uF,v5];rfl
 by_cases h11:op=11
 ·subst h11;simp only[EE,nth,↓nw,Value.cells,↓BK,Int.reduceEq,zw,zh,zg,Vb,Xy,Yp,ZJ,j1,ji,q7,qI,uF,v5];rfl
 by_cases h12:op=12
 ·subst h12;simp only[EE,nth,↓nw,Value.cells,↓BK,Int.reduceEq,zw,zh,zg,UX,Vb,Xy,Yp,ZJ,j1,ji,q7,qI,uF,v5];rfl
 by_cases h17:op=17
 ·subst h17;simp only[EE,nth,↓nw,Value.cells,↓BK,Int.reduceEq,zw,zh,zg,UX,Vb,Xy,Yp,ZJ,j1,ji,q7,qI,uF,v5];rfl
 simp only[EE,nth,↓nw,Value.cells,↓BK,zw,zh,zg,UX,Vb,Xy,Yp,ZJ,j1,ji,q7,qI,uF,v5,h1,h2,h3,h5,h6,h7,h8,h9,h10,h11,h12,h17];have e:UD op=false:=by unfold UD;simp;omega
 rw[e];rfl
theorem MZ(x:wZ)(h:za):vH Tryz.prog 51 [x.val] h (.tuple #[.bool (sr x.op),.bool (bR x.op)]):=by
 apply jn rfl;apply CI;unfold p9;obtain⟨op,r,m,sub,cc,l,k⟩:=x;simp only[EE,↓nw,Value.cells,aac,Nat.reduceAdd,yg,v8];refine zi (by kernel_rfl) rfl (Ki ⟨op,r,m,sub,cc,l,k⟩ _) ?_;by_cases h1:op=1
 ·subst h1;simp only[EE,nth,↓BK,zw,zh,zg,ua,ub,uc,vu,vw,vx,vy,vz,vA,show UD 1=true from rfl];rfl
 by_cases h3:op=3
 ·subst h3;simp only[EE,nth,↓BK,Int.reduceEq,zw,zh,zg,uD,ua,ub,uc,vu,vw,vx,vy,vz,vA,show UD 3=true from rfl];rfl
 by_cases h5:op=5
 ·subst h5;simp only[EE,nth,↓BK,Int.reduceEq,zw,zh,zg,qd,uY,uD,ua,ub,uc,vu,vw,vx,vy,vz,vA,show UD 5=true from rfl];rfl
 by_cases h7:op=7
 ·subst h7;simp only[EE,nth,↓BK,Int.reduceEq,zw,zh,zg,qC,qd,uY,uD,ua,ub,uc,vu,vw,vx,vy,vz,vA,show UD 7=true from rfl];rfl
 by_cases h10:op=10
 ·subst h10;simp only[EE,nth,↓BK,Int.reduceEq,zw,zh,zg,qX,qC,qd,uY,uD,ua,ub,uc,vu,vw,vx,vy,vz,vA,show UD 10=true from rfl];rfl
 by_cases h2:op=2
 ·subst h2;simp only[EE,nth,↓BK,Int.reduceEq,zw,zh,zg,ks,qX,qC,qd,uY,uD,ua,ub,uc,vu,vw,vx,vy,vz,vA,show UD 2=true from rfl];rfl
 by_cases h6:op=6
 ·subst h6;simp only[EE,nth,↓BK,Int.reduceEq,zw,zh,zg,ks,qX,qC,qd,uY,uD,ua,ub,uc,vu,vw,vx,vy,vz,vA,show UD 6=true from rfl];rfl
 by_cases h8:op=8
 ·subst h8;simp only[EE,nth,↓BK,Int.reduceEq,zw,zh,zg,ks,qX,qC,qd,uY,uD,ua,ub,uc,vu,vw,vx,vy,vz,vA,show UD 8=true from rfl];rfl
 by_cases h9:op=9
 ·subst h9;simp only[EE,nth,↓BK,Int.reduceEq,zw,zh,zg,ks,qX,qC,qd,uY,uD,ua,ub,uc,vu,vw,vx,vy,vz,vA,show UD 9=true from rfl];rfl
 by_cases h11:op=11
 ·subst h11;simp only[EE,nth,↓BK,Int.reduceEq,zw,zh,zg,ks,qX,qC,qd,uY,uD,ua,ub,uc,vu,vw,vx,vy,vz,vA,show UD 11=true from rfl];rfl
 by_cases h12:op=12
 ·subst h12;simp only[EE,nth,↓BK,Int.reduceEq,zw,zh,zg,ks,qX,qC,qd,uY,uD,ua,ub,uc,vu,vw,vx,vy,vz,vA,show UD 12=true from rfl];rfl
 by_cases h17:op=17
 ·subst h17;simp only[EE,nth,↓BK,Int.reduceEq,zw,zh,zg,ks,qX,qC,qd,uY,uD,ua,ub,uc,vu,vw,vx,vy,vz,vA,show UD 17=true from rfl];rfl
 by_cases h4:op=4
 ·subst h4;simp only[EE,nth,↓BK,Int.reduceEq,zw,zh,zg,uY,uD,ua,ub,uc,vu,vw,vx,vy,vz,vA,show UD 4=false from rfl];rfl
 by_cases h15:op=15
 ·subst h15;simp only[EE,nth,↓BK,Int.reduceEq,zw,zh,zg,ks,qX,qC,qd,uY,uD,ua,ub,uc,vu,vw,vx,vy,vz,vA,show UD 15=false from rfl];rfl
 by_cases h16:op=16
 ·subst h16;simp only[EE,nth,↓BK,Int.reduceEq,zw,zh,zg,ks,qX,qC,qd,uY,uD,ua,ub,uc,vu,vw,vx,vy,vz,vA,show UD 16=false from rfl];rfl
 by_cases h14:op=14
 ·subst h14;simp only[EE,nth,↓BK,Int.reduceEq,zw,zh,zg,ks,qX,qC,qd,uY,uD,ua,ub,uc,vu,vw,vx,vy,vz,vA,show UD 14=false from rfl];rfl
 have e3:UD op=false:=by unfold UD;simp;omega
 simp only[EE,nth,↓BK,zw,zh,zg,ks,qX,qC,qd,uY,uD,ua,ub,uc,vu,vw,vx,vy,vz,vA,e3,h1,h3,h5,h7,h10,h4,h15,h16,h14];have e1:sr op=false:=by unfold sr;simp;omega
 have e2:bR op=false:=by unfold bR;simp;omega
 rw[e1,e2];rfl
def tailD(i:wZ):Bool :=
 if i.op=3\/i.op=4 then decide (i.sub=1\/i.sub=4\/i.sub=8)&&Qr i.k
 else if i.op=5\/i.op=16 then Qr i.k
 else if i.op=7 then QR i.sub
 else if i.op=8 then QR i.sub&&Qr i.k
 else if i.op=9 then decide (i.sub=1\/i.sub=2)
 else if i.op=10 then decide (i.sub=3\/i.sub=4)
 else if i.op=11 then decide (i.sub=19\/i.sub=20)&&(decide (0<=i.k)&&decide (i.k<=63))
 else if i.op=12 then decide (i.sub=19\/i.sub=20)
 else if i.op=17 then Wd i.cc
 else if i.op=19 then Wd i.cc&&(decide (0<=i.l)&&decide (i.l<=10000000))
 else if i.op=18\/i.op=20 then decide (0<=i.l)&&decide (i.l<=10000000)
 else if i.op=23\/i.op=24 then decide (0<=i.k)&&decide (i.k<=65536)
 else true
section
variable {H:za}{b:Nat}{B:Bool}{vs:List Value}{x:wZ}
theorem S9{r m sub cc l k:Int}(g:H.get b=some (.cells (wZ.row ⟨3,r,m,sub,cc,l,k⟩) 50))(hB:B=tailD ⟨3,r,m,sub,cc,l,k⟩):zt (.pointer (some ⟨b,0,none⟩)) (xz B) vs H:=by
 by_cases s1:sub=1
 ·subst s1;simp only[EE,nth,↓BK,zw,yR,zh,zg,zF,zV,jT,jU,jV,jW,jX,kM,zK,zt,g];refine zi (by kernel_rfl) rfl (WS k _) ?_;simp only[EE];rw[hB];simp[xz,tailD]
 by_cases s4:sub=4
 ·subst s4;simp only[EE,nth,↓BK,zw,yR,zh,zg,zF,zV,jT,jU,jV,jW,jX,kM,zK,zt,g,s1];refine zi (by kernel_rfl) rfl (WS k _) ?_;simp only[EE];rw[hB];simp[xz,tailD,s1]
 by_cases s8:sub=8
 ·subst s8;simp only[EE,nth,↓BK,zw,yR,zh,zg,zF,zV,jT,jU,jV,jW,jX,kM,zK,zt,g,s1,s4];refine zi (by kernel_rfl) rfl (WS k _) ?_;simp only[EE];rw[hB];simp[xz,tailD,s1,s4]
 simp only[EE,nth,↓BK,zw,zh,zg,zF,jT,jU,jV,jW,jX,kM,zK,zt,g,s1,s4,s8];rw[hB];simp[xz,tailD,s1,s4,s8]
theorem Ta{r m sub cc l k:Int}(g:H.get b=some (.cells (wZ.row ⟨4,r,m,sub,cc,l,k⟩) 50))(hB:B=tailD ⟨4,r,m,sub,cc,l,k⟩):zt (.pointer (some ⟨b,0,none⟩)) (xz B) vs H:=by
 by_cases s1:sub=1
 ·subst s1;simp only[EE,nth,↓BK,Int.reduceEq,zw,yR,zh,zg,zF,zV,jT,jU,jV,jW,jX,kM,zK,zt,g];refine zi (by kernel_rfl) rfl (WS k _) ?_;simp only[EE];rw[hB];simp[xz,tailD]
 by_cases s4:sub=4
 ·subst s4;simp only[EE,nth,↓BK,Int.reduceEq,zw,yR,zh,zg,zF,zV,jT,jU,jV,jW,jX,kM,zK,zt,g,s1];refine zi (by kernel_rfl) rfl (WS k _) ?_;simp only[EE];rw[hB];simp[xz,tailD,s1]
 by_cases s8:sub=8
 ·subst s8;simp only[EE,nth,↓BK,Int.reduceEq,zw,yR,zh,zg,zF,zV,jT,jU,jV,jW,jX,kM,zK,zt,g,s1,s4];refine zi (by kernel_rfl) rfl (WS k _) ?_;simp only[EE];rw[hB];simp[xz,tailD,s1,s4]
 simp only[EE,nth,↓BK,Int.reduceEq,zw,zh,zg,zF,jT,jU,jV,jW,jX,kM,zK,zt,g,s1,s4,s8];rw[hB];simp[xz,tailD,s1,s4,s8]
theorem Tb{r m sub cc l k:Int}(g:H.get b=some (.cells (wZ.row ⟨5,r,m,sub,cc,l,k⟩) 50))(hB:B=tailD ⟨5,r,m,sub,cc,l,k⟩):zt (.pointer (some ⟨b,0,none⟩)) (xz B) vs H:=by
 simp only[EE,nth,↓BK,Int.reduceEq,zw,yR,zh,zg,zV,QK,zW,zK,zt,g];refine zi (by kernel_rfl) rfl (WS k _) ?_;simp only[EE];rw[hB];simp[xz,tailD]
theorem Ri{r m sub cc l k:Int}(g:H.get b=some (.cells (wZ.row ⟨16,r,m,sub,cc,l,k⟩) 50))(hB:B=tailD ⟨16,r,m,sub,cc,l,k⟩):zt (.pointer (some ⟨b,0,none⟩)) (xz B) vs H:=by
 simp only[EE,nth,↓BK,Int.reduceEq,zw,yR,zh,zg,zV,QK,zW,zK,zt,g];refine zi (by kernel_rfl) rfl (WS k _) ?_;simp only[EE];rw[hB];simp[xz,tailD]
theorem Tc{r m sub cc l k:Int}(g:H.get b=some (.cells (wZ.row ⟨7,r,m,sub,cc,l,k⟩) 50))(hB:B=tailD ⟨7,r,m,sub,cc,l,k⟩):zt (.pointer (some ⟨b,0,none⟩)) (xz B) vs H:=by
 simp only[EE,nth,↓BK,Int.reduceEq,zw,zh,zg,zF,eL,zZ,zW,zK,zt,g];refine zi (by kernel_rfl) rfl (Az sub _) ?_;simp only[EE];rw[hB];simp[xz,tailD]
theorem Td{r m sub cc l k:Int}(g:H.get b=some (.cells (wZ.row ⟨8,r,m,sub,cc,l,k⟩) 50))(hB:B=tailD ⟨8,r,m,sub,cc,l,k⟩):zt (.pointer (some ⟨b,0,none⟩)) (xz B) vs H:=by
 simp only[EE,nth,↓BK,Int.reduceEq,zw,zh,zg,zF,ya,zZ,zW,zK,zt,g];refine zi (by kernel_rfl) rfl (Az sub _) ?_;cases ha:QR sub with
 |false=>
  simp only[EE,JB,JC];rw[hB];simp[xz,tailD,ha]
 |true=>
  simp only[EE,zw,yR,zV,JB,JC,g];refine zi (by kernel_rfl) rfl (WS k _) ?_;simp only[EE];rw[hB];simp[xz,tailD,ha]
theorem Te{r m sub cc l k:Int}(g:H.get b=some (.cells (wZ.row ⟨9,r,m,sub,cc,l,k⟩) 50))(hB:B=tailD ⟨9,r,m,sub,cc,l,k⟩):zt (.pointer (some ⟨b,0,none⟩)) (xz B) vs H:=by
 by_cases s1:sub=1
 ·subst s1;simp only[EE,nth,↓BK,Int.reduceEq,zw,zh,zg,zF,US,VI,yf,ya,zZ,zW,zK,zt,g];rw[hB];simp[xz,tailD]
 by_cases s2:sub=2
 ·subst s2;simp only[EE,nth,↓BK,Int.reduceEq,zw,zh,zg,zF,US,VI,yf,ya,zZ,zW,zK,zt,g,s1];rw[hB];simp[xz,tailD,s1]
 simp only[EE,nth,↓BK,Int.reduceEq,zw,zh,zg,zF,US,VI,yf,ya,zZ,zW,zK,zt,g,s1,s2];rw[hB];simp[xz,tailD,s1,s2]
theorem Rf{r m sub cc l k:Int}(g:H.get b=some (.cells (wZ.row ⟨10,r,m,sub,cc,l,k⟩) 50))(hB:B=tailD ⟨10,r,m,sub,cc,l,k⟩):zt (.pointer (some ⟨b,0,none⟩)) (xz B) vs H:=by
 by_cases s3:sub=3
 ·subst s3;simp only[EE,nth,↓BK,Int.reduceEq,zw,zh,zg,zF,UT,VH,ym,yf,ya,zZ,zW,zK,zt,g];rw[hB];simp[xz,tailD]
 by_cases s4:sub=4
 ·subst s4;simp only[EE,nth,↓BK,Int.reduceEq,zw,zh,zg,zF,UT,VH,ym,yf,ya,zZ,zW,zK,zt,g,s3];rw[hB];simp[xz,tailD,s3]
 simp only[EE,nth,↓BK,Int.reduceEq,zw,zh,zg,zF,UT,VH,ym,yf,ya,zZ,zW,zK,zt,g,s3,s4];rw[hB];simp[xz,tailD,s3,s4]
theorem Rh{r m sub cc l k:Int}(g:H.get b=some (.cells (wZ.row ⟨12,r,m,sub,cc,l,k⟩) 50))(hB:B=tailD ⟨12,r,m,sub,cc,l,k⟩):zt (.pointer (some ⟨b,0,none⟩)) (xz B) vs H:=by
 by_cases s19:sub=19
 ·subst s19;simp only[EE,nth,↓BK,Int.reduceEq,zw,zh,zg,zF,VF,VG,wH,yH,ym,yf,ya,zZ,zW,zK,zt,g];rw[hB];simp[xz,tailD]
 by_cases s20:sub=20
 ·subst s20;simp only[EE,nth,↓BK,Int.reduceEq,zw,zh,zg,zF,VF,VG,wH,yH,ym,yf,ya,zZ,zW,zK,zt,g,s19];rw[hB];simp[xz,tailD,s19]
 simp only[EE,nth,↓BK,Int.reduceEq,zw,zh,zg,zF,VF,VG,wH,yH,ym,yf,ya,zZ,zW,zK,zt,g,s19,s20];rw[hB];simp[xz,tailD,s19,s20]
theorem Rg{r m sub cc l k:Int}(g:H.get b=some (.cells (wZ.row ⟨11,r,m,sub,cc,l,k⟩) 50))(hB:B=tailD ⟨11,r,m,sub,cc,l,k⟩):zt (.pointer (some ⟨b,0,none⟩)) (xz B) vs H:=by
 by_cases s19:sub=19
 ·subst s19;by_cases k0:0<=k
  ·by_cases k1:k<=63
   ·simp only[EE,nth,↓BK,Int.reduceEq,zw,yR,zh,zg,zF,zV,jA,jB,jC,jD,jE,jG,yH,ym,yf,ya,zZ,zW,zK,zt,g,k0,k1];rw[hB];simp[xz,tailD,k0,k1]
   ·simp only[EE,nth,↓BK,Int.reduceEq,zw,yR,zh,zg,zF,zV,jA,jB,jC,jD,jE,jG,yH,ym,yf,ya,zZ,zW,zK,zt,g,k0,k1];rw[hB];simp[xz,tailD,k0,k1]
  ·simp only[EE,nth,↓BK,Int.reduceEq,zw,yR,zh,zg,zF,zV,jA,jB,jC,jD,jE,jG,yH,ym,yf,ya,zZ,zW,zK,zt,g,k0];rw[hB];simp[xz,tailD,k0]
 by_cases s20:sub=20
 ·subst s20;by_cases k0:0<=k
  ·by_cases k1:k<=63
   ·simp only[EE,nth,↓BK,Int.reduceEq,zw,yR,zh,zg,zF,zV,jA,jB,jC,jD,jE,jG,yH,ym,yf,ya,zZ,zW,zK,zt,g,s19,k0,k1];rw[hB];simp[xz,tailD,s19,k0,k1]
   ·simp only[EE,nth,↓BK,Int.reduceEq,zw,yR,zh,zg,zF,zV,jA,jB,jC,jD,jE,jG,yH,ym,yf,ya,zZ,zW,zK,zt,g,s19,k0,k1];rw[hB];simp[xz,tailD,s19,k0,k1]
  ·simp only[EE,nth,↓BK,Int.reduceEq,zw,yR,zh,zg,zF,zV,jA,jB,jC,jD,jE,jG,yH,ym,yf,ya,zZ,zW,zK,zt,g,s19,k0];rw[hB];simp[xz,tailD,s19,k0]
 simp only[EE,nth,↓BK,Int.reduceEq,zw,zh,zg,zF,jA,jB,jC,jD,jE,jG,yH,ym,yf,ya,zZ,zW,zK,zt,g,s19,s20];rw[hB];simp[xz,tailD,s19,s20]
theorem Rj{r m sub cc l k:Int}(g:H.get b=some (.cells (wZ.row ⟨17,r,m,sub,cc,l,k⟩) 50))(hB:B=tailD ⟨17,r,m,sub,cc,l,k⟩):zt (.pointer (some ⟨b,0,none⟩)) (xz B) vs H:=by
 simp only[EE,nth,↓BK,Int.reduceEq,zw,zh,zg,U9,eK,vq,wH,yH,ym,yf,ya,zZ,zW,zK,zt,g];refine zi (by kernel_rfl) rfl (Re cc _) ?_;simp only[EE];rw[hB];simp[xz,tailD]
theorem Rl{r m sub cc l k:Int}(g:H.get b=some (.cells (wZ.row ⟨19,r,m,sub,cc,l,k⟩) 50))(hB:B=tailD ⟨19,r,m,sub,cc,l,k⟩):zt (.pointer (some ⟨b,0,none⟩)) (xz B) vs H:=by
 simp only[EE,nth,↓BK,Int.reduceEq,zw,zh,zg,U9,vI,vq,wH,yH,ym,yf,ya,zZ,zW,zK,zt,g];refine zi (by kernel_rfl) rfl (Re cc _) ?_;cases ha:Wd cc with
 |false=>
  simp only[EE,X4,X5,X6,X7];rw[hB];simp[xz,tailD,ha]
 |true=>
  by_cases k0:0<=l
  ·by_cases k1:l<=10000000
   ·simp only[EE,zw,zh,vh,X4,X5,X6,X7,g,k0,k1];rw[hB];simp[xz,tailD,ha,k0,k1]
   ·simp only[EE,zw,zh,vh,X4,X5,X6,X7,g,k0,k1];rw[hB];simp[xz,tailD,ha,k0,k1]
  ·simp only[EE,zw,zh,vh,X4,X5,X6,X7,g,k0];rw[hB];simp[xz,tailD,ha,k0]
theorem Rk{r m sub cc l k:Int}(g:H.get b=some (.cells (wZ.row ⟨18,r,m,sub,cc,l,k⟩) 50))(hB:B=tailD ⟨18,r,m,sub,cc,l,k⟩):zt (.pointer (some ⟨b,0,none⟩)) (xz B) vs H:=by
 by_cases k0:0<=l
 ·by_cases k1:l<=10000000
  ·simp only[EE,nth,↓BK,Int.reduceEq,zw,zh,zg,vh,ZF,ZI,vZ,vI,vq,wH,yH,ym,yf,ya,zZ,zW,zK,zt,g,k0,k1];rw[hB];simp[xz,tailD,k0,k1]
  ·simp only[EE,nth,↓BK,Int.reduceEq,zw,zh,zg,vh,ZF,ZI,vZ,vI,vq,wH,yH,ym,yf,ya,zZ,zW,zK,zt,g,k0,k1];rw[hB];simp[xz,tailD,k0,k1]
 ·simp only[EE,nth,↓BK,Int.reduceEq,zw,zh,zg,vh,ZF,ZI,vZ,vI,vq,wH,yH,ym,yf,ya,zZ,zW,zK,zt,g,k0];rw[hB];simp[xz,tailD,k0]
theorem Rn{r m sub cc l k:Int}(g:H.get b=some (.cells (wZ.row ⟨20,r,m,sub,cc,l,k⟩) 50))(hB:B=tailD ⟨20,r,m,sub,cc,l,k⟩):zt (.pointer (some ⟨b,0,none⟩)) (xz B) vs H:=by
 by_cases k0:0<=l
 ·by_cases k1:l<=10000000
  ·simp only[EE,nth,↓BK,Int.reduceEq,zw,zh,zg,vh,ZF,ZI,vZ,vI,vq,wH,yH,ym,yf,ya,zZ,zW,zK,zt,g,k0,k1];rw[hB];simp[xz,tailD,k0,k1]
  ·simp only[EE,nth,↓BK,Int.reduceEq,zw,zh,zg,vh,ZF,ZI,vZ,vI,vq,wH,yH,ym,yf,ya,zZ,zW,zK,zt,g,k0,k1];rw[hB];simp[xz,tailD,k0,k1]
 ·simp only[EE,nth,↓BK,Int.reduceEq,zw,zh,zg,vh,ZF,ZI,vZ,vI,vq,wH,yH,ym,yf,ya,zZ,zW,zK,zt,g,k0];rw[hB];simp[xz,tailD,k0]
theorem Ro{r m sub cc l k:Int}(g:H.get b=some (.cells (wZ.row ⟨23,r,m,sub,cc,l,k⟩) 50))(hB:B=tailD ⟨23,r,m,sub,cc,l,k⟩):zt (.pointer (some ⟨b,0,none⟩)) (xz B) vs H:=by
 by_cases k0:0<=k
 ·by_cases k1:k<=65536
  ·simp only[EE,nth,↓BK,Int.reduceEq,zw,yR,zh,zg,zV,ZG,ZH,jF,vZ,vI,vq,wH,yH,ym,yf,ya,zZ,zW,zK,zt,g,k0,k1];rw[hB];simp[xz,tailD,k0,k1]
  ·simp only[EE,nth,↓BK,Int.reduceEq,zw,yR,zh,zg,zV,ZG,ZH,jF,vZ,vI,vq,wH,yH,ym,yf,ya,zZ,zW,zK,zt,g,k0,k1];rw[hB];simp[xz,tailD,k0,k1]
 ·simp only[EE,nth,↓BK,Int.reduceEq,zw,yR,zh,zg,zV,ZG,ZH,jF,vZ,vI,vq,wH,yH,ym,yf,ya,zZ,zW,zK,zt,g,k0];rw[hB];simp[xz,tailD,k0]
theorem Rp{r m sub cc l k:Int}(g:H.get b=some (.cells (wZ.row ⟨24,r,m,sub,cc,l,k⟩) 50))(hB:B=tailD ⟨24,r,m,sub,cc,l,k⟩):zt (.pointer (some ⟨b,0,none⟩)) (xz B) vs H:=by
 by_cases k0:0<=k
 ·by_cases k1:k<=65536
  ·simp only[EE,nth,↓BK,Int.reduceEq,zw,yR,zh,zg,zV,ZG,ZH,jF,vZ,vI,vq,wH,yH,ym,yf,ya,zZ,zW,zK,zt,g,k0,k1];rw[hB];simp[xz,tailD,k0,k1]
  ·simp only[EE,nth,↓BK,Int.reduceEq,zw,yR,zh,zg,zV,ZG,ZH,jF,vZ,vI,vq,wH,yH,ym,yf,ya,zZ,zW,zK,zt,g,k0,k1];rw[hB];simp[xz,tailD,k0,k1]
 ·simp only[EE,nth,↓BK,Int.reduceEq,zw,yR,zh,zg,zV,ZG,ZH,jF,vZ,vI,vq,wH,yH,ym,yf,ya,zZ,zW,zK,zt,g,k0];rw[hB];simp[xz,tailD,k0]
theorem dL(g:H.get b=some (.cells x.row 50))(hB:B=tailD x):zt (.pointer (some ⟨b,0,none⟩)) (xz B) vs H:=by
 obtain⟨op,r,m,sub,cc,l,k⟩:=x;by_cases o3:op=3
 ·subst o3;exact S9 g hB
 by_cases o4:op=4
 ·subst o4;exact Ta g hB
 by_cases o5:op=5
 ·subst o5;exact Tb g hB
 by_cases o16:op=16
 ·subst o16;exact Ri g hB
 by_cases o7:op=7
 ·subst o7;exact Tc g hB
 by_cases o8:op=8
 ·subst o8;exact Td g hB
 by_cases o9:op=9
 ·subst o9;exact Te g hB
 by_cases o10:op=10
 ·subst o10;exact Rf g hB
 by_cases o11:op=11
 ·subst o11;exact Rg g hB
 by_cases o12:op=12
 ·subst o12;exact Rh g hB
 by_cases o17:op=17
 ·subst o17;exact Rj g hB
 by_cases o19:op=19
 ·subst o19;exact Rl g hB
 by_cases o18:op=18
 ·subst o18;exact Rk g hB
 by_cases o20:op=20
 ·subst o20;exact Rn g hB
 by_cases o23:op=23
 ·subst o23;exact Ro g hB
 by_cases o24:op=24
 ·subst o24;exact Rp g hB
 simp only[EE,nth,↓BK,zw,zh,zg,jF,vZ,vI,vq,wH,yH,ym,yf,ya,zZ,zW,zK,zt,g,o3,o4,o5,o16,o7,o8,o9,o10,o11,o12,o17,o19,o18,o20,o23,o24];rw[hB];simp[xz,tailD,o3,o4,o5,o16,o7,o8,o9,o10,o11,o12,o17,o19,o18,o20,o23,o24]
end
def WR(x:wZ):Bool := !(sr x.op&&(decide (x.r<0)||decide (15<x.r)))
def VB(x:wZ):Bool := !(bR x.op&&(decide (x.m<0)||decide (15<x.m)))
def QC(x:wZ):Bool := !(UD x.op&&decide (x.r=4))
def bO(x:wZ):Bool := !(bR x.op&&(decide (x.m=4) && !qk x.op))
def xU(x:wZ):Bool := !decide (x.op<1)&&(!decide (26<x.op)&&(WR x&&(VB x&&(QC x&&(bO x&&tailD x)))))
section
variable {H:za}{b:Nat}{B:Bool}{vs:List Value}{x:wZ}
theorem eZ{mb:Bool}(hm:bR x.op=mb)(g:H.get b=some (.cells x.row 50))(hB:B=(bO x&&tailD x)):kN (.bool mb) (.pointer (some ⟨b,0,none⟩)) (xz B) vs H:=by
 cases mb with
 |false=>
  simp only[EE,jH,jI,jJ,jK,jL,jM,jN,jO,jP,kN];exact dL g (by rw[hB];simp[bO,hm])
 |true=>
  by_cases m4:x.m=4
  ·by_cases o3:x.op=3
   ·simp only[EE,zw,zh,zg,xM,jH,jI,jJ,jK,jL,jM,jN,jO,jP,kN,g,m4,o3];exact dL g (by rw[hB];simp[bO,qk,o3])
   by_cases o4:x.op=4
   ·simp only[EE,Int.reduceEq,zw,zh,zg,xM,jH,jI,jJ,jK,jL,jM,jN,jO,jP,kN,g,m4,o4];exact dL g (by rw[hB];simp[bO,qk,o4])
   by_cases o5:x.op=5
   ·simp only[EE,Int.reduceEq,zw,zh,zg,xM,jH,jI,jJ,jK,jL,jM,jN,jO,jP,kN,g,m4,o5];exact dL g (by rw[hB];simp[bO,qk,o5])
   by_cases o1:x.op=1
   ·simp only[EE,Int.reduceEq,zw,zh,zg,xM,jH,jI,jJ,jK,jL,jM,jN,jO,jP,kN,g,m4,o1];exact dL g (by rw[hB];simp[bO,qk,o1])
   simp only[EE,zw,zh,zg,xM,jH,jI,jJ,jK,jL,jM,jN,jO,jP,kN,g,m4,o3,o4,o5,o1];have e:qk x.op=false:=by unfold qk;simp[o3,o4,o5,o1]
   rw[hB];simp[xz,bO,hm,m4,e]
  ·simp only[EE,zw,zh,xM,jH,jI,jJ,jK,jL,jM,jN,jO,jP,kN,g,m4];exact dL g (by rw[hB];simp[bO,m4])
theorem E1:vH Tryz.prog 29 [x.val] H (.bool (xU x)):=by
 apply xq;generalize H.lock=L;apply tR;unfold gW;simp only[EE,↓nw,Value.cells,aac,Nat.reduceAdd,yg,v8];have g:(L.push (.cells x.row 50)).get L.next=some (.cells x.row 50):=zO;generalize L.push (.cells x.row 50)=G at g ⊢;generalize L.next=b at g ⊢;simp only[];refine zi (by kernel_rfl) rfl (MZ x _) ?_;by_cases c1:x.op<1
 ·simp only[EE,zw,zh,zg,xV,xW,xX,uh,ui,uj,uk,um,uo,uq,ur,uu,uv,uw,ux,uy,uz,uA,g,c1];simp[xz,xU,c1]
 by_cases c2:x.op>26
 ·simp only[EE,zw,zh,zg,xV,xW,xX,uh,ui,uj,uk,um,uo,uq,ur,uu,uv,uw,ux,uy,uz,uA,g,c1,c2];have c2':26<x.op:=c2;simp[xz,xU,c2']
 have c2':¬26<x.op:=c2;cases hr:sr x.op with
 |false=>
  cases hm:bR x.op with
  |false=>
   simp only[EE,aac,Nat.reduceAdd,yg,zw,zh,v8,zg,uh,ui,uj,uk,um,uo,uq,ur,uu,uv,uw,ux,uy,uz,uA,g,c1,c2];refine zi (by kernel_rfl) rfl (Ki x _) ?_;cases hw:UD x.op with
   |false=>
    simp only[EE,xV,xW,xX];refine eZ (x:=x) (B:=xU x) hm g ?_;simp[xU,WR,VB,QC,c1,c2',hr,hm,hw]
   |true=>
    by_cases r4:x.r=4
    ·simp only[EE,zw,zh,wJ,xV,xW,xX,g,r4];simp[xz,xU,WR,VB,QC,hw,r4]
    ·simp only[EE,zw,zh,wJ,xV,xW,xX,g,r4];refine eZ (x:=x) (B:=xU x) hm g ?_;simp[xU,WR,VB,QC,c1,c2',hr,hm,hw,r4]
  |true=>
   by_cases m0:x.m<0
   ·simp only[EE,zw,zh,zg,xM,xV,xW,xX,uh,ui,uj,uk,um,uo,uq,ur,uu,uv,uw,ux,uy,uz,uA,g,c1,c2,m0];simp[xz,xU,WR,VB,hm,m0]
   by_cases m1:x.m>15
   ·simp only[EE,zw,zh,zg,xM,xV,xW,xX,uh,ui,uj,uk,um,uo,uq,ur,uu,uv,uw,ux,uy,uz,uA,g,c1,c2,m0,m1];have m1':15<x.m:=m1;simp[xz,xU,WR,VB,hm,m1']
   have m1':¬15<x.m:=m1;simp only[EE,aac,Nat.reduceAdd,yg,zw,zh,v8,zg,xM,uh,ui,uj,uk,um,uo,uq,ur,uu,uv,uw,ux,uy,uz,uA,g,c1,c2,m0,m1];refine zi (by kernel_rfl) rfl (Ki x _) ?_;cases hw:UD x.op with
   |false=>
    simp only[EE,xV,xW,xX];refine eZ (x:=x) (B:=xU x) hm g ?_;simp[xU,WR,VB,QC,c1,c2',hr,hm,m0,m1',hw]
   |true=>
    by_cases r4:x.r=4
    ·simp only[EE,zw,zh,wJ,xV,xW,xX,g,r4];simp[xz,xU,WR,VB,QC,hw,r4]
    ·simp only[EE,zw,zh,wJ,xV,xW,xX,g,r4];refine eZ (x:=x) (B:=xU x) hm g ?_;simp[xU,WR,VB,QC,c1,c2',hr,hm,m0,m1',hw,r4]
 |true=>
  by_cases r0:x.r<0
  ·simp only[EE,zw,zh,zg,wJ,xV,xW,xX,uh,ui,uj,uk,um,uo,uq,ur,uu,uv,uw,ux,uy,uz,uA,g,c1,c2,r0];simp[xz,xU,WR,hr,r0]
  by_cases r1:x.r>15
  ·simp only[EE,zw,zh,zg,wJ,xV,xW,xX,uh,ui,uj,uk,um,uo,uq,ur,uu,uv,uw,ux,uy,uz,uA,g,c1,c2,r0,r1];have r1':15<x.r:=r1;simp[xz,xU,WR,hr,r1']
  have r1':¬15<x.r:=r1;cases hm:bR x.op with
  |false=>
   simp only[EE,aac,Nat.reduceAdd,yg,zw,zh,v8,zg,wJ,uh,ui,uj,uk,um,uo,uq,ur,uu,uv,uw,ux,uy,uz,uA,g,c1,c2,r0,r1];refine zi (by kernel_rfl) rfl (Ki x _) ?_;cases hw:UD x.op with
   |false=>
    simp only[EE,xV,xW,xX];refine eZ (x:=x) (B:=xU x) hm g ?_;simp[xU,WR,VB,QC,c1,c2',hr,r0,r1',hm,hw]
   |true=>
    by_cases r4:x.r=4
    ·simp only[EE,zw,zh,wJ,xV,xW,xX,g,r4];simp[xz,xU,WR,VB,QC,hw,r4]
    ·simp only[EE,zw,zh,wJ,xV,xW,xX,g,r4];refine eZ (x:=x) (B:=xU x) hm g ?_;simp[xU,WR,VB,QC,c1,c2',hr,r0,r1',hm,hw,r4]
  |true=>
   by_cases m0:x.m<0
   ·simp only[EE,zw,zh,zg,wJ,xM,xV,xW,xX,uh,ui,uj,uk,um,uo,uq,ur,uu,uv,uw,ux,uy,uz,uA,g,c1,c2,r0,r1,m0];simp[xz,xU,WR,VB,hm,m0]
   by_cases m1:x.m>15
   ·simp only[EE,zw,zh,zg,wJ,xM,xV,xW,xX,uh,ui,uj,uk,um,uo,uq,ur,uu,uv,uw,ux,uy,uz,uA,g,c1,c2,r0,r1,m0,m1];have m1':15<x.m:=m1;simp[xz,xU,WR,VB,hm,m1']
   have m1':¬15<x.m:=m1;simp only[EE,aac,Nat.reduceAdd,yg,zw,zh,v8,zg,wJ,xM,uh,ui,uj,uk,um,uo,uq,ur,uu,uv,uw,ux,uy,uz,uA,g,c1,c2,r0,r1,m0,m1];refine zi (by kernel_rfl) rfl (Ki x _) ?_;cases hw:UD x.op with
   |false=>
    simp only[EE,xV,xW,xX];refine eZ (x:=x) (B:=xU x) hm g ?_;simp[xU,WR,VB,QC,c1,c2',hr,r0,r1',hm,m0,m1',hw]
   |true=>
    by_cases r4:x.r=4
    ·simp only[EE,zw,zh,wJ,xV,xW,xX,g,r4];simp[xz,xU,WR,VB,QC,hw,r4]
    ·simp only[EE,zw,zh,wJ,xV,xW,xX,g,r4];refine eZ (x:=x) (B:=xU x) hm g ?_;simp[xU,WR,VB,QC,c1,c2',hr,r0,r1',hm,m0,m1',hw,r4]
end
open Go.Rtl (inc)
open Go.Rm (Rd Rd.of Rd.at XG)
open Go.As (UF XC Zq)
def ug:List wZ->Int->Nat->Int
 |[],_,_ => -1
 |x::xs,l,n=>if x.op=20/\x.l=l then (n:Nat) else ug xs l (n+1)
theorem KS{h:za}{f:Go.As.Fn}(F:UF h f)(l:Int):vH Tryz.prog 30 [f.val,.int .i64 l] h (.int .i64 (ug f.code l 0)):=by
 apply jn rfl;replace F:=F.lock;generalize h.lock=L at F;apply Y3;intro wf;apply Cg;unfold pS;have s0:Sat (.of L) L []:=Sat.self wf.2;have RF:Rd (.of L) (UF · f):=Rd.of (yQ.qQ L) F λh' o=>F.old o;have cn:=F.code.Y0;have cc:=F.code.iI;simp only[EE,Value.cells,↓yy];refine vp s0 λb2 h2 s2=>?_;have g2:=s2.get;simp only[];have F2:=RF.at s2;have cl:=Zq F2.code 3;refine jz (λm vs h'=>∃i:Nat,i<=f.code.length/\m=f.code.length-i/\vs=[.int .i64 0,.int .i64 (i:Nat)]/\h'=h2/\ug f.code l 0=ug (f.code.drop i) l i) f.code.length ⟨0,aa5 _,rfl,rfl,rfl,rfl⟩ ?_;rintro m vs h' ⟨i,hi,rfl,rfl,rfl,he⟩;unfold nc;by_cases hc:(i:Int)<(f.code.length:Int)
 ·obtain⟨x,hx⟩:∃x,f.code[i]? = some x:=⟨_,aae (by omega)⟩
  have hd:f.code.drop i=x::f.code.drop (i+1):=by
   rw[List.drop_eq_getElem_cons (by omega)];rw[aae (by omega)]at hx;rw[acw hx]
  rw[hd]at he;obtain⟨bi,oi,ci,ti,ha,hbi,hgi,hle,htk,hki⟩:=XC F2.code (i:=i) (r:=x.row) (by rw[aaw,hx];rfl) rfl;have q0:=hki 0 (by decide);have q0:ci[oi]? = some (.int .i64 x.op):=q0;have q5:=hki 5 (by decide);have q5:ci[oi+5]? = some (.int .i64 x.l):=q5;have hin:=inc (show i<4611686018427387904 by have:=F.mQ;omega);by_cases e1:x.op=20
  ·by_cases e2:x.l=l
   ·simp only[EE,nth,↓yy,zw,zh,kO,vD,zg,vh,Kl,Km,Kn,Ko,Kp,hc,g2,cn,cl,ha,hgi,q0,q5,e1,e2];show Value.int .i64 (i:Nat)=.int .i64 (ug f.code l 0);rw[he];unfold ug;rw[aam ⟨e1,e2⟩]
   ·simp only[EE,nth,↓yy,zw,zh,kO,vD,zg,vh,Kl,Km,Kn,Ko,Kp,cJ,hc,g2,cn,cl,ha,hgi,q0,q5,e1,e2,hin];refine⟨f.code.length-(i+1),by omega,i+1,by omega,rfl,rfl,?_⟩;rw[he]
    conv=>lhs;unfold ug
    rw[aak (λq=>e2 q.2)]
  ·simp only[EE,nth,↓yy,zw,zh,kO,vD,zg,Kl,Km,Kn,Ko,Kp,cJ,hc,g2,cn,cl,ha,hgi,q0,e1,hin];refine⟨f.code.length-(i+1),by omega,i+1,by omega,rfl,rfl,?_⟩;rw[he]
   conv=>lhs;unfold ug
   rw[aak (λq=>e1 q.1)]
 ·have e:i=f.code.length:=by omega
  subst e;simp only[EE,nth,Int.reduceNeg,zw,kO,vD,hc,g2,cn,cl];show Value.int .i64 (-1)=.int .i64 (ug f.code l 0);rw[he,List.drop_length];rfl
open Go.Rtl (C2 ZX WQ U2 get_some)
open Go.As (Pg qW Up fo Z8 Qy rW)
def Xp(l:List wZ):Bool:=l.any λx => !decide (x.op=20)
def Zl(code:List wZ)(n:Nat)(x:wZ):Bool := !(decide (x.op=20) && !decide (ug code x.l 0=(n:Int))) && !(decide (x.op=18\/x.op=19)&&decide (ug code x.l 0<0))
def Z9(p:Pg)(x:wZ):Bool := !(decide (x.op=21)&&(decide (x.sub<0)||decide ((p.funcs.length:Int)<=x.sub))) && !(decide (x.op=6)&&(decide (x.sub<0)||(decide ((p.globals.length:Int)<=x.sub)||(decide (x.k<0)||decide (p.globals.getD x.sub.toNat 0<x.k)))))
def vj(p:Pg)(code:List wZ)(n:Nat)(x:wZ):Bool:=xU x&&(Zl code n x&&Z9 p x)
def MO(p:Pg)(code:List wZ)(n:Nat):Bool:=match code[n]? with
 |none=>true
 |some x=>vj p code n x
def aO(p:Pg)(code:List wZ):Bool:=(List.range code.length).all (MO p code)
def aQ(p:Pg)(f:Go.As.Fn):Bool:=aO p f.code&&(Xp f.code && !decide (100000<(f.code.length:Int)))
def Wp(p:Pg):Bool:=Go.As.u3 p&&(p.globals.all rW&&p.funcs.all (aQ p))
theorem iH{p:Pg}{code:List wZ}{n:Nat}{x:wZ}(hx:code[n]? = some x)(h:vj p code n x=false):aO p code=false:=by
 have hn:n<code.length:=by
  rcases aaA n code.length with q|q
  ·exact q
  ·rw[aao q]at hx;cases hx
 unfold aO;rw[List.all_eq_false];exact⟨n,by simpa using hn,by unfold MO;rw[hx];simp[h]⟩
theorem dK{p:Pg}{code:List wZ}(h:∀n x,n<code.length->code[n]? = some x->vj p code n x=true):aO p code=true:=by
 unfold aO;rw[aaJ];intro n hn;have hn:n<code.length:=by simpa using hn
 unfold MO;rw[aae hn];exact h n _ hn (aae hn)
section
variable {p:Pg}{f:Go.As.Fn}{lo:yQ}{H:za}{b1 b5:Nat}{R:Value->za->Prop}{J:List Value->za->Prop}
theorem C9(RP:Rd lo (qW · p))(hfm:f∈p.funcs)(s:Sat lo H [pt b5 (.cells f.row 47),pt b1 (.cells p.row 25)])(v:Value)
  (kb:aO p f.code=false->∀h,R (.bool false) h)
  (k:∀h v,aO p f.code=true->Sat lo h [pt b5 (.cells f.row 47),pt b1 (.cells p.row 25)]->J [v,.bool (Xp f.code)] h) :
  LP (Jv (.pointer (some ⟨b5,0,none⟩)) J R (.pointer (some ⟨b1,0,none⟩))) [v,.bool false,.int .i64 0] H:=by
 refine jz (λn vs h'=>∃(i:Nat) (v0:Value),i<=f.code.length/\n=f.code.length-i/\vs=[v0,.bool (Xp (f.code.take i)),.int .i64 (i:Nat)]/\(∀m x,m<i->f.code[m]? = some x->vj p f.code m x=true)/\Sat lo h' [pt b5 (.cells f.row 47),pt b1 (.cells p.row 25)]) f.code.length ⟨0,v,aa5 _,rfl,rfl,λm x hm=>by omega,s⟩ ?_;rintro n vs h' ⟨i,v0,hi,rfl,rfl,hall,s⟩;have P:=RP.at s;have F:=P.fns f hfm;have g5:=s.get;have cn:=F.code.Y0;have cc:=F.code.iI;have cl:=λh'=>Zq F.code 3 h';have gvn:=P.globals.Y0;have fvn:=P.funcs.Y0;have gl:=λh'=>Qy P.globals 3 h';have fl:=λh'=>Z8 P.funcs 3 h';unfold Jv;by_cases hc:(i:Int)<(f.code.length:Int)
 ·obtain⟨x,hx,hxm⟩:=get_some (l:=f.code) (k:=i) (by omega);obtain⟨bi,oi,ci,ti,ha,hbi,hgi,hle,htk,hki⟩:=XC F.code (i:=i) (r:=x.row) (by rw[aaw,hx];rfl) rfl;have et:f.code.take (i+1)=f.code.take i++[x]:=by rw[abT,hx];rfl
  have hsn:Xp (f.code.take (i+1))=(Xp (f.code.take i) || !decide (x.op=20)):=by rw[et];simp[Xp]
  have hin:=inc (show i<4611686018427387904 by have:=F.mQ;omega);have no:vj p f.code i x=false->∀h,R (.bool false) h:=λe=>kb (iH hx e)
  have go:vj p f.code i x=true->∀m y,m<i+1->f.code[m]? = some y->vj p f.code m y=true:=λe m y hm hy=>by
   by_cases q:m=i
   ·subst q;rw[hx]at hy;cases hy;exact e
   ·exact hall m y (by omega) hy
  simp only[EE,nth,Value.cells,↓yy,aac,yg,zw,kO,v8,oL,vD,gO,hc,g5,cn,cl,ha,hgi,hle,htk];refine vp s λb8 h2 s2=>?_;simp only[EE,Nat.reduceAdd,oI];refine xQ s2 (by simp) rfl λh3 s3=>?_;have g8:=s3.get;have g5:=(s3.p 1).get;have g1:=(s3.p 2).get;have st:=s3.drop
  have go2:vj p f.code i x=true->∀(w:Value) (sb:Bool),sb=(Xp (f.code.take i) || !decide (x.op=20))->∃m,m<f.code.length-i /\ ∃(i':Nat) (v0:Value),i'<=f.code.length/\m=f.code.length-i' /\ [w,Value.bool sb,.int .i64 ((i+1:Nat):Int)]=[v0,.bool (Xp (f.code.take i')),.int .i64 (i':Nat)]/\(∀m x,m<i'->f.code[m]? = some x->vj p f.code m x=true)/\Sat lo h3 [pt b5 (.cells f.row 47),pt b1 (.cells p.row 25)]:=λe w sb hsb=>
   ⟨f.code.length-(i+1),by omega,i+1,w,by omega,rfl,by rw[hsn,hsb],go e,st⟩
  cases hsb:Xp (f.code.take i) with
  |true=>
   rw[hsb]at go2;simp only[EE,nth,zf,aac,Nat.reduceAdd,yg,v8,zg,Jt,Ju,g8];refine zi (by kernel_rfl) rfl (E1 (x:=x)) ?_;cases hR:xU x with
   |false=>
    simp only[EE,y8];exact no (by simp[vj,hR]) _
   |true=>
    by_cases o20:x.op=20
    ·simp only[EE,zf,aac,Nat.reduceAdd,yg,zw,zh,QQ,zg,vh,xH,xI,xJ,y8,g8,g5,o20];refine zi (by kernel_rfl) (by simp only[yP];rfl) (KS ((RP.at s3).fns f hfm) x.l) ?_;by_cases e1:ug f.code x.l 0=(i:Int)
     ·simp only[EE,nth,zf,Nat.reduceAdd,Int.reduceEq,zw,zh,zg,vn,vo,wK,wL,wM,wN,wO,wP,wQ,wR,wS,wT,wU,wV,wW,wX,xA,xB,xC,xD,xE,xF,xG,yr,yu,yX,yY,yZ,y1,y4,y5,y6,y7,u7,g8,hin,o20,e1];exact go2 (by simp[vj,Zl,Z9,hR,o20,e1]) _ _ (by simp)
     ·simp only[EE,nth,yr,yu,yX,yY,yZ,y1,y4,y5,y6,y7,e1];exact no (by simp[vj,Zl,Z9,hR,o20,e1]) _
    by_cases o18:x.op=18
    ·simp only[EE,zf,aac,Nat.reduceAdd,Int.reduceEq,yg,zw,zh,QQ,zg,vh,yX,yY,yZ,y1,y4,y5,y6,y7,xH,xI,xJ,y8,g8,g5,o18];refine zi (by kernel_rfl) (by simp only[yP];rfl) (KS ((RP.at s3).fns f hfm) x.l) ?_;by_cases e1:ug f.code x.l 0<0
     ·simp only[EE,yr,yu,e1];exact no (by simp[vj,Zl,Z9,hR,o18,e1]) _
     ·simp only[EE,nth,zf,Nat.reduceAdd,Int.reduceEq,zw,zh,zg,vn,vo,wK,wL,wM,wN,wO,wP,wQ,wR,wS,wT,wU,wV,wW,wX,xA,xB,xC,xD,xE,xF,xG,yr,yu,u7,g8,hin,o18,e1];exact go2 (by simp[vj,Zl,Z9,hR,o18,e1]) _ _ (by simp)
    by_cases o19:x.op=19
    ·simp only[EE,zf,aac,Nat.reduceAdd,Int.reduceEq,yg,zw,zh,QQ,zg,vh,yX,yY,yZ,y1,y4,y5,y6,y7,xH,xI,xJ,y8,g8,g5,o19];refine zi (by kernel_rfl) (by simp only[yP];rfl) (KS ((RP.at s3).fns f hfm) x.l) ?_;by_cases e1:ug f.code x.l 0<0
     ·simp only[EE,yr,yu,e1];exact no (by simp[vj,Zl,Z9,hR,o19,e1]) _
     ·simp only[EE,nth,zf,Nat.reduceAdd,Int.reduceEq,zw,zh,zg,vn,vo,wK,wL,wM,wN,wO,wP,wQ,wR,wS,wT,wU,wV,wW,wX,xA,xB,xC,xD,xE,xF,xG,yr,yu,u7,g8,hin,o19,e1];exact go2 (by simp[vj,Zl,Z9,hR,o19,e1]) _ _ (by simp)
    by_cases o21:x.op=21
    ·by_cases e1:x.sub<0
     ·simp only[EE,zf,Nat.reduceAdd,Int.reduceEq,zw,zh,zg,zF,xA,xB,xC,xD,xE,xF,xG,yr,yu,yX,yY,yZ,y1,y4,y5,y6,y7,xH,xI,xJ,y8,g8,o21,e1];exact no (by simp[vj,Zl,Z9,hR,o21,e1]) _
     by_cases e2:x.sub ≥ (p.funcs.length:Int)
     ·simp only[EE,zf,Nat.reduceAdd,Int.reduceEq,zw,vM,zh,yM,zg,zF,xA,xB,xC,xD,xE,xF,xG,yr,yu,yX,yY,yZ,y1,y4,y5,y6,y7,xH,xI,xJ,y8,g8,g1,fvn,fl,o21,e1,e2];have e2:(p.funcs.length:Int)<=x.sub:=e2;exact no (by simp[vj,Zl,Z9,hR,o21,e2]) _
     simp only[EE,nth,zf,Nat.reduceAdd,Int.reduceEq,zw,vM,zh,yM,zg,zF,vn,vo,wK,wL,wM,wN,wO,wP,wQ,wR,wS,wT,wU,wV,wW,wX,xA,xB,xC,xD,xE,xF,xG,yr,yu,yX,yY,yZ,y1,y4,y5,y6,y7,xH,xI,xJ,y8,u7,g8,g1,fvn,fl,hin,o21,e1,e2];have e2:¬(p.funcs.length:Int)<=x.sub:=e2;exact go2 (by simp[vj,Zl,Z9,hR,o21,e1,e2]) _ _ (by simp)
    by_cases o6:x.op=6
    ·by_cases e1:x.sub<0
     ·simp only[EE,zf,Nat.reduceAdd,Int.reduceEq,zw,zh,zg,zF,vn,vo,wK,wL,wM,wN,wO,wP,wQ,wR,wS,wT,wU,wV,wW,wX,xA,xB,xC,xD,xE,xF,xG,yr,yu,yX,yY,yZ,y1,y4,y5,y6,y7,xH,xI,xJ,y8,g8,o6,e1];exact no (by simp[vj,Zl,Z9,hR,o6,e1]) _
     by_cases e2:x.sub ≥ (p.globals.length:Int)
     ·simp only[EE,zf,Nat.reduceAdd,Int.reduceEq,zw,u5,zh,wI,zg,zF,vn,vo,wK,wL,wM,wN,wO,wP,wQ,wR,wS,wT,wU,wV,wW,wX,xA,xB,xC,xD,xE,xF,xG,yr,yu,yX,yY,yZ,y1,y4,y5,y6,y7,xH,xI,xJ,y8,g8,g1,gvn,gl,o6,e1,e2];have e2:(p.globals.length:Int)<=x.sub:=e2;exact no (by simp[vj,Zl,Z9,hR,o6,e2]) _
     by_cases e3:x.k<0
     ·simp only[EE,zf,Nat.reduceAdd,Int.reduceEq,zw,yR,u5,zh,wI,zg,zF,zV,vn,vo,wK,wL,wM,wN,wO,wP,wQ,wR,wS,wT,wU,wV,wW,wX,xA,xB,xC,xD,xE,xF,xG,yr,yu,yX,yY,yZ,y1,y4,y5,y6,y7,xH,xI,xJ,y8,g8,g1,gvn,gl,o6,e1,e2,e3];exact no (by simp[vj,Zl,Z9,hR,o6,e3]) _
     obtain⟨z,hz,hzm⟩:=get_some (l:=p.globals) (k:=x.sub.toNat) (by omega);obtain⟨bz,oz,cz,tz,haz,hbz,hgz,hatz⟩:=fo (RP.at s3).globals hz;rw[Int.toNat_of_nonneg (by omega)]at haz;have hd:p.globals.getD x.sub.toNat 0=z:=by rw[aaR,hz];rfl
     by_cases e4:x.k>z
     ·simp only[EE,zf,Nat.reduceAdd,Int.reduceEq,zw,yR,u5,zh,wI,zg,zF,zV,vn,vo,wK,wL,wM,wN,wO,wP,wQ,wR,wS,wT,wU,wV,wW,wX,xA,xB,xC,xD,xE,xF,xG,yr,yu,yX,yY,yZ,y1,y4,y5,y6,y7,xH,xI,xJ,y8,g8,g1,gvn,gl,o6,e1,e2,e3,haz,hgz,hatz,e4];have e4:z<x.k:=e4;exact no (by simp only[vj,Zl,Z9,hd];simp[hR,o6,e4]) _
     simp only[EE,nth,zf,Nat.reduceAdd,Int.reduceEq,zw,yR,u5,zh,wI,zg,zF,zV,vn,vo,wK,wL,wM,wN,wO,wP,wQ,wR,wS,wT,wU,wV,wW,wX,xA,xB,xC,xD,xE,xF,xG,yr,yu,yX,yY,yZ,y1,y4,y5,y6,y7,xH,xI,xJ,y8,u7,g8,g1,gvn,gl,hin,o6,e1,e2,e3,haz,hgz,hatz,e4];have e4:¬z<x.k:=e4;have e2:¬(p.globals.length:Int)<=x.sub:=e2;exact go2 (by simp only[vj,Zl,Z9,hd];simp[hR,o6,e1,e2,e3,e4]) _ _ (by simp)
    simp only[EE,nth,zf,Nat.reduceAdd,zw,zh,zg,vn,vo,wK,wL,wM,wN,wO,wP,wQ,wR,wS,wT,wU,wV,wW,wX,xA,xB,xC,xD,xE,xF,xG,yr,yu,yX,yY,yZ,y1,y4,y5,y6,y7,xH,xI,xJ,y8,u7,g8,hin,o20,o18,o19,o21,o6];exact go2 (by simp[vj,Zl,Z9,hR,o20,o18,o19,o21,o6]) _ _ (by simp)
  |false=>
   rw[hsb]at go2;simp only[EE,nth,zf,aac,Nat.reduceAdd,yg,zw,zh,v8,zg,Jt,Ju,g8];refine zi (by kernel_rfl) rfl (E1 (x:=x)) ?_;cases hR:xU x with
   |false=>
    simp only[EE,y8];exact no (by simp[vj,hR]) _
   |true=>
    by_cases o20:x.op=20
    ·simp only[EE,zf,aac,Nat.reduceAdd,yg,zw,zh,QQ,zg,vh,xH,xI,xJ,y8,g8,g5,o20];refine zi (by kernel_rfl) (by simp only[yP];rfl) (KS ((RP.at s3).fns f hfm) x.l) ?_;by_cases e1:ug f.code x.l 0=(i:Int)
     ·simp only[EE,nth,zf,Nat.reduceAdd,Int.reduceEq,zw,zh,zg,vn,vo,wK,wL,wM,wN,wO,wP,wQ,wR,wS,wT,wU,wV,wW,wX,xA,xB,xC,xD,xE,xF,xG,yr,yu,yX,yY,yZ,y1,y4,y5,y6,y7,u7,g8,hin,o20,e1];exact go2 (by simp[vj,Zl,Z9,hR,o20,e1]) _ _ (by simp[o20])
     ·simp only[EE,nth,yr,yu,yX,yY,yZ,y1,y4,y5,y6,y7,e1];exact no (by simp[vj,Zl,Z9,hR,o20,e1]) _
    by_cases o18:x.op=18
    ·simp only[EE,zf,aac,Nat.reduceAdd,Int.reduceEq,yg,zw,zh,QQ,zg,vh,yX,yY,yZ,y1,y4,y5,y6,y7,xH,xI,xJ,y8,g8,g5,o18];refine zi (by kernel_rfl) (by simp only[yP];rfl) (KS ((RP.at s3).fns f hfm) x.l) ?_;by_cases e1:ug f.code x.l 0<0
     ·simp only[EE,yr,yu,e1];exact no (by simp[vj,Zl,Z9,hR,o18,e1]) _
     ·simp only[EE,nth,zf,Nat.reduceAdd,Int.reduceEq,zw,zh,zg,vn,vo,wK,wL,wM,wN,wO,wP,wQ,wR,wS,wT,wU,wV,wW,wX,xA,xB,xC,xD,xE,xF,xG,yr,yu,u7,g8,hin,o18,e1];exact go2 (by simp[vj,Zl,Z9,hR,o18,e1]) _ _ (by simp[o18])
    by_cases o19:x.op=19
    ·simp only[EE,zf,aac,Nat.reduceAdd,Int.reduceEq,yg,zw,zh,QQ,zg,vh,yX,yY,yZ,y1,y4,y5,y6,y7,xH,xI,xJ,y8,g8,g5,o19];refine zi (by kernel_rfl) (by simp only[yP];rfl) (KS ((RP.at s3).fns f hfm) x.l) ?_;by_cases e1:ug f.code x.l 0<0
     ·simp only[EE,yr,yu,e1];exact no (by simp[vj,Zl,Z9,hR,o19,e1]) _
     ·simp only[EE,nth,zf,Nat.reduceAdd,Int.reduceEq,zw,zh,zg,vn,vo,wK,wL,wM,wN,wO,wP,wQ,wR,wS,wT,wU,wV,wW,wX,xA,xB,xC,xD,xE,xF,xG,yr,yu,u7,g8,hin,o19,e1];exact go2 (by simp[vj,Zl,Z9,hR,o19,e1]) _ _ (by simp[o19])
    by_cases o21:x.op=21
    ·by_cases e1:x.sub<0
     ·simp only[EE,zf,Nat.reduceAdd,Int.reduceEq,zw,zh,zg,zF,xA,xB,xC,xD,xE,xF,xG,yr,yu,yX,yY,yZ,y1,y4,y5,y6,y7,xH,xI,xJ,y8,g8,o21,e1];exact no (by simp[vj,Zl,Z9,hR,o21,e1]) _
     by_cases e2:x.sub ≥ (p.funcs.length:Int)
     ·simp only[EE,zf,Nat.reduceAdd,Int.reduceEq,zw,vM,zh,yM,zg,zF,xA,xB,xC,xD,xE,xF,xG,yr,yu,yX,yY,yZ,y1,y4,y5,y6,y7,xH,xI,xJ,y8,g8,g1,fvn,fl,o21,e1,e2];have e2:(p.funcs.length:Int)<=x.sub:=e2;exact no (by simp[vj,Zl,Z9,hR,o21,e2]) _
     simp only[EE,nth,zf,Nat.reduceAdd,Int.reduceEq,zw,vM,zh,yM,zg,zF,vn,vo,wK,wL,wM,wN,wO,wP,wQ,wR,wS,wT,wU,wV,wW,wX,xA,xB,xC,xD,xE,xF,xG,yr,yu,yX,yY,yZ,y1,y4,y5,y6,y7,xH,xI,xJ,y8,u7,g8,g1,fvn,fl,hin,o21,e1,e2];have e2:¬(p.funcs.length:Int)<=x.sub:=e2;exact go2 (by simp[vj,Zl,Z9,hR,o21,e1,e2]) _ _ (by simp[o21])
    by_cases o6:x.op=6
    ·by_cases e1:x.sub<0
     ·simp only[EE,zf,Nat.reduceAdd,Int.reduceEq,zw,zh,zg,zF,vn,vo,wK,wL,wM,wN,wO,wP,wQ,wR,wS,wT,wU,wV,wW,wX,xA,xB,xC,xD,xE,xF,xG,yr,yu,yX,yY,yZ,y1,y4,y5,y6,y7,xH,xI,xJ,y8,g8,o6,e1];exact no (by simp[vj,Zl,Z9,hR,o6,e1]) _
     by_cases e2:x.sub ≥ (p.globals.length:Int)
     ·simp only[EE,zf,Nat.reduceAdd,Int.reduceEq,zw,u5,zh,wI,zg,zF,vn,vo,wK,wL,wM,wN,wO,wP,wQ,wR,wS,wT,wU,wV,wW,wX,xA,xB,xC,xD,xE,xF,xG,yr,yu,yX,yY,yZ,y1,y4,y5,y6,y7,xH,xI,xJ,y8,g8,g1,gvn,gl,o6,e1,e2];have e2:(p.globals.length:Int)<=x.sub:=e2;exact no (by simp[vj,Zl,Z9,hR,o6,e2]) _
     by_cases e3:x.k<0
     ·simp only[EE,zf,Nat.reduceAdd,Int.reduceEq,zw,yR,u5,zh,wI,zg,zF,zV,vn,vo,wK,wL,wM,wN,wO,wP,wQ,wR,wS,wT,wU,wV,wW,wX,xA,xB,xC,xD,xE,xF,xG,yr,yu,yX,yY,yZ,y1,y4,y5,y6,y7,xH,xI,xJ,y8,g8,g1,gvn,gl,o6,e1,e2,e3];exact no (by simp[vj,Zl,Z9,hR,o6,e3]) _
     obtain⟨z,hz,hzm⟩:=get_some (l:=p.globals) (k:=x.sub.toNat) (by omega);obtain⟨bz,oz,cz,tz,haz,hbz,hgz,hatz⟩:=fo (RP.at s3).globals hz;rw[Int.toNat_of_nonneg (by omega)]at haz;have hd:p.globals.getD x.sub.toNat 0=z:=by rw[aaR,hz];rfl
     by_cases e4:x.k>z
     ·simp only[EE,zf,Nat.reduceAdd,Int.reduceEq,zw,yR,u5,zh,wI,zg,zF,zV,vn,vo,wK,wL,wM,wN,wO,wP,wQ,wR,wS,wT,wU,wV,wW,wX,xA,xB,xC,xD,xE,xF,xG,yr,yu,yX,yY,yZ,y1,y4,y5,y6,y7,xH,xI,xJ,y8,g8,g1,gvn,gl,o6,e1,e2,e3,haz,hgz,hatz,e4];have e4:z<x.k:=e4;exact no (by simp only[vj,Zl,Z9,hd];simp[hR,o6,e4]) _
     simp only[EE,nth,zf,Nat.reduceAdd,Int.reduceEq,zw,yR,u5,zh,wI,zg,zF,zV,vn,vo,wK,wL,wM,wN,wO,wP,wQ,wR,wS,wT,wU,wV,wW,wX,xA,xB,xC,xD,xE,xF,xG,yr,yu,yX,yY,yZ,y1,y4,y5,y6,y7,xH,xI,xJ,y8,u7,g8,g1,gvn,gl,hin,o6,e1,e2,e3,haz,hgz,hatz,e4];have e4:¬z<x.k:=e4;have e2:¬(p.globals.length:Int)<=x.sub:=e2;exact go2 (by simp only[vj,Zl,Z9,hd];simp[hR,o6,e1,e2,e3,e4]) _ _ (by simp[o6])
    simp only[EE,nth,zf,Nat.reduceAdd,zw,zh,zg,vn,vo,wK,wL,wM,wN,wO,wP,wQ,wR,wS,wT,wU,wV,wW,wX,xA,xB,xC,xD,xE,xF,xG,yr,yu,yX,yY,yZ,y1,y4,y5,y6,y7,xH,xI,xJ,y8,u7,g8,hin,o20,o18,o19,o21,o6];exact go2 (by simp[vj,Zl,Z9,hR,o20,o18,o19,o21,o6]) _ _ (by simp[o20])
 ·have e:i=f.code.length:=by omega
  subst e;rw[abX];simp only[EE,nth,zw,kO,vD,hc,g5,cn,cl];exact k h' v0 (dK λn x hn hx=>hall n x hn hx) s
end
end Go.Ar
