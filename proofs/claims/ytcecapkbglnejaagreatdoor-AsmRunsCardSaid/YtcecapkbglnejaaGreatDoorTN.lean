import Derived.Test.YtcecapkbglnejaaGreatDoorTM
set_option linter.unusedVariables false
set_option linter.unusedSimpArgs false
set_option linter.unusedSectionVars false
set_option maxRecDepth 100000
namespace Go.An
open Go.Ai Go.Proofs Go.Mem Go.Rm Go.Dm
open Go.As (xY Fn Pg St Fr zj xt xV vj yH wS zY ye yb qF kK yK Yh zi Zs kH)
structure RH (c:Fr):Prop where
 KC:vn c.KC
 qX:0<=c.qX
structure XB (S:St):Prop where
 hv:∀v,v∈S.jb->vn v
 a:vn S.a
 b:vn S.b
 mem:i7 S.mem
 fr:∀c,c∈S.calls->RH c
theorem zh3{o:Option V}(h:∀v,o=some v->vn v):vn (o.getD v0):=by
 cases o with
 |none=>exact pB
 |some v=>exact h v rfl
theorem zbs(M:MM)(n:Int):0<=(yJ M n).2.1:=by
 unfold yJ
 repeat' split
 all_goals simp
 all_goals omega
section
variable {S:St}{c:Fr}{i:xY}{p:Pg}{lim:Int}{world:List Int}
theorem XB.get(x:XB S)(r:Int):vn (zj S r):=zfs x.hv r
theorem XB.set(x:XB S){v:V}(r:Int)(hv:vn v):XB (xt S r v):=⟨λw hw=>by
 rcases ab6 hw with q|rfl
 ·exact x.hv w q
 ·exact hv,x.a,x.b,x.mem,x.fr⟩
theorem XB.res(x:XB S){o:Option V}(r:Int)(h:∀v,o=some v->vn v):XB (xV S r o).1:=x.set r (zh3 h)
theorem XB.top(x:XB S)(h:RH c):XB (vj S c):=⟨x.hv,x.a,x.b,x.mem,λd hd=>by
 rcases aa2.1 hd with q|q
 ·exact x.fr d (List.dropLast_subset _ q)
 ·simp only[abp]at q;subst q;exact h⟩
theorem XB.mX(x:XB S)(k a b:Int):XB (yH S k a b):=⟨x.hv,x.a,x.b,x.mem,x.fr⟩
theorem XB.grow(x:XB S)(n:Int):XB (zY lim S n).1:=by
 unfold zY;split <;> exact⟨x.hv,x.a,x.b,x.mem,x.fr⟩
theorem XB.enter(x:XB S)(f:Nat):XB (ye lim S f):=by
 unfold ye;have g:=x.grow (lim:=lim) 8;split
 ·exact⟨g.hv,g.a,g.b,g.mem,λd hd=>by
   rcases aa2.1 hd with q|q
   ·exact g.fr d q
   ·simp only[abp]at q;subst q;exact⟨pB,acu 0⟩⟩
 ·exact g
theorem XB.access(x:XB S)(i:xY):XB (yb S i).1:=by
 unfold yb;split
 ·exact x
 split
 ·split
  ·split
   ·exact x.mX _ _ _
   ·rename_i M hM;exact⟨x.hv,x.a,x.b,LZ x.mem (x.get _) hM,x.fr⟩
  ·exact(x.mX _ _ _).res _ λv h=>P5 x.mem h
 ·exact x
theorem XB.div(x:XB S){m:V}(hm:vn m):XB (qF S m).1:=by
 unfold qF;have l:=x.mX 3 (zj S 0).n m.n;split
 ·split
  ·have r1:=l.res (o:=zH 14 (zj S 0) m) 0 λv h=>Ms (x.get _) hm h;split
   ·exact r1.res 2 λv h=>Ms (x.get _) hm h
   ·exact r1
  ·exact l
 ·exact x
theorem XB.drop(x:XB S):∀c,c∈S.calls.dropLast->RH c:=λc hc=>x.fr c (List.dropLast_subset _ hc)
theorem XB.ret(x:XB S)(c:Fr):XB (kK S c).1:=by
 unfold kK
 repeat' split
 ·exact x
 ·exact⟨x.hv,x.a,x.b,x.mem,x.drop⟩
 ·exact⟨x.hv,x.a,x.b,x.mem,λd hd=>by cases hd⟩
 ·exact⟨x.hv,x.a,x.b,x.mem,λd hd=>by cases hd⟩
theorem XB.frame(x:XB S)(h:RH c)(i:xY):XB (yK lim S c i).1:=by
 unfold yK;split
 ·split
  ·exact x
  ·refine XB.top ?_ ⟨h.KC,acu 0⟩;refine XB.set ?_ 4 h.KC;exact⟨x.hv,x.a,x.b,P4 x.mem,x.fr⟩
 split
 ·exact x
 have g:=x.grow (lim:=lim) i.k;split
 ·refine XB.top ?_ ⟨x.get 4,zbs _ _⟩;refine XB.set ?_ 4 (Ip XY);exact⟨g.hv,g.a,g.b,Bd _ x.mem,g.fr⟩
 ·exact g
theorem zcD{v:V}(h:vn v):vn (Zs v):=Q1 (ER h.1 _)
theorem zfk(hk:wH i.k)(hw:∀z,z∈world->wH z)(x:XB S)(h:RH c):XB (zi p lim world S c i).1:=by
 have gk:vn (wB i.k):=Q1 hk;have bn:∀{op:Int} {a b:V} (r:Int),vn a->vn b->XB (xV S r (zH op a b)).1:=λr ha hb=>x.res r λv e=>Ms ha hb e;unfold zi;by_cases q0:i.op=1
 ·rw[aai q0];exact x.set _ (x.get _)
 rw[aae q0];by_cases q1:i.op=2
 ·rw[aai q1];exact x.set _ gk
 rw[aae q1];by_cases q2:i.op=3\/i.op=4
 ·rw[aai q2];exact x.access i
 rw[aae q2];by_cases q3:i.op=5
 ·rw[aai q3];exact bn _ (x.get _) gk
 rw[aae q3];by_cases q4:i.op=6
 ·rw[aai q4];exact x.set _ (Ip hk)
 rw[aae q4];by_cases q5:i.op=7
 ·rw[aai q5];exact bn _ (x.get _) (x.get _)
 rw[aae q5];by_cases q6:i.op=8\/i.op=11
 ·rw[aai q6];exact bn _ (x.get _) gk
 rw[aae q6];by_cases q7:i.op=9
 ·rw[aai q7];exact x.res _ λv e=>zdI e
 rw[aae q7];by_cases q8:i.op=10
 ·rw[aai q8];exact x.res _ λv e=>zdI e
 rw[aae q8];by_cases q9:i.op=12
 ·rw[aai q9];split
  ·exact bn _ (x.get _) (Q1 (AW _))
  ·exact x
 rw[aae q9];by_cases q10:i.op=13
 ·rw[aai q10];exact x.set _ (zcD (x.get _))
 rw[aae q10];by_cases q11:i.op=14
 ·rw[aai q11];exact x.div (x.get _)
 rw[aae q11];by_cases q12:i.op=15
 ·rw[aai q12];exact⟨x.hv,x.get _,x.get _,x.mem,x.fr⟩
 rw[aae q12];by_cases q13:i.op=16
 ·rw[aai q13];exact⟨x.hv,x.get _,gk,x.mem,x.fr⟩
 rw[aae q13];by_cases q14:i.op=17
 ·rw[aai q14];split
  ·exact bn _ x.a x.b
  ·exact x
 rw[aae q14];by_cases q15:i.op=18
 ·rw[aai q15];exact x.top ⟨h.KC,h.qX⟩
 rw[aae q15];by_cases q16:i.op=19
 ·rw[aai q16];unfold Yh;split
  ·exact x
  split
  ·split
   ·exact x.mX _ _ _
   ·exact(x.mX _ _ _).top ⟨h.KC,h.qX⟩
  ·exact x
 rw[aae q16];by_cases q17:i.op=21
 ·rw[aai q17];exact(XB.mX (S:={S with flags:=false}) ⟨x.hv,x.a,x.b,x.mem,x.fr⟩ _ _ _).enter _
 rw[aae q17];by_cases q18:i.op=22
 ·rw[aai q18];exact x.ret c
 rw[aae q18];by_cases q19:i.op=23\/i.op=24
 ·rw[aai q19];exact x.frame h i
 rw[aae q19];by_cases q20:i.op=25
 ·rw[aai q20];refine XB.set (S:={wS S 1 (qj world S.used) with used:=S.used+1}) ⟨x.hv,x.a,x.b,x.mem,x.fr⟩ 0 ?_;refine Q1 ?_;unfold qj;split
  ·exact XY
  ·rw[aaF];cases e:world[S.used.toNat]? with
   |none=>exact XY
   |some z=>exact hw z (aaA e)
 rw[aae q20];by_cases q21:i.op=26
 ·rw[aai q21];split
  ·exact⟨x.hv,x.a,x.b,x.mem,x.fr⟩
  ·exact x
 rw[aae q21];exact x
theorem XB.kH{r:St×Bool}(x:XB r.1):XB (kH r):=by
 unfold Go.As.kH;split
 ·exact x
 ·exact⟨x.hv,x.a,x.b,x.mem,x.fr⟩
theorem XB.kind(x:XB S)(k:Int):XB {S with kind:=k}:=⟨x.hv,x.a,x.b,x.mem,x.fr⟩
theorem XB.stp(x:XB S)(k:Int):XB {S with steps:=k}:=⟨x.hv,x.a,x.b,x.mem,x.fr⟩
end
open Go.Rtl (zl zE Old yB xr inc wD yM)
open Go.As (wR WB OQ yX Z4)
section
variable {lo:yE}{h:za}{L:List HP}{b mb:Nat}{p:Pg}{S:St}{ev lk wv gl cl:aaa}{lim:Int}{fr:Bool}
theorem T1(s:Sat lo h (w7 80 3 lk (S.lk.map vQ)::L))(hb:(S.lk.length+1)*24<=2^47)(k_ a c:Int):∃b' c' h2,(∀r,zP pu .append [31,31] r [lk,.slice (some ⟨h.next,0,none⟩) 1 3] (h.push (.cells [pm k_,pm a,pm c] 80))=some (.slice (some ⟨b',0,none⟩) (S.lk.length+1) c',h2))/\Sat lo h2 (w7 80 3 (.slice (some ⟨b',0,none⟩) (S.lk.length+1) c') ((yH S k_ a c).lk.map vQ)::L):=by
 have s1:=s.push (.cells [pm k_,pm a,pm c] 80);obtain⟨b',c',h2,a1,s2⟩:=YD (s1.p 1) (uF (f:=vQ) (λ_=>rfl) _) [pm k_,pm a,pm c] rfl (by decide) 24 (by rw[aav];exact hb);rw[aav]at a1 s2;refine⟨b',c',h2,λr=>?_,?_⟩
 ·rw[Go.Ai.zcU r _ _ 1 [pm k_,pm a,pm c] _ rfl (by simp only[vW,zv];rfl) rfl rfl];exact a1
 ·have e1:((yH S k_ a c).lk.map vQ)=S.lk.map vQ++[[pm k_,pm a,pm c]]:=by simp[yH,vQ]
  rw[e1];exact(s2.p 1).drop
theorem Dp(s:Sat lo h (w7 85 2 ev (S.ev.map qG)::L))(hb:(S.ev.length+1)*16<=2^47)(k_ a:Int):∃b' c' h2,(∀r,zP pu .append [30,30] r [ev,.slice (some ⟨h.next,0,none⟩) 1 3] (h.push (.cells [pm k_,pm a] 85))=some (.slice (some ⟨b',0,none⟩) (S.ev.length+1) c',h2))/\Sat lo h2 (w7 85 2 (.slice (some ⟨b',0,none⟩) (S.ev.length+1) c') ((wS S k_ a).ev.map qG)::L):=by
 have s1:=s.push (.cells [pm k_,pm a] 85);obtain⟨b',c',h2,a1,s2⟩:=YD (s1.p 1) (uF (f:=qG) (λ_=>rfl) _) [pm k_,pm a] rfl (by decide) 16 (by rw[aav];exact hb);rw[aav]at a1 s2;refine⟨b',c',h2,λr=>?_,?_⟩
 ·rw[Go.Ai.zcT r _ _ 1 [pm k_,pm a] _ rfl (by simp only[vW,zv];rfl) rfl rfl];exact a1
 ·have e1:((wS S k_ a).ev.map qG)=S.ev.map qG++[[pm k_,pm a]]:=by simp[wS,qG]
  rw[e1];exact(s2.p 1).drop
theorem EW(s:Sat lo h (pt b (Zv p mb S ev lk wv gl cl lim fr)::w7 80 3 lk (S.lk.map vQ)::L))(hb:(S.lk.length+1)*24<=2^47)(k_ a c:Int) :
  DC pu 48 [xG b,pm k_,pm a,pm c] h (λ_ h'=>∃lk',Sat lo h' (pt b (Zv p mb (yH S k_ a c) ev lk' wv gl cl lim fr)::w7 80 3 lk' ((yH S k_ a c).lk.map vQ)::L)):=by
 apply oh;unfold tV xG;have gm:=s.get;unfold Zv at gm;have n0:=wL (s.p 1);obtain⟨b',c',h2,ha,s2⟩:=T1 (s.p 1) hb k_ a c;simp only[EE,Nat.reduceAdd,zo,GQ,zcW,pW,Dh,mI,jS,gm,zhO,n0,ha];refine z9 (s2.p 1) (by simp[vE]) rfl λh3 s3=>?_;rw[zhQ]at s3;simp only[KD];exact⟨_,s3⟩
theorem TW(s:Sat lo h (pt b (Zv p mb S ev lk wv gl cl lim fr)::L))(hs:OQ lim S){n:Int}(n0:0<=n)(n1:n<4294967296) :
  DC pu 41 [xG b,pm n] h (λv h'=>v=.bool (zY lim S n).2/\Sat lo h' (pt b (Zv p mb (zY lim S n).1 ev lk wv gl cl lim fr)::L)):=by
 apply oc;unfold tT xG;have gm:=s.get;unfold Zv at gm;obtain⟨l0,l1,q0,q1⟩:=hs;have w1:IntKind.wrap .i64 (lim-S.stack)=lim-S.stack:=Go.Mem.vF (by omega) (by omega);by_cases hc:n>lim-S.stack
 ·simp only[EE,zo,kx,Jw,Hy,jS,cY,gm,Dy,zdk,w1,hc];refine z9 s (by simp[vE]) rfl λh3 s3=>?_;rw[zaj]at s3;simp only[EE];have e:zY lim S n=({S with kind:=4},false):=by unfold zY;rw[aai hc]
  rw[e];exact⟨rfl,s3⟩
 ·have w2:IntKind.wrap .i64 (S.stack+n)=S.stack+n:=Go.Mem.vF (by omega) (by omega);have e:zY lim S n=({S with stack:=S.stack+n,jU:=max S.jU (S.stack+n)},true):=by unfold zY;rw[aae hc]
  rw[e];simp only[EE,zo,Jw,Hy,Gu,gm,Dy,zdk,w1,w2,hc];refine z9 s (by simp[vE]) rfl λh3 s3=>?_;rw[zal]at s3;have g3:=s3.get;unfold Zv at g3;by_cases hp:S.stack+n>S.jU
  ·simp only[EE,zo,Jw,AH,cZ,g3,Dy,zae,hp];refine z9 s3 (by simp[vE]) rfl λh4 s4=>?_;rw[zgS]at s4;simp only[EE];rw[show max S.jU (S.stack+n)=S.stack+n by omega];exact s4
  ·simp only[EE,zo,Jw,AH,g3,Dy,zae,hp];rw[show max S.jU (S.stack+n)=S.jU by omega];exact s3
theorem NO(s:Sat lo h (pt b (Zv p mb S ev lk wv gl cl lim fr)::w7 77 7 cl (S.calls.map yX)::L))(hs:OQ lim S)(hc:(S.calls.length+1)*56<=2^47)(f:Nat) :
  DC pu 26 [xG b,pm (f:Nat)] h (λv h'=>v=.bool (zY lim S 8).2/\if (zY lim S 8).2=true then ∃cl',Sat lo h' (pt b (Zv p mb {ye lim S f with flags:=false} ev lk wv gl cl' lim fr)::w7 77 7 cl' ((ye lim S f).calls.map yX)::L)
   else Sat lo h' (pt b (Zv p mb (zY lim S 8).1 ev lk wv gl cl lim fr)::w7 77 7 cl (S.calls.map yX)::L)):=by
 apply iM;unfold lT xG;refine dM (TW s hs (n:=8) (by decide) (by decide)) ?_;rintro v h2 ⟨rfl,s2⟩;have en:(zY lim S 8).1.calls=S.calls:=by unfold zY;split <;> rfl
 cases hg:(zY lim S 8).2 with
 |false=>
  simp only[EE];exact s2
 |true=>
  have e:ye lim S f = { (zY lim S 8).1 with calls:=S.calls++[⟨f,0,0,0,v0⟩]}:=by unfold ye;rw[hg,aai rfl,en]
  have gm:=s2.get;unfold Zv at gm;have n0:=wL (s2.p 1);have s3:=s2.push (.cells (yX ⟨f,0,0,0,v0⟩) 77);obtain⟨b',c',h4,a1,s4⟩:=YD (s3.p 2) (Z4 _) (yX ⟨f,0,0,0,v0⟩) rfl (by decide) 56 (by rw[aav];exact hc);rw[aav]at a1 s4
  have ha:∀r,zP pu .append [66,66] r [cl,.slice (some ⟨h2.next,0,none⟩) 1 3] (h2.push (.cells [pm (f:Nat),pm 0,pm 0,pm 0,pm 0,pm 0,pm 0] 77))=some (.slice (some ⟨b',0,none⟩) (S.calls.length+1) c',h4):=λr=>by
   rw[zf3 r _ _ 1 (yX ⟨f,0,0,0,v0⟩) _ rfl (by simp only[vW,zv];rfl) rfl rfl];exact a1
  simp only[EE,zo,Ad,zcX,zbz,PB,aE,K5,gm,A9,n0,ha];refine z9 (s4.p 2) (by simp[vE]) rfl λh5 s5=>?_;rw[zdo]at s5;simp only[EE,Es,Km];refine z9 s5 (by simp[vE]) rfl λh6 s6=>?_;rw[Oe]at s6;simp only[EE];refine⟨.slice (some ⟨b',0,none⟩) (S.calls.length+1) c',?_⟩;have e1:(ye lim S f).calls.map yX=S.calls.map yX++[yX ⟨f,0,0,0,v0⟩]:=by rw[e];simp
  rw[e1,e];exact(s6.p 2).drop
end
open Go.As (rH JZ)
def bS(p:Pg)(b mb nn:Nat)(wv gl:aaa)(lim:Int)(fr:Bool)(S:St)(ev lk cl:aaa):List HP :=
 [pt b (Zv p mb S ev lk wv gl cl lim fr),w7 80 3 lk (S.lk.map vQ),w7 85 2 ev (S.ev.map qG),w7 77 7 cl (S.calls.map yX),VA mb S.mem nn]
def BT(lo:yE)(p:Pg)(b mb nn:Nat)(wv gl:aaa)(lim:Int)(fr:Bool)(S:St)(h:za):Prop := ∃ev lk cl,Sat lo h (bS p b mb nn wv gl lim fr S ev lk cl)
structure zhv (ok:Bool) (S':St) (r:St×Bool):Prop where
 kind:(if ok=false/\S'.kind=0 then 3 else S'.kind)=(kH r).kind
 exit:S'.exit=r.1.exit
 ev:S'.ev=r.1.ev
 lk:S'.lk=r.1.lk
 steps:S'.steps=r.1.steps
 jU:S'.jU=r.1.jU
def rn(lo:yE)(p:Pg)(b mb:Nat)(wv gl:aaa)(lim:Int)(fr:Bool)(S':St)(h:za):Prop := ∃ev lk cl,Sat lo h [pt b (Zv p mb S' ev lk wv gl cl lim fr),w7 80 3 lk (S'.lk.map vQ),w7 85 2 ev (S'.ev.map qG)]
def Zw(lo:yE)(p:Pg)(b mb nn:Nat)(wv gl:aaa)(lim:Int)(fr:Bool)(r:St×Bool)(v:aaa)(h':za):Prop := ∃ok,v=.bool ok/\if r.2=true/\r.1.kind=0 then ok=true/\BT lo p b mb nn wv gl lim fr r.1 h'
 else ∃S',rn lo p b mb wv gl lim fr S' h'/\zhv ok S' r
section
variable {lo:yE}{h:za}{L:List HP}{b mb nn:Nat}{p:Pg}{S:St}{ev lk wv gl cl:aaa}{lim:Int}{fr:Bool}{i:xY}{r:St×Bool}{mv:V}
theorem BT.fin(x:BT lo p b mb nn wv gl lim fr S h):rn lo p b mb wv gl lim fr S h:=by
 obtain⟨ev,lk,cl,s⟩:=x;exact⟨ev,lk,cl,s.k [0,1,2]⟩
theorem BT.up(x:BT lo p b mb nn wv gl lim fr S h):BT lo p b mb (nn+1) wv gl lim fr S h:=by
 obtain⟨ev,lk,cl,s⟩:=x;exact⟨ev,lk,cl,(ED (s.p 4) (abC _)).f [1,2,3,4,0]⟩
theorem kR(e:r.2=true)(x:BT lo p b mb nn wv gl lim fr r.1 h):Zw lo p b mb nn wv gl lim fr r (.bool true) h:=by
 refine⟨true,rfl,?_⟩;by_cases k:r.1.kind=0
 ·rw[aai ⟨e,k⟩];exact⟨rfl,x⟩
 ·rw[aae (λq=>k q.2)];refine⟨r.1,x.fin,?_,rfl,rfl,rfl,rfl,rfl⟩;unfold kH;rw[aae (λq=>by cases q.1),aai e]
theorem Z8{S':St}(e:r.2=false)(x:rn lo p b mb wv gl lim fr S' h)(k:S'.kind=0)(e1:S'.exit=r.1.exit)(e2:S'.ev=r.1.ev)(e3:S'.lk=r.1.lk)(e4:S'.steps=r.1.steps)(e5:S'.jU=r.1.jU):Zw lo p b mb nn wv gl lim fr r (.bool false) h:=by
 refine⟨false,rfl,?_⟩;rw[aae (λq=>by rw[e]at q;cases q.1)];refine⟨S',x,?_,e1,e2,e3,e4,e5⟩;unfold kH;rw[aai ⟨rfl,k⟩,aae (by rw[e];simp)]
theorem zaN(e:r.2=true)(k:r.1.kind≠0)(x:rn lo p b mb wv gl lim fr r.1 h):Zw lo p b mb nn wv gl lim fr r (.bool false) h:=by
 refine⟨false,rfl,?_⟩;rw[aae (λq=>k q.2)];refine⟨r.1,x,?_,rfl,rfl,rfl,rfl,rfl⟩;unfold kH;rw[aae (λq=>k q.2),aai e]
theorem oZ{g:FuncId}{args:List aaa}(hc:wk pu g=true)(hn:yy args=true)(d:DC pu g args h (Zw lo p b mb nn wv gl lim fr r)):zq pu (.func (.func g) #[] #[]) args h (λv h'=>Ai.rv [v] h' (Zw lo p b mb nn wv gl lim fr r)):=by
 refine vM hc hn d ?_;rintro v h' ⟨ok,rfl,y⟩;exact⟨rfl,ok,rfl,y⟩
theorem zaM{g:FuncId}{args:List aaa}(hc:wk pu g=true)(hn:yy args=true)(d:DC pu g args h (Zw lo p b mb nn wv gl lim fr r)):jN pu g args h (λv h'=>Ai.rv [v] h' (Zw lo p b mb nn wv gl lim fr r)):=by
 refine Ak hc hn d ?_;rintro v h' ⟨ok,rfl,y⟩;exact⟨rfl,ok,rfl,y⟩
theorem zaW(s:Sat lo h (pt b (Zv p mb S ev lk wv gl cl lim fr)::L))(hl:S.jb.length=16){to:Int}(h0:0<=to)(h1:to<16)(v:V)(ok:Bool) :
  DC pu 44 [xG b,pm to,vv v,.bool ok] h (λw h'=>w=.bool ok/\Sat lo h' (pt b (Zv p mb (if ok=true then xt S to v else S) ev lk wv gl cl lim fr)::L)):=by
 apply Sq;unfold zcR xG;simp only[EE,Value.cells];refine w8 s λb5 h2 s2=>?_;have g5:=s2.get;have gm:=(s2.p 1).get;unfold Zv at gm;cases ok with
 |false=>
  simp only[EE];exact s2.drop
 |true=>
  simp only[EE,Nat.reduceAdd,zN,wP,xW,Ni,g5,h0,h1];refine z9 (s2.p 1) (by rw[vE];simp;omega) rfl λh3 s3=>?_;rw[Bh h0 h1 hl]at s3;simp only[EE];exact(s3.p 1).drop
theorem OC(s:Sat lo h (bS p b mb nn wv gl lim fr S ev lk cl++L))(hl:S.jb.length=16)(hk:S.kind=0){to:Int}(h0:0<=to)(h1:to<16)(o:Option V) :
  DC pu 44 [xG b,pm to,vv (o.getD v0),.bool o.isSome] h (Zw lo p b mb nn wv gl lim fr (xV S to o)):=by
 refine(zaW s hl h0 h1 (o.getD v0) o.isSome).mono λw h' x=>?_;obtain⟨rfl,s2⟩:=x;cases o with
 |none=>
  exact Z8 (S':=S) rfl ⟨ev,lk,cl,s2.k [0,1,2]⟩ hk rfl rfl rfl rfl rfl
 |some v=>
  exact kR rfl ⟨ev,lk,cl,s2.zG 5⟩
theorem GK(s:Sat lo h (bS p b mb nn wv gl lim fr S ev lk cl))(B:rH lim S)(N:XB S)(hk:S.kind=0)(hnn:nn<=100000000)(hsub:wH i.sub)(m0:0<=i.m)(m1:i.m<16)(r0:0<=i.r)(r1:i.r<16)(ik:wH i.k) :
  DC pu 42 [xG b,i.val] h (Zw lo p b mb (nn+1) wv gl lim fr (yb S i)):=by
 apply cS;unfold cR xG;simp only[EE,Value.cells];refine w8 s λb1 h2 s2=>?_;have g1:=s2.get;have gm:=(s2.p 1).get;unfold Zv at gm;simp only[EE,zN,zo,y5,zX,wP,xW,g1,gm,m0,m1,Z7 m1,Ys m0 m1];refine JC (ZN i.k _) ?_;refine JC (UE (op:=11) (a:=zj S i.m) (b:=wB i.k) (N.get _).1 ik _) ?_;rw[yx];simp only[EE,Value.cells,Qu]
 have no:yb S i=(S,false)->∀H,Sat lo H [pt b (Zv p mb S ev lk wv gl cl lim fr),w7 80 3 lk (S.lk.map vQ),w7 85 2 ev (S.ev.map qG)]->Zw lo p b mb (nn+1) wv gl lim fr (yb S i) (.bool false) H:=λe H z=>by
  rw[e];exact Z8 (S':=S) rfl ⟨ev,lk,cl,z⟩ hk rfl rfl rfl rfl rfl
 cases hb:zH 11 (zj S i.m) (wB i.k) with
 |none=>
  have e:yb S i=(S,false):=by unfold yb;rw[hb]
  simp only[Option.getD_none,v0];refine w8 s2 λb3 h3 s3=>?_;simp only[EE,Nat.reduceAdd];refine z9 s3 (by simp) rfl λh4 s4=>?_;simp only[EE,ZR,abB];exact no e _ (s4.k [2,3,4])
 |some q=>
  simp only[abH];refine w8 s2 λb3 h3 s3=>?_;simp only[EE,Nat.reduceAdd];refine z9 s3 (by simp) rfl λh4 s4=>?_;have g4:=s4.get;by_cases hk2:q.k=2
  ·have hq:=JZ (B.hv i.m) hb hk2;simp only[EE,zb,Nat.reduceAdd,zo,Qt,ZR,aa1,g4,hk2];refine dM (EW (s4.f [2,3]) B.lk 2 q.b q.n) ?_;rintro v h5 ⟨lk',s7⟩;have g3:=(s7.p 2).get;have g1:=(s7.p 3).get;have gm:=s7.get;unfold Zv at gm;by_cases h4:i.op=4
   ·have e1:kd S.mem i.sub q (zj S i.r)=none->yb S i=(yH S 2 q.b q.n,false):=λz=>by unfold yb;rw[hb];simp only[aai hk2,aai h4,z]
    have e2:∀M,kd S.mem i.sub q (zj S i.r)=some M->yb S i=({yH S 2 q.b q.n with mem:=M},true):=λM z=>by unfold yb;rw[hb];simp only[aai hk2,aai h4,z]
    simp only[EE,zN,zo,C4,zf,zB,fH,Qq,XO,g1,h4];simp only[EE,zb,Nat.reduceAdd,zN,zo,yQ,wP,xW,g1,g3,gm,PZ,r0,r1,Z7 r1,Ys r0 r1];obtain⟨lo2,l2,s8,fr2⟩:=(s7.f [6]).call (L2:=[VA mb S.mem nn]);refine BQ (zct (v:=zj S i.r) s8 B.mem.2 B.mem.1 hnn hsub hq) ?_;rintro v h6 ⟨rfl,s9⟩;have s10:=fr2 _ _ s9;simp only[EE];cases hst:kd S.mem i.sub q (zj S i.r) with
    |none=>rw[e1 hst];exact Z8 (S':=yH S 2 q.b q.n) rfl ⟨ev,lk',cl,s10.k [1,2,5]⟩ hk rfl rfl rfl rfl rfl
    |some M=>rw[hst]at s10;rw[e2 M hst];exact kR rfl ⟨ev,lk',cl,s10.k [1,2,5,6,0]⟩
   ·have e0:yb S i=xV (yH S 2 q.b q.n) i.r (Wx S.mem i.sub q):=(by unfold yb;rw[hb];simp only[aai hk2,aae h4]);simp only[EE,zN,zo,C4,zf,zB,fH,Qs,XO,g1,h4];simp only[EE,zb,Nat.reduceAdd,g3,gm,PZ];obtain⟨ml,mp,bvs,bl,ps,x,hps,D⟩:=Qj (s7.p 6);refine JC (zeE D.dv x B.mem.2 B.mem.1 (by omega) (c:=i.sub) (p:=q) hsub hq) ?_;rw[yx];simp only[EE,Value.cells,Qr];refine w8 s7 λb8 h8 s8=>?_;simp only[EE,Nat.reduceAdd];refine z9 s8 (by simp) rfl λh9 s9=>?_;have g1:=(s9.p 4).get;have g8:=s9.get;simp only[EE,zb,Nat.reduceAdd,zN,zo,yQ,g1,g8];have s10:Sat lo h9 (bS p b mb nn wv gl lim fr (yH S 2 q.b q.n) ev lk' cl++_):=s9.f [1,2,5,6,7];refine dM (OC s10 B.hl hk r0 r1 (Wx S.mem i.sub q)) ?_;rintro v h11 x;rw[e0];obtain⟨ok,rfl,y⟩:=x;simp only[EE];refine⟨ok,rfl,?_⟩;split
    ·rename_i c;rw[aai c]at y;exact⟨y.1,y.2.up⟩
    ·rename_i c;rw[aae c]at y;exact y
  ·have e:yb S i=(S,false):=by unfold yb;rw[hb];simp only[aae hk2]
   simp only[EE,zb,Nat.reduceAdd,zo,ZR,aa1,g4,hk2];exact no e _ (s4.k [2,3,4])
end
theorem zet{a:V}(h:vn a)(k:a.k=1):isInt a=true:=by
 unfold isInt kW;simp[k,h.2 k]
theorem E7{a:V}(k:a.k≠1):isInt a=false:=by
 unfold isInt;simp[k]
theorem BI{a:V}(h:vn a)(k:a.k=1):zH 20 a (wB 63)=some (Zs a):=by
 unfold zH;rw[zet h k];rfl
theorem zaY{a:V}(k:a.k≠1):zH 20 a (wB 63)=none:=by
 unfold zH;rw[E7 k];simp
theorem Tu{a m:V}(k:¬(a.k=1/\m.k=1)):zH 14 a m=none:=by
 have e:(isInt a&&isInt m)=false:=by
  by_cases q:a.k=1
  ·rw[E7 (a:=m) (λz=>k ⟨q,z⟩)];simp
  ·rw[E7 q];rfl
 unfold zH;rw[e];simp
theorem zbH{a m q:V}(h:zH 14 a m=some q):∃r,zH 15 a m=some r:=by
 unfold zH at h ⊢;cases e:(isInt a&&isInt m) with
 |false=>rw[e]at h;simp at h
 |true=>
  rw[e]at h;simp only[aas]at h ⊢;unfold uE at h ⊢;by_cases z:m.n=0\/(a.n = -9223372036854775808/\m.n = -1)
  ·simp[z]at h
  ·simp[z]
section
variable {lo:yE}{h:za}{L:List HP}{b mb nn:Nat}{p:Pg}{S:St}{ev lk wv gl cl:aaa}{lim:Int}{fr:Bool}{i:xY}{a mv:V}{b3 b5:Nat}{R:aaa->za->Prop}
theorem Hm(s:Sat lo h (pt b5 (.cells [pm a.k,pm a.n,pm a.b] 64)::pt b3 (.cells [pm mv.k,pm mv.n,pm mv.b] 64)::bS p b mb nn wv gl lim fr S ev lk cl))(hl:S.jb.length=16)(ha:vn a)(hm:vn mv)(vs:List aaa)
  (k1:(zH 14 a mv=none\/zj S 2≠(zH 20 a (wB 63)).getD v0)->∀h',Sat lo h' (bS p b mb nn wv gl lim fr S ev lk cl)->R (.bool false) h')
  (k2:∀q,zH 14 a mv=some q->zj S 2=(zH 20 a (wB 63)).getD v0->∀h',Sat lo h' (bS p b mb nn wv gl lim fr (xt (xt S 0 q) 2 ((zH 15 a mv).getD v0)) ev lk cl)->R (.bool true) h') :
  JT (pi b5) (pi b3) (xG b) R vs h:=by
 have g5:=s.get;unfold JT xG;simp only[EE,Nat.reduceAdd,zN,g5];refine JC (ZN 63 _) ?_;refine JC (UE (op:=20) (a:=a) (b:=wB 63) ha.1 (Q1 (n:=63) ⟨by decide,by decide⟩).1 _) ?_;rw[yx];simp only[EE,Value.cells,tN];refine w8 s λb6 h2 s2=>?_;simp only[EE,Nat.reduceAdd];refine z9 s2 (by simp) rfl λh3 s3=>?_;have g5:=(s3.p 1).get;have g3:=(s3.p 2).get;simp only[EE,Nat.reduceAdd,zN,g5,g3];refine xU (UE (op:=14) (a:=a) (b:=mv) ha.1 hm.1 _) ?_;rw[yx];simp only[EE,Value.cells,XS];refine w8 s3 λb8 h4 s4=>?_;simp only[EE,Nat.reduceAdd];refine z9 s4 (by simp) rfl λh5 s5=>?_;have g5:=(s5.p 2).get;have g3:=(s5.p 3).get;simp only[EE,Nat.reduceAdd,zN,g5,g3];refine xU (UE (op:=15) (a:=a) (b:=mv) ha.1 hm.1 _) ?_;rw[yx];simp only[EE,Value.cells,Qy];refine w8 s5 λb10 h6 s6=>?_;simp only[EE,Nat.reduceAdd];refine z9 s6 (by simp) rfl λh7 s7=>?_;have g6:=(s7.p 2).get;have gm:=(s7.p 5).get;unfold Zv at gm;cases hq:zH 14 a mv with
 |none=>
  simp only[EE,Vh,XR,Vi,abB];exact k1 (.inl hq) _ (s7.k [5,6,7,8,9])
 |some q=>
  simp only[EE,zb,seval,zN,wP,xW,L3,Vh,XR,Vi,aa1,gm,g6,Ba,zgN];have hv:=veq (zj S 2) ((zH 20 a (wB 63)).getD v0);by_cases c2:zj S 2=(zH 20 a (wB 63)).getD v0
  ·have hv:_=true:=hv.trans (abE c2);have g8:=(s7.p 1).get;simp only[EE,zb,seval,zN,wP,xW,Vg,hv,g8];refine z9 (s7.p 5) (by simp[vE]) rfl λh8 s8=>?_;have e8:zb (YE p mb S ev lk wv gl cl lim fr) 12 [pm ((zH 14 a mv).getD v0).k,pm ((zH 14 a mv).getD v0).n,pm ((zH 14 a mv).getD v0).b]=YE p mb (xt S 0 ((zH 14 a mv).getD v0)) ev lk wv gl cl lim fr:=zdp hl _;rw[e8]at s8;have g10:=(s8.p 1).get;simp only[EE,zb,seval,zN,wP,xW,g10];refine z9 s8 (by simp[vE]) rfl λh9 s9=>?_;have e9:zb (YE p mb (xt S 0 ((zH 14 a mv).getD v0)) ev lk wv gl cl lim fr) 18 [pm ((zH 15 a mv).getD v0).k,pm ((zH 15 a mv).getD v0).n,pm ((zH 15 a mv).getD v0).b]=YE p mb (xt (xt S 0 ((zH 14 a mv).getD v0)) 2 ((zH 15 a mv).getD v0)) ev lk wv gl cl lim fr:=zgV (by unfold Go.As.xt;rw[abd];exact hl) _;rw[e9,hq]at s9;simp only[EE];exact k2 q hq c2 _ (s9.k [0,6,7,8,9])
  ·have hv:_=false:=hv.trans (abR c2);simp only[EE,hv];exact k1 (.inr c2) _ (s7.k [5,6,7,8,9])
theorem Tv(s:Sat lo h (bS p b mb nn wv gl lim fr S ev lk cl))(B:rH lim S)(N:XB S)(hk:S.kind=0)(hm:vn mv) :
  DC pu 47 [xG b,vv mv] h (Zw lo p b mb nn wv gl lim fr (qF S mv)):=by
 apply cU;unfold cT xG;simp only[EE,Value.cells,seval,zN,wP,xW];refine w8 s λb3 h2 s2=>?_;have gm:=(s2.p 1).get;unfold Zv at gm;simp only[EE,Nat.reduceLeDiff,gm,Ba,zdm];refine w8 s2 λb5 h3 s3=>?_;simp only[EE,Nat.reduceAdd];refine z9 s3 (by simp) rfl λh4 s4=>?_;have g5:=s4.get;have g3:=(s4.p 1).get
 have no:¬((zj S 0).k=1/\mv.k=1)->∀vs,JT (pi b5) (pi b3) (pi b) (Zw lo p b mb nn wv gl lim fr (qF S mv)) vs h4:=λc vs=>by
  have e:qF S mv=(S,false):=by unfold qF;rw[aae c]
  refine Hm s4 B.hl (N.get 0) hm vs (λ_ h' s'=>?_) (λq hq _ h' s'=>?_)
  ·rw[e];exact Z8 (S':=S) rfl ⟨ev,lk,cl,s'.k [0,1,2]⟩ hk rfl rfl rfl rfl rfl
  ·rw[Tu c]at hq;cases hq
 by_cases k1:(zj S 0).k=1
 ·by_cases k2:mv.k=1
  ·simp only[EE,zb,Nat.reduceAdd,zo,Vf,Ka,g3,g5,k1,k2];refine dM (EW (s4.f [2,3]) B.lk 3 (zj S 0).n mv.n) ?_;rintro v h5 ⟨lk',s7⟩;have gs:zj (yH S 3 (zj S 0).n mv.n) 2=zj S 2:=rfl;refine Hm (lk:=lk') (S:=yH S 3 (zj S 0).n mv.n) (a:=zj S 0) (mv:=mv) (s7.f [2,3,0,1,4,5,6]) B.hl (N.get 0) hm _ (λc h' s'=>?_) (λq hq c h' s'=>?_)
   ·rw[BI (N.get 0) k1,gs]at c
    have e:(qF S mv).2=false/\(qF S mv).1.exit=S.exit/\(qF S mv).1.ev=S.ev/\(qF S mv).1.lk=(yH S 3 (zj S 0).n mv.n).lk/\(qF S mv).1.steps=S.steps/\(qF S mv).1.jU=S.jU:=by
     unfold qF;rw[aai ⟨k1,k2⟩];by_cases c2:zj S 2=Zs (zj S 0)
     ·have hn:zH 14 (zj S 0) mv=none:=by
       rcases c with c|c
       ·exact c
       ·exact absurd c2 c
      rw[aai c2,hn];exact⟨rfl,rfl,rfl,rfl,rfl,rfl⟩
     ·rw[aae c2];exact⟨rfl,rfl,rfl,rfl,rfl,rfl⟩
    obtain⟨e1,e2,e3,e4,e5,e6⟩:=e;exact Z8 (S':=yH S 3 (zj S 0).n mv.n) e1 ⟨ev,lk',cl,s'.k [0,1,2]⟩ hk e2.symm e3.symm e4.symm e5.symm e6.symm
   ·rw[BI (N.get 0) k1,gs]at c;have c:zj S 2=Zs (zj S 0):=c;obtain⟨r,hr⟩:=zbH hq
    have e:qF S mv=(xt (xt (yH S 3 (zj S 0).n mv.n) 0 q) 2 r,true):=by
     unfold qF;rw[aai ⟨k1,k2⟩,aai c,hq,hr];rfl
    rw[hr]at s';rw[e];exact kR rfl ⟨ev,lk',cl,s'⟩
  ·simp only[EE,zb,Nat.reduceAdd,zo,Ka,g3,g5,k1,k2];exact no (λq=>k2 q.2) _
 ·simp only[EE,zb,Nat.reduceAdd,zo,Ka,g5,k1];exact no (λq=>k1 q.1) _
end
open Go.As (Jz Bo Fl EA Iv)
theorem Aq:Nat.beq (Tryz.prog.cellsOf 77) 7=true:=by kernel_rfl
theorem oD{b c k:Nat}{h:za}{cs:List aaa}(hc:c≠0)(hg:h.get b=some (.cells cs 77)):B7 pu 66 (.slice (some ⟨b,0,none⟩) (k+1) c) none (some (pm (k:Nat))) h=some (.slice (some ⟨b,0,none⟩) k c):=by
 have h1:(0:Int)<=(k:Int)/\(k:Int)<=((k+1:Nat):Int):=by omega
 rw[zhl,Y3,aai h1,aaK,Kg,aaK,OI hg,Aq,aaB,EA hc];simp
section
variable {lo:yE}{h:za}{L:List HP}{b mb nn:Nat}{p:Pg}{S:St}{ev lk wv gl cl:aaa}{lim:Int}{fr:Bool}{i:xY}{q cp:Nat}{c c':Fr}{ini:List Fr}
theorem kD(s:Sat lo h (w7 77 7 cl ((ini++[c]).map yX)::L))(hcl:cl=.slice (some ⟨q,0,none⟩) (ini.length+1) cp):∃cs,h.get q=some (.cells cs 77)/\h.ro<=q/\q<h.next/\ini.length*7+7<=cs.length/\cs[ini.length*7]? = some (pm (c.f:Nat))/\cs[ini.length*7+1]? = some (pm c.pt)/\cs[ini.length*7+2]? = some (pm c.qX)/\cs[ini.length*7+3]? = some (pm c.size)/\(cs.drop (ini.length*7+4)).take 3=[pm c.KC.k,pm c.KC.n,pm c.KC.b]:=by
 have hrow:((ini++[c]).map yX)[ini.length]? = some (yX c):=by rw[aau];simp
 obtain⟨q',c',cs,e1,gq,wq,ltq,lq,tq,kq,_⟩:=Jz s (Z4 _) hrow;rw[hcl]at e1;simp only[abu,aab,abJ,aba]at e1;obtain⟨rfl,_,rfl⟩:=e1;have k0:=kq 0 (by decide);rw[ab8]at k0;refine⟨cs,gq,wq,ltq,lq,k0,kq 1 (by decide),kq 2 (by decide),kq 3 (by decide),?_⟩
 have:(cs.drop (ini.length*7+4)).take 3=((cs.drop (ini.length*7)).take 7).drop 4:=by
  rw[List.drop_take,List.drop_drop]
 rw[this,tq];rfl
theorem Xr{K:za->Prop}(s:Sat lo h (w7 77 7 cl ((ini++[c]).map yX)::L))(hcl:cl=.slice (some ⟨q,0,none⟩) (ini.length+1) cp){j:Nat}{vs:List aaa}(hj:j+vs.length<=7)(hc:vs.all wI=true)(e:zb (yX c) j vs=yX c')(k:∀h',Sat lo h' (w7 77 7 cl ((ini++[c']).map yX)::L)->K h'):opt (xw h q (ini.length*7+j) vs) K:=by
 have hrow:((ini++[c]).map yX)[ini.length]? = some (yX c):=by rw[aau];simp
 obtain⟨q',c1,cs,e1,gq,wq,ltq,lq,tq,kq,s2⟩:=Jz s (Z4 _) hrow;rw[hcl]at e1;simp only[abu,aab,abJ,aba]at e1;obtain⟨rfl,_,rfl⟩:=e1;refine Bo gq wq lq s2 hj hc λh' s'=>k h' ?_;rw[e]at s'
 have:((ini++[c]).map yX).set ini.length (yX c')=(ini++[c']).map yX:=by
  rw[<- acF,List.set_append_right _ _ (aam _)];simp
 rw[this]at s';exact s'
theorem zg7(s:Sat lo h (bS p b mb nn wv gl lim fr S ev lk cl))(B:rH lim S)(hk:S.kind=0)(hcl:cl=.slice (some ⟨q,0,none⟩) (ini.length+1) cp)(hc:S.calls=ini++[c])(hn1:ini.length<4611686018427387900)(hN:RH c) :
  DC pu 49 [xG b,.pointer (some ⟨q,ini.length*7,none⟩)] h (Zw lo p b mb nn wv gl lim fr (kK S c)):=by
 apply Sp;unfold zcQ xG;have hs:=B.Mn;have s':=s;unfold bS at s';rw[hc]at s';obtain⟨cs,gq,wq,ltq,lq,kf,kp,kb,kz,kr⟩:=kD (s'.p 3) hcl;have hdl:S.calls.dropLast=ini:=by rw[hc,abq]
 have hb0:=hN.qX;by_cases hb:c.qX>0
 ·have e:kK S c=(S,false):=by unfold kK;rw[aai (by omega)]
  simp only[EE,zo,aF,gq,kb,hb];rw[e];exact Z8 (S':=S) rfl ⟨ev,lk,cl,s.k [0,1,2]⟩ hk rfl rfl rfl rfl rfl
 ·have hb9:c.qX=0:=by omega
  have w1:IntKind.wrap .i64 (S.stack-8)=S.stack-8:=Go.Mem.vF (by have:=hs.s0;omega) (by have:=hs.s1;omega);have gm:=s.get;unfold Zv at gm;simp only[EE,zo,Jw,aF,Nh,gq,kb,hb,gm,Dy,w1];refine z9 s (by simp[vE]) rfl λh2 s2=>?_;rw[zal]at s2;simp only[EE,Es,Km];refine z9 s2 (by simp[vE]) rfl λh3 s3=>?_;rw[Oe]at s3;have g3:=s3.get;have e3:S.calls.map yX=ini.map yX++[yX c]:=by rw[hc];simp
  rw[hcl,e3]at s3;obtain⟨hc0,⟨cs3,gq3⟩,s4⟩:=Fl (by rw[<- e3];exact Z4 _) (by simp) (s3.p 3);have w2:IntKind.wrap .i64 (((ini.length+1:Nat):Int)-1)=(ini.length:Nat):=by rw[show(((ini.length+1:Nat):Int)-1)=(ini.length:Nat) by omega];exact Go.Mem.vF (by omega) (by omega)
  have sl:=oD (k:=ini.length) hc0 gq3;simp only[EE,zo,Ad,zcX,aE,oS,g3,A9,hcl,w2,sl];refine z9 (s4.p 1) (by simp[vE]) rfl λh5 s5=>?_;rw[zdo]at s5;have g5:=s5.get;unfold Zv at g5;simp only[EE,zo,Ad,aE,oS,g5,A9];by_cases hi:(ini.length:Int)>0
  ·have e:kK S c=({S with flags:=false,stack:=S.stack-8,calls:=ini},true):=by
    unfold kK;rw[aae (λq=>q hb9),hdl,aai (by intro q;rw[q]at hi;simp at hi)]
   simp only[EE,hi];rw[e];exact kR rfl ⟨ev,lk,_,s5.f [0,2,3,1,4]⟩
  ·have hi0:ini=[]:=abz (by omega);have gs:∀X,zj ({S with flags:=false,stack:=S.stack-8}:St) X=zj S X:=λ_=>rfl;simp only[EE,seval,zo,wP,xW,Ng,hi];by_cases hk1:(zj S 0).k=1
   ·have e:kK S c=({S with flags:=false,stack:=S.stack-8,calls:=[],kind:=1,exit:=(zj S 0).n},true):=by
     unfold kK;rw[aae (λq=>q hb9),hdl,aae (by rw[hi0];simp),aai hk1]
    simp only[EE,kx,jS,Nf,g5,Oc,gs,hk1];refine z9 s5 (by simp[vE]) rfl λh8 s8=>?_;rw[zaj]at s8;have g8:=s8.get;unfold Zv at g8;have gs2:∀X,zj ({S with flags:=false,stack:=S.stack-8,kind:=1}:St) X=zj S X:=λ_=>rfl;simp only[EE,seval,zo,zf5,EG,jS,wP,xW,g8,zdg,gs2];refine z9 s8 (by simp[vE]) rfl λh9 s9=>?_;rw[zhP]at s9;simp only[EE];rw[e];rw[hi0]at s9;exact kR rfl ⟨ev,lk,_,s9.f [0,2,3,1,4]⟩
   ·have e:kK S c=({S with flags:=false,stack:=S.stack-8,calls:=[]},false):=by
     unfold kK;rw[aae (λq=>q hb9),hdl,aae (by rw[hi0];simp),aae hk1]
    simp only[EE,g5,Oc,gs,hk1];rw[e];exact Z8 (S':={S with flags:=false,stack:=S.stack-8}) rfl ⟨ev,lk,_,s5.k [0,2,3]⟩ hk rfl rfl rfl rfl rfl
theorem NW(s:Sat lo h (bS p b mb nn wv gl lim fr S ev lk cl))(B:rH lim S)(N:XB S)(hF:Iv c)(hN:RH c)(hk:S.kind=0)(hcl:cl=.slice (some ⟨q,0,none⟩) (ini.length+1) cp)(hc:S.calls=ini++[c])(k0:0<=i.k)(k1:i.k<=65536)(ho:i.op=23\/i.op=24) :
  DC pu 50 [xG b,.pointer (some ⟨q,ini.length*7,none⟩),i.val] h (Zw lo p b mb nn wv gl lim fr (yK lim S c i)):=by
 apply iO;unfold lU xG;have hs:=B.Mn;have hl:=B.hl;have hb:=hF.qX;have hz:=hF.size;have hb1:=hN.qX;unfold bS at s;rw[hc]at s;simp only[EE,Value.cells];refine w8 s λb5 h2 s2=>?_;have g5:=s2.get;obtain⟨cs,gq,wq,ltq,lq,kf,kp,kb,kz,kr⟩:=kD (s2.p 4) hcl
 have no:yK lim S c i=(S,false)->∀H,Sat lo H [pt b (Zv p mb S ev lk wv gl cl lim fr),w7 80 3 lk (S.lk.map vQ),w7 85 2 ev (S.ev.map qG)]->Zw lo p b mb nn wv gl lim fr (yK lim S c i) (.bool false) H:=λe H z=>by
  rw[e];exact Z8 (S':=S) rfl ⟨ev,lk,cl,z⟩ hk rfl rfl rfl rfl rfl
 by_cases h24:i.op=24
 ·simp only[EE,zo,zf,aF,K8,g5,h24];by_cases hb0:c.qX=0
  ·have e:yK lim S c i=(S,false):=by unfold yK;rw[aai h24,aai (.inl hb0)]
   simp only[EE,Xg,Xh,Xi,gq,kb,hb0];exact no e _ (s2.k [1,2,3])
  ·by_cases hz0:c.size=i.k
   ·simp only[EE,zo,C4,zX,fH,aF,rV,K7,Xg,Xh,Xi,gq,kb,kz,g5,hb0,hz0];have gm:=(s2.p 1).get;unfold Zv at gm;simp only[EE,gm,PZ];obtain⟨lo1,l1,s3,fr1⟩:=(s2.f [5]).call (L2:=[VA mb S.mem nn]);refine BQ (zen s3 B.mem.2 c.qX) ?_;rintro v h3 ⟨rfl,s4⟩;have s5:=fr1 _ _ s4;clear gq kf kp kb kz kr gm;obtain⟨cs,gq,wq,ltq,lq,kf,kp,kb,kz,kr⟩:=kD (s5.p 5) hcl;have gm:=(s5.p 2).get;unfold Zv at gm;have w1:IntKind.wrap .i64 (S.stack-c.size)=S.stack-c.size:=Go.Mem.vF (by have:=hs.s0;omega) (by have:=hs.s1;omega);have lr:ini.length*7+4+3<=cs.length:=by omega
    have lr2:ini.length*7+7<=cs.length:=lq;simp only[EE,seval,zN,wP,NV,xW,K6,gq,kr,lr];refine z9 (s5.p 2) (by simp[vE]) rfl λh6 s6=>?_;rw[zdq hl]at s6;clear gq kf kp kb kz kr gm;obtain⟨cs,gq,wq,ltq,lq,kf,kp,kb,kz,kr⟩:=kD (s6.p 5) hcl;have gm:=s6.get;unfold Zv at gm;have gst:(Go.As.xt S 4 c.KC).stack=S.stack:=rfl;simp only[EE,zo,Jw,rV,gm,gq,kz,Dy,gst,w1];refine z9 s6 (by simp[vE]) rfl λh7 s7=>?_;rw[zal]at s7;simp only[EE,aF];refine Xr (c':={c with qX:=0}) (s7.p 5) hcl (j:=2) (by simp) rfl rfl λh8 s8=>?_;simp only[EE]
    have e:yK lim S c i=(vj (Go.As.xt {S with mem:=(Yw S.mem c.qX).getD S.mem,stack:=S.stack-c.size} 4 c.KC) {c with qX:=0},true):=by
     unfold yK;rw[aai h24,aae (by rintro(q|q);exact hb0 q;exact q hz0)]
    have ec:(vj (Go.As.xt {S with mem:=(Yw S.mem c.qX).getD S.mem,stack:=S.stack-c.size} 4 c.KC) {c with qX:=0}).calls=ini++[{c with qX:=0}]:=by
     show S.calls.dropLast++[_]=_;rw[hc,abq]
    rw[e];refine kR rfl ⟨ev,lk,cl,?_⟩;unfold bS;rw[ec];exact s8.k [1,4,5,0,2]
   ·have e:yK lim S c i=(S,false):=(by unfold yK;rw[aai h24,aai (.inr hz0)]);simp only[EE,zo,zX,rV,Xg,Xh,Xi,gq,kb,kz,g5,hb0,hz0];exact no e _ (s2.k [1,2,3])
 ·simp only[EE,zo,zf,aF,tQ,g5,h24,gq,kb];by_cases hb0:c.qX>0
  ·have e:yK lim S c i=(S,false):=by unfold yK;rw[aae h24,aai (by omega)]
   simp only[EE,XT,iN,hb0];exact no e _ (s2.k [1,2,3])
  have hb9:c.qX=0:=by omega
  simp only[EE,zo,zX,iN,g5,hb0]
  have e0:yK lim S c i=if (zY lim S i.k).2=true then
    (vj (Go.As.xt { (zY lim S i.k).1 with mem:=(yJ S.mem i.k).1} 4 (iQ (yJ S.mem i.k).2.1 0)) {c with qX:=(yJ S.mem i.k).2.1,size:=i.k,KC:=zj S 4},decide ((yJ S.mem i.k).2.2=0))
   else ((zY lim S i.k).1,true):=by unfold yK;rw[aae h24,aae (λq=>q hb9)]
  have ec:(zY lim S i.k).1.calls=S.calls:=by unfold zY;split <;> rfl
  have em:(zY lim S i.k).1.mem=S.mem:=by unfold zY;split <;> rfl
  have er:(zY lim S i.k).1.jb=S.jb:=by unfold zY;split <;> rfl
  have el:(zY lim S i.k).1.lk=S.lk/\(zY lim S i.k).1.ev=S.ev:=by unfold zY;split <;> exact⟨rfl,rfl⟩
  refine dM (TW (s2.f [1]) hs k0 (by omega)) ?_;rintro v h3 ⟨rfl,s3⟩;cases hg:(zY lim S i.k).2 with
  |false=>
   rw[aae (by rw[hg];simp)]at e0;rw[e0];simp only[EE,XT,hb0];refine zaN (r:=((zY lim S i.k).1,true)) rfl ?_ ⟨ev,lk,cl,?_⟩
   ·unfold zY at hg ⊢;split at hg
    ·rename_i q;rw[aai q];show(4:Int)≠0;decide
    ·cases hg
   ·rw[el.1,el.2];exact s3.k [0,2,3]
  |true=>
   rw[aai hg]at e0;have g5:=(s3.p 1).get;have gm:=s3.get;unfold Zv at gm;simp only[EE,zo,C4,zX,fH,Qz,XT,gm,g5,PZ,hb0];obtain⟨lo1,l1,s4,fr1⟩:=(s3.f [5]).call (L2:=[VA mb S.mem nn]);refine BQ (Nq s4 i.k) ?_;rintro v h4 ⟨rfl,s5⟩;have s6:=fr1 _ _ s5
   have kg:(zY lim S i.k).1.kind=S.kind/\(zY lim S i.k).1.exit=S.exit/\(zY lim S i.k).1.steps=S.steps:=by
    unfold zY at hg ⊢;split at hg
    ·cases hg
    ·rename_i q;rw[aae q];exact⟨rfl,rfl,rfl⟩
   obtain⟨M',rB,rE,hA⟩:∃M' rB rE,yJ S.mem i.k=(M',rB,rE):=⟨_,_,_,rfl⟩;rw[hA]at s6 e0 ⊢;by_cases hE:rE=0
   ·have g5:=(s6.p 2).get;have hE1:decide (rE=0)=true:=abE hE;simp only[EE,aF,Ja,U8,hE1];refine Xr (c':={c with qX:=rB}) (s6.p 5) hcl (j:=2) (by simp) rfl rfl λh7 s7=>?_;have g5:=(s7.p 3).get;simp only[EE,zo,zX,rV,g5];refine Xr (c':={c with qX:=rB,size:=i.k}) s7 hcl (j:=3) (by simp) rfl rfl λh8 s8=>?_;have gm:=(s8.p 2).get;unfold Zv at gm;have eg:zj (zY lim S i.k).1 4=zj S 4:=by unfold zj;rw[er]
    simp only[EE,seval,zN,wP,NV,xW,gm,Ba,zgO,eg];refine Xr (c':={c with qX:=rB,size:=i.k,KC:=zj S 4}) s8 hcl (j:=4) (by simp) rfl rfl λh9 s9=>?_;simp only[];refine JC (G2 rB 0 _) ?_;simp only[EE,seval,wP,xW,K9];refine z9 (s9.p 2) (by simp[vE]) rfl λh10 s10=>?_;rw[zdq (by rw[er];exact hl)]at s10;simp only[EE]
    have ec2:(vj (Go.As.xt { (zY lim S i.k).1 with mem:=M'} 4 (iQ rB 0)) {c with qX:=rB,size:=i.k,KC:=zj S 4}).calls=ini++[{c with qX:=rB,size:=i.k,KC:=zj S 4}]:=by
     show(zY lim S i.k).1.calls.dropLast++[_]=_;rw[ec,hc,abq]
    rw[e0];refine kR (by simp[hE]) ⟨ev,lk,cl,?_⟩;unfold bS;rw[ec2];show Sat lo h10 [_,w7 80 3 lk ((zY lim S i.k).1.lk.map vQ),w7 85 2 ev ((zY lim S i.k).1.ev.map qG),_,_];rw[el.1,el.2];exact s10.k [0,4,5,1,2]
   ·have hE1:decide (rE=0)=false:=abR hE;simp only[EE,U8,hE1];rw[e0];refine Z8 (S':=(zY lim S i.k).1) (by simp[hE]) ⟨ev,lk,cl,?_⟩ (kg.1.trans hk) rfl rfl rfl rfl rfl;rw[el.1,el.2];exact s6.k [1,3,4]
end
open Go.As (Jo)
theorem Zw.up{lo:yE}{p:Pg}{b mb nn:Nat}{wv gl:aaa}{lim:Int}{fr:Bool}{r:St×Bool}{v:aaa}{h:za}(x:Zw lo p b mb nn wv gl lim fr r v h):Zw lo p b mb (nn+1) wv gl lim fr r v h:=by
 obtain⟨ok,e,y⟩:=x;refine⟨ok,e,?_⟩;split
 ·rename_i c;rw[aai c]at y;exact⟨y.1,y.2.up⟩
 ·rename_i c;rw[aae c]at y;exact y
def xB(lo:yE)(p:Pg)(b mb nn:Nat)(wv gl:aaa)(lim:Int)(fr:Bool)(b5 b6 q j:Nat)(i:xY)(h:za)(r:St×Bool):Prop :=
 zL (pm i.op) (pi b5) h (pi b) (pi b6) (Zw lo p b mb nn wv gl lim fr r) (.pointer (some ⟨q,j,none⟩)) (λ_ h2=>Zw lo p b mb nn wv gl lim fr r (.bool true) h2)
section
variable {b5 b6:Nat}{lo:yE}{h h4:za}{L:List HP}{b mb nn:Nat}{p:Pg}{S:St}{ev lk wv gl cl:aaa}{lim:Int}{fr:Bool}{i:xY}{q j cp:Nat}{c:Fr}{ini:List Fr}{world:List Int}
theorem SQ(n:Int):IntKind.wrap .i64 (BitVec.ofInt IntKind.i64.bits n &&& BitVec.ofInt IntKind.i64.bits 63).toNat=kN (· &&& ·) n 63:=rfl
theorem sh{X:List HP}{r:Int}{K:za->Prop}(s:Sat lo h (pt b (Zv p mb S ev lk wv gl cl lim fr)::X))(hl:S.jb.length=16)(h0:0<=r)(h1:r<16)(v:V)(k:∀h',Sat lo h' (pt b (Zv p mb (Go.As.xt S r v) ev lk wv gl cl lim fr)::X)->K h'):opt (xw h b (12+r.toNat*3) [pm v.k,pm v.n,pm v.b]) K:=by
 refine z9 s (by rw[vE];simp;omega) rfl λh' s'=>?_;rw[Bh h0 h1 hl v]at s';exact k h' s'
variable (s4:Sat lo h4 (pt b6 (.cells [pm (wB i.k).k,pm (wB i.k).n,pm (wB i.k).b] 64)::pt b5 (.cells i.row 50)::bS p b mb nn wv gl lim fr S ev lk cl))(B:rH lim S)(N:XB S)(hk0:S.kind=0)
include s4 B N hk0
theorem BH(r0:0<=i.r)(r1:i.r<16)(o:Option V):Jd h4 (pi b5) (pi b) (Zw lo p b mb nn wv gl lim fr (xV S i.r o)) (qc o):=by
 unfold Jd;rw[yx];simp only[EE,Value.cells];refine w8 s4 λb8 h5 s5=>?_;simp only[EE,Nat.reduceAdd];refine z9 s5 (by simp) rfl λh6 s6=>?_;have g8:=s6.get;have g5:=(s6.p 2).get;simp only[EE,zb,Nat.reduceAdd,zN,zo,yQ,g5,g8];have s7:Sat lo h6 (bS p b mb nn wv gl lim fr S ev lk cl++_):=s6.f [3,4,5,6,7];exact oZ (by kernel_rfl) rfl (OC s7 B.hl hk0 r0 r1 o)
theorem zeS(hk:i.op=1)(r0:0<=i.r)(r1:i.r<16)(m0:0<=i.m)(m1:i.m<16):xB lo p b mb nn wv gl lim fr b5 b6 q j i h4 (Go.As.xt S i.r (zj S i.m),true):=by
 have g6:=s4.get;have g5:=(s4.p 1).get;have gm:=(s4.p 2).get;unfold Zv at gm;unfold xB;simp only[EE,Nat.reduceAdd,zN,zo,yQ,y5,wP,xW,xR,zL,g5,gm,hk,m0,m1,Z7 m1,Ys m0 m1,r0,r1];refine sh (s4.p 2) B.hl r0 r1 _ λh5 s5=>?_;simp only[];exact kR rfl ⟨ev,lk,cl,s5.k [0,3,4,5,6]⟩
theorem zeT(hk:i.op=2)(r0:0<=i.r)(r1:i.r<16):xB lo p b mb nn wv gl lim fr b5 b6 q j i h4 (Go.As.xt S i.r (wB i.k),true):=by
 have g6:=s4.get;have g5:=(s4.p 1).get;have gm:=(s4.p 2).get;unfold Zv at gm;unfold xB;simp only[EE,Nat.reduceAdd,Int.reduceEq,zN,zo,yQ,wP,xW,wi,zQ,zL,g5,g6,hk,r0,r1];refine sh (s4.p 2) B.hl r0 r1 _ λh5 s5=>?_;simp only[];exact kR rfl ⟨ev,lk,cl,s5.k [0,3,4,5,6]⟩
theorem zeU(hk:i.op=3)(r0:0<=i.r)(r1:i.r<16)(m0:0<=i.m)(m1:i.m<16)(ik:wH i.k)(hsub:wH i.sub)(hnn:nn<=100000000):xB lo p b mb (nn+1) wv gl lim fr b5 b6 q j i h4 (yb S i):=by
 have g6:=s4.get;have g5:=(s4.p 1).get;have gm:=(s4.p 2).get;unfold Zv at gm;unfold xB;simp only[EE,nth,Nat.reduceAdd,Int.reduceEq,zN,xx,y9,xc,zQ,zL,g5,hk];have ei:i.val=.agg #[pm 3,pm i.r,pm i.m,pm i.sub,pm i.cc,pm i.l,pm i.k]:=by rw[<- hk]
 rw[<- ei];have s5:Sat lo h4 (bS p b mb nn wv gl lim fr S ev lk cl):=s4.k [2,3,4,5,6];exact oZ (by kernel_rfl) rfl (GK (i:=i) s5 B N hk0 hnn hsub m0 m1 r0 r1 ik)
theorem zeV(hk:i.op=4)(r0:0<=i.r)(r1:i.r<16)(m0:0<=i.m)(m1:i.m<16)(ik:wH i.k)(hsub:wH i.sub)(hnn:nn<=100000000):xB lo p b mb (nn+1) wv gl lim fr b5 b6 q j i h4 (yb S i):=by
 have g6:=s4.get;have g5:=(s4.p 1).get;have gm:=(s4.p 2).get;unfold Zv at gm;unfold xB;simp only[EE,nth,Nat.reduceAdd,Int.reduceEq,zN,xx,y9,xc,zQ,zL,g5,hk];have ei:i.val=.agg #[pm 4,pm i.r,pm i.m,pm i.sub,pm i.cc,pm i.l,pm i.k]:=by rw[<- hk]
 rw[<- ei];have s5:Sat lo h4 (bS p b mb nn wv gl lim fr S ev lk cl):=s4.k [2,3,4,5,6];exact oZ (by kernel_rfl) rfl (GK (i:=i) s5 B N hk0 hnn hsub m0 m1 r0 r1 ik)
theorem zeW(hk:i.op=5)(r0:0<=i.r)(r1:i.r<16)(m0:0<=i.m)(m1:i.m<16)(ik:wH i.k):xB lo p b mb nn wv gl lim fr b5 b6 q j i h4 (xV S i.r (zH 11 (zj S i.m) (wB i.k))):=by
 have g6:=s4.get;have g5:=(s4.p 1).get;have gm:=(s4.p 2).get;unfold Zv at gm;unfold xB;simp only[EE,nth,Nat.reduceAdd,Int.reduceEq,zN,zo,xx,y5,wP,xW,wN,ya,y9,xc,zQ,zL,g5,g6,gm,hk,m0,m1,Z7 m1,Ys m0 m1];refine JC (UE (op:=11) (a:=(zj S i.m)) (b:=(wB i.k)) (N.get _).1 ik _) ?_;exact BH s4 B N hk0 r0 r1 (zH 11 (zj S i.m) (wB i.k))
theorem zeX(hk:i.op=6)(r0:0<=i.r)(r1:i.r<16)(s0:0<=i.sub)(s1:i.sub<S.gl.length)(hg:Rd lo (zl · gl S.gl)):xB lo p b mb nn wv gl lim fr b5 b6 q j i h4 (Go.As.xt S i.r (iQ (S.gl.getD i.sub.toNat 0) i.k),true):=by
 have g6:=s4.get;have g5:=(s4.p 1).get;have gm:=(s4.p 2).get;unfold Zv at gm;unfold xB;obtain⟨z,hz⟩:∃z,S.gl[i.sub.toNat]? = some z:=⟨_,aac (by omega)⟩;obtain⟨bb,o,cs,t,hix,hb,hgt,hat0⟩:=Jo (hg.at s4) hz;rw[show((i.sub.toNat:Nat):Int)=i.sub from abZ s0]at hix;have gn:=(hg.at s4).kY;have hzd:S.gl.getD i.sub.toNat 0=z:=by rw[aaF,hz];rfl
 simp only[EE,nth,Nat.reduceAdd,Int.reduceEq,zN,zo,w9,xx,yQ,zB,zX,Hz,w6,xL,ya,y9,xc,zQ,zL,g5,gm,hk,zdl,hix,hgt,hat0];refine JC (G2 z i.k _) ?_;simp only[EE,Nat.reduceAdd,wP,xW,dm,r0,r1];rw[hzd];refine sh (s4.p 2) B.hl r0 r1 _ λh5 s5=>?_;simp only[];exact kR rfl ⟨ev,lk,cl,s5.k [0,3,4,5,6]⟩
theorem zeY(hk:i.op=7)(r0:0<=i.r)(r1:i.r<16)(m0:0<=i.m)(m1:i.m<16):xB lo p b mb nn wv gl lim fr b5 b6 q j i h4 (xV S i.r (zH i.sub (zj S i.r) (zj S i.m))):=by
 have g6:=s4.get;have g5:=(s4.p 1).get;have gm:=(s4.p 2).get;unfold Zv at gm;unfold xB;simp only[EE,nth,Nat.reduceAdd,Int.reduceEq,zN,zo,xx,yQ,y5,zB,wP,xW,vi,xK,xL,ya,y9,xc,zQ,zL,g5,gm,hk,m0,m1,Z7 m1,Ys m0 m1,r0,r1,Z7 r1,Ys r0 r1];refine JC (UE (op:=i.sub) (a:=(zj S i.r)) (b:=(zj S i.m)) (N.get _).1 (N.get _).1 _) ?_;exact BH s4 B N hk0 r0 r1 (zH i.sub (zj S i.r) (zj S i.m))
theorem zeZ(hk:i.op=8)(r0:0<=i.r)(r1:i.r<16)(ik:wH i.k):xB lo p b mb nn wv gl lim fr b5 b6 q j i h4 (xV S i.r (zH i.sub (zj S i.r) (wB i.k))):=by
 have g6:=s4.get;have g5:=(s4.p 1).get;have gm:=(s4.p 2).get;unfold Zv at gm;unfold xB;simp only[EE,nth,Nat.reduceAdd,Int.reduceEq,zN,zo,xx,yQ,zB,wP,xW,vh,wh,xK,xL,ya,y9,xc,zQ,zL,g5,g6,gm,hk,r0,r1,Z7 r1,Ys r0 r1];refine JC (UE (op:=i.sub) (a:=(zj S i.r)) (b:=(wB i.k)) (N.get _).1 ik _) ?_;exact BH s4 B N hk0 r0 r1 (zH i.sub (zj S i.r) (wB i.k))
theorem zau(hk:i.op=11)(r0:0<=i.r)(r1:i.r<16)(ik:wH i.k):xB lo p b mb nn wv gl lim fr b5 b6 q j i h4 (xV S i.r (zH i.sub (zj S i.r) (wB i.k))):=by
 have g6:=s4.get;have g5:=(s4.p 1).get;have gm:=(s4.p 2).get;unfold Zv at gm;unfold xB;simp only[EE,nth,Nat.reduceAdd,Int.reduceEq,zN,zo,xx,yQ,zB,wP,xW,vh,wh,xK,xL,ya,y9,xc,zQ,zL,g5,g6,gm,hk,r0,r1,Z7 r1,Ys r0 r1];refine JC (UE (op:=i.sub) (a:=(zj S i.r)) (b:=(wB i.k)) (N.get _).1 ik _) ?_;exact BH s4 B N hk0 r0 r1 (zH i.sub (zj S i.r) (wB i.k))
theorem ze0(hk:i.op=9)(r0:0<=i.r)(r1:i.r<16):xB lo p b mb nn wv gl lim fr b5 b6 q j i h4 (xV S i.r (bO i.sub (zj S i.r))):=by
 have g6:=s4.get;have g5:=(s4.p 1).get;have gm:=(s4.p 2).get;unfold Zv at gm;unfold xB;simp only[EE,nth,Nat.reduceAdd,Int.reduceEq,zN,zo,xx,yQ,zB,wP,xW,vU,wF,wh,xK,xL,ya,y9,xc,zQ,zL,g5,gm,hk,r0,r1,Z7 r1,Ys r0 r1];refine JC (zdF i.sub (zj S i.r) _) ?_;exact BH s4 B N hk0 r0 r1 (bO i.sub (zj S i.r))
theorem zat(hk:i.op=10)(r0:0<=i.r)(r1:i.r<16)(m0:0<=i.m)(m1:i.m<16):xB lo p b mb nn wv gl lim fr b5 b6 q j i h4 (xV S i.r (bO i.sub (zj S i.m))):=by
 have g6:=s4.get;have g5:=(s4.p 1).get;have gm:=(s4.p 2).get;unfold Zv at gm;unfold xB;simp only[EE,nth,Nat.reduceAdd,Int.reduceEq,zN,zo,xx,y5,zB,wP,xW,uw,wM,wF,wh,xK,xL,ya,y9,xc,zQ,zL,g5,gm,hk,m0,m1,Z7 m1,Ys m0 m1];refine JC (zdF i.sub (zj S i.m) _) ?_;exact BH s4 B N hk0 r0 r1 (bO i.sub (zj S i.m))
theorem zav(hk:i.op=12)(r0:0<=i.r)(r1:i.r<16):xB lo p b mb nn wv gl lim fr b5 b6 q j i h4 (if (zj S 1).k=1 then xV S i.r (zH i.sub (zj S i.r) (wB (kN (· &&& ·) (zj S 1).n 63))) else (S,false)):=by
 have g6:=s4.get;have g5:=(s4.p 1).get;have gm:=(s4.p 2).get;unfold Zv at gm;unfold xB;by_cases k1:(zj S 1).k=1
 ·rw[aai k1];simp only[EE,nth,seval,zN,zo,xx,yQ,zB,wP,xW,Jh,uv,wZ,wM,wF,wh,xK,xL,ya,y9,xc,zQ,zL,g5,gm,hk,zdh,zgK,k1,r0,r1,Z7 r1,Ys r0 r1];rw[SQ];refine JC (ZN (kN (· &&& ·) (zj S 1).n 63) _) ?_;refine JC (UE (op:=i.sub) (a:=zj S i.r) (b:=wB (kN (· &&& ·) (zj S 1).n 63)) (N.get _).1 (AW _) _) ?_;exact BH s4 B N hk0 r0 r1 (zH i.sub (zj S i.r) (wB (kN (· &&& ·) (zj S 1).n 63)))
 ·rw[aae k1];simp only[EE,nth,seval,zN,zo,xx,wP,xW,uv,wZ,wM,wF,wh,xK,xL,ya,y9,xc,zQ,zL,g5,gm,hk,zdh,k1];exact Z8 (S':=S) rfl ⟨ev,lk,cl,s4.k [2,3,4]⟩ hk0 rfl rfl rfl rfl rfl
theorem zaw(hk:i.op=13):xB lo p b mb nn wv gl lim fr b5 b6 q j i h4 (Go.As.xt S 2 (Zs (zj S 0)),decide ((zj S 0).k=1)):=by
 have g6:=s4.get;have g5:=(s4.p 1).get;have gm:=(s4.p 2).get;unfold Zv at gm;unfold xB;simp only[EE,nth,seval,zN,xx,wP,xW,qw,vH,wZ,wM,wF,wh,xK,xL,ya,y9,xc,zQ,zL,g5,gm,hk,Ba,zdm];refine JC (ZN 63 _) ?_;refine JC (UE (op:=20) (a:=zj S 0) (b:=wB 63) (N.get _).1 (Q1 (n:=63) ⟨by decide,by decide⟩).1 _) ?_;rw[yx];simp only[EE,Value.cells,Ji];refine w8 s4 λb8 h5 s5=>?_;simp only[EE,Nat.reduceAdd];refine z9 s5 (by simp) rfl λh6 s6=>?_;have g8:=s6.get;have g5:=(s6.p 2).get;simp only[EE,zb,Nat.reduceAdd,zN,g8];have s7:Sat lo h6 (bS p b mb nn wv gl lim fr S ev lk cl++_):=s6.f [3,4,5,6,7];refine dM (OC (to:=2) s7 B.hl hk0 (by decide) (by decide) (zH 20 (zj S 0) (wB 63))) ?_;rintro v h7 z;by_cases k1:(zj S 0).k=1
 ·rw[BI (N.get 0) k1]at z;rw[abE k1];obtain⟨ok,rfl,y⟩:=z;simp only[EE];exact⟨ok,rfl,y⟩
 ·rw[zaY k1]at z;rw[abR k1];obtain⟨ok,rfl,y⟩:=z;simp only[EE];refine⟨ok,rfl,?_⟩;rw[aae (λq=>by cases q.1)]at y;rw[aae (λq=>by cases q.1)];obtain⟨S',E,D⟩:=y;exact⟨S',E,D.kind,D.exit,D.ev,D.lk,D.steps,D.jU⟩
theorem zax(hk:i.op=14)(m0:0<=i.m)(m1:i.m<16):xB lo p b mb nn wv gl lim fr b5 b6 q j i h4 (qF S (zj S i.m)):=by
 have g6:=s4.get;have g5:=(s4.p 1).get;have gm:=(s4.p 2).get;unfold Zv at gm;unfold xB;simp only[EE,nth,Nat.reduceAdd,Int.reduceEq,zN,zo,xx,y5,wP,xW,ko,vT,vH,wZ,wM,wF,wh,xK,xL,ya,y9,xc,zQ,zL,g5,gm,hk,m0,m1,Z7 m1,Ys m0 m1];have s5:Sat lo h4 (bS p b mb nn wv gl lim fr S ev lk cl):=s4.k [2,3,4,5,6];exact zaM (by kernel_rfl) rfl (Tv s5 B N hk0 (N.get i.m))
end
section
variable {b5 b6:Nat}{lo:yE}{h h4:za}{L:List HP}{b mb nn:Nat}{p:Pg}{S:St}{ev lk wv gl cl:aaa}{lim:Int}{fr:Bool}{i:xY}{q j cp:Nat}{c:Fr}{ini:List Fr}{world:List Int}
variable {f:Go.As.Fn}
theorem Rh{S':St}{r:St×Bool}(e:r.2=true)(k:r.1.kind≠0)(x:rn lo p b mb wv gl lim fr S' h)(e0:S'.kind=r.1.kind)(e1:S'.exit=r.1.exit)(e2:S'.ev=r.1.ev)(e3:S'.lk=r.1.lk)(e4:S'.steps=r.1.steps)(e5:S'.jU=r.1.jU):Zw lo p b mb nn wv gl lim fr r (.bool false) h:=by
 refine⟨false,rfl,?_⟩;rw[aae (λq=>k q.2)];refine⟨S',x,?_,e1,e2,e3,e4,e5⟩;unfold kH;rw[e0,aae (λq=>k q.2),aai e]
variable (s4:Sat lo h4 (pt b6 (.cells [pm (wB i.k).k,pm (wB i.k).n,pm (wB i.k).b] 64)::pt b5 (.cells i.row 50)::bS p b mb nn wv gl lim fr S ev lk cl))(B:rH lim S)(N:XB S)(hk0:S.kind=0)
include s4 B N hk0
theorem zay(hk:i.op=15)(r0:0<=i.r)(r1:i.r<16)(m0:0<=i.m)(m1:i.m<16):xB lo p b mb nn wv gl lim fr b5 b6 q j i h4 ({S with flags:=true,a:=zj S i.r,b:=zj S i.m},true):=by
 have g6:=s4.get;have g5:=(s4.p 1).get;have gm:=(s4.p 2).get;unfold Zv at gm;unfold xB;simp only[EE,nth,Nat.reduceAdd,Int.reduceEq,zN,zo,xx,yQ,wP,rU,xW,km,uu,vT,vH,wZ,wM,wF,wh,xK,xL,ya,y9,xc,zQ,zL,g5,gm,hk,r0,r1,Z7 r1,Ys r0 r1];refine z9 (s4.p 2) (by simp[vE]) rfl λh5 s5=>?_;rw[zdn]at s5;have g6:=(s5.p 1).get;simp only[EE,Nat.reduceAdd,zN,mL,g6];refine z9 s5 (by simp[vE]) rfl λh6 s6=>?_;have e63:zb (YE p mb {S with a:=zj S i.r} ev lk wv gl cl lim fr) 63 [pm (wB i.k).k,pm (wB i.k).n,pm (wB i.k).b]=_:=zak _;rw[e63]at s6;have g5:=(s6.p 2).get;have gm:=s6.get;unfold Zv at gm;have gs:∀X,zj ({S with a:=zj S i.r,b:=wB i.k}:St) X=zj S X:=λ_=>rfl;simp only[EE,Nat.reduceAdd,zN,zo,zf,y5,wP,mL,xW,Qb,g5,gm,hk,gs,m0,m1,Z7 m1,Ys m0 m1];refine z9 s6 (by simp[vE]) rfl λh7 s7=>?_;rw[zak]at s7;simp only[EE,Es,Km,Qc];refine z9 s7 (by simp[vE]) rfl λh8 s8=>?_;rw[Oe]at s8;simp only[];exact kR rfl ⟨ev,lk,cl,s8.k [0,3,4,5,6]⟩
theorem zaz(hk:i.op=16)(r0:0<=i.r)(r1:i.r<16):xB lo p b mb nn wv gl lim fr b5 b6 q j i h4 ({S with flags:=true,a:=zj S i.r,b:=wB i.k},true):=by
 have g6:=s4.get;have g5:=(s4.p 1).get;have gm:=(s4.p 2).get;unfold Zv at gm;unfold xB;simp only[EE,nth,Nat.reduceAdd,Int.reduceEq,zN,zo,xx,yQ,wP,rU,xW,km,uu,vT,vH,wZ,wM,wF,wh,xK,xL,ya,y9,xc,zQ,zL,g5,gm,hk,r0,r1,Z7 r1,Ys r0 r1];refine z9 (s4.p 2) (by simp[vE]) rfl λh5 s5=>?_;rw[zdn]at s5;have g6:=(s5.p 1).get;simp only[EE,Nat.reduceAdd,zN,mL,g6];refine z9 s5 (by simp[vE]) rfl λh6 s6=>?_;have e63:zb (YE p mb {S with a:=zj S i.r} ev lk wv gl cl lim fr) 63 [pm (wB i.k).k,pm (wB i.k).n,pm (wB i.k).b]=_:=zak _;rw[e63]at s6;have g5:=(s6.p 2).get;have gm:=s6.get;unfold Zv at gm;have gs:∀X,zj ({S with a:=zj S i.r,b:=wB i.k}:St) X=zj S X:=λ_=>rfl;simp only[EE,Int.reduceEq,zo,Es,zf,Km,Qc,g5,hk];refine z9 s6 (by simp[vE]) rfl λh8 s8=>?_;rw[Oe]at s8;simp only[];exact kR rfl ⟨ev,lk,cl,s8.k [0,3,4,5,6]⟩
theorem zaA(hk:i.op=17)(r0:0<=i.r)(r1:i.r<16):xB lo p b mb nn wv gl lim fr b5 b6 q j i h4 (if S.flags=true then xV S i.r (zH i.cc S.a S.b) else (S,false)):=by
 have g6:=s4.get;have g5:=(s4.p 1).get;have gm:=(s4.p 2).get;unfold Zv at gm;unfold xB;simp only[EE,nth,seval,zN,zo,xx,Kl,rU,mL,jv,u4,uu,vT,vH,wZ,wM,wF,wh,xK,xL,ya,y9,xc,zQ,zL,g5,gm,hk,Ba,zdi,zdj];refine JC (UE (op:=i.cc) (a:=S.a) (b:=S.b) N.a.1 N.b.1 _) ?_;rw[yx];simp only[EE,Value.cells,Qd];refine w8 s4 λb8 h5 s5=>?_;simp only[EE,Nat.reduceAdd];refine z9 s5 (by simp) rfl λh6 s6=>?_;have g8:=s6.get;have g5:=(s6.p 2).get;have gm:=(s6.p 3).get;unfold Zv at gm;have s7:Sat lo h6 (bS p b mb nn wv gl lim fr S ev lk cl++_):=s6.f [3,4,5,6,7];cases hb:zH i.cc S.a S.b with
 |none=>
  simp only[EE,zb,Nat.reduceAdd,zN,zo,yQ,Vn,Wk,g5,g8,hb,abB,Option.getD_none];refine BQ (zaW s7 B.hl r0 r1 v0 false) ?_;rintro v h7 ⟨rfl,s8⟩;simp only[EE]
  have e:∀r:St×Bool,r=(if S.flags=true then xV S i.r none else (S,false))->r.2=false/\S.exit=r.1.exit/\S.ev=r.1.ev/\S.lk=r.1.lk/\S.steps=r.1.steps/\S.jU=r.1.jU:=λr hr=>by
   rw[hr];split <;> exact⟨rfl,rfl,rfl,rfl,rfl,rfl⟩
  obtain⟨e1,e2,e3,e4,e5,e6⟩:=e _ rfl;exact Z8 (S':=S) e1 ⟨ev,lk,cl,s8.k [0,1,2]⟩ hk0 e2 e3 e4 e5 e6
 |some x=>
  cases hf:S.flags with
  |true=>
   rw[aai rfl];simp only[EE,zb,Nat.reduceAdd,zN,zo,ow,yQ,Km,Vn,Wk,g5,g8,gm,Od,hf,hb,aa1,abH];exact zaM (by kernel_rfl) rfl (OC s7 B.hl hk0 r0 r1 (some x))
  |false=>
   rw[aae (by simp)];simp only[EE,zb,Nat.reduceAdd,zN,zo,ow,yQ,Km,Vn,Wk,g5,g8,gm,Od,hf,hb,aa1,abH];refine BQ (zaW s7 B.hl r0 r1 x false) ?_;rintro v h7 ⟨rfl,s8⟩;simp only[EE];exact Z8 (S':=S) rfl ⟨ev,lk,cl,s8.k [0,1,2]⟩ hk0 rfl rfl rfl rfl rfl
theorem zaB(hk:i.op=18)(hcl:cl=.slice (some ⟨q,0,none⟩) (ini.length+1) cp)(hc:S.calls=ini++[c])(hp:Rd lo (wR · p))(hf:p.funcs[c.f]? = some f)(hpl:Go.Ar.ud f.code i.l 0=Go.As.ve p c.f i.l):xB lo p b mb nn wv gl lim fr b5 b6 q (ini.length*7) i h4 (vj S {c with pt:=Go.As.ve p c.f i.l},true):=by
 have g6:=s4.get;have g5:=(s4.p 1).get;have gm:=(s4.p 2).get;unfold Zv at gm;unfold xB;have P:=hp.at s4;have fm:=aaA hf;obtain⟨bf,ofs,cf,tf,hif,hbf,hgf,hlf,htf,hkf⟩:=Go.As.Ws P.funcs (i:=c.f) (r:=f.row) (by rw[aau,hf];rfl) rfl;have fvn:=P.funcs.kY;have cvn:=(P.fns f fm).code.kY
 have tc:∀d,(vj S d).calls=ini++[d]:=λd=>by
  show S.calls.dropLast++[d]=_;rw[hc,abq]
 have s4':=s4;unfold bS at s4';rw[hc]at s4';obtain⟨cs,gq,wq,ltq,lq,kf,kp,kb,kz,kr⟩:=kD (s4'.p 5) hcl;simp only[EE,nth,Nat.reduceAdd,Int.reduceEq,zN,zo,vZ,bE,xx,yZ,vB,fG,fI,Zp,qM,u4,uu,vT,vH,wZ,wM,wF,wh,xK,xL,ya,y9,xc,zQ,zL,g5,gm,hk,PY,gq,kf,hif,hgf,hlf,htf];refine zgc (by simp only[yy];rfl) (Go.Ar.KB ((hp.at s4).fns f fm) i.l) ?_;simp only[EE,VM,hpl];refine Xr (c':={c with pt:=Go.As.ve p c.f i.l}) (s4'.p 5) hcl (j:=1) (by simp) rfl rfl λh5 s5=>?_;simp only[];refine kR rfl ⟨ev,lk,cl,?_⟩;unfold bS;rw[tc];exact s5.k [3,4,5,0,6]
theorem zaC(hk:i.op=19)(hcl:cl=.slice (some ⟨q,0,none⟩) (ini.length+1) cp)(hc:S.calls=ini++[c])(hp:Rd lo (wR · p))(hf:p.funcs[c.f]? = some f)(hpl:Go.Ar.ud f.code i.l 0=Go.As.ve p c.f i.l)(hcc:21<=i.cc/\i.cc<=26):xB lo p b mb nn wv gl lim fr b5 b6 q (ini.length*7) i h4 (Yh p S c i):=by
 have g6:=s4.get;have g5:=(s4.p 1).get;have gm:=(s4.p 2).get;unfold Zv at gm;unfold xB;have P:=hp.at s4;have fm:=aaA hf;obtain⟨bf,ofs,cf,tf,hif,hbf,hgf,hlf,htf,hkf⟩:=Go.As.Ws P.funcs (i:=c.f) (r:=f.row) (by rw[aau,hf];rfl) rfl;have fvn:=P.funcs.kY;have cvn:=(P.fns f fm).code.kY
 have tc:∀d,(vj S d).calls=ini++[d]:=λd=>by
  show S.calls.dropLast++[d]=_;rw[hc,abq]
 simp only[EE,nth,seval,zN,zo,xx,Kl,rU,mL,Yp,ki,qM,u4,uu,vT,vH,wZ,wM,wF,wh,xK,xL,ya,y9,xc,zQ,zL,g5,gm,hk,Ba,zdi,zdj];refine JC (UE (op:=i.cc) (a:=S.a) (b:=S.b) N.a.1 N.b.1 _) ?_;rw[yx];simp only[EE,Value.cells,Qg];refine w8 s4 λb8 h5 s5=>?_;simp only[EE,Nat.reduceAdd];refine z9 s5 (by simp) rfl λh6 s6=>?_;have g8:=s6.get;have g5:=(s6.p 2).get;have gm:=(s6.p 3).get;unfold Zv at gm;cases hb:zH i.cc S.a S.b with
 |none=>
  have e:Yh p S c i=(S,false):=by unfold Yh;rw[hb]
  rw[e];simp only[EE,Wl,Wm,Vp,abB];exact Z8 (S':=S) rfl ⟨ev,lk,cl,s6.k [3,4,5]⟩ hk0 rfl rfl rfl rfl rfl
 |some x=>
  cases hfl:S.flags with
  |false=>
   have e:Yh p S c i=(S,false):=by unfold Yh;rw[hb];simp only[hfl];rfl
   rw[e];simp only[EE,zo,ow,Km,Wl,Wm,Vp,gm,Od,hfl,aa1];exact Z8 (S':=S) rfl ⟨ev,lk,cl,s6.k [3,4,5]⟩ hk0 rfl rfl rfl rfl rfl
  |true=>
   have e:Yh p S c i=((if x.n=0 then yH S 1 x.n 0 else vj (yH S 1 x.n 0) {c with pt:=Go.As.ve p c.f i.l}),true):=by unfold Yh;rw[hb];simp only[hfl,aas]
   have bit:=zbD hcc.1 hcc.2 hb;rw[hb]at g8 s6;simp only[abH]at g8;simp only[EE,zb,Nat.reduceAdd,zo,ow,Km,Qf,Wl,Wm,Vp,g8,gm,Od,hfl,aa1];refine dM (EW (s6.f [3,4]) B.lk 1 x.n 0) ?_;rintro v h7 ⟨lk',s7⟩;have g8:=(s7.p 2).get;simp only[abH]at g8;have g5:=(s7.p 4).get;have gm:=s7.get;unfold Zv at gm;rcases bit with b0|b1
   ·rw[e,aai b0];simp only[EE,zb,Nat.reduceAdd,Int.reduceEq,zo,Vo,g8,b0];exact kR rfl ⟨ev,lk',cl,by rw[b0]at s7;exact s7.k [0,1,5,6,7]⟩
   ·rw[e,aae (by omega)];have s7':=s7;unfold bS at s7';rw[hc]at s7';obtain⟨cs,gq,wq,ltq,lq,kf,kp,kb,kz,kr⟩:=kD (s7'.p 6) hcl;have P:=hp.at s7;obtain⟨bf,ofs,cf,tf,hif,hbf,hgf,hlf,htf,hkf⟩:=Go.As.Ws P.funcs (i:=c.f) (r:=f.row) (by rw[aau,hf];rfl) rfl;simp only[EE,zb,Nat.reduceAdd,zN,zo,vZ,bE,yZ,vB,fG,fI,Qe,Vo,g8,g5,gm,b1,PY,gq,kf,hif,hgf,hlf,htf];refine zgc (by simp only[yy];rfl) (Go.Ar.KB (P.fns f fm) i.l) ?_;simp only[EE,VM,hpl];refine Xr (c':={c with pt:=Go.As.ve p c.f i.l}) (s7'.p 6) hcl (j:=1) (by simp) rfl rfl λh8 s8=>?_;simp only[];refine kR rfl ⟨ev,lk',cl,?_⟩;have tc2:(vj (yH S 1 x.n 0) {c with pt:=Go.As.ve p c.f i.l}).calls=ini++[{c with pt:=Go.As.ve p c.f i.l}]:=tc _;unfold bS;rw[tc2];rw[b1]at s8;rw[b1];exact s8.k [1,2,6,0,7]
theorem zaD(hk:i.op=20):xB lo p b mb nn wv gl lim fr b5 b6 q j i h4 (S,true):=by
 have g6:=s4.get;have g5:=(s4.p 1).get;have gm:=(s4.p 2).get;unfold Zv at gm;unfold xB;simp only[EE,nth,Nat.reduceAdd,Int.reduceEq,zN,xx,Vs,Yo,Zo,k9,u3,ja,ki,qM,u4,uu,vT,vH,wZ,wM,wF,wh,xK,xL,ya,y9,xc,zQ,zL,g5,hk];exact kR rfl ⟨ev,lk,cl,s4.k [2,3,4,5,6]⟩
theorem zaE(hk:i.op=21)(s0:0<=i.sub):xB lo p b mb nn wv gl lim fr b5 b6 q j i h4 (ye lim (yH {S with flags:=false} 4 i.sub 0) i.sub.toNat,true):=by
 have g6:=s4.get;have g5:=(s4.p 1).get;have gm:=(s4.p 2).get;unfold Zv at gm;unfold xB;simp only[EE,nth,Nat.reduceAdd,Int.reduceEq,zN,zo,xx,zB,Wo,ja,ki,qM,u4,uu,vT,vH,wZ,wM,wF,wh,xK,xL,ya,y9,xc,zQ,zL,g5,hk];refine dM (EW (s4.f [2,3]) B.lk 4 i.sub 0) ?_;rintro v h5 ⟨lk',s5⟩;have g5:=(s5.p 3).get;obtain⟨m,hm⟩:∃m:Nat,i.sub=m:=⟨i.sub.toNat,by omega⟩;simp only[EE,zo,zB,Je,g5];rw[hm]at s5 ⊢;rw[aaw];have s6:=s5.f [0,5];refine dM (NO (S:=yH S 4 m 0) s6 ⟨B.Mn.l0,B.Mn.l1,B.Mn.s0,B.Mn.s1⟩ B.cs m) ?_;rintro v h6 ⟨rfl,y⟩;simp only[EE];cases hg:(zY lim (yH S 4 m 0) 8).2 with
 |true=>
  rw[hg,aai rfl]at y;obtain⟨cl',s7⟩:=y
  have e:({ye lim (yH S 4 m 0) m with flags:=false}:St)=ye lim (yH {S with flags:=false} 4 m 0) m:=by
   unfold ye zY yH;unfold zY yH at hg;by_cases q:lim-S.stack<8
   ·simp only[aai q]at hg;cases hg
   ·simp only[aae q,aas]
  have e2:(ye lim (yH S 4 m 0) m).calls=(ye lim (yH {S with flags:=false} 4 m 0) m).calls:=by rw[<- e]
  have e3:(ye lim (yH {S with flags:=false} 4 m 0) m).lk=(yH S 4 m 0).lk/\(ye lim (yH {S with flags:=false} 4 m 0) m).ev=S.ev/\(ye lim (yH {S with flags:=false} 4 m 0) m).mem=S.mem:=by
   unfold ye zY
   repeat' split
   all_goals exact⟨rfl,rfl,rfl⟩
  rw[e,e2]at s7;refine kR rfl ⟨ev,lk',cl',?_⟩;unfold bS;rw[e3.1,e3.2.1,e3.2.2];exact s7.k [0,2,5,1,6]
 |false=>
  rw[hg,aae (by simp)]at y
  have q:lim-S.stack<8:=by
   unfold zY yH at hg;by_cases q:lim-S.stack<8
   ·exact q
   ·simp only[aae q]at hg;cases hg
  have e1:(zY lim (yH S 4 m 0) 8).1 = {yH S 4 m 0 with kind:=4}:=by unfold zY yH;simp only[aai q]
  have e2:ye lim (yH {S with flags:=false} 4 m 0) m = {yH {S with flags:=false} 4 m 0 with kind:=4}:=by
   unfold ye zY yH;simp only[aai q];rfl
  rw[e1]at y;rw[e2];exact Rh (S':={yH S 4 m 0 with kind:=4}) rfl (by show(4:Int)≠0;decide) ⟨ev,lk',cl,y.k [0,2,5]⟩ rfl rfl rfl rfl rfl rfl
theorem zaF(hk:i.op=22)(hcl:cl=.slice (some ⟨q,0,none⟩) (ini.length+1) cp)(hc:S.calls=ini++[c])(hn1:ini.length<4611686018427387900)(hN:RH c):xB lo p b mb nn wv gl lim fr b5 b6 q (ini.length*7) i h4 (kK S c):=by
 have g6:=s4.get;have g5:=(s4.p 1).get;have gm:=(s4.p 2).get;unfold Zv at gm;unfold xB;simp only[EE,nth,Nat.reduceAdd,Int.reduceEq,zN,xx,u3,ja,ki,qM,u4,uu,vT,vH,wZ,wM,wF,wh,xK,xL,ya,y9,xc,zQ,zL,g5,hk];have s5:Sat lo h4 (bS p b mb nn wv gl lim fr S ev lk cl):=s4.k [2,3,4,5,6];exact oZ (by kernel_rfl) rfl (zg7 s5 B hk0 hcl hc hn1 hN)
theorem zaG(hk:i.op=23)(hcl:cl=.slice (some ⟨q,0,none⟩) (ini.length+1) cp)(hc:S.calls=ini++[c])(hF:Iv c)(hN:RH c)(k0:0<=i.k)(k1:i.k<=65536):xB lo p b mb nn wv gl lim fr b5 b6 q (ini.length*7) i h4 (yK lim S c i):=by
 have g6:=s4.get;have g5:=(s4.p 1).get;have gm:=(s4.p 2).get;unfold Zv at gm;unfold xB;simp only[EE,nth,Nat.reduceAdd,Int.reduceEq,zN,xx,Zo,k9,u3,ja,ki,qM,u4,uu,vT,vH,wZ,wM,wF,wh,xK,xL,ya,y9,xc,zQ,zL,g5,hk];have ei:i.val=.agg #[pm 23,pm i.r,pm i.m,pm i.sub,pm i.cc,pm i.l,pm i.k]:=by rw[<- hk]
 rw[<- ei];have s5:Sat lo h4 (bS p b mb nn wv gl lim fr S ev lk cl):=s4.k [2,3,4,5,6];exact oZ (by kernel_rfl) rfl (NW s5 B N hF hN hk0 hcl hc k0 k1 (by omega))
theorem zaH(hk:i.op=24)(hcl:cl=.slice (some ⟨q,0,none⟩) (ini.length+1) cp)(hc:S.calls=ini++[c])(hF:Iv c)(hN:RH c)(k0:0<=i.k)(k1:i.k<=65536):xB lo p b mb nn wv gl lim fr b5 b6 q (ini.length*7) i h4 (yK lim S c i):=by
 have g6:=s4.get;have g5:=(s4.p 1).get;have gm:=(s4.p 2).get;unfold Zv at gm;unfold xB;simp only[EE,nth,Nat.reduceAdd,Int.reduceEq,zN,xx,Zo,k9,u3,ja,ki,qM,u4,uu,vT,vH,wZ,wM,wF,wh,xK,xL,ya,y9,xc,zQ,zL,g5,hk];have ei:i.val=.agg #[pm 24,pm i.r,pm i.m,pm i.sub,pm i.cc,pm i.l,pm i.k]:=by rw[<- hk]
 rw[<- ei];have s5:Sat lo h4 (bS p b mb nn wv gl lim fr S ev lk cl):=s4.k [2,3,4,5,6];exact oZ (by kernel_rfl) rfl (NW s5 B N hF hN hk0 hcl hc k0 k1 (by omega))
theorem zaI(hk:i.op=25)(hw:Rd lo (zl · wv world))(hwl:world.length<4611686018427387904):xB lo p b mb nn wv gl lim fr b5 b6 q (ini.length*7) i h4 (Go.As.xt {wS S 1 (qj world S.used) with used:=S.used+1} 0 (wB (qj world S.used)),true):=by
 have g6:=s4.get;have g5:=(s4.p 1).get;have gm:=(s4.p 2).get;unfold Zv at gm;unfold xB;have wvn:=(hw.at s4).kY;have wl:=Go.As.Dx (hw.at s4) 3;obtain⟨u0,u1⟩:=B.used;have hun:S.used=(S.used.toNat:Nat):=(abZ u0).symm;have hin:IntKind.wrap .i64 (S.used+1)=S.used+1:=Go.Mem.vF (by omega) (by omega)
 have go:∀z,z=qj world S.used->Wn (pi b) (λvs h=>Zw lo p b mb nn wv gl lim fr (Go.As.xt {wS S 1 (qj world S.used) with used:=S.used+1} 0 (wB (qj world S.used)),true) (.bool true) h) [pm z] h4:=by
  rintro z rfl;unfold Wn;simp only[EE,zo,EH,gm,zad,hin];refine z9 (s4.p 2) (by simp[vE]) rfl λh5 s5=>?_;rw[zgR]at s5;have gm:=s5.get;unfold Zv at gm;have en:=wL (s5.p 4);obtain⟨b',c',h6,ha,s6⟩:=Dp (s5.p 4) B.ev 1 (qj world S.used);simp only[EE,nth,Nat.reduceAdd,zo,Np,S8,oF,oG,rT,jS,gm,zgL,en,ha];refine z9 (s6.p 1) (by simp[vE]) rfl λh7 s7=>?_;rw[zgT]at s7;simp only[nth];refine JC (ZN (qj world S.used) _) ?_;unfold Vr;simp only[EE,seval,wP,xW];refine z9 s7 (by simp[vE]) rfl λh8 s8=>?_;have e:zb (YE p mb {S with used:=S.used+1} (.slice (some ⟨b',0,none⟩) (S.ev.length+1) c') lk wv gl cl lim fr) 12 [pm (wB (qj world S.used)).k,pm (wB (qj world S.used)).n,pm (wB (qj world S.used)).b]=_:=zdp (S:={S with used:=S.used+1}) B.hl _;rw[e]at s8;simp only[];exact kR rfl ⟨.slice (some ⟨b',0,none⟩) (S.ev.length+1) c',lk,cl,s8.k [0,4,1,5,6]⟩
 by_cases hu:S.used<(world.length:Int)
 ·obtain⟨z,hz⟩:∃z,world[S.used.toNat]? = some z:=⟨_,aac (by omega)⟩;obtain⟨bb,o,cs,t,hix,hbb,hgt,hat0⟩:=Go.As.zd1 (hw.at s4) hz;rw[<- hun]at hix
  have ez:z=qj world S.used:=by
   unfold qj;rw[aae (by omega),aaF,hz];rfl
  simp only[EE,nth,Nat.reduceAdd,Int.reduceEq,zN,zo,No,xx,NU,EH,Vq,Qi,Yo,Zo,k9,u3,ja,ki,qM,u4,uu,vT,vH,wZ,wM,wF,wh,xK,xL,ya,y9,xc,zQ,zL,g5,hk,gm,zad,zdf,wvn,wl,hu,hix,hgt,hat0];exact go z ez
 ·have ez:0=qj world S.used:=by
   unfold qj;rw[aae (by omega),aaF,aak (by omega)];rfl
  simp only[EE,nth,Nat.reduceAdd,Int.reduceEq,zN,zo,No,xx,NU,EH,Qi,Yo,Zo,k9,u3,ja,ki,qM,u4,uu,vT,vH,wZ,wM,wF,wh,xK,xL,ya,y9,xc,zQ,zL,g5,hk,gm,zad,zdf,wvn,wl,hu];exact go 0 ez
theorem zaJ(hk:i.op=26):xB lo p b mb nn wv gl lim fr b5 b6 q (ini.length*7) i h4 (if (zj S 0).k=1 then (wS S 2 (zj S 0).n,true) else (S,false)):=by
 have g6:=s4.get;have g5:=(s4.p 1).get;have gm:=(s4.p 2).get;unfold Zv at gm;unfold xB;by_cases k1:(zj S 0).k=1
 ·rw[aai k1];have en:=wL (s4.p 4);obtain⟨b',c',h6,ha,s6⟩:=Dp (s4.p 4) B.ev 2 (zj S 0).n;simp only[EE,nth,seval,zN,zo,Np,xx,S8,oF,oG,rT,jS,wP,xW,Jf,Qh,Vs,Yo,Zo,k9,u3,ja,ki,qM,u4,uu,vT,vH,wZ,wM,wF,wh,xK,xL,ya,y9,xc,zQ,zL,g5,hk,gm,Oc,zdg,k1,zgL,en,ha];refine z9 (s6.p 3) (by simp[vE]) rfl λh7 s7=>?_;rw[zgT]at s7;simp only[];exact kR rfl ⟨.slice (some ⟨b',0,none⟩) (S.ev.length+1) c',lk,cl,s7.k [0,4,1,5,6]⟩
 ·rw[aae k1];simp only[EE,nth,seval,zN,zo,xx,wP,xW,Qh,Vs,Yo,Zo,k9,u3,ja,ki,qM,u4,uu,vT,vH,wZ,wM,wF,wh,xK,xL,ya,y9,xc,zQ,zL,g5,hk,gm,Oc,k1];exact Z8 (S':=S) rfl ⟨ev,lk,cl,s4.k [2,3,4]⟩ hk0 rfl rfl rfl rfl rfl
end
open Go.As (ve gE)
structure zdK (code:List xY) (p:Pg) (f:Nat) (i:xY):Prop where
 k:wH i.k
 cc:i.op=19->21<=i.cc/\i.cc<=26
 pl:i.op=18\/i.op=19->Go.Ar.ud code i.l 0=ve p f i.l
section
variable {lo:yE}{h:za}{b mb nn:Nat}{p:Pg}{S:St}{ev lk wv gl cl:aaa}{lim:Int}{fr:Bool}{i:xY}{q cp:Nat}{c:Fr}{ini:List Fr}{world:List Int}{f:Go.As.Fn}
theorem zfl(s:Sat lo h (bS p b mb nn wv gl lim fr S ev lk cl))(B:rH lim S)(N:XB S)(hk0:S.kind=0)(hF:Iv c)(hN:RH c)(hcl:cl=.slice (some ⟨q,0,none⟩) (ini.length+1) cp)(hc:S.calls=ini++[c])(hn1:ini.length<4611686018427387900)(hw:Rd lo (zl · wv world))(hwl:world.length<4611686018427387904)(hg:Rd lo (zl · gl S.gl))(hgl:S.gl.length=p.globals.length)(hp:Rd lo (wR · p))(hf:p.funcs[c.f]? = some f)(G:gE p i)(X:zdK f.code p c.f i)(hnn:nn<=100000000) :
  DC pu 27 [xG b,.pointer (some ⟨q,ini.length*7,none⟩),i.val] h (Zw lo p b mb (nn+1) wv gl lim fr (zi p lim world S c i)):=by
 obtain⟨K,hcc,hpl⟩:=X;apply ot;unfold tX xG;simp only[EE,Value.cells];refine w8 s λb5 h2 s2=>?_;have g5:=s2.get;simp only[EE,zo,zX,g5];refine xU (ZN i.k _) ?_;simp only[EE,Value.cells,Jg];refine w8 s2 λb6 h3 s3=>?_;simp only[EE,Nat.reduceAdd];refine z9 s3 (by simp) rfl λh4 s4=>?_;have g5:=(s4.p 1).get;simp only[EE,↓xg,zo,zf,g5];have s9:Sat lo h4 (pt b6 (.cells [pm (wB i.k).k,pm (wB i.k).n,pm (wB i.k).b] 64)::pt b5 (.cells i.row 50)::bS p b mb (nn+1) wv gl lim fr S ev lk cl):=(ED (s4.p 6) (abC _)).f [1,2,3,4,5,6,0];have hd:i.op=1\/i.op=2\/i.op=3\/i.op=4\/i.op=5\/i.op=6\/i.op=7\/i.op=8\/i.op=9\/i.op=10\/i.op=11\/i.op=12\/i.op=13\/i.op=14\/i.op=15\/i.op=16\/i.op=17\/i.op=18\/i.op=19\/i.op=20\/i.op=21\/i.op=22\/i.op=23\/i.op=24\/i.op=25\/i.op=26:=by have:=G.lo;have:=G.hi;omega
 show xB lo p b mb (nn+1) wv gl lim fr b5 b6 q (ini.length*7) i h4 (zi p lim world S c i);rcases hd with hk|hk|hk|hk|hk|hk|hk|hk|hk|hk|hk|hk|hk|hk|hk|hk|hk|hk|hk|hk|hk|hk|hk|hk|hk|hk
 ·have e:zi p lim world S c i=(Go.As.xt S i.r (zj S i.m),true):=by unfold zi;simp only[hk,Int.reduceEq,aaG,aas,aar]
  rw[e];exact zeS s9 B N hk0 hk (G.r (by rw[hk];rfl)).1 (G.r (by rw[hk];rfl)).2 (G.m (by rw[hk];rfl)).1 (G.m (by rw[hk];rfl)).2
 ·have e:zi p lim world S c i=(Go.As.xt S i.r (wB i.k),true):=by unfold zi;simp only[hk,Int.reduceEq,aaG,aas,aar]
  rw[e];exact zeT s9 B N hk0 hk (G.r (by rw[hk];rfl)).1 (G.r (by rw[hk];rfl)).2
 ·have e:zi p lim world S c i=yb S i:=by unfold zi;simp only[hk,Int.reduceEq,aaN,aaG,aas,aar]
  rw[e];exact zeU s4 B N hk0 hk (G.r (by rw[hk];rfl)).1 (G.r (by rw[hk];rfl)).2 (G.m (by rw[hk];rfl)).1 (G.m (by rw[hk];rfl)).2 K (G.sub (by omega)) hnn
 ·have e:zi p lim world S c i=yb S i:=by unfold zi;simp only[hk,Int.reduceEq,aaY,aaG,aas,aar]
  rw[e];exact zeV s4 B N hk0 hk (G.r (by rw[hk];rfl)).1 (G.r (by rw[hk];rfl)).2 (G.m (by rw[hk];rfl)).1 (G.m (by rw[hk];rfl)).2 K (G.sub (by omega)) hnn
 ·have e:zi p lim world S c i=xV S i.r (zH 11 (zj S i.m) (wB i.k)):=by unfold zi;simp only[hk,Int.reduceEq,aaG,aas,aar]
  rw[e];exact zeW s9 B N hk0 hk (G.r (by rw[hk];rfl)).1 (G.r (by rw[hk];rfl)).2 (G.m (by rw[hk];rfl)).1 (G.m (by rw[hk];rfl)).2 K
 ·have e:zi p lim world S c i=(Go.As.xt S i.r (iQ (S.gl.getD i.sub.toNat 0) i.k),true):=by unfold zi;simp only[hk,Int.reduceEq,aaG,aas,aar]
  rw[e];exact zeX s9 B N hk0 hk (G.r (by rw[hk];rfl)).1 (G.r (by rw[hk];rfl)).2 (G.glo hk).1 (by rw[hgl];exact(G.glo hk).2) hg
 ·have e:zi p lim world S c i=xV S i.r (zH i.sub (zj S i.r) (zj S i.m)):=by unfold zi;simp only[hk,Int.reduceEq,aaG,aas,aar]
  rw[e];exact zeY s9 B N hk0 hk (G.r (by rw[hk];rfl)).1 (G.r (by rw[hk];rfl)).2 (G.m (by rw[hk];rfl)).1 (G.m (by rw[hk];rfl)).2
 ·have e:zi p lim world S c i=xV S i.r (zH i.sub (zj S i.r) (wB i.k)):=by unfold zi;simp only[hk,Int.reduceEq,aaN,aaG,aas,aar]
  rw[e];exact zeZ s9 B N hk0 hk (G.r (by rw[hk];rfl)).1 (G.r (by rw[hk];rfl)).2 K
 ·have e:zi p lim world S c i=xV S i.r (bO i.sub (zj S i.r)):=by unfold zi;simp only[hk,Int.reduceEq,aaG,aas,aar]
  rw[e];exact ze0 s9 B N hk0 hk (G.r (by rw[hk];rfl)).1 (G.r (by rw[hk];rfl)).2
 ·have e:zi p lim world S c i=xV S i.r (bO i.sub (zj S i.m)):=by unfold zi;simp only[hk,Int.reduceEq,aaG,aas,aar]
  rw[e];exact zat s9 B N hk0 hk (G.r (by rw[hk];rfl)).1 (G.r (by rw[hk];rfl)).2 (G.m (by rw[hk];rfl)).1 (G.m (by rw[hk];rfl)).2
 ·have e:zi p lim world S c i=xV S i.r (zH i.sub (zj S i.r) (wB i.k)):=by unfold zi;simp only[hk,Int.reduceEq,aaY,aaG,aas,aar]
  rw[e];exact zau s9 B N hk0 hk (G.r (by rw[hk];rfl)).1 (G.r (by rw[hk];rfl)).2 K
 ·have e:zi p lim world S c i=(if (zj S 1).k=1 then xV S i.r (zH i.sub (zj S i.r) (wB (kN (· &&& ·) (zj S 1).n 63))) else (S,false)):=by unfold zi;simp only[hk,Int.reduceEq,aaG,aas,aar]
  rw[e];exact zav s9 B N hk0 hk (G.r (by rw[hk];rfl)).1 (G.r (by rw[hk];rfl)).2
 ·have e:zi p lim world S c i=(Go.As.xt S 2 (Zs (zj S 0)),decide ((zj S 0).k=1)):=by unfold zi;simp only[hk,Int.reduceEq,aaG,aas,aar]
  rw[e];exact zaw s9 B N hk0 hk
 ·have e:zi p lim world S c i=qF S (zj S i.m):=by unfold zi;simp only[hk,Int.reduceEq,aaG,aas,aar]
  rw[e];exact zax s9 B N hk0 hk (G.m (by rw[hk];rfl)).1 (G.m (by rw[hk];rfl)).2
 ·have e:zi p lim world S c i=({S with flags:=true,a:=zj S i.r,b:=zj S i.m},true):=by unfold zi;simp only[hk,Int.reduceEq,aaG,aas,aar]
  rw[e];exact zay s9 B N hk0 hk (G.r (by rw[hk];rfl)).1 (G.r (by rw[hk];rfl)).2 (G.m (by rw[hk];rfl)).1 (G.m (by rw[hk];rfl)).2
 ·have e:zi p lim world S c i=({S with flags:=true,a:=zj S i.r,b:=wB i.k},true):=by unfold zi;simp only[hk,Int.reduceEq,aaG,aas,aar]
  rw[e];exact zaz s9 B N hk0 hk (G.r (by rw[hk];rfl)).1 (G.r (by rw[hk];rfl)).2
 ·have e:zi p lim world S c i=(if S.flags=true then xV S i.r (zH i.cc S.a S.b) else (S,false)):=by unfold zi;simp only[hk,Int.reduceEq,aaG,aas,aar]
  rw[e];exact zaA s9 B N hk0 hk (G.r (by rw[hk];rfl)).1 (G.r (by rw[hk];rfl)).2
 ·have e:zi p lim world S c i=(vj S {c with pt:=ve p c.f i.l},true):=by unfold zi;simp only[hk,Int.reduceEq,aaG,aas,aar]
  rw[e];exact zaB s9 B N hk0 hk hcl hc hp hf (hpl (by omega))
 ·have e:zi p lim world S c i=Yh p S c i:=by unfold zi;simp only[hk,Int.reduceEq,aaG,aas,aar]
  rw[e];exact zaC s9 B N hk0 hk hcl hc hp hf (hpl (by omega)) (hcc hk)
 ·have e:zi p lim world S c i=(S,true):=by unfold zi;simp only[hk,Int.reduceEq,aaG,aar]
  rw[e];exact zaD s9 B N hk0 hk
 ·have e:zi p lim world S c i=(ye lim (yH {S with flags:=false} 4 i.sub 0) i.sub.toNat,true):=by unfold zi;simp only[hk,Int.reduceEq,aaG,aas,aar]
  rw[e];exact zaE s9 B N hk0 hk (G.call hk).1
 ·have e:zi p lim world S c i=kK S c:=by unfold zi;simp only[hk,Int.reduceEq,aaG,aas,aar]
  rw[e];exact zaF s9 B N hk0 hk hcl hc hn1 hN
 ·have e:zi p lim world S c i=yK lim S c i:=by unfold zi;simp only[hk,Int.reduceEq,aaN,aaG,aas,aar]
  rw[e];exact zaG s9 B N hk0 hk hcl hc hF hN (G.frame (by omega)).1 (G.frame (by omega)).2
 ·have e:zi p lim world S c i=yK lim S c i:=by unfold zi;simp only[hk,Int.reduceEq,aaY,aaG,aas,aar]
  rw[e];exact zaH s9 B N hk0 hk hcl hc hF hN (G.frame (by omega)).1 (G.frame (by omega)).2
 ·have e:zi p lim world S c i=(Go.As.xt {wS S 1 (qj world S.used) with used:=S.used+1} 0 (wB (qj world S.used)),true):=by unfold zi;simp only[hk,Int.reduceEq,aaG,aas,aar]
  rw[e];exact zaI s9 B N hk0 hk hw hwl
 ·have e:zi p lim world S c i=(if (zj S 0).k=1 then (wS S 2 (zj S 0).n,true) else (S,false)):=by unfold zi;simp only[hk,Int.reduceEq,aaG,aas,aar]
  rw[e];exact zaJ s9 B N hk0 hk
end
open Go.As (Yt Yx)
open Go.Ar (ud kX KG mw fJ AL)
theorem H3:∀(xs:List xY) (l k z:Int),(∀y,y∈xs->kX l y=false)->Yt xs l k z=z
 |[],_,_,_,_=>rfl
 |x::xs,l,k,z,h=>by
  have hx:¬(x.op=20/\x.l=l):=of_decide_eq_false (h x (by simp));show Yt xs l (k+1) (if x.op=20/\x.l=l then k else z)=z;rw[aae hx];exact H3 xs l (k+1) z λy hy=>h y (by simp[hy])
theorem DL:∀(xs:List xY) (l k z r:Int),(∀(j:Nat) y,xs[j]? = some y->kX l y=true->k+j=r)->xs.any (kX l)=true->Yt xs l k z=r
 |[],_,_,_,_,_,h=>by cases h
 |x::xs,l,k,z,r,h,ha=>by
  show Yt xs l (k+1) (if x.op=20/\x.l=l then k else z)=r;by_cases hx:x.op=20/\x.l=l
  ·rw[aai hx];have e:=h 0 x rfl (abE hx);rw[H3]
   ·omega
   ·intro y hy;obtain⟨j,hj,rfl⟩:=abS hy;cases hq:kX l xs[j] with
    |false=>rfl
    |true=>
     have:=h (j+1) xs[j] (by simp[aac hj]) hq;omega
  ·rw[aae hx];refine DL xs l (k+1) z r (λj y hy hl=>?_) ?_
   ·have:=h (j+1) y (by simpa using hy) hl;omega
   ·rw[List.any_cons]at ha;have:kX l x=false:=abR hx;rw[this]at ha;simpa using ha
def PgN(p:Pg):Prop := ∀f,f∈p.funcs->∀x,x∈f.code->wH x.k
theorem N6{p:Pg}(h:Yx p=true)(hn:PgN p){k:Nat}{f:Go.As.Fn}(hf:p.funcs[k]? = some f){i:xY}(hi:i∈f.code):zdK f.code p k i:=by
 have fm:=aaA hf;rw[<- mw]at h;unfold KG at h;simp only[aah,aaM]at h;have h:=h.2.2 f fm;unfold Go.Ar.oK at h;simp only[aah]at h;have h1:=h.1;unfold Go.Ar.mj at h1;rw[aaM]at h1
 have at_:∀(n:Nat) x,f.code[n]? = some x->Go.Ar.vI p f.code n x=true:=λn x hx=>by
  have hn:=(List.getElem?_eq_some_iff.1 hx).1;have:=h1 n (by simpa using hn);unfold Go.Ar.zbY at this;rw[hx]at this;exact this
 obtain⟨n,hnl,rfl⟩:=abS hi;have hin:=aac hnl;have d:=at_ n _ hin;unfold Go.Ar.vI at d;simp only[aah]at d;obtain⟨d1,d2,d3⟩:=d;refine⟨hn f fm _ hi,λo=>?_,λo=>?_⟩
 ·generalize f.code[n]=x at d1 o;obtain⟨op,r,m,sub,cc,l,kk⟩:=x;simp only at o;subst o;simp only[Go.Ar.wm,Go.Ar.QV,Go.Ar.KK,Go.Ar.eD,Go.Ar.oX,Go.Ar.tailD]at d1;simp[Go.As.W0]at d1;simp[d1]
 ·have hp:ve p k f.code[n].l=Yt f.code f.code[n].l 0 0:=by unfold ve;rw[hf]
  rw[hp];unfold Go.Ar.Yi at d2;simp only[aah,aaz]at d2;obtain⟨_,d4⟩:=d2;rw[abE o]at d4;have d4:¬ud f.code f.code[n].l 0<0:=by simpa using d4
  have ha:f.code.any (kX f.code[n].l)=true:=by
   cases q:f.code.any (kX f.code[n].l) with
   |true=>rfl
   |false=>exact absurd ((fJ _ _).2 q) d4
  refine(DL f.code _ 0 0 _ (λj y hy hl=>?_) ha).symm;have e:=at_ j y hy;unfold Go.Ar.vI Go.Ar.Yi at e;simp only[aah,aaz]at e;have e2:=e.2.1.1;have hl:=abc hl;rw[abE hl.1]at e2;have e2:ud f.code y.l 0=(j:Int):=by simpa using e2
  rw[hl.2]at e2;omega
open Go.As (YF Ft IA Z2 kP Ws)
structure Eq6 (S' S:St):Prop where
 kind:S'.kind=S.kind
 exit:S'.exit=S.exit
 ev:S'.ev=S.ev
 lk:S'.lk=S.lk
 steps:S'.steps=S.steps
 jU:S'.jU=S.jU
section
variable {lo:yE}{h:za}{L:List HP}{b mb nn:Nat}{p:Pg}{S:St}{ev lk wv gl cl:aaa}{lim fuel:Int}{fr:Bool}{i:xY}{q cp:Nat}{c:Fr}{ini:List Fr}{world:List Int}{f:Go.As.Fn}{J J8:List aaa->za->Prop}
theorem zda{K:za->Prop}(hcl:cl=.slice (some ⟨q,0,none⟩) (ini.length+1) cp)(hc:S.calls=ini++[c])(s:Sat lo h (w7 77 7 cl (S.calls.map yX)::L))(z:Int)(k:∀h',Sat lo h' (w7 77 7 cl ((vj S {c with pt:=z}).calls.map yX)::L)->K h'):opt (xw h q (ini.length*7+1) [pm z]) K:=by
 rw[hc]at s;refine Xr (c':={c with pt:=z}) s hcl (j:=1) (by simp) rfl rfl λh' s'=>k h' ?_
 have e:(vj S {c with pt:=z}).calls=ini++[{c with pt:=z}]:=by
  show S.calls.dropLast++[_]=_;rw[hc,abq]
 rw[e];exact s'
theorem dJ{L:List HP}(s:Sat lo h (w7 77 7 cl (S.calls.map yX)::L))(hc:S.calls=ini++[c]):∃q cp,cl=.slice (some ⟨q,0,none⟩) (ini.length+1) cp:=by
 rcases Xp s with⟨_,e,_⟩|⟨q,cp,cs,e,_⟩
 ·rw[hc]at e;simp at e
 ·exact⟨q,cp,by rw[e,hc];simp⟩
theorem zgn{r:St×Bool}{v:aaa}(x:Zw lo p b mb nn wv gl lim fr r v h)
  (k1:r.2=true->r.1.kind=0->∀h',BT lo p b mb nn wv gl lim fr r.1 h'->J8 [] h')
  (k2:(kH r).kind≠0->∀S' h',Eq6 S' (kH r)->rn lo p b mb wv gl lim fr S' h'->J8 [] h') :
  opt (Vx pu .not v) λt220=>GD t220 true (λk146=>k146 (xG b) h) (Qp t220 (xG b) J8) h:=by
 obtain⟨ok,rfl,y⟩:=x;unfold xG;have ee:(kH r).exit=r.1.exit/\(kH r).ev=r.1.ev/\(kH r).lk=r.1.lk/\(kH r).steps=r.1.steps/\(kH r).jU=r.1.jU:=by unfold kH;split <;> exact⟨rfl,rfl,rfl,rfl,rfl⟩
 by_cases cc:r.2=true/\r.1.kind=0
 ·rw[aai cc]at y;obtain⟨rfl,y⟩:=y;simp only[EE,cD,cE,Qp];exact k1 cc.1 cc.2 _ y
 ·rw[aae cc]at y
  have hne:(kH r).kind≠0:=by
   unfold kH;split
   ·rename_i q;exact λz=>cc ⟨q,z⟩
   ·show(3:Int)≠0;decide
  obtain⟨S',⟨ev,lk,cl,s⟩,D⟩:=y;have gm:=s.get;unfold Zv at gm;cases ok with
  |true=>
   simp only[EE,cD,cE,Qp];refine k2 hne S' _ ⟨?_,D.exit.trans ee.1.symm,D.ev.trans ee.2.1.symm,D.lk.trans ee.2.2.1.symm,D.steps.trans ee.2.2.2.1.symm,D.jU.trans ee.2.2.2.2.symm⟩ ⟨ev,lk,cl,s⟩;have:=D.kind;rw[aae (λq=>by cases q.1)]at this;exact this
  |false=>
   by_cases hk:S'.kind=0
   ·have dk:=D.kind;rw[aai ⟨rfl,hk⟩]at dk;simp only[EE,zo,kx,jS,F9,cD,cE,Qp,gm,LX,hk];refine z9 s (by simp[vE]) rfl λh2 s2=>?_;rw[zaj]at s2;simp only[];exact k2 hne {S' with kind:=3} _ ⟨dk,D.exit.trans ee.1.symm,D.ev.trans ee.2.1.symm,D.lk.trans ee.2.2.1.symm,D.steps.trans ee.2.2.2.1.symm,D.jU.trans ee.2.2.2.2.symm⟩ ⟨ev,lk,cl,s2⟩
   ·have dk:=D.kind;rw[aae (λq=>hk q.2)]at dk;simp only[EE,zo,kx,jS,cD,cE,Qp,gm,LX,hk];exact k2 hne S' _ ⟨dk,D.exit.trans ee.1.symm,D.ev.trans ee.2.1.symm,D.lk.trans ee.2.2.1.symm,D.steps.trans ee.2.2.2.1.symm,D.jU.trans ee.2.2.2.2.symm⟩ ⟨ev,lk,cl,s⟩
theorem zcp(s:Sat lo h (bS p b mb nn wv gl lim fr S ev lk cl))(hcl:cl=.slice (some ⟨q,0,none⟩) (ini.length+1) cp)(hc:S.calls=ini++[c])(hn1:ini.length<4611686018427387900)(hw:Rd lo (zl · wv world))(hwl:world.length<4611686018427387904)(hg:Rd lo (zl · gl S.gl))(hp:Rd lo (wR · p))(hf:p.funcs[c.f]? = some f)(G:∀x,x∈f.code->gE p x)(X:∀x,x∈f.code->zdK f.code p c.f x)(hnn:nn<=100000000)
  (I:YF p lim S.steps S) (N:XB S) (hk0:S.kind=0) (hs:S.steps<=100000000) (p0:0<=c.pt) (p1:c.pt<=f.code.length) (hfc:f.code.length<=100000) (vs:List aaa)
  (k3:c.pt=f.code.length->∀h',rn lo p b mb wv gl lim fr {S with kind:=3} h'->J [] h')
  (k2:c.pt<f.code.length->S.steps=fuel->∀h',rn lo p b mb wv gl lim fr {S with kind:=2} h'->J [] h')
  (k1:¬S.steps=fuel->∀i,f.code[c.pt.toNat]? = some i->∀v h',Zw lo p b mb (nn+1) wv gl lim fr (zi p lim world {vj S {c with pt:=c.pt+1} with steps:=S.steps+1} {c with pt:=c.pt+1} i) v h'->opt (Vx pu .not v) λt220=>GD t220 true (λk146=>k146 (xG b) h') (Qp t220 (xG b) J8) h') :
  lN (.pointer (some ⟨q,ini.length*7,none⟩)) f.cv (xG b) J (pm fuel) J8 vs h:=by
 unfold lN xG;have fm:=aaA hf;have P:=hp.at s;have F2:=P.fns f fm;have hlc:=kP F2.code 3;have cvn:=F2.code.kY;have s':=s;unfold bS at s';rw[hc]at s';obtain⟨cs,gq,wq,ltq,lq,kf,kp,kb,kz,kr⟩:=kD (s'.p 3) hcl;clear s';have gm:=s.get;unfold Zv at gm;by_cases he:c.pt ≥ (f.code.length:Int)
 ·simp only[EE,zo,kx,jS,VM,F7,gq,kp,cvn,hlc,he];refine z9 s (by simp[vE]) rfl λh2 s2=>?_;rw[zaj]at s2;exact k3 (by omega) _ ⟨ev,lk,cl,s2.k [0,1,2]⟩
 ·by_cases hfu:S.steps=fuel
  ·simp only[EE,Nat.reduceAdd,zo,kx,mJ,jS,VM,F8,sJ,gq,kp,cvn,hlc,he,gm,zgM,hfu];refine z9 s (by simp[vE]) rfl λh2 s2=>?_;rw[zaj]at s2;exact k2 (by omega) hfu _ ⟨ev,lk,cl,s2.k [0,1,2]⟩
  ·obtain⟨pc,hpc⟩:∃pc:Nat,c.pt=pc:=⟨c.pt.toNat,by omega⟩;obtain⟨i,hi⟩:∃i,f.code[pc]? = some i:=⟨_,aac (by omega)⟩;have im:=aaA hi;have hn0:=I.n0;have hw1:IntKind.wrap .i64 (S.steps+1)=S.steps+1:=Go.Mem.vF (by omega) (by omega);have hw2:IntKind.wrap .i64 (c.pt+1)=c.pt+1:=Go.Mem.vF (by omega) (by omega);have hw3:IntKind.wrap .i64 (c.pt+1-1)=c.pt:=by rw[show c.pt+1-1=c.pt by omega];exact Go.Mem.vF (by omega) (by omega)
   have tc:∀d,(vj S d).calls=ini++[d]:=λd=>by
    show S.calls.dropLast++[d]=_;rw[hc,abq]
   simp only[EE,Nat.reduceAdd,zo,mJ,jS,VM,Ga,sJ,gq,kp,cvn,hlc,he,gm,zgM,hfu,hw1];refine z9 s (by simp[vE]) rfl λh2 s2=>?_;rw[zhR]at s2;have s2':=s2;rw[hc]at s2';clear gq kf kp kb kz kr;obtain⟨cs,gq,wq,ltq,lq,kf,kp,kb,kz,kr⟩:=kD (s2'.p 3) hcl;clear s2';simp only[EE,zo,VM,gq,kp,hw2];refine zda hcl hc (s2.p 3) _ λh3 s3=>?_;have s3':=s3;rw[tc]at s3';clear gq kf kp kb kz kr;obtain⟨cs,gq,wq,ltq,lq,kf,kp,kb,kz,kr⟩:=kD s3' hcl;clear s3';have F3:=(hp.at s3).fns f fm;obtain⟨bi,oi,ci,ti,ha,hbi,hgi,hle,htk,_⟩:=Z2 F3.code (i:=pc) (r:=i.row) (by rw[aau,hi];rfl) rfl;rw[<- hpc]at ha;simp only[EE,zN,zo,xx,VM,gq,kp,hw3,ha,hgi,hle,htk];have FN:Ft p {c with pt:=c.pt+1}:=Go.As.mR (I.fr c (by rw[hc];simp)) hf (by omega);have B:rH lim {vj S {c with pt:=c.pt+1} with steps:=S.steps+1}:=(((I.top (by rw[hc];simp) FN).stp (S.steps+1))).bounds hs;have cN:=N.fr c (by rw[hc];simp);have NN:XB {vj S {c with pt:=c.pt+1} with steps:=S.steps+1}:=(N.top (c:={c with pt:=c.pt+1}) ⟨cN.KC,cN.qX⟩).stp (S.steps+1);have s4:Sat lo h3 (bS p b mb nn wv gl lim fr {vj S {c with pt:=c.pt+1} with steps:=S.steps+1} ev lk cl):=s3.f [1,2,3,0,4];refine dM (zfl (i:=i) s4 B NN hk0 FN.b ⟨cN.KC,cN.qX⟩ hcl (tc _) hn1 hw hwl hg I.p8 hp hf (G i im) (X i im) hnn) ?_;rintro v h5 x;exact k1 hfu i (by rw[hpc,aaw];exact hi) v h5 x
end
open Go.As (Y8 ng)
section
variable {lo:yE}{h:za}{b mb:Nat}{p:Pg}{wv gl:aaa}{lim fuel:Int}{fr:Bool}{world gls:List Int}{T S S0:St}{J:List aaa->za->Prop}
def RL(lo:yE)(p:Pg)(b mb:Nat)(wv gl:aaa)(lim:Int)(fr:Bool)(world:List Int)(fuel:Int)(gls:List Int)(T:St)(m:Nat)(vs:List aaa)(h':za):Prop :=
 vs=[] /\ ∃S,Go.As.Loop p lim world (!fr) fuel T S/\((S.kind=0/\m=Y8 p fuel S+1/\XB S/\S.gl=gls/\BT lo p b mb S.steps.toNat wv gl lim fr S h')\/(S.kind≠0/\m=0 /\ ∃S',Eq6 S' S/\rn lo p b mb wv gl lim fr S' h'))
theorem Eq6.rfl(S:St):Eq6 S S:=⟨Eq.refl _,Eq.refl _,Eq.refl _,Eq.refl _,Eq.refl _,Eq.refl _⟩
theorem zaa(hp:Rd lo (wR · p))(gd:Yx p=true)(gn:PgN p)(hw:Rd lo (zl · wv world))(hwl:world.length<4611686018427387904)(hw64:∀z,z∈world->wH z)(hg:Rd lo (zl · gl gls))(hf1:fuel<=100000000)(L0:Go.As.Loop p lim world (!fr) fuel T S0)
  (x0:(S0.kind=0/\XB S0/\S0.gl=gls/\BT lo p b mb S0.steps.toNat wv gl lim fr S0 h)\/(S0.kind≠0 /\ ∃S',Eq6 S' S0/\rn lo p b mb wv gl lim fr S' h))
  (k:∀S S' h',Go.As.Loop p lim world (!fr) fuel T S->S.kind≠0->Eq6 S' S->rn lo p b mb wv gl lim fr S' h'->J [] h') :
  LP (lO (xG b) J (.bool fr) (pm fuel)) [] h:=by
 have g:IA p:=Go.As.rZ gd
 obtain⟨m0,inv0⟩:∃m,RL lo p b mb wv gl lim fr world fuel gls T m [] h:=by
  rcases x0 with⟨a,c,d,e⟩|⟨a,c⟩
  ·exact⟨_,rfl,S0,L0,.inl ⟨a,rfl,c,d,e⟩⟩
  ·exact⟨_,rfl,S0,L0,.inr ⟨a,rfl,c⟩⟩
 refine qQ (RL lo p b mb wv gl lim fr world fuel gls T) m0 inv0 ?_;rintro m vs h1 ⟨rfl,S,L,⟨hk,rfl,N,hgs,x⟩|⟨hk,rfl,S',E,ev,lk,cl,s⟩⟩
 ·obtain⟨ev,lk,cl,s⟩:=x;have gm:=s.get;unfold Zv at gm;unfold lO xG;rcases acq S.calls with e|⟨ini,c,hc⟩
  ·exact absurd e (L.ne hk)
  rw[acr]at hc;obtain⟨q,cp,hcl⟩:=dJ (s.p 3) hc;have cm:c∈S.calls:=by rw[hc];simp
  have F:=L.I.fr c cm;obtain⟨f,hf,p0,p1⟩:=F.at_;have fm:=aaA hf;have fl:=g.few f fm;obtain⟨pc,hpc⟩:∃pc:Nat,c.pt=pc:=⟨c.pt.toNat,by omega⟩;have s':=s;unfold bS at s';rw[hc]at s';obtain⟨cs,gq,wq,ltq,lq,kf,kp,kb,kz,kr⟩:=kD (s'.p 3) hcl;clear s';have hst:=L.I.n0;have hsf:=L.st
  have hil:ini.length<4611686018427387900:=by
   have:=L.I.cs;rw[hc]at this;simp at this;omega
  have w2:IntKind.wrap .i64 (((ini.length+1:Nat):Int)-1)=(ini.length:Nat):=by rw[show(((ini.length+1:Nat):Int)-1)=(ini.length:Nat) by omega];exact Go.Mem.vF (by omega) (by omega)
  have i0:(0:Int)<=ini.length:=by omega
  have i1:(ini.length:Int)<((ini.length+1:Nat):Int):=by omega
  have P:=hp.at s;have F2:=P.fns f fm;obtain⟨bf,ofs,cf,tf,hif,hbf,hgf,hlf,htf,hkf⟩:=Ws P.funcs (i:=c.f) (r:=f.row) (by rw[aau,hf];rfl) rfl;have k1:=hkf 1 (by decide);have k1:cf[ofs+1]? = some f.cv:=k1;have hlc:=kP F2.code 3;have fvn:=P.funcs.kY;have cvn:=F2.code.kY;have ro:=ng (p:=p) (lim:=lim) (fuel:=fuel) (world:=world) (lab := !fr) hc hf;have nxt:∀(S2:St) (h2:za) (m2:Nat),m2<Y8 p fuel S+1->RL lo p b mb wv gl lim fr world fuel gls T m2 [] h2->∃m,m<Y8 p fuel S+1/\RL lo p b mb wv gl lim fr world fuel gls T m [] h2:=λS2 h2 m2 a c=>⟨m2,a,c⟩
  have tc:∀d,(vj S d).calls=ini++[d]:=λd=>by
   show S.calls.dropLast++[d]=_;rw[hc,abq]
  have lf:Y8 p fuel S=((fuel-S.steps)*100002).toNat+(f.code.length-c.pt).toNat:=by
   unfold Y8 Go.As.Y6;rw[hc,acv];simp only[hf]
  have rest:(c.pt<f.code.length->∀i,f.code[c.pt.toNat]? = some i->¬(i.op=20/\fr=true))->∀vs,lN (.pointer (some ⟨q,ini.length*7,none⟩)) f.cv (pi b) J (pm fuel) (λvs h=>(λvs' h'=>∃m,m<Y8 p fuel S+1/\RL lo p b mb wv gl lim fr world fuel gls T m vs' h') [] h) vs h1:=by
   intro nl vs;refine zcp (nn:=S.steps.toNat) s hcl hc hil hw hwl (by rw[hgs];exact hg) hp hf (g.ins f fm) (λx hx=>N6 gd gn hf hx) (by omega) L.I N hk (by omega) p0 p1 fl vs (λhe h2 x2=>?_) (λhlt hfu h2 x2=>?_) (λhfu i hi v h2 x2=>?_)
   ·rw[aai he]at ro;exact k _ _ h2 (L.next hk ro (L.I.kind 3) (λq=>by cases q) L.st) (by show(3:Int)≠0;decide) (Eq6.rfl _) x2
   ·obtain⟨i,hi⟩:∃i,f.code[c.pt.toNat]? = some i:=⟨_,aac (by omega)⟩;have nl:=nl hlt i hi;rw[aae (by omega),hi]at ro;simp only at ro;rw[aae (λq=>nl ⟨q.1,by simpa using q.2⟩),aai hfu]at ro;exact k _ _ h2 (L.next hk ro (L.I.kind 2) (λq=>by cases q) L.st) (by show(2:Int)≠0;decide) (Eq6.rfl _) x2
   ·have hlt:c.pt<f.code.length:=by
     have:=(List.getElem?_eq_some_iff.1 hi).1;omega
    have nl:=nl hlt i hi;rw[aae (by omega),hi]at ro;simp only at ro;rw[aae (λq=>nl ⟨q.1,by simpa using q.2⟩),aae hfu]at ro;have Gi:=g.ins f fm i (aaA hi);have hne:=L.ne hk;have FN:=Go.As.mR F hf hlt;have cN:=N.fr c cm;have I1:=(L.I.top hne FN).stp (S.steps+1);have I2:=Go.As.za8 (i:=i) I1 world (Go.As.KN _ _) FN (by have:=L.I.cs;show((vj S _).calls.length:Int)<=_;rw[tc];rw[hc]at this;simp at this ⊢;omega) Gi;have N1:XB {vj S {c with pt:=c.pt+1} with steps:=S.steps+1}:=(N.top (c:={c with pt:=c.pt+1}) ⟨cN.KC,cN.qX⟩).stp (S.steps+1);have N2:=zfk (p:=p) (lim:=lim) (i:=i) (N6 gd gn hf (aaA hi)).k hw64 N1 (c:={c with pt:=c.pt+1}) ⟨cN.KC,cN.qX⟩;have sg:=Go.As.OE lim world {vj S {c with pt:=c.pt+1} with steps:=S.steps+1} {c with pt:=c.pt+1} Gi;generalize hr:zi p lim world {vj S {c with pt:=c.pt+1} with steps:=S.steps+1} {c with pt:=c.pt+1} i=r at *
    have es:(kH r).steps=S.steps+1:=(by unfold kH;split <;> exact sg.2);have eg:(kH r).gl=gls:=by rw[<- hgs];unfold kH;split <;> exact sg.1
    have X:=L.next hk ro (by rw[es];exact Go.As.zc7 I2) (λq=>by
     unfold kH at q ⊢;split at q
     ·rename_i ok;rw[aai ok];rw[<- hr]at ok q ⊢;exact Go.As.OF (Go.As.KN _ _) Gi ok q
     ·cases q) (by rw[es];omega)
    have l2:=Go.As.Oa (fuel:=fuel) g X.I;rw[es]at l2;refine zgn x2 (λe1 e2 h3 x3=>?_) (λe1 S3 h3 e3 x3=>?_)
    ·have em:kH r=r.1:=(by unfold kH;rw[aai e1]);rw[em]at X l2 es eg;refine⟨Y8 p fuel r.1+1,by omega,rfl,r.1,X,.inl ⟨e2,rfl,N2,eg,?_⟩⟩;rw[es,show(S.steps+1).toNat=S.steps.toNat+1 by omega];exact x3
    ·exact⟨0,by omega,rfl,kH r,X,.inr ⟨e1,rfl,S3,e3,x3⟩⟩
  cases hfr:fr with
  |false=>
   subst hfr;simp only[EE,↓xg,zo,vZ,Yd,Ad,yZ,kx,uB,fG,jS,aE,fI,N8,oS,cF,cG,cH,cI,cJ,cK,cL,cM,cO,cP,gm,LX,hk,A9,PY,hcl,w2,i0,i1,aaw,gq,kf,hif,hgf,k1];exact rest (λ_ _ _ q=>by cases q.2) _
  |true=>
   subst hfr;by_cases hlt:c.pt<(f.code.length:Int)
   ·obtain⟨i,hi⟩:∃i,f.code[pc]? = some i:=⟨_,aac (by omega)⟩;obtain⟨bi,oi,ci,ti,ha,hbi,hgi,hle,htk,hki⟩:=Z2 F2.code (i:=pc) (r:=i.row) (by rw[aau,hi];rfl) rfl;rw[<- hpc]at ha;have q0:=hki 0 (by decide);have q0:ci[oi]? = some (pm i.op):=q0;have hw2:IntKind.wrap .i64 (c.pt+1)=c.pt+1:=Go.Mem.vF (by omega) (by omega);by_cases h20:i.op=20
    ·simp only[EE,↓xg,zo,vZ,Yd,Ad,yZ,kx,uB,zf,fG,jS,aE,fI,VM,N8,oS,F6,cF,cG,cH,cI,cJ,cK,cL,cM,cO,cP,gm,LX,hk,A9,PY,hcl,w2,i0,i1,aaw,gq,kf,kp,hif,hgf,k1,hlc,cvn,hlt,ha,hgi,q0,h20,hw2];refine zda hcl hc (s.p 3) _ λh2 s2=>?_;rw[aae (by omega),hpc,aaw,hi]at ro;simp only at ro;rw[aai ⟨h20,rfl⟩,<- hpc]at ro;have FN:=Go.As.mR F hf hlt;have cN:=N.fr c cm;have X:=L.next hk ro (L.I.top (L.ne hk) FN) (λ_=>Go.As.KN _ _) L.st;refine⟨Y8 p fuel (vj S {c with pt:=c.pt+1})+1,?_,rfl,_,X,.inl ⟨hk,rfl,N.top ⟨cN.KC,cN.qX⟩,hgs,ev,lk,cl,s2.f [1,2,3,0,4]⟩⟩
     have e:Y8 p fuel (vj S {c with pt:=c.pt+1})=((fuel-S.steps)*100002).toNat+(f.code.length-(c.pt+1)).toNat:=by
      unfold Y8 Go.As.Y6;rw[tc,acv];simp only[hf];rfl
     omega
    ·simp only[EE,↓xg,zo,vZ,Yd,Ad,yZ,kx,uB,zf,fG,jS,aE,fI,VM,N8,oS,cF,cG,cH,cI,cJ,cK,cL,cM,cO,cP,gm,LX,hk,A9,PY,hcl,w2,i0,i1,aaw,gq,kf,kp,hif,hgf,k1,hlc,cvn,hlt,ha,hgi,q0,h20];refine rest (λ_ j hj q=>h20 ?_) _;rw[hpc,aaw,hi]at hj;cases hj;exact q.1
   ·simp only[EE,↓xg,zo,vZ,Yd,Ad,yZ,kx,uB,fG,jS,aE,fI,VM,N8,oS,cF,cG,cH,cI,cJ,cK,cL,cM,cO,cP,gm,LX,hk,A9,PY,hcl,w2,i0,i1,aaw,gq,kf,kp,hif,hgf,k1,hlc,cvn,hlt];exact rest (λq=>absurd q hlt) _
 ·have gm:=s.get;unfold Zv at gm;have hk':¬S'.kind=0:=λz=>hk (E.kind.symm.trans z);unfold lO xG;simp only[EE,zo,kx,jS,gm,LX,hk'];exact k S S' h1 L hk E ⟨ev,lk,cl,s⟩
end
open Go.Rtl (Oq)
open Go.As (Ww DT dH u9 order aJ Qk DO)
theorem zcg(n:Int)(hn:0<=n/\n<6)(h:za):xC pu 25 [pm n] h (pm (order.getD n.toNat 0)):=by
 apply Oq;apply II;unfold MN;have e:n=0\/n=1\/n=2\/n=3\/n=4\/n=5:=by omega
 rcases e with rfl|rfl|rfl|rfl|rfl|rfl
 all_goals
  have c6:((6:Nat):Int)=6:=rfl;simp only[EE,seval,zo,fU,Ku,c6];rfl
theorem Ty{lo:yE}{h:za}{L:List HP}{m:Nat}(s:Sat lo h (pt m (.cells [pp,pp] 62)::L)):Sat lo h (VA m [] 0::L) :=
 VB (lv := pp) (pv := pp) (bvs:=[]) (bl:=[]) (ps:=[]) ⟨rfl,λi b B h=>(by cases h)⟩ (aam _) ⟨(qB 110 2 (qB 64 3 s)).f [2,0,1],rfl⟩
theorem zf9(v00:Option Addr)(l00 c00:Nat)(v01:Option Addr)(l01 c01:Nat)(m k:Int)(mb:Nat)(v02:Option Addr)(l02 c02:Nat)(lim:Int)(fr:Bool):yd pu 68 [(0,(.agg #[(.slice v00 l00 c00),(.slice v01 l01 c01),(pm m),(pm k)])),(1,pi mb),(3,.slice v02 l02 c02),(12,pm lim),(14,.bool fr)]=some (.agg ⟨YE ⟨.slice v00 l00 c00,[],.slice v01 l01 c01,[],m,k⟩ mb (DT [] [] (List.replicate 16 v0)) (pp) (pp) (.slice v02 l02 c02) (pp) (pp) lim fr⟩):=by kernel_rfl
theorem zd7{h:za}{p:Pg}(P:wR h p){wv:aaa}{world:List Int}(hw:zl h wv world)(mb:Nat)(lim:Int)(fr:Bool):yd pu 68 [(0,.agg #[p.gv,p.fv,pm p.main,pm p.params]),(1,pi mb),(3,wv),(12,pm lim),(14,.bool fr)]=some (.agg ⟨YE p mb (DT [] [] (List.replicate 16 v0)) (pp) (pp) wv (pp) (pp) lim fr⟩):=by
 obtain⟨gv,gs,fv,fs,m,k⟩:=p;obtain⟨a1,n1,c1,q1⟩:=Go.As.zl.shape P.globals;obtain⟨a2,n2,c2,q2⟩:=Go.As.zE.shape P.funcs;obtain⟨a3,n3,c3,q3⟩:=Go.As.zl.shape hw;simp only at q1 q2;subst q1 q2 q3;exact zf9 _ _ _ _ _ _ _ _ _ _ _ _ _ _
section
variable {lo:yE}{h:za}{L:List HP}{b mb b6:Nat}{p:Pg}{ev lk wv gl cl av:aaa}{lim fuel:Int}{fr:Bool}{world args gls:List Int}{J:List aaa->za->Prop}
theorem zbV(hp:Rd lo (wR · p))(g:IA p){r:List V}(s:Sat lo h (pt b (Zv p mb (DT [] [] r) ev lk wv (pp) cl lim fr)::VA mb [] 0::pt b6 (.cells p.row 25)::L))
  (k:∀h' gl,Sat lo h' (w7 3 1 gl ((xI p.globals [] []).2.map yA)::pt b (Zv p mb (DT (xI p.globals [] []).1 (xI p.globals [] []).2 r) ev lk wv gl cl lim fr)::VA mb (xI p.globals [] []).1 0::pt b6 (.cells p.row 25)::L)->J [] h') :
  LP (D6 (pi b6) J (xG b)) [pm 0] h:=by
 refine qQ (λm vs h'=>∃(i:Nat) (gl:aaa),i<=p.globals.length/\m=p.globals.length-i/\vs=[pm (i:Nat)]/\Sat lo h' (w7 3 1 gl ((xI (p.globals.take i) [] []).2.map yA)::pt b (Zv p mb (DT (xI (p.globals.take i) [] []).1 (xI (p.globals.take i) [] []).2 r) ev lk wv gl cl lim fr)::VA mb (xI (p.globals.take i) [] []).1 0::pt b6 (.cells p.row 25)::L)) p.globals.length
  ⟨0,pp,aaX _,rfl,rfl,qB _ _ s⟩ ?_
 rintro m vs h1 ⟨i,gl,hi,rfl,rfl,s1⟩;unfold D6 xG;obtain⟨gm,p8,gb⟩:=rY (p.globals.take i) [] [] Bb (λz h=>by cases h);have g200:=g.gl;have g6:=(s1.p 3).get;have gvn:=(hp.at s1).globals.kY;have gll2:=Ww (hp.at s1).globals 3;by_cases hc:(i:Int)<(p.globals.length:Int)
 ·obtain⟨n,hn⟩:∃n,p.globals[i]? = some n:=⟨_,aac (by omega)⟩;obtain⟨b11,o11,c11,t11,ix11,lt11,g11,k11⟩:=Jo ((hp.at s1).globals) hn;have gM:=(s1.p 1).get;unfold Zv at gM;have et:p.globals.take (i+1)=p.globals.take i++[n]:=by rw[acx,hn];rfl
  have e1:=iX (p.globals.take i) n [] [];rw[<- et]at e1;have a:=aN n gm;have hin:=inc (show i<4611686018427387904 by omega);simp only[EE,nth,↓xg,zo,w9,C4,xZ,fH,MS,MT,hc,g6,gvn,gll2,ix11,g11,k11,gM,PZ];obtain⟨lo1,l1,s11,fr1⟩:=(s1.f [2]).call (L2:=[VA mb (xI (p.globals.take i) [] []).1 0]);refine BQ (Nq s11 n) ?_;rintro v h12 ⟨rfl,s12⟩;have s13:=fr1 _ _ s12;have gM:=(s13.p 2).get;unfold Zv at gM;simp only[EE,zo,C4,fH,MR,gM,PZ];obtain⟨lo2,l2,s14,fr2⟩:=s13.call (L2:=[VA mb (yJ (xI (p.globals.take i) [] []).1 n).1 0]);refine dM (zfx s14 a.1.2.1 a.1.1 _) ?_;rintro v h15 ⟨rfl,s15⟩;have s16:=fr2 _ _ s15;have gM:=(s16.p 2).get;unfold Zv at gM;have gn:=wL (s16.p 1);have s17:=s16.push (.cells [pm (yJ (xI (p.globals.take i) [] []).1 n).2.1] 3);obtain⟨b',c',h18,a1,s18⟩:=YD (s17.p 2) (uF (f:=yA) (λ_=>rfl) _) [pm (yJ (xI (p.globals.take i) [] []).1 n).2.1] rfl (by decide) 8 (by rw[aav,p8];simp;omega);rw[aav]at a1 s18
  have hap:∀r',zP pu .append [22,22] r' [gl,.slice (some ⟨h15.next,0,none⟩) 1 3] (h15.push (.cells [pm (yJ (xI (p.globals.take i) [] []).1 n).2.1] 3))=some (.slice (some ⟨b',0,none⟩) ((xI (p.globals.take i) [] []).2.length+1) c',h18):=λr'=>
   (Go.Ai.SU r' _ _ 1 [pm (yJ (xI (p.globals.take i) [] []).1 n).2.1] _ rfl (by simp only[vW,zv];rfl) rfl rfl).trans a1
  simp only[EE,zo,w9,zcV,Dg,Hz,MQ,gM,zdl,gn,hap];refine z9 (s18.p 3) (by simp[vE]) rfl λh19 s19=>?_;rw[zgU]at s19;simp only[EE,nth,hin];refine⟨p.globals.length-(i+1),by omega,i+1,.slice (some ⟨b',0,none⟩) ((xI (p.globals.take i) [] []).2.length+1) c',by omega,rfl,rfl,?_⟩;rw[e1];rw[abX];exact(s19.p 2).drop.f [1,0]
 ·have e:i=p.globals.length:=by omega
  subst e;rw[acd]at s1;simp only[EE,nth,zo,w9,xZ,hc,g6,gvn,gll2];exact k h1 gl s1
theorem zdV(ha:Rd lo (zl · av args))(ha6:args.length<=6){M:MM}{gs:List Int}(s:Sat lo h (pt b (Zv p mb (DT M gs (List.replicate 16 v0)) ev lk wv gl cl lim fr)::L))
  (k:∀h',Sat lo h' (pt b (Zv p mb (DT M gs (Go.As.WQ order args (List.replicate 16 v0))) ev lk wv gl cl lim fr)::L)->J [] h') :
  LP (sI av J (xG b)) [pm 0] h:=by
 refine qQ (λm vs h'=>∃i:Nat,i<=args.length/\m=args.length-i/\vs=[pm (i:Nat)]/\Sat lo h' (pt b (Zv p mb (DT M gs (Go.As.WQ order (args.take i) (List.replicate 16 v0))) ev lk wv gl cl lim fr)::L)) args.length ⟨0,aaX _,rfl,rfl,s⟩ ?_;rintro m vs h1 ⟨i,hi,rfl,rfl,s1⟩;unfold sI xG;have avn:=(ha.at s1).kY;have al:=Go.As.Dx (ha.at s1) 3;by_cases hc:(i:Int)<(args.length:Int)
 ·obtain⟨a,haa⟩:∃a,args[i]? = some a:=⟨_,aac (by omega)⟩;obtain⟨bb,o,cs,t,hix,hb,hgt,hat⟩:=Go.As.zd1 (ha.at s1) haa;obtain⟨r,hr⟩:∃r,order[i]? = some r:=⟨_,aac (by show i<6;omega)⟩
  have hr1:0<=r/\r<16:=by
   have hm:=aaA hr;simp only[order,abm,List.not_mem_nil,aaN]at hm;omega
  have hrd:order.getD ((i:Nat):Int).toNat 0=r:=by rw[aaw,aaF,hr];rfl
  have gn:=aJ order args (List.replicate 16 v0) i r a hr haa;have hin:=inc (show i<4611686018427387904 by omega);have r0:=hr1.1;have r1:=hr1.2;simp only[EE,nth,↓xg,MV,MW,hc,avn,al];refine JC (zcg i (by omega) _) ?_;rw[hrd];simp only[EE,zo,hix,hgt,hat];refine JC (ZN a _) ?_;simp only[EE,Nat.reduceAdd,wP,xW,MU,r0,r1];refine sh s1 (Qk _ _ _) r0 r1 _ λh3 s3=>?_;simp only[EE,nth,hin];refine⟨args.length-(i+1),by omega,i+1,by omega,rfl,rfl,?_⟩;rw[gn];exact s3
 ·have e:i=args.length:=by omega
  subst e;rw[acd]at s1;simp only[EE,nth,hc,avn,al];exact k h1 s1
end
open Go.As (WV qz DY FD E3 YC Ev mz Az rZ Dx)
open Go.Ar (NL)
theorem zaf:i7 []:=λi B h=>(by cases h)
theorem N3:∀(ns:List Int) (M:MM) (l:List Int),i7 M->i7 (xI ns M l).1
 |[],M,l,h=>h
 |n::ns,M,l,h=>N3 ns _ _ (P6 (Bd n h))
theorem N0:∀(rs l2:List Int) (l:List V),(∀a,a∈l2->wH a)->(∀v,v∈l->vn v)->∀v,v∈Go.As.WQ rs l2 l->vn v
 |[],l2,l,_,h=>by cases l2 <;> exact h
 |x::rs,[],l,_,h=>h
 |x::rs,y::l2,l,ha,h=>N0 rs l2 _ (λa hm=>ha a (by simp[hm])) λv hv=>by
  rcases ab6 hv with q|rfl
  ·exact h v q
  ·exact Q1 (ha y (by simp))
theorem zbB(p:Pg){args:List Int}(ha:∀a,a∈args->wH a):XB (u9 p args):=by
 rw[dH];exact⟨N0 _ _ _ ha λv hv=>by rw[(List.mem_replicate.1 hv).2];exact pB,pB,pB,N3 _ _ _ zaf,λc hc=>by cases hc⟩
def zaS(T:St)(ev lk:aaa):aaa := .tuple #[YC T.kind T.exit ev lk T.steps,pm T.jU,pm 0]
theorem Ly{lim:Int}{S:St}{f:Nat}(h:S.flags=false):({ye lim S f with flags:=false}:St)=ye lim S f:=by
 obtain⟨mem,used,kind,exit,e,l,steps,g,calls,jb,flags,a,b,stack,jU⟩:=S;simp only at h;subst h;unfold ye zY;simp only
 repeat' split
 all_goals rfl
section
variable {h:za}{p:Pg}{av wv:aaa}{args world:List Int}{lim fuel:Int}{fr:Bool}
theorem zdB(P:wR h p)(gn:PgN p)(ha:zl h av args)(hw:zl h wv world)(hwl:world.length*8<=2^47)(hw64:∀z,z∈world->wH z)(ha64:∀z,z∈args->wH z) :
  DC pu 10 [p.val,av,wv,pm fuel,pm lim,.bool fr] h (λv h'=>if qz p args fuel lim then DY h p lim args world (!fr) fuel zaS v h' else FD h (.tuple #[E3,pm 0,pm 1]) v h'):=by
 apply YG;intro wf;apply sL;unfold F5;have s0:Sat (.of h) h []:=Sat.self wf.2;have RP:Rd (.of h) (wR · p):=Rd.of (yE.uf h) P λh' o=>P.old o;have RA:Rd (.of h) (zl · av args):=Rd.of (yE.uf h) ha λh' o=>ha.old o;have RW:Rd (.of h) (zl · wv world):=Rd.of (yE.uf h) hw λh' o=>hw.old o;have gvn:=P.globals.kY;have gvc:=P.globals.fC;have fvn:=P.funcs.kY;have fvc:=P.funcs.fC;have avn:=ha.kY;have wvn:=hw.kY;have wvc:=hw.fC;have al:=Dx ha 3;simp only[EE,Value.cells,gi];refine w8 s0 λb6 h2 s2=>?_;simp only[EE,zN,Um];refine w8 s2 λb12 h4 s4=>?_;have g6:=(s4.p 1).get;simp only[EE,Nat.reduceAdd,g6];refine iS (by simp only[yy];rfl) (NL (RP.at s4)) ?_;rw[mw]
 have bad:∀J,¬qz p args fuel lim->JN (pi b12) h4 (λv h'=>if qz p args fuel lim then DY h p lim args world (!fr) fuel zaS v h' else FD h (.tuple #[E3,pm 0,pm 1]) v h') J:=by
  intro J hb;unfold JN;simp only[EE,Nat.reduceAdd,Jn,Ti];refine z9 s4 (by simp) rfl λh5 s5=>?_;have g7:=s5.get;simp only[EE,zb,Nat.reduceAdd,zN,bD,g7];refine⟨rfl,?_⟩;show if qz p args fuel lim then _ else _;rw[aae hb];exact⟨rfl,s5.drop.drop⟩
 cases hg:Yx p with
 |false=>
  simp only[EE,V6,V7,V8,V9,Ua,Ub,Uc];exact bad _ (by unfold qz;rw[hg];simp)
 |true=>
 by_cases e1:¬(args.length:Int)=p.params
 ·simp only[EE,zo,ku,V6,V7,V8,V9,Ua,Ub,Uc,avn,al,g6,e1];exact bad _ (by unfold qz;omega)
 have e1:(args.length:Int)=p.params:=acJ.1 e1;by_cases e2:fuel<0
 ·simp only[EE,zo,ku,V6,V7,V8,V9,Ua,Ub,Uc,avn,al,g6,e1,e2];exact bad _ (by unfold qz;omega)
 by_cases e3:fuel>100000000
 ·simp only[EE,zo,ku,V6,V7,V8,V9,Ua,Ub,Uc,avn,al,g6,e1,e2,e3];exact bad _ (by unfold qz;omega)
 by_cases e4:lim<0
 ·simp only[EE,zo,ku,V6,V7,V8,V9,Ua,Ub,Uc,avn,al,g6,e1,e2,e3,e4];exact bad _ (by unfold qz;omega)
 by_cases e5:lim>2147483647
 ·simp only[EE,zo,ku,V6,V7,V8,V9,Ua,Ub,Uc,avn,al,g6,e1,e2,e3,e4,e5];exact bad _ (by unfold qz;omega)
 have hok:qz p args fuel lim:=⟨hg,e1,by omega,by omega,by omega,by omega⟩;simp only[aai hok];have g:=rZ hg;have gp:=g.par;simp only[EE,Value.cells,Nat.reduceAdd,zN,zo,Um,zd6,ku,Gc,V6,V7,V8,V9,Ua,Ub,Uc,avn,al,g6,e1,e2,e3,e4,e5];refine w8 s4 λmb h6 s6=>?_;have bd:=zd7 P hw mb lim fr;simp only[EE,Value.cells,↓xg,wvn,bd];refine w8 s6 λb h8 s8=>?_;have s8:Sat (.of h) h8 [pt b (Zv p mb (DT [] [] (List.replicate 16 v0)) (pp) (pp) wv (pp) (pp) lim fr),VA mb [] 0,pt b6 (.cells p.row 25),pt b12 _]:=(Ty (s8.p 1)).f [1,0,3,2];simp only[];refine zbV RP g s8 λh9 gl s9=>?_;refine zdV RA (by omega) (s9.p 1) λh10 s10=>?_;rw[<- dH]at s10;obtain⟨lo1,le1,hgl,s11,_⟩:=Mk (s10.p 1) (uF (f:=yA) (λ_=>rfl) _);have g6:=(s11.p 2).get;obtain⟨mn,hmn⟩:∃mn:Nat,p.main=mn:=⟨p.main.toNat,by have:=g.zde;omega⟩;obtain⟨f,hf⟩:=g.main;unfold Gb;simp only[EE,zo,jR,g6,hmn];rw[hmn,aaw]at hf;have s12:=qB 80 3 (qB 85 2 (qB 77 7 s11));have I:=Ev g (lim:=lim) (by omega) (by omega) args;have hc0:(u9 p args).calls=[]:=rfl;refine dM (NO (S:=u9 p args) (s12.f [3,2]) (I.bounds (by decide)).Mn (by rw[hc0];decide) mn) ?_;rintro v h13 ⟨rfl,y⟩;have es:=mz lim (u9 p args) mn;have hs0:(u9 p args).steps=0:=rfl;have L0:Go.As.Loop p lim world (!fr) fuel (WV p lim args) (ye lim (u9 p args) mn):=⟨by rw[es.2,hs0];exact I.enter hf (by rw[hc0];decide),Az lim _ mn rfl,by rw[es.2,hs0];omega,0,by unfold WV;rw[hmn];rfl⟩;have ek:=Go.As.iT lim (u9 p args) mn
 have fin:∀(lo2:yE) (X:List HP),lo1.Le lo2->(∀h' L',Sat lo2 h' L'->Sat lo1 h' (L'++pt b12 (.cells [pm 0,pm 0,pp,pp,pm 0] 33)::X))->∀S S' h',Go.As.Loop p lim world (!fr) fuel (WV p lim args) S->S.kind≠0->Eq6 S' S->rn lo2 p b mb wv gl lim fr S' h' ->
   sK (xG b) (pi b12) (λv h'=>DY h p lim args world (!fr) fuel zaS v h') [] h':=by
  rintro lo2 X le2 back S S' h' LS kS E ⟨ev,lk,cl,s⟩;have s':=back _ _ s;have gm:=s'.get;unfold Zv at gm;have hne:¬b12=b:=(s'.p 3).ne;have hne2:¬b=b12:=λq=>hne q.symm;have en:=wL (s'.p 2);have ec:=qV (s'.p 2);have kn:=wL (s'.p 1);have kc:=qV (s'.p 1);unfold sK xG;simp only[EE,Nat.reduceAdd,Nat.reduceLeDiff,ne_eq,zN,zo,bD,Jn,AH,jS,gm,Ba,zeI,zae,C9,hne,ne_eq,true_or];refine z9 (s'.p 3) (by simp) (by simp[ec,kc];exact⟨rfl,rfl,rfl⟩) λh8 s8=>?_;have g8:=s8.get;simp only[EE,zb,Nat.reduceAdd,zN,bD,g8];refine⟨by simp only[yy];rfl,?_⟩;obtain⟨n,hn⟩:=LS.run;refine⟨S,ev,lk,⟨kS,n,hn⟩,?_,?_⟩
  ·unfold zaS YC;rw[<- E.kind,<- E.exit,<- E.steps,<- E.jU];rfl
  ·rw[<- E.ev,<- E.lk];exact(((s8.f [3,2]).zG 2).mono le1)
 rw[xg];have ek1:=ek.1;have ek2:=ek.2.1;have ek3:=ek.2.2.2;cases hgr:(zY lim (u9 p args) 8).2 with
 |true=>
  rw[hgr,aai rfl]at y;obtain⟨cl',s14⟩:=y;rw[Ly (S:=u9 p args) rfl]at s14
  have kk:(ye lim (u9 p args) mn).kind=0:=by
   unfold ye;rw[aai hgr];unfold zY at hgr ⊢;split at hgr
   ·cases hgr
   ·rename_i q;rw[aae q];rfl
  obtain⟨lo2,le2,s15,back⟩:=(s14.f [0,2,3,1,4,6,5]).call (L2:=[pt b (Zv p mb (ye lim (u9 p args) mn) (pp) (pp) wv gl cl' lim fr),w7 80 3 (pp) [],w7 85 2 (pp) [],w7 77 7 cl' ((ye lim (u9 p args) mn).calls.map yX),VA mb (u9 p args).mem 0]);refine zaa ((RP.mono le1).mono le2) hg gn ((RW.mono le1).mono le2) (by omega) hw64 (gls:=(ye lim (u9 p args) mn).gl) (λh' b'=>?_) (by omega) L0 (.inl ⟨kk,(zbB p ha64).enter mn,rfl,?_⟩) (λS S' h' LS kS E x=>fin lo2 _ le2 back S S' h' LS kS E x)
  ·rw[es.1];exact Go.As.eA (hgl.mono le2 h' b')
  ·rw[es.2,hs0];refine⟨.slice none 0 0,pp,cl',?_⟩;unfold bS;rw[ek1,ek2,ek3];exact s15
 |false=>
  rw[hgr,aae (by simp)]at y;have e0:ye lim (u9 p args) mn=(zY lim (u9 p args) 8).1:=by unfold ye;rw[aae (by rw[hgr];simp)]
  have kk:(ye lim (u9 p args) mn).kind≠0:=by
   rw[e0];unfold zY at hgr ⊢;split at hgr
   ·rename_i q;rw[aai q];show(4:Int)≠0;decide
   ·cases hgr
  rw[<- e0]at y;obtain⟨lo2,le2,s15,back⟩:=(y.f [0,2,3,6,5]).call (L2:=[pt b (Zv p mb (ye lim (u9 p args) mn) (pp) (pp) wv gl (pp) lim fr),w7 80 3 (pp) [],w7 85 2 (pp) []]);refine zaa ((RP.mono le1).mono le2) hg gn ((RW.mono le1).mono le2) (by omega) hw64 (gls:=(ye lim (u9 p args) mn).gl) (λh' b'=>?_) (by omega) L0 (.inr ⟨kk,_,Eq6.rfl _,pp,pp,pp,?_⟩) (λS S' h' LS kS E x=>fin lo2 _ le2 back S S' h' LS kS E x)
  ·rw[es.1];exact Go.As.eA (hgl.mono le2 h' b')
  ·rw[show(ye lim (u9 p args) mn).lk=[] by rw[e0];unfold zY;split <;> rfl,show(ye lim (u9 p args) mn).ev=[] by rw[e0];unfold zY;split <;> rfl];exact s15
end
end Go.An
namespace Go.Ac
open Go.Ai Go.Proofs Go.Proofs.Tryz
noncomputable abbrev zz:=prog
abbrev VK:=aaa->za->Prop
abbrev LK:=List aaa->za->Prop
abbrev ci(n:Int):Operand := .const (pm n)
abbrev fn(n:Nat):aaa := .func (.func n) #[] #[]
variable {h:za}{t0 t1 t2 t3 t4 t5 t6:aaa}{R:VK}
def qs:FuncId->Nat:=λg=>[0].getD g 0
theorem mixed:prog.follows .mixedOrders=true:=ab4 Tryz.checked
def FH:=λa b f (g:LK) c (h:za)=>
 opt (nb [a,c] (yd zz 47 [(0,a),(1,c)])) λd=>yp (nb [d] (zZ zz 23 1 [(0,d)] h)) λe i=>yp (nb [b,e] (zP zz .append [23,23] 23 [b,e] i)) λj k=>UF 25 f 1 23 j k λl=>g [] l
def FI:=λc (a:za) d e (f:LK)=>
 zt 25 c 1 23 a λg=>zt 25 d 1 23 a λh=>opt (zJ zz 23 h (nth e 0)) λi=>zt 47 i 0 9 a λj=>yp (nb [] (zZ zz 45 0 [] a)) λk b=>opt (ze zz 25 d 1) λl=>opt (zd zz 23 l (cut b a.next b.next)) λm=>opt (zJ zz 23 m (nth e 0)) λn=>opt (ze zz 47 n 1) λo=>opt (zd zz 45 o (cut b a.next b.next)) λp=>Lc zz [45,45] 45 [k,p] (some (a.next,b.next)) b b (FH j g c f)
def FJ:=λb c a (d:LK) (h:List aaa) (e:za)=>
 BK (FI b e c a)
 (λi f=>opt (zh .add 3 19 (nth a 0) 1) λg=>d [g] f)
def FK:=λa (f:LK) g b (c:za) (h:LK)=>
 zt 25 a 1 23 c λi=>yp (v8 23 i c) λj d=>opt (yz .lss 3 14 17 (nth b 0) j) λk=>CD k (λe=>e [] d)
 (λe=>f [] d)
 (FJ g a b h)
def FL:=λc (e b:za) f (R:VK) g (a:za)=>
 opt (ze zz 25 c 2) λl=>opt (zd zz 3 l (cut (cut a e.next b.next) b.next a.next)) λh=>opt (ze zz 25 c 3) λm=>opt (zd zz 3 m (cut (cut a e.next b.next) b.next a.next)) λi=>opt (nb [g,h,i] (yd zz 25 [(0,g),(2,h),(3,i)])) λn=>qa 25 a λd o=>opt (yn 25 d n o) λp=>BK (λq=>LP (FK c q d)
 [pm 0] p)
 (λt j=>opt (zd zz 25 d j) λr=>opt (yn 25 f r j) λk=>opt (zd zz 25 f k) λs=>rv [s] k R)
def R5:=λ(h:za) c (R:VK)=>
 opt (nb [c] (some (Value.cells c).toList)) λe=>nw h e 25 λd f=>qa 25 f λg b=>yp (nb [] (zZ zz 22 0 [] b)) λi a=>opt (ze zz 25 d 0) λj=>opt (zd zz 22 j (cut a b.next a.next)) λk=>Lc zz [22,22] 22 [i,k] (some (b.next,a.next)) a a (FL d b a g R)
theorem OX(hw:R5 h t0 R):DC zz 8 [t0] h R:=OO mixed (q:=qs) (n:=200) (Eq.mpr (by kernel_rfl) hw)
end Go.Ac
namespace Go.Ai
open Go.Ai Go.Proofs
theorem zfZ:Ry 23 47 2 40:=λr v x n w h h1 h2 h3 h4=>jw (e:=47) (e2:=47) (by kernel_rfl) (by kernel_rfl) (by kernel_rfl) (by kernel_rfl) (by decide) h1 h2 h3 h4
theorem zf1:Ry 45 50 7 56:=λr v x n w h h1 h2 h3 h4=>jw (e:=50) (e2:=50) (by kernel_rfl) (by kernel_rfl) (by kernel_rfl) (by kernel_rfl) (by decide) h1 h2 h3 h4
theorem zf6:RG 23:=λb o _ _ _ h=>uc (by kernel_rfl) b o _ h rfl
theorem G7(v0:Option Addr)(v0l v0c:Nat)(v2:Int)(v3:Int):yd pu 25 [(0,(.slice v0 v0l v0c)),(2,(pm v2)),(3,(pm v3))]=some (.agg #[(.slice v0 v0l v0c),(pp),(pm v2),(pm v3)]):=zG (by kernel_rfl)
theorem Pw(v0:ByteArray)(v1:Option Addr)(v1l v1c:Nat):yd pu 47 [(0,(.string v0)),(1,(.slice v1 v1l v1c))]=some (.agg #[(.string v0),(.slice v1 v1l v1c)]):=zG (by kernel_rfl)
theorem Tl(h:za):zZ pu 22 0 [] h=some (.slice (some ⟨h.next,0,none⟩) 0 2,h.push (.cells [] 3)):=zG (by kernel_rfl)
theorem Pz(v00:ByteArray)(v01:Option Addr)(v01l v01c:Nat)(h:za):zZ pu 23 1 [(0,(.agg #[(.string v00),(.slice v01 v01l v01c)]))] h=some (.slice (some ⟨h.next,0,none⟩) 1 3,h.push (.cells [(.string v00),(.slice v01 v01l v01c)] 47)):=zG (by kernel_rfl)
theorem Tn(h:za):zZ pu 45 0 [] h=some (.slice (some ⟨h.next,0,none⟩) 0 2,h.push (.cells [] 50)):=zG (by kernel_rfl)
end Go.Ai
namespace Go.Rtl
open Go.Ai Go.Proofs Go.Mem
open Go.Rm (w7 yA Xp qB WU Fm wL qV ua YD uF Ij Rd Rd.at)
section
variable {lo:yE}{h:za}{L:List HP}{b mb wb fb b1 b2:Nat}{world:List Int}{ev lk gl cl kv wn:aaa}{fi:List Nat}{kept:Option (Int->Bool)}{R:aaa->za->Prop}
theorem eA{h:za}{sv:aaa}{zs:List Int}(S:zE h sv 1 (zs.map yA)):zl h sv zs:=by
 have T:=S;rcases S with⟨e,e2⟩|⟨b,off,cp,rfl,hc⟩
 ·exact .inl ⟨e,by simpa using e2⟩
 ·refine .inr ⟨b,off,cp,by rw[aav],λhz=>?_⟩;obtain⟨c,t,hb,hg,hat⟩:=hc (by simpa using hz);refine⟨c,t,hb,hg,λi z hiz=>?_⟩;obtain⟨b2,o,c2,t2,⟨off2,cp2,e1,e2⟩,_,_,hg2,_,_,h3⟩:=T.spot (i:=i) (r:=yA z) (by rw[aau,hiz];rfl) rfl;simp only[abu,aab,abJ]at e1;obtain⟨⟨rfl,rfl,_⟩,_,rfl⟩:=e1;rw[hg]at hg2;cases hg2;have:=h3 0 (by decide);rw[e2,abA,ab8]at this;exact this
end
def ints(zs:List Int):List aaa:=zs.map λz => pm z
theorem T0(zs:List Int):(ints zs).all wI=true:=by
 rw[aaM];intro v hv;simp only[ints,abL]at hv;obtain⟨z,_,rfl⟩:=hv;rfl
theorem oJ(c n:Nat):qh c n≠0:=by
 unfold qh;split
 ·cases Nat.ble n _ <;> simp
 ·simp
def UB(lo h:za)(l:aaa)(zs:List Int):Prop:=(l=.slice none 0 0/\zs=[]) \/ ∃b c,l=.slice (some ⟨b,0,none⟩) zs.length c/\c≠0/\lo.next<=b/\b<h.next/\h.ro<=b/\h.get b=some (.cells (ints zs) 3)
section
variable {lo h:za}{l:aaa}{zs:List Int}
theorem UB.kY(S:UB lo h l zs):yu l=false:=by
 rcases S with⟨rfl,_⟩|⟨_,_,rfl,_⟩ <;> rfl
theorem SX(S:UB lo h l zs)(e:Old lo h)(hro:h.ro<=h.next){x:aaa}{n:Nat}{ys:List Int}(hn:bF x=some n)(hy:ys.length=n)(hf:vW h n 1 x=some (ints ys))(hb:zs.length+n<=17592186044416) :
  ∃l' h',zP pu .append [22,22] 22 [l,x] h=some (l',h')/\UB lo h' l' (zs++ys)/\Old lo h'/\h'.ro<=h'.next/\h.next<=h'.next/\(eH h->eH h') /\ ∀b,b<lo.next->h'.get b=h.get b:=by
 have hap:=SU 22 l x n (ints ys) h hn hf (T0 ys) (by simp[ints,hy]);rw[hap];have n0:=e.next;rcases S with⟨rfl,rfl⟩|⟨b,c,rfl,hc,hb1,hb2,hb3,hg⟩
 ·by_cases h0:n=0
  ·have:ys=[]:=abF.1 (by omega);subst this;exact⟨_,_,by simp only[QG,h0,aas],.inl ⟨rfl,rfl⟩,e,hro,aam _,id,λ_ _=>rfl⟩
  ·refine⟨.slice (some ⟨h.next,0,none⟩) n 1,h.push (.cells (ints ys) 3),?_,.inr ⟨h.next,1,by simp[hy],by decide,by omega,aa6 _,hro,by rw[zv];rfl⟩,e.trans (Old.push _ _),abQ hro,abC _,λw=>sj w _,λb hb=>zD (by omega)⟩;simp only[QG,h0,aar];rw[aai (by omega)]
 ·by_cases h0:n=0
  ·have:ys=[]:=abF.1 (by omega);subst this;exact⟨.slice (some ⟨b,0,none⟩) zs.length c,h,by simp only[QG,h0,aas],.inr ⟨b,c,by simp,hc,hb1,hb2,hb3,by simpa using hg⟩,e,hro,aam _,id,λ_ _=>rfl⟩
  ·have hroom:roomFor c (zs.length+n) 8=true:=by
    unfold roomFor;cases Nat.beq c 2 <;> simp only[aaB,aaI,ach] <;> omega
   have hl:(ints zs).length=zs.length:=by simp[ints]
   refine⟨.slice (some ⟨h.next,0,none⟩) (zs.length+n) (qh c (zs.length+n)),(h.set b none).push (.cells (ints (zs++ys)) 3),?_,.inr ⟨h.next,qh c (zs.length+n),by simp[hy],oJ _ _,by omega,aa6 _,hro,zv⟩,?_,abQ hro,abC _,λw=>sj (wf_set w hb2 _) _,λb' hb'=>?_⟩
   ·simp only[QG,h0,aar,hg];rw[aai ⟨hc,trivial,hb3,by rw[hl];omega,hroom,by decide⟩]
    congr 3
    rw[aby,acm (by rw[hl];omega)];simp[ints]
   ·refine⟨by show lo.next<=h.next+1;omega,e.ro,λb' hb'=>?_⟩;rw[zD (by show b'<h.next;omega),zU (by omega)];exact e.get b' hb'
   ·rw[zD (by show b'<h.next;omega),zU (by omega)]
end
section
variable {lo h:za}{l:aaa}{zs:List Int}
theorem zl.first(S:zl h l zs):bF l=some zs.length/\vW h zs.length 1 l=some (ints zs):=by
 rcases S with⟨rfl,rfl⟩|⟨b,off,cp,rfl,hc⟩
 ·exact⟨rfl,rfl⟩
 ·refine⟨rfl,?_⟩;by_cases h0:zs=[]
  ·subst h0;rfl
  ·obtain⟨c,t,hb,hg,hat⟩:=hc h0;have hne:0<zs.length:=List.length_pos_iff.2 h0
   have hlen:off+zs.length<=c.length:=by
    have:=hat (zs.length-1) _ (aac (by omega));rcases aax (off+(zs.length-1)) c.length with q|q
    ·omega
    ·rw[aak q]at this;cases this
   simp only[vW,hg];rw[show Nat.beq (zs.length*1) 0=false by cases hz:Nat.beq (zs.length*1) 0 with|false=>rfl|true=>have:=aat hz;omega];rw[show Nat.ble (off+zs.length*1) c.length=true by simpa using hlen];simp only[aaI,aaB,aab,abA];apply abw;intro i;by_cases hi:i<zs.length
   ·rw[aa7 hi,aaW,hat i _ (aac hi)];simp[ints,hi]
   ·rw[aak (by simp;omega),aak (by simp[ints];omega)]
end
def UL(lo h:za)(t:TypeId)(l:aaa)(rows:List (List aaa)):Prop:=(l=.slice none 0 0/\rows=[]) \/ ∃b c,l=.slice (some ⟨b,0,none⟩) rows.length c/\c≠0/\lo.next<=b/\b<h.next/\h.ro<=b/\h.get b=some (.cells rows.flatten t)
def qX:aaa->List Nat
 | .slice (some a) _ _=>[a.block]
 |_=>[]
section
variable {lo h:za}{l:aaa}{rows:List (List aaa)}{t:TypeId}
theorem C7{n bz:Nat}(S:UL lo h t l rows)(hro:h.ro<=h.next)(hlo:lo.next<=h.next)(h0n:0<n)(hn:∀r,r∈rows->r.length=n){ys:List (List aaa)}(hb:(rows.length+ys.length)*bz<=2^47) :
  ∃l' h',QG h t n bz ys.length ys.flatten l=some (l',h')/\UL lo h' t l' (rows++ys)/\h'.ro=h.ro/\h'.ro<=h'.next/\h.next<=h'.next/\(eH h->eH h')/\(∀b,b<h.next->b∉qX l->h'.get b=h.get b)/\(∀b,b∈qX l'->b∈qX l\/h.next<=b):=by
 rcases S with⟨rfl,rfl⟩|⟨b,c,rfl,hc,hb1,hb2,hb3,hg⟩
 ·by_cases h0:ys.length=0
  ·have:ys=[]:=abF.1 h0;subst this;exact⟨_,_,by simp only[QG,aaC,aas],.inl ⟨rfl,rfl⟩,rfl,hro,aam _,id,λ_ _ _=>rfl,λb hb => .inl hb⟩
  ·refine⟨.slice (some ⟨h.next,0,none⟩) ys.length 1,h.push (.cells ys.flatten t),?_,.inr ⟨h.next,1,by simp,by decide,hlo,aa6 _,hro,by rw[zv];rfl⟩,rfl,abQ hro,abC _,λw=>sj w _,λb hb _=>zD hb,λb hb=>by simp only[qX,abp]at hb;exact .inr (by omega)⟩;simp only[QG,h0,aar];have:ys.length*bz<=2^48:=by simp only[aaC,aay]at hb;omega
   rw[aai this]
 ·by_cases h0:ys.length=0
  ·have:ys=[]:=abF.1 h0;subst this;exact⟨.slice (some ⟨b,0,none⟩) rows.length c,h,by simp only[QG,aaC,aas],.inr ⟨b,c,by simp,hc,hb1,hb2,hb3,by simpa using hg⟩,rfl,hro,aam _,id,λ_ _ _=>rfl,λb hb => .inl hb⟩
  ·have hroom:roomFor c (rows.length+ys.length) bz=true:=by
    unfold roomFor;cases Nat.beq c 2 <;> simp only[aaB,aaI,ach] <;> omega
   have hl:=yM hn;refine⟨.slice (some ⟨h.next,0,none⟩) (rows.length+ys.length) (qh c (rows.length+ys.length)),(h.set b none).push (.cells (rows++ys).flatten t),?_,.inr ⟨h.next,qh c (rows.length+ys.length),by simp,oJ _ _,by omega,aa6 _,hro,zv⟩,rfl,abQ hro,abC _,λw=>sj (wf_set w hb2 _) _,λb' hb' hne=>?_,λb hb=>by simp only[qX,abp]at hb;exact .inr (by omega)⟩
   ·simp only[QG,h0,aar,hg];rw[aai ⟨hc,trivial,hb3,by rw[hl];omega,hroom,by simp⟩]
    congr 3
    rw[aby,acm (by rw[hl];omega),List.flatten_append]
   ·simp only[qX,abp]at hne;rw[zD (by show b'<h.next;exact hb'),zU hne]
end
theorem pj(h h2:za):(qi h h2).ro=h.ro:=rfl
theorem Uv(h h2:za):(qi h h2).next=h2.next:=rfl
theorem G0{h:za}{x:aaa}{zs:List Int}{e:Nat}(S:zl (h.push (.cells [] 3)) x zs)(few:zs.length<=17592186043904)(hro:h.ro<=h.next)(he:h.next<e){K:aaa->za->Prop}(k:∀v h6,UB h h6 v zs->Old h h6->h6.ro<=h6.next->K v h6) :
  Lc pu [22,22] 22 [.slice (some ⟨h.next,0,none⟩) 0 2,x] (some (h.next,e)) (h.push (.cells [] 3)) (h.push (.cells [] 3)) K:=by
 refine⟨⟨aam _,he,by rw[zv];simp⟩,?_⟩;have W:UB h (h.push (.cells [] 3)) (.slice (some ⟨h.next,0,none⟩) 0 2) [] := .inr ⟨h.next,2,rfl,by decide,aam _,aa6 _,hro,zv⟩;obtain⟨l',h',a1,a2,a3,a4,a5,a6,a7⟩:=SX W (Old.push _ _) (abQ hro) S.first.1 rfl S.first.2 (by simpa using(by omega:zs.length<=17592186044416));rw[a1,zF rfl,zF S.kY,yc];show K l' _;have hr:(qi (xt (h.push (.cells [] 3)) (.slice (some ⟨h.next,0,none⟩) 0 2) h') h').ro=h.ro:=by rw[pj,Fe];rfl
 have a5':h.next+1<=h'.next:=a5
 have gg:∀b,(qi (xt (h.push (.cells [] 3)) (.slice (some ⟨h.next,0,none⟩) 0 2) h') h').get b=if h.next<=b/\b<h'.next then h'.get b else h.get b:=by
  intro b;rw[qN,fM];show(if h.next+1<=b/\b<h'.next then h'.get b else ((h.push (.cells [] 3)).set h.next (h'.get h.next)).get b)=_;by_cases hb:h.next+1<=b/\b<h'.next
  ·rw[aai hb,aai ⟨by omega,hb.2⟩]
  ·rw[aae hb];by_cases hb2:b=h.next
   ·subst hb2;rw[yr,aai ⟨aam _,by omega⟩]
   ·rw[zU hb2,aae (by omega),za.vO,aae hb2]
 refine k _ _ ?_ ⟨by rw[Uv];omega,hr,λb hb=>by rw[gg,aae (by omega)]⟩ ?_
 ·rw[ack]at a2;rcases a2 with q|⟨b,c,q1,q2,q3,q4,q5,q6⟩
  ·exact .inl q
  ·refine .inr ⟨b,c,q1,q2,q3,q4,?_,?_⟩
   ·rw[hr];omega
   ·rw[gg,aai ⟨q3,q4⟩];exact q6
 ·rw[hr,Uv];omega
theorem UB.sub{lo h K:za}{v:aaa}{zs:List Int}(S:UB lo h v zs)(hn:h.next<=K.next)(hk:∀b,lo.next<=b->b<h.next->K.get b=h.get b):zl K v zs:=by
 rcases S with a|⟨b,c,rfl,hc,h1,h2,h3,h4⟩
 ·exact .inl a
 ·refine .inr ⟨b,0,c,rfl,λ_=>⟨_,3,aan h2 hn,by rw[hk b h1 h2];exact h4,λi z hz=>?_⟩⟩;simp[ints,hz]
theorem UB.shape{lo h:za}{v:aaa}{zs:List Int}(S:UB lo h v zs):∃a n c,v=.slice a n c:=by
 rcases S with⟨rfl,_⟩|⟨_,_,rfl,_⟩ <;> exact⟨_,_,_,rfl⟩
theorem UL.shape{lo h:za}{t:TypeId}{v:aaa}{rows:List (List aaa)}(S:UL lo h t v rows):∃a n c,v=.slice a n c:=by
 rcases S with⟨rfl,_⟩|⟨_,_,rfl,_⟩ <;> exact⟨_,_,_,rfl⟩
section
variable {lo:yE}{h h':za}{L:List HP}
theorem si{A:HP}(s:Sat lo h L)(hA:A∈L):Sat lo h [A]:=by
 obtain⟨a,b,rfl⟩:=aaV hA;exact(s.perm (List.perm_middle)).zG 1
theorem Fh{A:HP}{M:List HP}(s:Sat lo h (Q0 M::L))(hA:A∈M):Sat lo h [A]:=si s.open (List.mem_append_left _ hA)
theorem BD{A:HP}{M:List HP}(s:Sat lo h (A::Q0 M::L)):Sat lo h (Q0 (M++[A])::L):=by
 apply Sat.close;have s2:=Sat.open (s.f [1,0]);rw[List.append_assoc];exact s2
theorem BE{A:HP}{M:List HP}(s:Sat lo h (Q0 (A::M)::L)):Sat lo h (A::Q0 M::L):=Sat.cons (λ_=>Sat.close) s.open
theorem Fi(s:Sat lo h L):Sat lo h (Q0 []::L):=Sat.close (M:=[]) s
theorem DQ(s:Sat lo h L)(e:Old h h')(hr:h'.ro<=h'.next){b:Nat}{o:wQ}(h1:h.next<=b)(h2:b<h'.next)(hg:h'.get b=some o):Sat lo h' (pt b o::L):=by
 have rk:=s.base.Fx
 have low:∀y z,(yE.of h).get y=some z->y<h.next/\z=h.get y:=λy z q=>by
  unfold yE.of at q;dsimp only at q;split at q
  ·cases q;exact⟨by assumption,rfl⟩
  ·cases q
 refine s.join (L':=[pt b o]) ⟨λy=>if y=b then some o else none,λ_=>rfl,λy p q=>?_,λy p q=>?_,⟨e.ro,hr,λy z q=>?_⟩⟩
 ·dsimp only at q;split at q
  ·rename_i q2;subst q2;unfold yE.of;dsimp only;rw[aae (by omega)]
  ·cases q
 ·dsimp only at q;split at q
  ·rename_i q2;subst q2;show h.ro<=_;omega
  ·cases q
 ·by_cases q2:y=b
  ·subst q2;rw[yE.uj (o:=o) (by rw[aai rfl])]at q;cases q;exact⟨hg,h2⟩
  ·rw[yE.qq (by rw[aae q2])]at q;obtain⟨a,rfl⟩:=low y z q;exact⟨e.get y a,aan a e.next⟩
theorem Dv:∀(zs:List Int),ints zs=(zs.map yA).flatten
 |[]=>rfl
 |z::zs=>by
  have:=Dv zs;unfold ints at this ⊢;rw[abN,abN,acw,this];rfl
theorem zdD{v:aaa}{zs:List Int}(W:UB h h' v zs)(e:Old h h')(hr:h'.ro<=h'.next)(s:Sat lo h L):Sat lo h' (w7 3 1 v (zs.map yA)::L):=by
 rcases W with⟨rfl,rfl⟩|⟨b,c,rfl,hc,h1,h2,h3,h4⟩
 ·exact qB _ _ (s.zeC e.next e.ro e.get)
 ·have:=WU (n:=1) (ty:=3) (rows:=zs.map yA) (c:=c) hc (uF (f:=yA) (λ_=>rfl) zs) (Dv zs) (DQ s e hr h1 h2 h4)
  rwa [aav]at this
theorem za4{t:TypeId}{n:Nat}{v:aaa}{rows:List (List aaa)}(W:UL h h' t v rows)(hn:∀r,r∈rows->r.length=n)(e:Old h h')(hr:h'.ro<=h'.next)(s:Sat lo h L):Sat lo h' (w7 t n v rows::L):=by
 rcases W with⟨rfl,rfl⟩|⟨b,c,rfl,hc,h1,h2,h3,h4⟩
 ·exact qB _ _ (s.zeC e.next e.ro e.get)
 ·exact WU hc hn rfl (DQ s e hr h1 h2 h4)
theorem zfj(s:Sat lo h L){v:aaa}{zs:List Int}(hm:w7 3 1 v (zs.map yA)∈L):zl h v zs:=eA (ua (si s hm) (uF (f:=yA) (λ_=>rfl) zs))
end
end Go.Rtl
namespace Go.Ar
open Go.Ai Go.Proofs
open Go.Rtl (zl zE Old inc si Fh BD BE Fi zfj)
open Go.Rm (Rd Rd.of Rd.at w7 ua uF yA)
open Go.As (xY Pg WB wR)
theorem r8(xs:List xY):∀r,r∈xs.map xY.row->r.length=7:=uF (f:=xY.row) (λ_=>rfl) xs
theorem LB(fs:List Go.As.Fn):∀r,r∈fs.map Go.As.Fn.row->r.length=2:=uF (f:=Go.As.Fn.row) (λ_=>rfl) fs
def fnP(f:Go.As.Fn):HP:=w7 50 7 f.cv (f.code.map xY.row)
def pgP(q:Pg):HP:=Q0 [w7 3 1 q.gv (q.globals.map yA),w7 47 2 q.fv (q.funcs.map Go.As.Fn.row),Q0 (q.funcs.map fnP)]
section
variable {lo:yE}{h:za}{L:List HP}
theorem Bp{q:Pg}(s:Sat lo h (pgP q::L))(h1:q.globals.length<=17592186043904)(h2:q.funcs.length*24<=140737488351232)(h3:∀f,f∈q.funcs->f.code.length*56<=140737488351232):wR h q:=by
 have s1:=s.open;refine⟨zfj s1 (by simp),h1,ua (s1.p 1) (LB _),h2,λf hf=>⟨?_,h3 f hf⟩⟩;have:=Fh (s1.p 2) (List.mem_map_of_mem (f:=fnP) hf);exact ua this (r8 _)
end
open Go.Rtl (UL C7 pj Uv qX yM)
theorem C8{t te:TypeId}{n bz:Nat}(hap:∀(r:TypeId) (v x:aaa) (k:Nat) (new:List aaa) (h:za),bF x=some k->vW h k n x=some new->new.all wI=true->new.length=k*n->zP pu .append [t,t] r [v,x] h=QG h te n bz k new v)
  {h:za} {x:aaa} {rows:List (List aaa)} {e:Nat} (S:zE (h.push (.cells [] te)) x n rows) (h0n:0<n) (hn:∀r,r∈rows->r.length=n) (hc:rows.flatten.all wI=true) (few:rows.length*bz<=2^47) (hro:h.ro<=h.next) (he:h.next<e) {K:aaa->za->Prop} (k:∀v h6,UL h h6 te v rows->Old h h6->h6.ro<=h6.next->K v h6) :
  Lc pu [t,t] t [.slice (some ⟨h.next,0,none⟩) 0 2,x] (some (h.next,e)) (h.push (.cells [] te)) (h.push (.cells [] te)) K:=by
 refine⟨⟨aam _,he,by rw[zv];simp⟩,?_⟩;have W:UL h (h.push (.cells [] te)) te (.slice (some ⟨h.next,0,none⟩) 0 2) [] := .inr ⟨h.next,2,rfl,by decide,aam _,aa6 _,hro,zv⟩;obtain⟨l',h',a1,a2,a3,a4,a5,a6,a7,_⟩:=C7 (n:=n) (bz:=bz) W (abQ hro) (abC _) h0n (λr hr=>by cases hr) (ys:=rows) (by simpa using few);have a0:=hap t (.slice (some ⟨h.next,0,none⟩) 0 2) x rows.length rows.flatten (h.push (.cells [] te)) S.SM (S.first h0n hn) hc (yM hn);rw[a0,a1,zF rfl,zF S.kY,yc];show K l' _;have hr:(qi (xt (h.push (.cells [] te)) (.slice (some ⟨h.next,0,none⟩) 0 2) h') h').ro=h.ro:=by rw[pj,Fe];rfl
 have a5':h.next+1<=h'.next:=a5
 have gg:∀b,(qi (xt (h.push (.cells [] te)) (.slice (some ⟨h.next,0,none⟩) 0 2) h') h').get b=if h.next<=b/\b<h'.next then h'.get b else h.get b:=by
  intro b;rw[qN,fM];show(if h.next+1<=b/\b<h'.next then h'.get b else ((h.push (.cells [] te)).set h.next (h'.get h.next)).get b)=_;by_cases hb:h.next+1<=b/\b<h'.next
  ·rw[aai hb,aai ⟨by omega,hb.2⟩]
  ·rw[aae hb];by_cases hb2:b=h.next
   ·subst hb2;rw[yr,aai ⟨aam _,by omega⟩]
   ·rw[zU hb2,aae (by omega),za.vO,aae hb2]
 refine k _ _ ?_ ⟨by rw[Uv];omega,hr,λb hb=>by rw[gg,aae (by omega)]⟩ ?_
 ·rw[ack]at a2;rcases a2 with q|⟨b,c,q1,q2,q3,q4,q5,q6⟩
  ·exact .inl q
  ·refine .inr ⟨b,c,q1,q2,q3,q4,?_,?_⟩
   ·rw[hr];omega
   ·rw[gg,aai ⟨q3,q4⟩];exact q6
 ·rw[hr,Uv];omega
end Go.Ar
