/- A part of the proof. -/
import Derived.Test.YthamlhbbhnicaaaGreatTK
import Derived.Test.YthamlhbbhnicaaaGreatTD
import Derived.Test.YthamlhbbhnicaaaGreatTG
set_option linter.unusedVariables false
set_option linter.unusedSimpArgs false
set_option maxRecDepth 100000
namespace Go.Rtl
open Go.Ai Go.Proofs
theorem inc{i:Nat}(h:i<4611686018427387904):IntKind.wrap .i64 ((i:Int)+1)=((i+1:Nat):Int):=by
 simp only[IntKind.wrap,IntKind.bits,IntKind.signed];simp;omega
structure Fn where
 nm:ByteArray
 pv:aaa
 params:List Int
 zf:Int
 frame:Int
 entry:Int
 cv:aaa
 code:List xG
structure Pg where
 gv:aaa
 globals:List Int
 fv:aaa
 funcs:List Fn
 main:Int
abbrev xG.row(x:xG):List aaa:=[pm x.op,pm x.sub,pm x.a,pm x.b,pm x.d,pm x.k,x.av,pm x.s,pm x.t]
abbrev Fn.row(f:Fn):List aaa:=[.string f.nm,f.pv,pm f.zf,pm f.frame,pm f.entry,f.cv]
abbrev Fn.val(f:Fn):aaa := .agg #[.string f.nm,f.pv,pm f.zf,pm f.frame,pm f.entry,f.cv]
abbrev Pg.row(p:Pg):List aaa:=[p.gv,p.fv,pm p.main]
abbrev Pg.val(p:Pg):aaa := .agg #[p.gv,p.fv,pm p.main]
def zC(h:za)(sv:aaa)(n:Nat)(rows:List (List aaa)):Prop:=(sv=.slice none 0 0/\rows=[]) \/ ∃b off cp,sv=.slice (some ⟨b,off,none⟩) rows.length cp /\
 (rows≠[]->∃c t,b<h.next/\h.get b=some (.cells c t) /\ ∀(i:Nat) r,rows[i]? = some r->off+i*n+n<=c.length/\(c.drop (off+i*n)).take n=r)
section
variable {h h':za}{sv:aaa}{n:Nat}{rows:List (List aaa)}
theorem zC.wk(S:zC h sv n rows):zV sv=false:=by
 rcases S with⟨rfl,_⟩|⟨b,off,cp,rfl,_⟩ <;> rfl
theorem zC.eT(S:zC h sv n rows):yN sv=true:=by
 rcases S with⟨rfl,_⟩|⟨b,off,cp,rfl,_⟩ <;> rfl
theorem zC.old(S:zC h sv n rows)(e:Old h h'):zC h' sv n rows:=by
 rcases S with a|⟨b,off,cp,rfl,hc⟩
 ·exact .inl a
 ·refine .inr ⟨b,off,cp,rfl,λhz=>?_⟩;obtain⟨c,t,hb,hg,hat⟩:=hc hz;exact⟨c,t,aao hb e.next,by rw[e.get b hb];exact hg,hat⟩
theorem zC.lock(S:zC h sv n rows):zC h.lock sv n rows:=by
 rcases S with a|⟨b,off,cp,rfl,hc⟩
 ·exact .inl a
 ·refine .inr ⟨b,off,cp,rfl,λhz=>?_⟩;obtain⟨c,t,hb,hg,hat⟩:=hc hz;exact⟨c,t,hb,by rw[bE];exact hg,hat⟩
theorem zC.K3(S:zC h sv n rows)(r:TypeId)(h':za):zB pu .len [47] r [sv] h'=some (pm rows.length,h'):=by
 rcases S with⟨rfl,rfl⟩|⟨b,off,cp,rfl,_⟩
 ·simp only[O4,aaz]
 ·simp only[O4]
theorem zC.K1(S:zC h sv n rows)(r:TypeId)(h':za):zB pu .len [23] r [sv] h'=some (pm rows.length,h'):=by
 rcases S with⟨rfl,rfl⟩|⟨b,off,cp,rfl,_⟩
 ·simp only[zc9,aaz]
 ·simp only[zc9]
theorem zL.kY{zs:List Int}(S:zL h sv zs)(r:TypeId)(h':za):zB pu .len [22] r [sv] h'=some (pm zs.length,h'):=by
 rcases S with⟨rfl,rfl⟩|⟨b,off,cp,rfl,_⟩
 ·simp only[iF,aaz]
 ·simp only[iF]
theorem zC.spot(S:zC h sv n rows){i:Nat}{r:List aaa}(hr:rows[i]? = some r)(hn:r.length=n):∃b o c t,(∃off cp,sv=.slice (some ⟨b,off,none⟩) rows.length cp/\o=off+i*n)/\i<rows.length/\b<h.next/\h.get b=some (.cells c t)/\o+n<=c.length/\(c.drop o).take n=r /\ ∀k,k<n->c[o+k]? = r[k]?:=by
 rcases S with⟨rfl,rfl⟩|⟨b,off,cp,rfl,hc⟩
 ·cases hr
 ·have hlt:i<rows.length:=by
   rcases aar i rows.length with a|a
   ·exact a
   ·rw[aal a]at hr;cases hr
  obtain⟨c,t,hb,hg,hat⟩:=hc (by intro e;subst e;cases hr);obtain⟨h1,h2⟩:=hat i r hr;refine⟨b,off+i*n,c,t,⟨off,cp,rfl,rfl⟩,hlt,hb,hg,h1,h2,λk hk=>?_⟩
  ·rw[<- h2,aaX hk,aa1]
theorem zC.ED(S:zC h sv 9 rows){i:Nat}{r:List aaa}(hr:rows[i]? = some r)(hn:r.length=9):∃b o c t,yh pu 47 sv (pm i)=some (.pointer (some ⟨b,o,none⟩))/\b<h.next/\h.get b=some (.cells c t)/\o+9<=c.length/\(c.drop o).take 9=r /\ ∀k,k<9->c[o+k]? = r[k]?:=by
 obtain⟨b,o,c,t,⟨off,cp,rfl,rfl⟩,hi,hb,hg,hl,ht,hk⟩:=S.spot hr hn;have h1:0<=(i:Int)/\(i:Int)<(rows.length:Int):=by omega
 exact⟨b,off+i*9,c,t,by simp only[zc5,h1,aax,and_self,aad],hb,hg,hl,ht,hk⟩
theorem zC.dJ(S:zC h sv 6 rows){i:Nat}{r:List aaa}(hr:rows[i]? = some r)(hn:r.length=6):∃b o c t,yh pu 23 sv (pm i)=some (.pointer (some ⟨b,o,none⟩))/\b<h.next/\h.get b=some (.cells c t)/\o+6<=c.length/\(c.drop o).take 6=r /\ ∀k,k<6->c[o+k]? = r[k]?:=by
 obtain⟨b,o,c,t,⟨off,cp,rfl,rfl⟩,hi,hb,hg,hl,ht,hk⟩:=S.spot hr hn;have h1:0<=(i:Int)/\(i:Int)<(rows.length:Int):=by omega
 exact⟨b,off+i*6,c,t,by simp only[zh9,h1,aax,and_self,aad],hb,hg,hl,ht,hk⟩
end
structure wt (h:za) (x:xG):Prop where
 args:zL h x.av x.args
 oj:x.args.length<=17592186043904
structure qE (h:za) (f:Fn):Prop where
 params:zL h f.pv f.params
 ET:f.params.length<=17592186043904
 code:zC h f.cv 9 (f.code.map xG.row)
 tu:f.code.length*88<=140737488351232
 ins:∀x,x∈f.code->wt h x
structure wB (h:za) (p:Pg):Prop where
 globals:zL h p.gv p.globals
 MS:p.globals.length<=17592186043904
 funcs:zC h p.fv 6 (p.funcs.map Fn.row)
 Dk:p.funcs.length*88<=140737488351232
 fns:∀f,f∈p.funcs->qE h f
section
variable {h h':za}{x:xG}{f:Fn}{p:Pg}
theorem wt.old(S:wt h x)(e:Old h h'):wt h' x:=⟨S.args.old e,S.oj⟩
theorem wt.lock(S:wt h x):wt h.lock x:=⟨S.args.lock,S.oj⟩
theorem qE.old(S:qE h f)(e:Old h h'):qE h' f:=⟨S.params.old e,S.ET,S.code.old e,S.tu,λx hx=>(S.ins x hx).old e⟩
theorem qE.lock(S:qE h f):qE h.lock f:=⟨S.params.lock,S.ET,S.code.lock,S.tu,λx hx=>(S.ins x hx).lock⟩
theorem wB.old(S:wB h p)(e:Old h h'):wB h' p:=⟨S.globals.old e,S.MS,S.funcs.old e,S.Dk,λf hf=>(S.fns f hf).old e⟩
theorem wB.lock(S:wB h p):wB h.lock p:=⟨S.globals.lock,S.MS,S.funcs.lock,S.Dk,λf hf=>(S.fns f hf).lock⟩
end
theorem bT{step:List aaa->za->(List aaa->za->Prop)->Prop}(Q:za->Prop){v:aaa}(n:Nat)(G:Nat->Bool){h:za}(h0:Q h)
  (hs:∀i h J,i<=n->Q h->(∀k,k<i->G k=true)->(∀h',i<n->G i=true->Q h'->J [v,pm ((i+1:Nat):Int)] h')->step [v,pm (i:Nat)] h J):LP step [v,pm 0] h:=by
 refine qY (λm vs h=>∃i,i<=n/\m=n-i/\vs=[v,pm (i:Nat)]/\Q h /\ ∀k,k<i->G k=true) n ⟨0,aba _,rfl,rfl,h0,λk hk=>absurd hk (Nat.not_lt_zero _)⟩ ?_;rintro m vs h ⟨i,hi,rfl,rfl,e,g⟩;refine hs i h _ hi e g λh' hlt hg e'=>⟨n-(i+1),by omega,i+1,hlt,rfl,rfl,e',λk hk=>?_⟩;rcases aar k i with q|q
 ·exact g k q
 ·have:k=i:=by omega
  subst this;exact hg
theorem zec{step:List aaa->za->(List aaa->za->Prop)->Prop}(Q:za->Prop)(n:Nat)(G:Nat->Bool){h:za}(h0:Q h)
  (hs:∀i h J,i<=n->Q h->(∀k,k<i->G k=true)->(∀h',i<n->G i=true->Q h'->J [pm ((i+1:Nat):Int)] h')->step [pm (i:Nat)] h J):LP step [pm 0] h:=by
 refine qY (λm vs h=>∃i,i<=n/\m=n-i/\vs=[pm (i:Nat)]/\Q h /\ ∀k,k<i->G k=true) n ⟨0,aba _,rfl,rfl,h0,λk hk=>absurd hk (Nat.not_lt_zero _)⟩ ?_;rintro m vs h ⟨i,hi,rfl,rfl,e,g⟩;refine hs i h _ hi e g λh' hlt hg e'=>⟨n-(i+1),by omega,i+1,hlt,rfl,rfl,e',λk hk=>?_⟩;rcases aar k i with q|q
 ·exact g k q
 ·have:k=i:=by omega
  subst this;exact hg
theorem WA{step:List aaa->za->(List aaa->za->Prop)->Prop}{lo:za}{v:aaa}(n:Nat)(G:Nat->Bool){h:za}(h0:Old lo h)
  (hs:∀i h J,i<=n->Old lo h->(∀k,k<i->G k=true)->(∀h',i<n->G i=true->Old lo h'->J [v,pm ((i+1:Nat):Int)] h')->step [v,pm (i:Nat)] h J):LP step [v,pm 0] h:=by
 refine qY (λm vs h=>∃i,i<=n/\m=n-i/\vs=[v,pm (i:Nat)]/\Old lo h /\ ∀k,k<i->G k=true) n ⟨0,aba _,rfl,rfl,h0,λk hk=>absurd hk (Nat.not_lt_zero _)⟩ ?_;rintro m vs h ⟨i,hi,rfl,rfl,e,g⟩;refine hs i h _ hi e g λh' hlt hg e'=>⟨n-(i+1),by omega,i+1,hlt,rfl,rfl,e',λk hk=>?_⟩;rcases aar k i with q|q
 ·exact g k q
 ·have:k=i:=by omega
  subst this;exact hg
def Hy{α:Type}(l:List α)(B:α->Bool)(k:Nat):Bool:=match l[k]? with
 |some x=>B x
 |none=>true
theorem qh{α:Type}{l:List α}{B:α->Bool}(h:∀k,k<l.length->Hy l B k=true):l.all B=true:=by
 rw[aaD];intro x hx;obtain⟨k,hk,rfl⟩:=List.getElem_of_mem hx;have:=h k hk;simpa only[Hy,aae hk] using this
theorem qq{α:Type}{l:List α}{B:α->Bool}{k:Nat}{x:α}(hx:l[k]? = some x)(hb:B x=false):l.all B=false:=by
 rw[List.all_eq_false];exact⟨x,aau hx,by simp[hb]⟩
theorem XO{α:Type}{l:List α}{B:α->Bool}{k:Nat}{x:α}(hx:l[k]? = some x):Hy l B k=B x:=by simp only[Hy,hx]
theorem get_some{α:Type}{l:List α}{k:Nat}(h:k<l.length):∃x,l[k]? = some x/\x∈l:=⟨l[k],aae h,List.getElem_mem h⟩
theorem absH_lt(w:World)(b:Nat)(o:wA)(h:(absH pu w).get b=some o):b<(absH pu w).next:=(Nl pu w).eU b o h
theorem c2:Tryz.prog.cellsOf 2=1:=by kernel_rfl
theorem c3:Tryz.prog.cellsOf 3=1:=by kernel_rfl
theorem c9:Tryz.prog.cellsOf 9=1:=by kernel_rfl
theorem c22:Tryz.prog.cellsOf 22=1:=by kernel_rfl
theorem c23:Tryz.prog.cellsOf 23=1:=by kernel_rfl
theorem c25:Tryz.prog.cellsOf 25=3:=by kernel_rfl
theorem c43:Tryz.prog.cellsOf 47=1:=by kernel_rfl
theorem c45:Tryz.prog.cellsOf 49=6:=by kernel_rfl
theorem c50:Tryz.prog.cellsOf 51=9:=by kernel_rfl
theorem y3:Tryz.prog.bytesOf 3=8:=by kernel_rfl
theorem y45:Tryz.prog.bytesOf 49=88:=by kernel_rfl
theorem y50:Tryz.prog.bytesOf 51=88:=by kernel_rfl
theorem DZ:reachBytes=140737488351232:=rfl
theorem H4{α:Type}{n:Nat}{Q:Nat->α->Prop}(h:∀i,i<n->∃z,Q i z):∃l:List α,l.length=n /\ ∀i z,l[i]? = some z->Q i z:=by
 obtain⟨f,hf⟩:=Classical.axiomOfChoice (r:=λ(i:Fin n) z=>Q i.1 z) λi=>h i.1 i.2;refine⟨List.ofFn f,by simp,λi z hz=>?_⟩;rw[List.getElem?_ofFn]at hz;split at hz
 ·rename_i hi;simp only[aab]at hz;subst hz;exact hf ⟨i,hi⟩
 ·cases hz
theorem Ng{c:List aaa}{n:Nat}{v:aaa}(h:(c.drop n).take 1=[v]):c[n]? = some v:=by
 have:=congrArg (λl=>l[0]?) h;simpa [acN,aa1] using this
section
variable {h:za}(hw:∀b o,h.get b=some o->b<h.next)
include hw
theorem Ic{a:aaa}(r:iZ pu h 22 [a]):∃zs,zL h a zs/\zs.length<=17592186043904:=by
 rcases D8 Tryz.underlying22 c3 y3 (by decide) r with e|⟨b,off,len,e,hl,hc⟩
 ·simp only[abE,abg]at e;exact⟨[],.inl ⟨e,rfl⟩,aba _⟩
 ·simp only[abE,abg]at e;subst e;rw[DZ]at hl;by_cases h0:0<len
  ·obtain⟨c,t,hg,hat⟩:=hc h0
   obtain⟨l,e1,e2⟩:=H4 (n:=len) (Q:=λi (z:Int)=>c[off+i]? = some (pm z)) λi hi=>by
    obtain⟨h1,h2⟩:=hat i hi;obtain⟨z,hz,_⟩:=rw_int Tryz.underlying3 h2;rw[abk]at hz;exact⟨z,Ng hz⟩
   refine⟨l,.inr ⟨b,off,0,by rw[e1],λ_=>⟨c,t,hw b _ hg,hg,e2⟩⟩,by omega⟩
  ·have:len=0:=by omega
   subst this;exact⟨[],.inr ⟨b,off,0,rfl,λq=>absurd rfl q⟩,aba _⟩
theorem S5{α:Type}{row:α->List aaa}{ok:α->Prop}{ts te:TypeId}{n bz:Nat}(hu:Tryz.prog.underlying ts=some (.slice te))(hs:Tryz.prog.cellsOf te=n)(hb:Tryz.prog.bytesOf te=bz)(h0n:0<n)(h8:8<=bz)
  (hrow:∀cs,iZ pu h te cs->∃x,cs=row x/\ok x) {a:aaa} (r:iZ pu h ts [a]):∃l:List α,zC h a n (l.map row)/\l.length*bz<=140737488351232 /\ ∀x,x∈l->ok x:=by
 rcases D8 hu hs hb h0n r with e|⟨b,off,len,e,hl,hc⟩
 ·simp only[abE,abg]at e;exact⟨[],.inl ⟨e,rfl⟩,by simp,λx hx=>by cases hx⟩
 ·simp only[abE,abg]at e;subst e;rw[DZ]at hl;by_cases h0:0<len
  ·obtain⟨c,t,hg,hat⟩:=hc h0
   obtain⟨l,e1,e2⟩:=H4 (n:=len) (Q:=λi x=>off+i*n+n<=c.length/\(c.drop (off+i*n)).take n=row x/\ok x) λi hi=>by
    obtain⟨h1,h2⟩:=hat i hi;obtain⟨x,hx,hok⟩:=hrow _ h2;exact⟨x,h1,hx,hok⟩
   refine⟨l,.inr ⟨b,off,0,by rw[aaf,e1],λ_=>⟨c,t,hw b _ hg,hg,λi r hr=>?_⟩⟩,?_,λx hx=>?_⟩
   ·rw[aaq]at hr;cases hx:l[i]? with
    |none=>rw[hx]at hr;cases hr
    |some x=>
     rw[hx]at hr;simp only[abV,aab]at hr;subst hr;exact⟨(e2 i x hx).1,(e2 i x hx).2.1⟩
   ·rw[e1];exact hl
   ·obtain⟨k,hk,rfl⟩:=List.getElem_of_mem hx;exact(e2 k _ (aae hk)).2.2
  ·have:len=0:=by omega
   subst this;exact⟨[],.inr ⟨b,off,0,rfl,λq=>absurd rfl q⟩,by simp,λx hx=>by cases hx⟩
end
theorem y2:Tryz.prog.bytesOf 2=8:=by kernel_rfl
section
variable {h:za}(hw:∀b o,h.get b=some o->b<h.next)
include hw
end
def WR(f:Fn)(x:xG):Bool :=
 if x.op=1\/x.op=2\/x.op=3\/x.op=12\/x.op=13\/x.op=14\/x.op=8\/x.op=10 then true
 else if x.op=4 then decide (1<=x.sub)&&decide (x.sub<=4)
 else if x.op=5 then GA x.sub
 else if x.op=11 then AJ x.sub
 else if x.op=6\/x.op=7 then ik x.sub
 else if x.op=9 then decide (0<=x.k)&&decide (x.k<=f.frame)
 else false
structure Bx (h:za) (b1 b2:Nat) (f:Fn) (x:xG):Prop where
 l1:b1<h.next
 l2:b2<h.next
 g1:h.get b1=some (.cells [.string f.nm,f.pv,pm f.zf,pm f.frame,pm f.entry,f.cv] 49)
 g2:h.get b2=some (.cells [pm x.op,pm x.sub,pm x.a,pm x.b,pm x.d,pm x.k,x.av,pm x.s,pm x.t] 51)
theorem Bx.old{h h':za}{b1 b2:Nat}{f:Fn}{x:xG}(B:Bx h b1 b2 f x)(e:Old h h'):Bx h' b1 b2 f x :=
 ⟨aao B.l1 e.next,aao B.l2 e.next,by rw[e.get _ B.l1];exact B.g1,by rw[e.get _ B.l2];exact B.g2⟩
section
variable {h:za}{b1 b2:Nat}{f:Fn}{x:xG}{vs:List aaa}{B:Bool}
theorem d41(W:Bx h b1 b2 f x)(hB:B=WR f x):vu (pi b2) (u3 B) (pi b1) vs h:=by
 have g1:=W.g1;have g2:=W.g2;clear W;obtain⟨op,sub,a,b,d,k,av,args,s,t⟩:=x;unfold WR at hB;simp only at hB g2;by_cases p:op=1\/op=2\/op=3\/op=12\/op=13\/op=14\/op=8\/op=10
 ·rw[aai p]at hB;rcases p with rfl|rfl|rfl|rfl|rfl|rfl|rfl|rfl
  all_goals
   simp only[EE,nth,↓BK,Int.reduceEq,zA,zj,zw,vJ,vK,vL,vM,vN,vO,vP,vu,g2];rw[hB];rfl
 rw[aac p]at hB;have p1:¬op=1:=λq=>p (.inl q);have p2:¬op=2:=λq=>p (.inr (.inl q));have p3:¬op=3:=λq=>p (.inr (.inr (.inl q)));have p12:¬op=12:=λq=>p (.inr (.inr (.inr (.inl q))));have p13:¬op=13:=λq=>p (.inr (.inr (.inr (.inr (.inl q)))));have p14:¬op=14:=λq=>p (.inr (.inr (.inr (.inr (.inr (.inl q))))));have p8:¬op=8:=λq=>p (.inr (.inr (.inr (.inr (.inr (.inr (.inl q)))))));have p10:¬op=10:=λq=>p (.inr (.inr (.inr (.inr (.inr (.inr (.inr q)))))));clear p;by_cases h4:op=4
 ·subst h4;rw[aai rfl]at hB;by_cases c:1<=sub
  ·simp only[EE,nth,↓BK,Int.reduceEq,zA,zj,zw,yj,vJ,vK,vL,vM,vN,vO,fY,gy,ur,vP,vu,g2,c];simp[u3,hB,c]
  ·simp only[EE,nth,↓BK,Int.reduceEq,zA,zj,zw,yj,vJ,vK,vL,vM,vN,vO,fY,gy,ur,vP,vu,g2,c];simp[u3,hB,c]
 rw[aac h4]at hB;by_cases h5:op=5
 ·subst h5;rw[aai rfl]at hB;unfold GA at hB;by_cases c:11<=sub
  ·simp only[EE,nth,↓BK,Int.reduceEq,zA,zj,zw,yj,vJ,vK,vL,vM,vN,vO,fZ,gx,qv,ur,vP,vu,g2,c];simp[u3,hB,c]
  ·simp only[EE,nth,↓BK,Int.reduceEq,zA,zj,zw,yj,vJ,vK,vL,vM,vN,vO,fZ,gx,qv,ur,vP,vu,g2,c];simp[u3,hB,c]
 rw[aac h5]at hB;by_cases h11:op=11
 ·subst h11;rw[aai rfl]at hB;unfold AJ at hB;by_cases c:21<=sub
  ·simp only[EE,nth,↓BK,Int.reduceEq,zA,zj,zw,yj,vJ,vK,vL,vM,vN,vO,f9,gu,jk,qv,ur,vP,vu,g2,c];simp[u3,hB,c]
  ·simp only[EE,nth,↓BK,Int.reduceEq,zA,zj,zw,yj,vJ,vK,vL,vM,vN,vO,f9,gu,jk,qv,ur,vP,vu,g2,c];simp[u3,hB,c]
 rw[aac h11]at hB;by_cases h67:op=6\/op=7
 ·rw[aai h67]at hB;unfold ik at hB;by_cases c1:sub=1
  ·rcases h67 with rfl|rfl
   all_goals
    simp only[EE,nth,↓BK,Int.reduceEq,zA,zj,zw,yj,vJ,vK,vL,vM,vN,vO,Kn,Ko,Kp,Kq,YE,jk,qv,ur,vP,vu,g2,c1];simp[u3,hB,c1]
  by_cases c4:sub=4
  ·rcases h67 with rfl|rfl
   all_goals
    simp only[EE,nth,↓BK,Int.reduceEq,zA,zj,zw,yj,vJ,vK,vL,vM,vN,vO,Kn,Ko,Kp,Kq,YE,jk,qv,ur,vP,vu,g2,c4];simp[u3,hB,c4]
  rcases h67 with rfl|rfl
  all_goals
   simp only[EE,nth,↓BK,Int.reduceEq,zA,zj,zw,yj,vJ,vK,vL,vM,vN,vO,Kn,Ko,Kp,Kq,YE,jk,qv,ur,vP,vu,g2,c1,c4];simp[u3,hB,c1,c4]
 rw[aac h67]at hB;have p6:¬op=6:=λq=>h67 (.inl q);have p7:¬op=7:=λq=>h67 (.inr q);by_cases h9:op=9
 ·subst h9;rw[aai rfl]at hB;by_cases c:0<=k
  ·simp only[EE,nth,↓BK,Int.reduceEq,zA,xp,zj,kQ,zw,vR,vJ,vK,vL,vM,vN,vO,gd,gj,gk,Kr,YE,jk,qv,ur,vP,vu,g1,g2,c];simp[u3,hB,c]
  ·simp only[EE,nth,↓BK,Int.reduceEq,zA,xp,zj,zw,vR,vJ,vK,vL,vM,vN,vO,gd,gj,gk,Kr,YE,jk,qv,ur,vP,vu,g2,c];simp[u3,hB,c]
 rw[aac h9]at hB;simp only[EE,nth,↓BK,zA,zj,zw,vJ,vK,vL,vM,vN,vO,Kr,YE,jk,qv,ur,vP,vu,g2,p1,p2,p3,p12,p13,p14,p8,p10,h4,h5,h11,p6,p7,h9];rw[hB];rfl
end
theorem vW{n m:Int}(h:n<0\/m<=n):xr n m=false:=by
 unfold xr;by_cases a:0<=n
 ·have:¬n<m:=by omega
  simp[this]
 ·simp[a]
theorem wN{n m:Int}(h:¬n<0)(h2:¬m<=n):xr n m=true:=by
 have a:0<=n:=by omega
 have b:n<m:=by omega
 simp[xr,a,b]
theorem zaY(x:xG):(ql x).length<=2:=by
 unfold ql;split
 ·exact aba _
 ·split
  ·exact aam _
  ·exact abr _
section
variable {h:za}{b1 b2:Nat}{f:Fn}{x:xG}{vs:List aaa}{B:Bool}
theorem d42(W:Bx h b1 b2 f x)(hn:zV x.av=false)(hc:zC h f.cv 9 (f.code.map xG.row))(hB:B=((ql x).all (λs=>xr s f.code.length)&&WR f x)) :
  gB (pi b2) (pi b1) (u3 B) vs h:=by
 have g2:=W.g2;simp only[EE,aad,Nat.reduceAdd,zZ,qI,gB,g2];refine y5 (by kernel_rfl) (by simp only[EE]) (zad x hn h) ?_;rintro v h1 ⟨S,e⟩;simp only[↓BK];have hcode:(f.code.map xG.row).length=f.code.length:=aaf _;refine WA (lo:=h1) (ql x).length (Hy (ql x) λs=>xr s f.code.length) (.refl h1) ?_;intro i h2 J hi e2 hg hJ;have W2:=W.old (e.trans e2);have S2:=S.old e2;have c2:=hc.old (e.trans e2);have nl:=S2.wk;have hl:=S2.kY 3 h2;rcases aar i (ql x).length with hlt|hge
 ·obtain⟨z,hz,_⟩:=get_some hlt;obtain⟨b,o,c,t,ha,hb,hgt,hco⟩:=S2.at hz;have hlt':(i:Int)<((ql x).length:Int):=by omega
  have g1':=W2.g1;have cn:=c2.wk;have cl:=c2.K3 3 h2;rw[hcode]at cl;have hinc:IntKind.wrap .i64 ((i:Int)+1)=((i+1:Nat):Int):=inc (by have:=zaY x;omega);by_cases z0:z<0
  ·simp only[EE,nth,↓BK,zA,zj,cT,cU,Kj,Kk,Kl,Km,Ul,hl,hlt',nl,ha,hgt,hco,z0];rw[hB,qq (B:=λs=>xr s f.code.length) hz (vW (.inl z0))];rfl
  by_cases z1:(f.code.length:Int)<=z
  ·simp only[EE,nth,↓BK,zA,zj,uS,xL,cT,cU,Kj,Kk,Kl,Km,Ul,hl,hlt',nl,ha,hgt,hco,z0,g1',cn,cl,z1];rw[hB,qq (B:=λs=>xr s f.code.length) hz (vW (.inr z1))];rfl
  ·simp only[EE,nth,↓BK,zA,zj,uS,xL,cT,cU,Kj,Kk,Kl,Km,An,Ul,hl,hlt',nl,ha,hgt,hco,z0,g1',cn,cl,z1,hinc];exact hJ _ hlt (by rw[XO hz];exact wN z0 z1) e2
 ·have hlt':¬(i:Int)<((ql x).length:Int):=by omega
  simp only[EE,nth,Ul,hl,hlt',nl];refine d41 W2 ?_;rw[hB,qh λk hk=>hg k (by omega),aa2]
theorem d43(W:Bx h b1 b2 f x)(hn:zV x.av=false)(hc:zC h f.cv 9 (f.code.map xG.row))(hB:B=(!(decide (f.zf<=zu x))&&(!decide (zu x < -1)&&((ql x).all (λs=>xr s f.code.length)&&WR f x)))) :
  uT pu 43 [x.val] h (Ku (pi b1) h (pi b2) (u3 B) vs):=by
 refine lP (by kernel_rfl) (by simp only[EE]) (UB x hn h) ?_;have g1:=W.g1;have g2:=W.g2;by_cases c1:f.zf<=zu x
 ·simp only[EE,zA,zj,wh,Kt,Ku,g1,c1];rw[hB];simp[u3,c1]
 ·simp only[EE,aad,Nat.reduceAdd,zZ,zA,zj,qI,wh,Ku,g1,g2,c1];refine lP (by kernel_rfl) (by simp only[EE]) (UB x hn h) ?_;by_cases c2:zu x < -1
  ·simp only[EE,Int.reduceNeg,Kt,c2];rw[hB];simp[u3,c2]
  ·simp only[EE,Int.reduceNeg,Kt,c2];refine d42 W hn hc ?_;rw[hB];simp[c1,c2]
theorem d45(W:Bx h b1 b2 f x)(I:wt h x)(hc:zC h f.cv 9 (f.code.map xG.row)){v:aaa}(S:zL h v (wz x))(hB:B=((wz x).all (λu=>xr u f.zf)&&(!(decide (f.zf<=zu x))&&(!decide (zu x < -1)&&((ql x).all (λs=>xr s f.code.length)&&WR f x))))) :
  gC (pi b1) (u3 B) vs (pi b2) v h:=by
 have hn:=I.args.wk;simp only[↓BK,gC]
 have oj:(wz x).length<=17592186043906:=by
  have:=I.oj;unfold wz lA lB lC;simp only[abH];split <;> split <;> split <;> simp <;> omega
 refine WA (lo:=h) (wz x).length (Hy (wz x) λs=>xr s f.zf) (.refl h) ?_;intro i h2 J hi e2 hg hJ;have W2:=W.old e2;have S2:=S.old e2;have nl:=S2.wk;have hl:=S2.kY 3 h2;rcases aar i (wz x).length with hlt|hge
 ·obtain⟨z,hz,_⟩:=get_some hlt;obtain⟨b,o,c,t,ha,hb,hgt,hco⟩:=S2.at hz;have hlt':(i:Int)<((wz x).length:Int):=by omega
  have g1':=W2.g1;have hinc:IntKind.wrap .i64 ((i:Int)+1)=((i+1:Nat):Int):=inc (by omega);by_cases z0:z<0
  ·simp only[EE,nth,↓BK,zA,zj,cO,cP,cQ,cR,cS,QA,hl,hlt',nl,ha,hgt,hco,z0];rw[hB,qq (B:=λs=>xr s f.zf) hz (vW (.inl z0))];rfl
  by_cases z1:f.zf<=z
  ·simp only[EE,nth,↓BK,zA,zj,wh,cO,cP,cQ,cR,cS,QA,hl,hlt',nl,ha,hgt,hco,z0,g1',z1];rw[hB,qq (B:=λs=>xr s f.zf) hz (vW (.inr z1))];rfl
  ·simp only[EE,nth,↓BK,zA,zj,wh,cO,cP,cQ,cR,cS,Cm,QA,hl,hlt',nl,ha,hgt,hco,z0,g1',z1,hinc];exact hJ _ hlt (by rw[XO hz];exact wN z0 z1) e2
 ·have hlt':¬(i:Int)<((wz x).length:Int):=by omega
  have g2':=W2.g2;simp only[EE,nth,aad,Nat.reduceAdd,zZ,qI,QA,hl,hlt',nl,g2'];refine d43 W2 hn (hc.old e2) ?_;rw[hB,qh λk hk=>hg k (by omega),aa2]
end
def rL(f:Fn)(x:xG):Bool:=(wz x).all (λu=>xr u f.zf)&&(!(decide (f.zf<=zu x))&&(!decide (zu x < -1)&&((ql x).all (λs=>xr s f.code.length)&&WR f x)))
def nD(x:xG):Bool:=Uy x.op&&decide (x.a = -1)
def pJ(x:xG):Bool:=iJ x.op&&decide (x.b = -1)
def Ou(x:xG):Bool:=iK x.op&&decide (zu x = -1)
def Ov(x:xG):Bool:=decide (x.op=10)&&decide (x.d < -1)
def Ws(f:Fn)(x:xG):Bool := !nD x&&(!pJ x&&(!Ou x&&(!Ov x&&rL f x)))
section
variable {h:za}{b1 b2:Nat}{f:Fn}{x:xG}{vs:List aaa}{B:Bool}
theorem e46(W:Bx h b1 b2 f x)(I:wt h x)(hc:zC h f.cv 9 (f.code.map xG.row))(c:Bool)(hB:B=(!c&&rL f x)) :
  YF (.bool false) (u3 B) (pi b2) (pi b1) (.bool c) h:=by
 have g2:=W.g2;cases c with
 |true=>
  simp only[EE,YF];rw[hB];rfl
 |false=>
  simp only[EE,aad,Nat.reduceAdd,zZ,qI,YF,g2];refine y5 (by kernel_rfl) (by simp only[EE]) (Mz x h I.args I.oj) ?_;intro v h1 hF;obtain⟨S,e⟩:=hF.read;refine d45 (W.old e) (I.old e) (hc.old e) S ?_;rw[hB];rfl
theorem e50(W:Bx h b1 b2 f x)(I:wt h x)(hc:zC h f.cv 9 (f.code.map xG.row))(c:Bool)(hB:B=(!c&&(!Ov x&&rL f x))) :
  YG (.bool false) (pi b2) (u3 B) (pi b1) (.bool c) h:=by
 have g2:=W.g2;cases c with
 |true=>
  simp only[EE,YF,Wd,We,Wf,YG];rw[hB];rfl
 |false=>
  by_cases h10:x.op=10
  ·simp only[EE,Int.reduceNeg,zA,zj,zw,x8,Wd,We,Wf,YG,g2,h10];refine e46 W I hc (decide (x.d < -1)) ?_;rw[hB];simp[Ov,h10]
  ·simp only[EE,zA,zj,zw,Wd,We,Wf,YG,g2,h10];refine e46 W I hc false ?_;rw[hB];simp[Ov,h10]
theorem e53(W:Bx h b1 b2 f x)(I:wt h x)(hc:zC h f.cv 9 (f.code.map xG.row))(c:Bool)(hB:B=(!c&&(!Ou x&&(!Ov x&&rL f x)))) :
  Wg (.bool false) (.bool (iK x.op)) (pi b2) (u3 B) (pi b1) (.bool c) h:=by
 have g2:=W.g2;have hn:=I.args.wk;cases c with
 |true=>
  simp only[EE,YF,Wd,We,Wf,YG,Um,Un,Wg];rw[hB];rfl
 |false=>
  cases hD:iK x.op with
  |true=>
   simp only[EE,aad,Nat.reduceAdd,zZ,qI,Un,Wg,g2];refine w8 (by kernel_rfl) (by simp only[EE]) (UB x hn h) ?_;simp only[EE,Int.reduceNeg,Um];refine e50 W I hc (decide (zu x = -1)) ?_;rw[hB];simp[Ou,hD]
  |false=>
   simp only[EE,Um,Un,Wg];refine e50 W I hc false ?_;rw[hB];simp[Ou,hD]
theorem e56(W:Bx h b1 b2 f x)(I:wt h x)(hc:zC h f.cv 9 (f.code.map xG.row))(c:Bool){t15 t22:aaa}(hp:pk t15 t22 (.bool false)=some (.bool c))(hB:B=(!c&&(!pJ x&&(!Ou x&&(!Ov x&&rL f x))))) :
  Uo t15 (.bool (iJ x.op)) (pi b2) (.bool (iK x.op)) (u3 B) (pi b1) t22 h:=by
 have g2:=W.g2;cases c with
 |true=>
  simp only[EE,YF,Wd,We,Wf,YG,Um,Un,Wg,Kv,Kw,Uo,hp];rw[hB];rfl
 |false=>
  cases hD:iJ x.op with
  |true=>
   simp only[EE,Int.reduceNeg,zA,zj,qM,Kv,Kw,Uo,g2,hp];refine e53 W I hc (decide (x.b = -1)) ?_;rw[hB];simp[pJ,hD]
  |false=>
   simp only[EE,Kv,Kw,Uo,hp];refine e53 W I hc false ?_;rw[hB];simp[pJ,hD]
end
theorem zh3(a b c:Bool):Yk (.tuple #[.bool a,.bool b,.bool c]) 0=some (.bool a):=by rw[ic rfl];rfl
theorem zh4(a b c:Bool):Yk (.tuple #[.bool a,.bool b,.bool c]) 1=some (.bool b):=by rw[ic rfl];rfl
theorem zh5(a b c:Bool):Yk (.tuple #[.bool a,.bool b,.bool c]) 2=some (.bool c):=by rw[ic rfl];rfl
theorem zcw(f:Fn)(x:xG)(h:za)(hpv:yN f.pv=true/\zV f.pv=false)(I:wt h x)(hc:zC h f.cv 9 (f.code.map xG.row)):yO pu 77 [f.val,x.val] h (.bool (Ws f x)):=by
 apply uh;replace I:=I.lock;replace hc:=hc.lock;generalize hL:h.lock=L at I hc;clear hL h;apply Ly;unfold Lx;have hn:=I.args.wk;have hcn:=hc.wk;obtain⟨hpc,hpn⟩:=hpv;simp only[EE,↓nw,Value.cells,aad,Nat.reduceAdd,zZ,qI];have o1:=Old.push L (.cells f.row 49);have o2:=Old.push (L.push (.cells f.row 49)) (.cells x.row 51);refine y5 (by kernel_rfl) (by simp only[EE]) (zdm x hn _) ?_;rintro v h1 ⟨rfl,e⟩
 have W:Bx h1 L.next (L.next+1) f x:=by
  refine Bx.old (h:=(L.push (.cells f.row 49)).push (.cells x.row 51)) ⟨?_,?_,?_,?_⟩ e
  ·show L.next<L.next+1+1;omega
  ·show L.next+1<L.next+1+1;omega
  ·rw[zt (by show L.next<L.next+1;omega),zk]
  ·exact zI rfl
 have oe:=(o1.trans o2).trans e;replace I:=I.old oe;replace hc:=hc.old oe;have g2:=W.g2;cases hA:Uy x.op with
 |true=>
  simp only[EE,Int.reduceNeg,zA,zj,xk,gD,gE,g2,zh3,zh4,zh5];refine e56 W I hc (decide (x.a = -1)) (xI rfl) ?_;simp[Ws,nD,hA]
 |false=>
  simp only[EE,gD,gE,zh3,zh4,zh5];refine e56 W I hc false (yL rfl) ?_;simp[Ws,nD,hA]
theorem Z3{n:Nat}{G:Nat->Bool}(h:∀k,k<n->G k=true):(List.range n).all G=true:=by
 rw[aaD];intro k hk;exact h k (abz.1 hk)
theorem Z4{n k:Nat}{G:Nat->Bool}(hk:k<n)(h:G k=false):(List.range n).all G=false:=by
 rw[List.all_eq_false];exact⟨k,abz.2 hk,by simp[h]⟩
theorem UY{l:List Int}{i:Nat}{z:Int}(h:l[i]? = some z):l.getD i 0=z:=by
 rw[aaB,h];rfl
def iN(l:List Int)(zf:Int)(i:Nat):Bool:=xr (l.getD i 0) zf&&(List.range i).all λk => !decide (l.getD k 0=l.getD i 0)
def mf(l:List Int)(zf:Int):Bool:=(List.range l.length).all (iN l zf)
def Jw(f:Fn):Bool := !decide (f.zf<0)&&(!decide (5000<f.zf)&&(!decide ((5000:Int)<f.code.length)&&(!decide (f.entry<0)&&(!decide ((f.code.length:Int)<=f.entry)&&(!decide (f.frame<0) && !decide (65536<f.frame))))))
def qL(f:Fn):Bool:=Jw f&&(mf f.params f.zf&&f.code.all (Ws f))
theorem Old.eh{h h':za}(e:Old h h'){b:Nat}{o:wA}(hb:b<h.next)(hg:h.get b=some o):h'.get b=some o:=by rw[e.get b hb];exact hg
section
variable {L h:za}{b1:Nat}{f:Fn}{vs:List aaa}{B:Bool}
theorem ziV(F:qE h f)(hb:b1<h.next)(hg:h.get b1=some (.cells [.string f.nm,f.pv,pm f.zf,pm f.frame,pm f.entry,f.cv] 49))(hB:B=f.code.all (Ws f)) :
  LP (Kx (pi b1) (λ_ h101=>u3 B (.bool true) h101) (u3 B)) [(nth vs 0),(pm 0)] h:=by
 refine WA (lo:=h) f.code.length (Hy f.code (Ws f)) (.refl h) ?_;intro i h2 J hi e2 hq hJ;have g2:=e2.eh hb hg;have F2:=F.old e2;have cn:=F2.code.wk;have pn:=F2.params.wk;have cl:=F2.code.K3 3 h2;rw[aaf]at cl;rcases aar i f.code.length with hlt|hge
 ·obtain⟨x,hx,hm⟩:=get_some hlt;obtain⟨b,o,c,t,ha,hbb,hgt,hle,htk,_⟩:=F2.code.ED (i:=i) (r:=x.row) (by rw[aaq,hx];rfl) rfl;have hlt':(i:Int)<(f.code.length:Int):=by omega
  have hinc:IntKind.wrap .i64 ((i:Int)+1)=((i+1:Nat):Int):=inc (by have:=F.tu;omega);simp only[EE,nth,↓BK,aad,Nat.reduceAdd,zZ,zA,uS,mw,qI,xL,Ao,Kx,g2,cn,cl,hlt',ha,hgt,hle,htk];refine pL (by kernel_rfl) (by simp only[EE]) (zcw f x h2 ⟨F2.params.eT,pn⟩ (F2.ins x hm) F2.code).dc ?_;rintro v h3 ⟨rfl,rfl⟩;cases hI:Ws f x with
  |true=>
   simp only[EE,nth,gF,Ap,hinc];exact hJ _ hlt (by rw[XO hx];exact hI) e2
  |false=>
   simp only[EE,gF];rw[hB,qq hx hI];rfl
 ·have hlt':¬(i:Int)<(f.code.length:Int):=by omega
  simp only[EE,nth,zA,uS,xL,Kx,g2,cn,cl,hlt'];have:f.code.all (Ws f)=true:=qh λk hk=>hq k (by omega);rw[hB,this];rfl
theorem ziU(F:qE h f)(hb:b1<h.next)(hg:h.get b1=some (.cells [.string f.nm,f.pv,pm f.zf,pm f.frame,pm f.entry,f.cv] 49))(hB:B=(mf f.params f.zf&&f.code.all (Ws f))) :
  Ky (pi b1) (u3 B) vs h:=by
 simp only[↓BK,Ky];refine WA (lo:=h) f.params.length (iN f.params f.zf) (.refl h) ?_;intro i h2 J hi e2 hq hJ;have g2:=e2.eh hb hg;have F2:=F.old e2;have pn:=F2.params.wk;have pl:=F2.params.kY 3 h2;rcases aar i f.params.length with hlt|hge
 ·obtain⟨z,hz,hm⟩:=get_some hlt;obtain⟨b,o,c,t,ha,hbb,hgt,hco⟩:=F2.params.at hz;have hlt':(i:Int)<(f.params.length:Int):=by omega
  have hinc:IntKind.wrap .i64 ((i:Int)+1)=((i+1:Nat):Int):=inc (by have:=F.ET;omega);have hgd:=UY hz;by_cases z0:z<0
  ·simp only[EE,nth,↓BK,zA,yS,zj,uA,cW,cX,cY,cZ,dm,Up,g2,pn,pl,hlt',ha,hgt,hco,z0];have:mf f.params f.zf=false:=Z4 hlt (by unfold iN;rw[hgd,vW (.inl z0)];rfl);rw[hB,this];rfl
  by_cases z1:f.zf<=z
  ·simp only[EE,nth,↓BK,zA,yS,zj,uA,wh,cW,cX,cY,cZ,dm,Up,g2,pn,pl,hlt',ha,hgt,hco,z0,z1];have:mf f.params f.zf=false:=Z4 hlt (by unfold iN;rw[hgd,vW (.inr z1)];rfl);rw[hB,this];rfl
  simp only[EE,nth,↓BK,zA,yS,zj,uA,wh,cW,cX,cY,cZ,dm,Co,Up,g2,pn,pl,hlt',ha,hgt,hco,z0,z1];refine WA (lo:=h2) i (λk => !decide (f.params.getD k 0=f.params.getD i 0)) (.refl h2) ?_;intro k h3 J2 hk e3 hq3 hJ3;have g3:=(e2.trans e3).eh hb hg;have F3:=F2.old e3;rcases aar k i with hlk|hgk
  ·obtain⟨y,hy,_⟩:=get_some (l:=f.params) (k:=k) (by omega);obtain⟨b3,o3,c3,t3,ha3,hbb3,hgt3,hco3⟩:=F3.params.at hy;obtain⟨b4,o4,c4,t4,ha4,hbb4,hgt4,hco4⟩:=F3.params.at hz;have hlk':(k:Int)<(i:Int):=by omega
   have hinc3:IntKind.wrap .i64 ((k:Int)+1)=((k+1:Nat):Int):=inc (by have:=F.ET;omega);have hgk3:=UY hy;by_cases yz:y=z
   ·simp only[EE,nth,↓BK,zA,yS,zj,uA,m8,cV,g3,hlk',ha3,hgt3,hco3,ha4,hgt4,hco4,yz];have:mf f.params f.zf=false:=Z4 hlt (by unfold iN;rw[Z4 hlk (by rw[hgk3,hgd,yz];simp),ab3]);rw[hB,this];rfl
   ·simp only[EE,nth,↓BK,zA,yS,zj,uA,m8,Cn,cV,g3,hlk',ha3,hgt3,hco3,ha4,hgt4,hco4,yz,hinc3];exact hJ3 _ hlk (by rw[hgk3,hgd];simp[yz]) e3
  ·have hlk':¬(k:Int)<(i:Int):=by omega
   simp only[EE,nth,cV,hlk',hinc];refine hJ _ hlt ?_ (e2.trans e3);unfold iN;rw[hgd,wN z0 z1,aa2];have:=Z3 (n:=i) (G:=λk => !decide (f.params.getD k 0=f.params.getD i 0)) (λk' hk'=>hq3 k' (by omega));rw[hgd]at this;exact this
 ·have hlt':¬(i:Int)<(f.params.length:Int):=by omega
  simp only[EE,nth,↓BK,zA,yS,uA,Up,g2,pn,pl,hlt'];have hp:mf f.params f.zf=true:=Z3 λk hk=>hq k (by omega);exact ziV (B:=B) F2 (aao hb e2.next) g2 (by rw[hB,hp,aa2])
end
theorem zcx(f:Fn)(h:za)(F:qE h f):yO pu 40 [f.val] h (.bool (qL f)):=by
 apply uh;replace F:=F.lock;generalize h.lock=L at F;apply LA;unfold Lz;have pn:=F.params.wk;have cn:=F.code.wk;have F1:=F.old (Old.push L (.cells f.row 49));have cl:=F1.code.K3 3 (L.push (.cells f.row 49));rw[aaf]at cl;have fin:∀vs,Ky (pi L.next) (u3 (mf f.params f.zf&&f.code.all (Ws f))) vs (L.push (.cells f.row 49)):=λvs=>ziU F1 (aaH _) zk rfl;unfold qL Jw;by_cases c1:f.zf<0
 ·simp only[EE,↓nw,Value.cells,zA,zj,wh,jl,jm,jn,jo,jq,jr,jt,ju,jv,jw,jx,jy,c1];rfl
 by_cases c2:5000<f.zf
 ·simp only[EE,↓nw,Value.cells,zA,zj,wh,jl,jm,jn,jo,jq,jr,jt,ju,jv,jw,jx,jy,c1,c2];rfl
 by_cases c3:(5000:Int)<f.code.length
 ·simp only[EE,↓nw,Value.cells,zA,zj,uS,wh,xL,jl,jm,jn,jo,jq,jr,jt,ju,jv,jw,jx,jy,cn,cl,c1,c2,c3];rfl
 by_cases c4:f.entry<0
 ·simp only[EE,↓nw,Value.cells,zA,zj,uS,wh,XC,xL,jl,jm,jn,jo,jq,jr,jt,ju,jv,jw,jx,jy,cn,cl,c1,c2,c3,c4];rfl
 by_cases c5:(f.code.length:Int)<=f.entry
 ·simp only[EE,↓nw,Value.cells,zA,zj,uS,wh,XC,xL,jl,jm,jn,jo,jq,jr,jt,ju,jv,jw,jx,jy,cn,cl,c1,c2,c3,c4,c5];rfl
 by_cases c6:f.frame<0
 ·simp only[EE,↓nw,Value.cells,zA,zj,uS,wh,kQ,XC,xL,jl,jm,jn,jo,jq,jr,jt,ju,jv,jw,jx,jy,cn,cl,c1,c2,c3,c4,c5,c6];rfl
 by_cases c7:65536<f.frame
 ·simp only[EE,↓nw,Value.cells,zA,zj,uS,wh,kQ,XC,xL,jl,jm,jn,jo,jq,jr,jt,ju,jv,jw,jx,jy,cn,cl,c1,c2,c3,c4,c5,c6,c7];rfl
 simp only[EE,↓nw,Value.cells,zA,zj,uS,wh,kQ,XC,xL,jl,jm,jn,jo,jq,jr,jt,ju,jv,jw,jx,jy,cn,cl,c1,c2,c3,c4,c5,c6,c7];exact fin _
def WL(g:Int):Bool := !decide (g<0) && !decide (65536<g)
def iO(p:Pg)(k:Int):Int:=match p.funcs[k.toNat]? with
 |some f=>f.params.length
 |none=>0
def C6(p:Pg)(c:xG):Bool := !decide (c.op=10)||(xr c.sub p.funcs.length&&decide (iO p c.sub=c.args.length))
def zcZ(p:Pg)(c:xG):Bool := !decide (c.op=8)||(xr c.sub p.globals.length&&(!decide (c.k<0) && !decide (p.globals.getD c.sub.toNat 0<c.k)))
def ZL(p:Pg)(c:xG):Bool:=C6 p c&&zcZ p c
def nX(p:Pg):Bool := !decide ((200:Int)<p.globals.length)&&(!decide ((100:Int)<p.funcs.length)&&(!decide (p.main<0) && !decide ((p.funcs.length:Int)<=p.main)))
def YQ(p:Pg):Bool:=nX p&&(p.globals.all WL&&p.funcs.all λf=>qL f&&f.code.all (ZL p))
abbrev ug(f:Fn):wA := .cells [.string f.nm,f.pv,pm f.zf,pm f.frame,pm f.entry,f.cv] 49
abbrev xQ(x:xG):wA := .cells [pm x.op,pm x.sub,pm x.a,pm x.b,pm x.d,pm x.k,x.av,pm x.s,pm x.t] 51
abbrev vI(p:Pg):wA := .cells [p.gv,p.fv,pm p.main] 25
theorem mem_of{α:Type}{l:List α}{k:Nat}{x:α}(h:l[k]? = some x):x∈l:=aau h
theorem H5{n:Int}(h:¬n<0):((n.toNat:Nat):Int)=n:=by omega
section
variable {h:za}{b1 b5:Nat}{p:Pg}{f:Fn}{x:xG}{vs:List aaa}{B:Bool}
theorem ziR(P:wB h p)(F:qE h f)(hro:h.ro<=h.next)(hb:b1<h.next)(hg:h.get b1=some (vI p))(hb5:b5<h.next)(hg5:h.get b5=some (ug f)){i:Nat}(hx:f.code[i]? = some x){v0:aaa}{J:List aaa->za->Prop}
  (hB:ZL p x=false->B=false) (hJ:∀h',ZL p x=true->Old h h'->J [v0] h'):m5 (pi b5) h [v0,pm (i:Nat)] (pi b1) (u3 B) J:=by
 have hm:=mem_of hx;have cn:=F.code.wk;have I:=F.ins x hm;have an:=I.args.wk;have ac:=I.args.eT;obtain⟨b,o,c,t,ha,hbb,hgt,hle,htk,_⟩:=F.code.ED (i:=i) (r:=x.row) (by rw[aaq,hx];rfl) rfl;have bad:ZL p x=false->u3 B (.bool false) h:=λq=>by rw[hB q];rfl
 simp only[EE,nth,↓nw,Value.cells,zb,aad,Nat.reduceAdd,yJ,zZ,zA,zj,uS,qI,F4,pI,xL,zw,m5,hg5,ha,hgt,hle,htk,ac,pI,hro];generalize hH:(za.push h _).set h.next _=H;have e:Old h H:=by subst hH;exact(Old.push h _).set (aam _) _
 have g7:H.get h.next=some (xQ x):=by subst hH;exact zR
 have g1:=e.eh hb hg;clear hH;have PH:=P.old e;have fn:=PH.funcs.wk;have fl:=PH.funcs.K1 3 H;rw[aaf]at fl;have gn:=PH.globals.wk;have gl:=PH.globals.kY 3 H;have al:=(I.args.old e).kY 3 H;have fin:ZL p x=true->J [v0] H:=λq=>hJ H q e;have bad':ZL p x=false->u3 B (.bool false) H:=bad;unfold ZL C6 zcZ at fin bad';by_cases c10:x.op=10
 ·have c8:¬x.op=8:=by omega
  by_cases s0:x.sub<0
  ·simp only[EE,zA,zj,yj,kt,ku,kx,kA,kB,kC,kD,kE,kF,kG,kH,kI,kJ,kK,g7,c10,s0];exact bad' (by rw[vW (.inl s0)];simp[c10])
  by_cases s1:(p.funcs.length:Int)<=x.sub
  ·simp only[EE,zA,ue,zj,xj,yj,kt,ku,kx,kA,kB,kC,kD,kE,kF,kG,kH,kI,kJ,kK,g1,g7,fn,fl,c10,s0,s1];exact bad' (by rw[vW (.inr s1)];simp[c10])
  obtain⟨g,hgf,hgm⟩:=get_some (l:=p.funcs) (k:=x.sub.toNat) (by omega);obtain⟨b',o',c',t',ha',hbb',hgt',hle',htk',hk'⟩:=PH.funcs.dJ (i:=x.sub.toNat) (r:=g.row) (by rw[aaq,hgf];rfl) rfl;rw[H5 s0]at ha';have hk1:c'[o'+1]? = some g.pv:=hk' 1 (by omega);have pn:=(PH.fns g hgm).params.wk;have pl:=(PH.fns g hgm).params.kY 3 H;have hpa:iO p x.sub=g.params.length:=by simp only[iO,hgf]
  by_cases s2:(g.params.length:Int)=x.args.length
  ·simp only[EE,nth,Int.reduceEq,zA,yS,ue,zj,xj,uA,zw,yj,kR,Wb,Wc,Yq,Yr,Ys,Yt,Yu,Yv,Yw,Yx,Yy,Yz,YA,YB,YC,YD,kt,ku,kx,kA,kB,kC,kD,kE,kF,kG,kH,kI,kJ,kK,g1,g7,fn,fl,an,al,ha',hgt',hk1,pn,pl,c10,s0,s1,s2];exact fin (by rw[wN s0 s1,hpa];simp[c10,s2])
  ·simp only[EE,zA,yS,ue,zj,xj,uA,yj,kR,kt,ku,kx,kA,kB,kC,kD,kE,kF,kG,kH,kI,kJ,kK,g1,g7,fn,fl,an,al,ha',hgt',hk1,pn,pl,c10,s0,s1,s2];exact bad' (by rw[wN s0 s1,hpa];simp[c10,s2])
 by_cases c8:x.op=8
 ·by_cases s0:x.sub<0
  ·simp only[EE,Int.reduceEq,zA,zj,zw,yj,Wb,Wc,Yq,Yr,Ys,Yt,Yu,Yv,Yw,Yx,Yy,Yz,YA,YB,YC,YD,kt,ku,kx,kA,kB,kC,kD,kE,kF,kG,kH,kI,kJ,kK,g7,c8,s0];exact bad' (by rw[vW (m:=p.globals.length) (.inl s0)];simp[c8])
  by_cases s1:(p.globals.length:Int)<=x.sub
  ·simp only[EE,Int.reduceEq,zA,yS,zj,wj,zw,yj,Wb,Wc,Yq,Yr,Ys,Yt,Yu,Yv,Yw,Yx,Yy,Yz,YA,YB,YC,YD,kt,ku,kx,kA,kB,kC,kD,kE,kF,kG,kH,kI,kJ,kK,g1,g7,gn,gl,c8,s0,s1];exact bad' (by rw[vW (.inr s1)];simp[c8])
  by_cases s2:x.k<0
  ·simp only[EE,Int.reduceEq,zA,xp,yS,zj,wj,zw,yj,vR,Wb,Wc,Yq,Yr,Ys,Yt,Yu,Yv,Yw,Yx,Yy,Yz,YA,YB,YC,YD,kt,ku,kx,kA,kB,kC,kD,kE,kF,kG,kH,kI,kJ,kK,g1,g7,gn,gl,c8,s0,s1,s2];exact bad' (by rw[wN s0 s1];simp[c8,s2])
  obtain⟨z,hz,_⟩:=get_some (l:=p.globals) (k:=x.sub.toNat) (by omega);obtain⟨b',o',c',t',ha',hbb',hgt',hco'⟩:=PH.globals.at hz;rw[H5 s0]at ha';have hgd:=UY hz;by_cases s3:z<x.k
  ·simp only[EE,Int.reduceEq,zA,xp,yS,zj,wj,zw,yj,vR,Wb,Wc,Yq,Yr,Ys,Yt,Yu,Yv,Yw,Yx,Yy,Yz,YA,YB,YC,YD,kt,ku,kx,kA,kB,kC,kD,kE,kF,kG,kH,kI,kJ,kK,g1,g7,gn,gl,ha',hgt',hco',c8,s0,s1,s2,s3];exact bad' (by rw[wN s0 s1,hgd];simp[c8,s3])
  ·simp only[EE,nth,Int.reduceEq,zA,xp,yS,zj,wj,zw,yj,vR,Wb,Wc,Yq,Yr,Ys,Yt,Yu,Yv,Yw,Yx,Yy,Yz,YA,YB,YC,YD,kt,ku,kx,kA,kB,kC,kD,kE,kF,kG,kH,kI,kJ,kK,g1,g7,gn,gl,ha',hgt',hco',c8,s0,s1,s2,s3];exact fin (by rw[wN s0 s1,hgd];simp[c8,s2,s3])
 simp only[EE,nth,zA,zj,zw,Wb,Wc,Yq,Yr,Ys,Yt,Yu,Yv,Yw,Yx,Yy,Yz,YA,YB,YC,YD,kt,ku,kx,kA,kB,kC,kD,kE,kF,kG,kH,kI,kJ,kK,g7,c10,c8];exact fin (by simp[c10,c8])
theorem ziS(P:wB h p)(hro:h.ro<=h.next)(hb:b1<h.next)(hg:h.get b1=some (vI p))(hB:B=p.funcs.all λf=>qL f&&f.code.all (ZL p)) :
  LP (cM (pi b1) (λ_ h65=>u3 B (.bool true) h65) (u3 B)) [(nth vs 0),(pm 0)] h:=by
 refine WA (lo:=h) p.funcs.length (Hy p.funcs λf=>qL f&&f.code.all (ZL p)) (.refl h) ?_;intro i h2 J hi e2 hq hJ;have g2:=e2.eh hb hg;have P2:=P.old e2;have fn:=P2.funcs.wk;have fl:=P2.funcs.K1 3 h2;rw[aaf]at fl;have hro2:h2.ro<=h2.next:=by rw[e2.ro];exact aaS hro e2.next
 rcases aar i p.funcs.length with hlt|hge
 ·obtain⟨f,hf,hm⟩:=get_some hlt;obtain⟨b,o,c,t,ha,hbb,hgt,hle,htk,_⟩:=P2.funcs.dJ (i:=i) (r:=f.row) (by rw[aaq,hf];rfl) rfl;have hlt':(i:Int)<(p.funcs.length:Int):=by omega
  have hinc:IntKind.wrap .i64 ((i:Int)+1)=((i+1:Nat):Int):=inc (by have:=P.Dk;omega);have F2:=P2.fns f hm;have pn:=F2.params.wk;have pc:=F2.params.eT;have cn:=F2.code.wk;have cc:=F2.code.eT;simp only[EE,nth,↓nw,Value.cells,↓BK,zb,aad,Nat.reduceAdd,yJ,zZ,zA,ue,mw,FZ,mC,xj,Cj,cM,g2,fn,fl,hlt',ha,hgt,hle,htk,pc,cc,mC,hro2];generalize hH:(za.push h2 _).set h2.next _=H;have e3:Old h2 H:=by subst hH;exact(Old.push h2 _).set (aam _) _
  have g5:H.get h2.next=some (ug f):=by subst hH;exact zR
  have n5:h2.next<H.next:=by subst hH;exact aaH _
  have roH:H.ro<=H.next:=by rw[e3.ro];exact aaS hro2 e3.next
  clear hH;have FH:=F2.old e3;simp only[];refine w8 (by kernel_rfl) (by simp only[EE]) (zcx f H FH) ?_;cases hR:qL f with
  |false=>
   simp only[EE,m7];rw[hB,qq (B:=λf=>qL f&&f.code.all (ZL p)) hf (by rw[hR];rfl)];rfl
  |true=>
   simp only[EE,nth,↓BK,m7];refine WA (lo:=H) f.code.length (Hy f.code (ZL p)) (.refl H) ?_;intro k h3 J3 hk e4 hq3 hJ3;have g53:=e4.eh n5 g5;have F3:=FH.old e4;have P3:=P2.old (e3.trans e4);have g3:=(e2.trans (e3.trans e4)).eh hb hg;have cn3:=F3.code.wk;have cl3:=F3.code.K3 3 h3;rw[aaf]at cl3;have hro3:h3.ro<=h3.next:=by rw[e4.ro];exact aaS roH e4.next
   rcases aar k f.code.length with hlk|hgk
   ·obtain⟨x,hx,hmx⟩:=get_some hlk;have hlk':(k:Int)<(f.code.length:Int):=by omega
    have hinc3:IntKind.wrap .i64 ((k:Int)+1)=((k+1:Nat):Int):=inc (by have:=F2.tu;omega);simp only[EE,nth,↓BK,zA,uS,xL,m6,g53,cn3,cl3,hlk'];refine ziR P3 F3 hro3 (aao hb (e2.trans (e3.trans e4)).next) g3 (aao n5 e4.next) g53 hx (λq=>?_) λh' q e5=>?_
    ·rw[hB,qq (B:=λf=>qL f&&f.code.all (ZL p)) hf (by rw[qq hx q,ab3])]
    ·simp only[EE,nth,Ci,hinc3];exact hJ3 _ hlk (by rw[XO hx];exact q) (e4.trans e5)
   ·have hlk':¬(k:Int)<(f.code.length:Int):=(by omega);simp only[EE,nth,zA,uS,xL,m6,Ck,g53,cn3,cl3,hlk',hinc];refine hJ _ hlt ?_ (e2.trans (e3.trans e4));rw[XO hf,hR,aa2];exact qh λk' hk'=>hq3 k' (by omega)
 ·have hlt':¬(i:Int)<(p.funcs.length:Int):=by omega
  simp only[EE,nth,zA,ue,xj,cM,g2,fn,fl,hlt'];have:(p.funcs.all λf=>qL f&&f.code.all (ZL p))=true:=qh λk hk=>hq k (by omega);rw[hB,this];rfl
theorem ziT(P:wB h p)(hro:h.ro<=h.next)(hb:b1<h.next)(hg:h.get b1=some (vI p))(hB:B=(p.globals.all WL&&p.funcs.all λf=>qL f&&f.code.all (ZL p))) :
  cN (pi b1) (u3 B) vs h:=by
 simp only[↓BK,cN];refine WA (lo:=h) p.globals.length (Hy p.globals WL) (.refl h) ?_;intro i h2 J hi e2 hq hJ;have g2:=e2.eh hb hg;have P2:=P.old e2;have gn:=P2.globals.wk;have gl:=P2.globals.kY 3 h2;rcases aar i p.globals.length with hlt|hge
 ·obtain⟨z,hz,_⟩:=get_some hlt;obtain⟨b,o,c,t,ha,hbb,hgt,hco⟩:=P2.globals.at hz;have hlt':(i:Int)<(p.globals.length:Int):=by omega
  have hinc:IntKind.wrap .i64 ((i:Int)+1)=((i+1:Nat):Int):=inc (by have:=P.MS;omega);by_cases z0:z<0
  ·simp only[EE,nth,↓BK,zA,yS,zj,wj,lu,lx,ly,lz,lD,J4,g2,gn,gl,hlt',ha,hgt,hco,z0];rw[hB,qq (B:=WL) hz (by simp[WL,z0])];rfl
  by_cases z1:65536<z
  ·simp only[EE,nth,↓BK,zA,yS,zj,wj,lu,lx,ly,lz,lD,J4,g2,gn,gl,hlt',ha,hgt,hco,z0,z1];rw[hB,qq (B:=WL) hz (by simp[WL,z1])];rfl
  simp only[EE,nth,↓BK,zA,yS,zj,wj,lu,lx,ly,lz,lD,FB,J4,g2,gn,gl,hlt',ha,hgt,hco,z0,z1,hinc];exact hJ _ hlt (by rw[XO hz];simp only[WL,z0,z1,acQ,aaZ,ac1]) e2
 ·have hlt':¬(i:Int)<(p.globals.length:Int):=by omega
  simp only[EE,nth,↓BK,zA,yS,wj,J4,g2,gn,gl,hlt'];have hp:p.globals.all WL=true:=qh λk hk=>hq k (by omega);exact ziS (B:=B) P2 (by rw[e2.ro];exact aaS hro e2.next) (aao hb e2.next) g2 (by rw[hB,hp,aa2])
end
theorem Be(p:Pg)(h:za)(P:wB h p):yO pu 18 [p.val] h (.bool (YQ p)):=by
 apply uh;replace P:=P.lock;generalize h.lock=L at P;apply Ym;intro hwf;have hro:=hwf.2;apply N6;unfold Rt;have gn:=P.globals.wk;have fn:=P.funcs.wk;have P1:=P.old (Old.push L (.cells p.row 25));have gl:=P1.globals.kY 3 (L.push (.cells p.row 25));have fl:=P1.funcs.K1 3 (L.push (.cells p.row 25));rw[aaf]at fl;have fin:∀vs,cN (pi L.next) (u3 (p.globals.all WL&&p.funcs.all λf=>qL f&&f.code.all (ZL p))) vs (L.push (.cells p.row 25)):=λvs=>ziT P1 (abu hro) (aaH _) zk rfl;unfold YQ nX;by_cases c1:(200:Int)<p.globals.length
 ·simp only[EE,↓nw,Value.cells,zA,yS,wj,W9,Va,Vb,Vc,Vd,Ve,Vf,gn,gl,c1];rfl
 by_cases c2:(100:Int)<p.funcs.length
 ·simp only[EE,↓nw,Value.cells,zA,yS,ue,wj,xj,W9,Va,Vb,Vc,Vd,Ve,Vf,gn,fn,gl,fl,c1,c2];rfl
 by_cases c3:p.main<0
 ·simp only[EE,↓nw,Value.cells,zA,yS,ue,zj,wj,xj,XB,W9,Va,Vb,Vc,Vd,Ve,Vf,gn,fn,gl,fl,c1,c2,c3];rfl
 by_cases c4:(p.funcs.length:Int)<=p.main
 ·simp only[EE,↓nw,Value.cells,zA,yS,ue,zj,wj,xj,XB,W9,Va,Vb,Vc,Vd,Ve,Vf,gn,fn,gl,fl,c1,c2,c3,c4];rfl
 simp only[EE,↓nw,Value.cells,zA,yS,ue,zj,wj,xj,XB,W9,Va,Vb,Vc,Vd,Ve,Vf,gn,fn,gl,fl,c1,c2,c3,c4];exact fin _
theorem GP(n:Nat)(l:List (Nat×aaa)):(QR n l).size=n:=by
 induction l with
 |nil=>simp[QR,Env.Df]
 |cons p l ih=>obtain⟨k,v⟩:=p;exact ih
theorem zcW(n t:Nat)(z:aaa)(l:List (Nat×aaa))(hl:∀p,p∈l->p.1≠t)(i:Nat):(QR n (l++[(t,z)])).get i=if i=t then z else (QR n l).get i:=by
 induction l with
 |nil=>simp only[abT,QR,Env.yI]
 |cons p l ih=>
  obtain⟨k,v⟩:=p;have hk:k≠t:=hl _ acB;have:=ih λp hp=>hl p (acm _ hp);simp only[abK,QR,Env.yI,this];by_cases h1:i=k
  ·subst h1;simp[hk]
  ·simp[h1]
theorem DD{n t:Nat}{l:List (Nat×aaa)}{s1:Env}(z:aaa)(h:Le (QR n l) s1)(ht:t<n)(hl':(l.all λp => !Nat.beq p.1 t)=true):∃s0,YU [t] [z] s1=some s0/\Le (QR n (l++[(t,z)])) s0:=by
 have hs:s1.size=n:=by rw[<- h.size,GP]
 have hl:∀p,p∈l->p.1≠t:=λp hp e=>by
  rw[aaD]at hl';have:=hl' p hp;rw[e]at this;simp at this
 refine⟨s1.set t z,?_,⟨by rw[GP,Env.size_set,hs],λi=>?_⟩⟩
 ·have:s1.put (some t) z=some (s1.set t z):=by
   simp only[Env.put];have:Nat.blt t s1.size=true:=by rw[hs];simpa [aa7] using ht
   simp[this]
  simp only[YU,this]
 ·rw[zcW n t z l hl,Env.yI];by_cases h1:i=t
  ·simp[h1]
  ·simp only[h1,abe];exact h.get i
structure ou (h0:za) (A0:Yl) (h:za):Prop where
 next:h0.next<h.next
 ro:h.ro=h0.ro
 loop:h.get h0.next=some (.loop A0)
 ready:A0.state=.ready/\A0.pending=none
 old:∀b,b<h0.next->h.get b=h0.get b
structure za7 (h0:za) (A0:Yl) (br:Nat) (h:za):Prop where
 next:h0.next<h.next
 ro:h.ro=h0.ro
 loop:h.get h0.next=some (.loop {A0 with state := .done,pending:=some .ret})
 old:∀b,b<h0.next->b≠br->h.get b=h0.get b
 res:h.get br=some (.cells [.bool false] 4)
theorem ou.WQ{h0 h:za}{A0:Yl}(r:ou h0 A0 h):Old h0 h:=⟨Nat.le_of_lt r.next,r.ro,r.old⟩
def Yc(h0:za)(br:Nat)(A0:Yl)(test:Int->Bool):Prop := ∀(z:Int) (h:za) (K:aaa->za->Prop),ou h0 A0 h ->
 (test z=true->∀h',ou h0 A0 h'->K (.bool true) h')->(test z=false->∀h',za7 h0 A0 br h'->K (.bool false) h')->zfk pu h0.next [pm z] h K
def oq(h0:za)(br:Nat)(A0:Yl)(test:Int->Bool)(zs:List Int)(_:aaa)(h1:za):Prop:=(zs.all test=true/\ou h0 A0 h1)\/(zs.all test=false/\za7 h0 A0 br h1)
def Iter(g:FuncId)(ptr:aaa)(zs:List Int)(h0:za):Prop := ∀(br:Nat) (A0:Yl) (h:za) (test:Int->Bool),ou h0 A0 h->Yc h0 br A0 test ->
 DC pu g [.func (.yield h0.next) #[] #[],ptr] h (oq h0 br A0 test zs)
theorem pM{L:Nat}{args:List aaa}{h:za}{K:aaa->za->Prop}(hy:zfk pu L args h K):zq pu (.func (.yield L) #[] #[]) args h K:=⟨rfl,rfl,hy⟩
theorem DY{g:FuncId}{ptr:aaa}{zs:List Int}{h0:za}{br:Nat}{test:Int->Bool}{n:Nat}{l:List (Nat×aaa)}{ps:Array Tmp}{asn bd:Code}{ES ret:za->Prop}{ext:Nat->za->Prop}
  (hc:xO pu g=true) (hro:h0.ro<=h0.next) (hbr:br<h0.next) (it:Iter g ptr zs h0)
  (hy:∀s1,Le (QR n l) s1->Yc h0 br {state := .ready,pending:=none,s:=s1,params:=ps,assign:=asn,body:=bd} test)
  (hn:∀h',zs.all test=true->Old h0 h'->ES h') (hr:∀h',zs.all test=false->h0.next<=h'.next->h'.ro=h0.ro->h'.get br=some (.cells [.bool false] 4)->ret h') :
  RF pu (.func (.func g) #[] #[ptr]) ps asn bd (QR n l) h0 ES ret ext:=by
 refine⟨hc,λs1 hl=>?_⟩
 have r0:ou h0 {state := .ready,pending:=none,s:=s1,params:=ps,assign:=asn,body:=bd} (h0.push (.loop {state := .ready,pending:=none,s:=s1,params:=ps,assign:=asn,body:=bd})) :=
  ⟨aaH _,rfl,zk,⟨rfl,rfl⟩,λb hb=>zt hb⟩
 refine(it br _ _ test r0 (hy s1 hl)).mono ?_;rintro _ h1 (⟨ha,r⟩|⟨ha,r⟩)
 ·refine⟨_,r.loop,rfl,by rw[r.ro];exact hro,.normal,rfl,hn _ ha ⟨Nat.le_of_lt r.next,r.ro,λb hb=>?_⟩⟩;rw[zK (by omega)];exact r.old b hb
 ·refine⟨_,r.loop,rfl,by rw[r.ro];exact hro,.ret,rfl,hr _ ha (Nat.le_of_lt r.next) r.ro ?_⟩;rw[zK (by omega)];exact r.res
theorem VZ{h:za}{R:aaa->za->Prop}:rv [] h R=R (.tuple #[]) h:=by
 apply propext;simp only[rv,yC,ZI,abQ]
theorem zfU{x:xG}(ha:Ka x.op=true)(h1:¬x.a = -1):lA x=[x.a]:=by simp[lA,ha,h1]
theorem zfV{x:xG}(ha:Jx x.op=true)(h1:¬x.b = -1):lB x=[x.b]:=by simp[lB,ha,h1]
section
variable {h0 h:za}{A0:Yl}{br b:Nat}{test:Int->Bool}{x:xG}{vs:List aaa}
theorem u20(I:zL h0 x.av x.args)(oj:x.args.length<=17592186043904)(hb:b<h0.next)(hg:h0.get b=some (xQ x))(y:Yc h0 br A0 test)(r:ou h0 A0 h)(hpre:(lA x++lB x).all test=true) :
  XF (pi b) (oq h0 br A0 test (wz x)) (.func (.yield h0.next) #[] #[]) vs h:=by
 have gh:=r.WQ.eh hb hg;have an:=I.wk;by_cases h10:x.op=10
 ·have hC:lC x=x.args:=by simp[lC,h10]
  have hl:=(I.old r.WQ).kY 3 h;simp only[EE,↓BK,zA,yS,zj,zw,kR,Cb,XF,gh,h10,an,hl];refine zec (ou h0 A0) x.args.length (Hy x.args test) r ?_;intro i h2 J hi r2 hq hJ;have S2:=I.old r2.WQ;rcases aar i x.args.length with hlt|hge
  ·obtain⟨z,hz,hm⟩:=get_some hlt;obtain⟨b',o',c',t',ha',hbb',hgt',hco'⟩:=S2.at hz;have hlt':(i:Int)<(x.args.length:Int):=by omega
   have hinc:IntKind.wrap .i64 ((i:Int)+1)=((i+1:Nat):Int):=inc (by omega);simp only[EE,nth,↓BK,zA,zj,B9,Ca,mY,hlt',ha',hgt',hco'];refine pM (y z h2 _ r2 (λht h3 r3=>?_) (λht h3 r3=>?_))
   ·simp only[EE,nth,hinc];exact hJ _ hlt (by rw[XO hz];exact ht) r3
   ·simp only[EE,VZ];refine .inr ⟨?_,r3⟩;unfold wz;rw[hC,acs,qq (B:=test) hz ht,ab3]
  ·have hlt':¬(i:Int)<(x.args.length:Int):=by omega
   simp only[EE,nth,mY,hlt',VZ];refine .inl ⟨?_,r2⟩;unfold wz;rw[hC,acs,hpre,aa2];exact qh λk hk=>hq k (by omega)
 ·simp only[EE,zA,zj,zw,XF,gh,h10,VZ];refine .inl ⟨?_,r⟩;have hC:lC x=[]:=by simp[lC,h10]
  unfold wz;rw[hC,ab6];exact hpre
theorem u15(I:zL h0 x.av x.args)(oj:x.args.length<=17592186043904)(hb:b<h0.next)(hg:h0.get b=some (xQ x))(y:Yc h0 br A0 test)(r:ou h0 A0 h)(hpre:(lA x).all test=true) :
  XE (pm x.op) h (pi b) (.func (.yield h0.next) #[] #[]) (oq h0 br A0 test (wz x)) (XF (pi b) (oq h0 br A0 test (wz x)) (.func (.yield h0.next) #[] #[])):=by
 have gh:=r.WQ.eh hb hg;cases hU:Jx x.op with
 |false=>
  have hB:lB x=[]:=by simp[lB,hU]
  have h5:¬x.op=5:=by intro q;simp[Jx,q]at hU
  have h7:¬x.op=7:=by intro q;simp[Jx,q]at hU
  have h11:¬x.op=11:=by intro q;simp[Jx,q]at hU
  simp only[EE,nth,cH,XE,h5,h7,h11];exact u20 I oj hb hg y r (by rw[hB,ab6];exact hpre)
 |true=>
  have key:cJ (pi b) h (.func (.yield h0.next) #[] #[]) (oq h0 br A0 test (wz x)) (XF (pi b) (oq h0 br A0 test (wz x)) (.func (.yield h0.next) #[] #[])):=by
   by_cases hb1:x.b = -1
   ·simp only[EE,Int.reduceNeg,zA,zj,qM,cI,mX,cJ,gh,hb1];exact u20 I oj hb hg y r (by simp only[lB,hb1,not_true_eq_false,and_false,abe,ab6];exact hpre)
   ·simp only[EE,Int.reduceNeg,zA,zj,qM,mX,cJ,gh,hb1];refine pM (y x.b h _ r (λht h3 r3=>?_) (λht h3 r3=>?_))
    ·simp only[EE,cI];exact u20 I oj hb hg y r3 (by rw[zfV hU hb1,acs,hpre];simp[ht])
    ·simp only[EE,cI,VZ];refine .inr ⟨?_,r3⟩;unfold wz;rw[zfV hU hb1,acs,acs];simp[ht]
  by_cases h5:x.op=5
  ·simp only[EE,nth,XE,h5];rw[h5]at *;exact key
  by_cases h11:x.op=11
  ·simp only[EE,nth,Int.reduceEq,cH,XE,h11];exact key
  by_cases h7:x.op=7
  ·simp only[EE,nth,Int.reduceEq,cH,XE,h7];exact key
  simp[Jx,h5,h7,h11]at hU
end
section
variable {h0 h:za}{b:Nat}{x:xG}
theorem GQ(I:zL h0 x.av x.args)(oj:x.args.length<=17592186043904)(hb:b<h0.next)(hg:h0.get b=some (xQ x)):Iter 89 (pi b) (wz x) h0:=by
 intro br A0 h test r y;apply N2;unfold Ro;have gh:=r.WQ.eh hb hg;have tail:∀h,ou h0 A0 h->(lA x).all test=true->XE (pm x.op) h (pi b) (.func (.yield h0.next) #[] #[]) (oq h0 br A0 test (wz x)) (XF (pi b) (oq h0 br A0 test (wz x)) (.func (.yield h0.next) #[] #[])):=λh r hp=>u15 I oj hb hg y r hp;cases hU:Ka x.op with
 |false=>
  have hA:lA x=[]:=by simp[lA,hU]
  have n3:¬x.op=3:=by intro q;simp[Ka,q]at hU
  have n4:¬x.op=4:=by intro q;simp[Ka,q]at hU
  have n5:¬x.op=5:=by intro q;simp[Ka,q]at hU
  have n6:¬x.op=6:=by intro q;simp[Ka,q]at hU
  have n7:¬x.op=7:=by intro q;simp[Ka,q]at hU
  have n11:¬x.op=11:=by intro q;simp[Ka,q]at hU
  have n12:¬x.op=12:=by intro q;simp[Ka,q]at hU
  have n14:¬x.op=14:=by intro q;simp[Ka,q]at hU
  simp only[EE,nth,↓BK,zA,zj,zw,ld,J1,U5,W7,Wa,Y4,jJ,gh,n3,n4,n5,n6,n7,n11,n12,n14];exact tail h r (by rw[hA];rfl)
 |true=>
  have key:∀J:List aaa->za->Prop,(∀h',ou h0 A0 h'->(lA x).all test=true->J [] h')->lg (pi b) h (.func (.yield h0.next) #[] #[]) (oq h0 br A0 test (wz x)) J:=by
   intro J hJ;by_cases ha1:x.a = -1
   ·simp only[EE,Int.reduceNeg,zA,zj,xk,lf,sy,lg,gh,ha1];exact hJ h r (by simp only[lA,ha1,not_true_eq_false,and_false,abe];rfl)
   ·simp only[EE,Int.reduceNeg,zA,zj,xk,sy,lg,gh,ha1];refine pM (y x.a h _ r (λht h3 r3=>?_) (λht h3 r3=>?_))
    ·simp only[EE,lf];exact hJ h3 r3 (by rw[zfU hU ha1];simp[ht])
    ·simp only[EE,lf,VZ];refine .inr ⟨?_,r3⟩;unfold wz;rw[zfU hU ha1,acs,acs];simp[ht]
  by_cases h3:x.op=3
  ·simp only[EE,nth,↓BK,zA,zj,zw,jJ,gh,h3];exact key _ λh' r' hp=>(by have g':=r'.WQ.eh hb hg;simp only[EE,g'];exact tail h' r' hp)
  by_cases h4:x.op=4
  ·simp only[EE,nth,↓BK,Int.reduceEq,zA,zj,zw,Y4,jJ,gh,h4];exact key _ λh' r' hp=>(by have g':=r'.WQ.eh hb hg;simp only[EE,g'];exact tail h' r' hp)
  by_cases h6:x.op=6
  ·simp only[EE,nth,↓BK,Int.reduceEq,zA,zj,zw,Wa,Y4,jJ,gh,h6];exact key _ λh' r' hp=>(by have g':=r'.WQ.eh hb hg;simp only[EE,g'];exact tail h' r' hp)
  by_cases h12:x.op=12
  ·simp only[EE,nth,↓BK,Int.reduceEq,zA,zj,zw,W7,Wa,Y4,jJ,gh,h12];exact key _ λh' r' hp=>(by have g':=r'.WQ.eh hb hg;simp only[EE,g'];exact tail h' r' hp)
  by_cases h14:x.op=14
  ·simp only[EE,nth,↓BK,Int.reduceEq,zA,zj,zw,U5,W7,Wa,Y4,jJ,gh,h14];exact key _ λh' r' hp=>(by have g':=r'.WQ.eh hb hg;simp only[EE,g'];exact tail h' r' hp)
  by_cases h5:x.op=5
  ·simp only[EE,nth,↓BK,Int.reduceEq,zA,zj,zw,J1,U5,W7,Wa,Y4,jJ,gh,h5];exact key _ λh' r' hp=>(by have g':=r'.WQ.eh hb hg;simp only[EE,g'];exact tail h' r' hp)
  by_cases h11:x.op=11
  ·simp only[EE,nth,↓BK,Int.reduceEq,zA,zj,zw,ld,J1,U5,W7,Wa,Y4,jJ,gh,h11];exact key _ λh' r' hp=>(by have g':=r'.WQ.eh hb hg;simp only[EE,g'];exact tail h' r' hp)
  by_cases h7:x.op=7
  ·simp only[EE,nth,↓BK,Int.reduceEq,zA,zj,zw,ld,J1,U5,W7,Wa,Y4,jJ,gh,h7];exact key _ λh' r' hp=>(by have g':=r'.WQ.eh hb hg;simp only[EE,g'];exact tail h' r' hp)
  simp[Ka,h3,h4,h5,h6,h7,h11,h12,h14]at hU
theorem PB(hb:b<h0.next)(hg:h0.get b=some (xQ x)):Iter 106 (pi b) (ql x) h0:=by
 intro br A0 h test r y;apply Lg;unfold Lf;have gh:=r.WQ.eh hb hg;by_cases h12:x.op=12
 ·have h11:¬x.op=11:=by omega
  simp only[EE,Int.reduceEq,zA,zj,zw,cF,Qy,mW,gh,h12,VZ];exact .inl ⟨by simp[ql,h12],r⟩
 ·simp only[EE,zA,zj,zw,Xb,mW,gh,h12];refine pM (y x.s h _ r (λht h3 r3=>?_) (λht h3 r3=>?_))
  ·have g3:=r3.WQ.eh hb hg;by_cases h11:x.op=11
   ·simp only[EE,zA,zj,zw,dW,cF,Qy,g3,h11];refine pM (y x.t h3 _ r3 (λht2 h4 r4=>?_) (λht2 h4 r4=>?_))
    ·simp only[VZ];exact .inl ⟨by simp[ql,h11,ht,ht2],r4⟩
    ·simp only[VZ];exact .inr ⟨by simp[ql,h11,ht,ht2],r4⟩
   ·simp only[EE,zA,zj,zw,cF,Qy,g3,h11,VZ];exact .inl ⟨by simp[ql,h12,h11,ht],r3⟩
  ·simp only[EE,Qy,VZ];refine .inr ⟨?_,r3⟩;by_cases h11:x.op=11
   ·simp[ql,h11,ht]
   ·simp[ql,h12,h11,ht]
end
structure za3 (h0:za) (A0:Yl) (h:za):Prop where
 next:h0.next<h.next
 ro:h.ro=h0.ro
 loop:h.get h0.next=some (.loop {A0 with state := .busy})
 ready:A0.state=.ready/\A0.pending=none
 old:∀b,b<h0.next->h.get b=h0.get b
theorem za3.WQ{h0 h:za}{A0:Yl}(r:za3 h0 A0 h):Old h0 h:=⟨Nat.le_of_lt r.next,r.ro,r.old⟩
theorem zdF{h0 h:za}{A0:Yl}(r:ou h0 A0 h)(hro:h0.ro<=h0.next){K:za->Prop}(hk:∀hb,za3 h0 A0 hb->K hb):RA h0.next h K :=
 ⟨A0,r.loop,r.ready.1,by rw[r.ro];exact hro,hk _ ⟨r.next,r.ro,zR,r.ready,λb hb=>by rw[zK (by omega)];exact r.old b hb⟩⟩
theorem ON{h0 hb:za}{A0:Yl}(r:za3 h0 A0 hb)(hro:h0.ro<=h0.next){K:aaa->za->Prop}(hk:∀h',ou h0 A0 h'->K (.bool true) h'):Fin h0.next K .normal hb:=by
 refine⟨_,r.loop,by rw[r.ro];exact hro,hk _ ⟨r.next,r.ro,?_,r.ready,λb hb=>by rw[zK (by omega)];exact r.old b hb⟩⟩;rw[zR];obtain⟨st,pe,s,ps,asn,bd⟩:=A0;obtain⟨r1,r2⟩:=r.ready;simp only at r1 r2;subst r1 r2;rfl
theorem HL{h0 hb h2:za}{A0:Yl}{br:Nat}(r:za3 h0 A0 hb)(hro:h0.ro<=h0.next)(hbr:br<h0.next)(he:h2=hb.set br (some (.cells [.bool false] 4))){K:aaa->za->Prop}(hk:∀h',za7 h0 A0 br h'->K (.bool false) h'):Fin h0.next K .ret h2:=by
 subst he;refine⟨{A0 with state := .busy},by rw[zK (by omega)];exact r.loop,by show hb.ro<=_;rw[r.ro];exact hro,hk _ ⟨r.next,r.ro,zR,λb h1 h3=>?_,?_⟩⟩
 ·rw[zK (by omega),zK h3];exact r.old b h1
 ·rw[zK (by omega),zR]
theorem zd3(x:xG)(h:za)(hn:zV x.av=false):DC pu 57 [x.val] h (λv h1=>v=.func (.func 89) #[] #[pi h.next]/\h1=h.push (xQ x)):=by
 apply TJ;unfold zbs;simp only[EE,↓nw,Value.cells,abT]
theorem zfb(x:xG)(h:za)(hn:zV x.av=false):DC pu 101 [x.val] h (λv h1=>v=.func (.func 106) #[] #[pi h.next]/\h1=h.push (xQ x)):=by
 apply N1;unfold Rk;simp only[EE,↓nw,Value.cells,abT]
theorem zjc:(wm pu 88 0).1 = #[19]:=by kernel_rfl
theorem zjd:(wm pu 88 1).1 = #[28]:=by kernel_rfl
section
variable {h0:za}{b1 br:Nat}{f:Fn}{t0 t1 t3 t9 t10 t11 t12 t13 t14 t15 t16 t17 t18 t26 t27:aaa}
theorem zdD(hro:h0.ro<=h0.next)(hbr:br<h0.next)(hg:h0.get br=some (.cells [.bool false] 4))(hrb:h0.ro<=br)(hb1:b1<h0.next)(hf:h0.get b1=some (ug f))(hc:zC h0 f.cv 9 (f.code.map xG.row))
  {s1:Env} (hl:Le (QR 125 [(0,t0),(1,t1),(2,pi b1),(3,t3),(4,pi br),(9,t9),(10,t10),(11,t11),(12,t12),(13,t13),(14,t14),(15,t15),(16,t16),(17,t17),(18,t18)]) s1) :
  Yc h0 br {state := .ready,pending:=none,s:=s1,params:=(wm pu 88 0).1,assign:=(wm pu 88 0).2.1,body:=(wm pu 88 0).2.2} (λs=>xr s f.code.length):=by
 intro z h K r hgo hst;obtain⟨s0,e0,l0⟩:=DD (pm z) hl (t:=19) (by decide) rfl;refine It (aX (q:=qs) mixed) (n:=150) (lv:=52) (lv':=0) (h:=h) r.loop (s0:=s0) (by rw[zjc];exact e0) l0 rfl ?_;show NQ pu (UL pu qs) 150 52 0 h0.next (wm pu 88 0).2.1 (wm pu 88 0).2.2 (QR 125 [(0,t0),(1,t1),(2,pi b1),(3,t3),(4,pi br),(9,t9),(10,t10),(11,t11),(12,t12),(13,t13),(14,t14),(15,t15),(16,t16),(17,t17),(18,t18),(19,pm z)]) h K;rw[CL];unfold Au;refine zdF r hro λhb B=>?_;have gf:=B.WQ.eh hb1 hf;have c2:=hc.old B.WQ;have cn:=c2.wk;have cl:=c2.K3 3 hb;rw[aaf]at cl;simp only[EE,↓BK,zA,uS,xL,CH,gf,cn,cl];refine yq (UA z _ hb) ?_;cases ht:xr z f.code.length with
 |true=>
  simp only[EE,nt];exact ON B hro (hgo ht)
 |false=>
  have g2:hb.get br=some (.cells [.bool false] 4):=by rw[B.old br hbr];exact hg
  have rb:hb.ro<=br:=by rw[B.ro];exact hrb
  simp only[EE,zb,aad,yJ,Xa,nt,g2,rb];exact HL B hro hbr rfl (hst ht)
theorem zdE(hro:h0.ro<=h0.next)(hbr:br<h0.next)(hg:h0.get br=some (.cells [.bool false] 4))(hrb:h0.ro<=br)(hb1:b1<h0.next)(hf:h0.get b1=some (ug f))
  {s1:Env} (hl:Le (QR 125 [(0,t0),(1,t1),(2,pi b1),(3,t3),(4,pi br),(9,t9),(10,t10),(11,t11),(12,t12),(13,t13),(14,t14),(15,t15),(16,t16),(17,t17),(18,t18),(26,t26),(27,t27)]) s1) :
  Yc h0 br {state := .ready,pending:=none,s:=s1,params:=(wm pu 88 1).1,assign:=(wm pu 88 1).2.1,body:=(wm pu 88 1).2.2} (λu=>xr u f.zf):=by
 intro z h K r hgo hst;obtain⟨s0,e0,l0⟩:=DD (pm z) hl (t:=28) (by decide) rfl;refine It (aX (q:=qs) mixed) (n:=150) (lv:=84) (lv':=0) (h:=h) r.loop (s0:=s0) (by rw[zjd];exact e0) l0 rfl ?_;show NQ pu (UL pu qs) 150 84 0 h0.next (wm pu 88 1).2.1 (wm pu 88 1).2.2 (QR 125 [(0,t0),(1,t1),(2,pi b1),(3,t3),(4,pi br),(9,t9),(10,t10),(11,t11),(12,t12),(13,t13),(14,t14),(15,t15),(16,t16),(17,t17),(18,t18),(26,t26),(27,t27),(28,pm z)]) h K;rw[CM];unfold Av;refine zdF r hro λhb B=>?_;have gf:=B.WQ.eh hb1 hf;simp only[EE,↓BK,zA,zj,wh,CJ,gf];refine yq (UA z _ hb) ?_;cases ht:xr z f.zf with
 |true=>
  simp only[EE,nu];exact ON B hro (hgo ht)
 |false=>
  have g2:hb.get br=some (.cells [.bool false] 4):=by rw[B.old br hbr];exact hg
  have rb:hb.ro<=br:=by rw[B.ro];exact hrb
  simp only[EE,zb,aad,yJ,Xa,nu,g2,rb];exact HL B hro hbr rfl (hst ht)
end
def Jb(f:Fn)(x:xG):Bool := !wr x.op||xr x.d f.zf
def KZ(f:Fn)(x:xG):Bool:=WR f x&&Jb f x
def UG(f:Fn)(x:xG):Bool := !nD x&&(!pJ x&&(decide (x.op=10)&&decide (x.d = -1)||KZ f x))
def Ww(f:Fn)(x:xG):Bool:=decide (1<=x.op)&&(decide (x.op<=14)&&((ql x).all (λs=>xr s f.code.length)&&((wz x).all (λu=>xr u f.zf)&&UG f x)))
section
variable {h:za}{b1 b2 br:Nat}{f:Fn}{x:xG}{vs:List aaa}{B:Bool}
theorem r46(W:Bx h b1 b2 f x)(hg:h.get br=some (.cells [.bool false] 4))(hrb:h.ro<=br)(hB:B=Jb f x):wT (pi b2) (pi b1) (pi br) (u3 B) vs h:=by
 have g1:=W.g1;have g2:=W.g2;unfold Jb at hB;cases hw:wr x.op with
 |false=>
  have n2:¬x.op=2:=by intro q;simp[wr,q]at hw
  have n3:¬x.op=3:=by intro q;simp[wr,q]at hw
  have n4:¬x.op=4:=by intro q;simp[wr,q]at hw
  have n5:¬x.op=5:=by intro q;simp[wr,q]at hw
  have n6:¬x.op=6:=by intro q;simp[wr,q]at hw
  have n8:¬x.op=8:=by intro q;simp[wr,q]at hw
  have n9:¬x.op=9:=by intro q;simp[wr,q]at hw
  have n10:¬x.op=10:=by intro q;simp[wr,q]at hw
  have n13:¬x.op=13:=by intro q;simp[wr,q]at hw
  simp only[EE,nth,↓BK,zb,aad,yJ,zA,zj,Xn,Xa,zw,KK,Us,Wl,YL,Zv,jA,kj,qy,wT,g2,hg,hrb,n2,n3,n4,n5,n6,n8,n9,n10,n13];rw[hB,hw];rfl
 |true=>
  have key:∀J,gO (pi b2) h (pi b1) (pi br) (u3 B) J:=by
   intro J;simp only[EE,zA,zj,wh,x8,gO,g1,g2];refine yq (UA x.d f.zf h) ?_;simp only[EE,zb,aad,yJ,zA,Xn,Xa,hg,hrb];rw[hB,hw];rfl
  by_cases h2:x.op=2
  ·simp only[EE,nth,↓BK,zb,yJ,zA,zj,Xa,zw,qy,wT,g2,h2];exact key _
  by_cases h3:x.op=3
  ·simp only[EE,nth,↓BK,zb,Int.reduceEq,yJ,zA,zj,Xa,zw,kj,qy,wT,g2,h3];exact key _
  by_cases h4:x.op=4
  ·simp only[EE,nth,↓BK,zb,Int.reduceEq,yJ,zA,zj,Xa,zw,jA,kj,qy,wT,g2,h4];exact key _
  by_cases h5:x.op=5
  ·simp only[EE,nth,↓BK,zb,Int.reduceEq,yJ,zA,zj,Xa,zw,Zv,jA,kj,qy,wT,g2,h5];exact key _
  by_cases h6:x.op=6
  ·simp only[EE,nth,↓BK,zb,Int.reduceEq,yJ,zA,zj,Xa,zw,YL,Zv,jA,kj,qy,wT,g2,h6];exact key _
  by_cases h8:x.op=8
  ·simp only[EE,nth,↓BK,zb,Int.reduceEq,yJ,zA,zj,Xa,zw,Wl,YL,Zv,jA,kj,qy,wT,g2,h8];exact key _
  by_cases h9:x.op=9
  ·simp only[EE,nth,↓BK,zb,Int.reduceEq,yJ,zA,zj,Xa,zw,Us,Wl,YL,Zv,jA,kj,qy,wT,g2,h9];exact key _
  by_cases h13:x.op=13
  ·simp only[EE,nth,↓BK,zb,Int.reduceEq,yJ,zA,zj,Xa,zw,KK,Us,Wl,YL,Zv,jA,kj,qy,wT,g2,h13];exact key _
  by_cases h10:x.op=10
  ·simp only[EE,nth,↓BK,zb,Int.reduceEq,yJ,zA,zj,Xa,zw,KK,Us,Wl,YL,Zv,jA,kj,qy,wT,g2,h10];exact key _
  simp[wr,h2,h3,h4,h5,h6,h8,h9,h10,h13]at hw
theorem r36(W:Bx h b1 b2 f x)(hg:h.get br=some (.cells [.bool false] 4))(hrb:h.ro<=br)(ho:1<=x.op/\x.op<=14)(hB:B=KZ f x):vQ (pm x.op) (pi b2) h (pi br) (u3 B) (pi b1) (wT (pi b2) (pi b1) (pi br) (u3 B)):=by
 have g1:=W.g1;have g2:=W.g2;have go:∀vs,WR f x=true->wT (pi b2) (pi b1) (pi br) (u3 B) vs h:=λvs q=>r46 W hg hrb (by rw[hB,KZ,q,aa2]);have no:∀h',WR f x=false->u3 B (.bool false) h':=λh' q=>by rw[hB,KZ,q,aco];rfl
 by_cases h4:x.op=4
 ·have e:WR f x=(decide (1<=x.sub)&&decide (x.sub<=4)):=by simp[WR,h4]
  rw[e]at go no;by_cases c1:x.sub<1
  ·have c1':¬1<=x.sub:=by omega
   simp only[EE,zb,aad,yJ,zA,zj,Xn,Xa,yj,KD,KE,KJ,vQ,g2,hg,hrb,h4,c1];exact no _ (by simp[c1'])
  by_cases c4:4<x.sub
  ·have c4':¬x.sub<=4:=by omega
   simp only[EE,zb,aad,yJ,zA,zj,Xn,Xa,yj,KD,KE,KJ,vQ,g2,hg,hrb,h4,c1,c4];exact no _ (by simp[c4'])
  ·have c1':1<=x.sub:=by omega
   have c4':x.sub<=4:=by omega
   simp only[EE,zA,zj,yj,KD,KE,KJ,vQ,g2,h4,c1,c4];exact go _ (by simp[c1',c4'])
 by_cases h5:x.op=5
 ·have e:WR f x=GA x.sub:=by simp[WR,h5]
  rw[e]at go no;simp only[EE,Int.reduceEq,zA,zj,yj,jz,vQ,g2,h5];refine yq (zgZ x.sub h) ?_;cases hc:GA x.sub with
  |true=>simp only[EE,gJ];exact go _ hc
  |false=>simp only[EE,zb,aad,yJ,zA,Xn,Xa,gJ,hg,hrb];exact no _ hc
 by_cases h11:x.op=11
 ·have e:WR f x=AJ x.sub:=by simp[WR,h11]
  rw[e]at go no;simp only[EE,Int.reduceEq,zA,zj,yj,Zu,jz,vQ,g2,h11];refine Em (zeG x.sub h) ?_;rintro _ h' ⟨⟨a,rfl⟩,rfl⟩;cases hc:AJ x.sub with
  |true=>simp only[EE,gK];exact go _ hc
  |false=>simp only[EE,zb,aad,yJ,zA,Xn,Xa,gK,hg,hrb];exact no _ hc
 by_cases h67:x.op=6\/x.op=7
 ·have e:WR f x=ik x.sub:=by rcases h67 with q|q <;> simp[WR,q]
  rw[e]at go no
  have key:∀J:List aaa->za->Prop,(∀vs,J vs h=wT (pi b2) (pi b1) (pi br) (u3 B) [] h)->gN (pi b2) h (pi br) (u3 B) J:=by
   intro J hJ;simp only[EE,zA,zj,yj,gN,g2];refine yq (zeu x.sub h) ?_;cases hc:ik x.sub with
   |true=>simp only[EE,gL];rw[hJ];exact go _ hc
   |false=>simp only[EE,zb,aad,yJ,zA,Xn,Xa,gL,hg,hrb];exact no _ hc
  by_cases h6:x.op=6
  ·simp only[EE,nth,Int.reduceEq,YK,Zu,jz,vQ,h6];exact key _ λ_=>rfl
  ·have h7:x.op=7:=by omega
   simp only[EE,nth,Int.reduceEq,YK,Zu,jz,vQ,h7];exact key _ λ_=>rfl
 have h6:¬x.op=6:=λq=>h67 (.inl q);have h7:¬x.op=7:=λq=>h67 (.inr q);by_cases h9:x.op=9
 ·have e:WR f x=(decide (0<=x.k)&&decide (x.k<=f.frame)):=by simp[WR,h9]
  rw[e]at go no;by_cases c0:x.k<0
  ·have c0':¬0<=x.k:=by omega
   simp only[EE,nth,zb,aad,Int.reduceEq,yJ,zA,xp,Xn,Xa,vR,KF,KG,KH,KI,Ur,YK,Zu,jz,vQ,g2,hg,hrb,h9,c0];exact no _ (by simp[c0'])
  by_cases c1:f.frame<x.k
  ·have c1':¬x.k<=f.frame:=by omega
   simp only[EE,nth,zb,aad,Int.reduceEq,yJ,zA,xp,zj,Xn,Xa,kQ,vR,KF,KG,KH,KI,Ur,YK,Zu,jz,vQ,g1,g2,hg,hrb,h9,c0,c1];exact no _ (by simp[c1'])
  ·have c0':0<=x.k:=by omega
   have c1':x.k<=f.frame:=by omega
   simp only[EE,nth,Int.reduceEq,zA,xp,zj,kQ,vR,KF,KG,KH,KI,Ur,YK,Zu,jz,vQ,g1,g2,h9,c0,c1];exact go _ (by simp[c0',c1'])
 have e:WR f x=true:=by
  unfold WR;rw[aai];omega
 simp only[EE,nth,Ur,YK,Zu,jz,vQ,h4,h5,h11,h6,h7,h9];exact go _ e
theorem r47(W:Bx h b1 b2 f x)(hg:h.get br=some (.cells [.bool false] 4))(hrb:h.ro<=br)(ho:1<=x.op/\x.op<=14)(hB:B=UG f x):gP (pi b2) (pi br) (u3 B) (pi b1) vs h:=by
 have g1:=W.g1;have g2:=W.g2;have no:∀h',UG f x=false->u3 B (.bool false) h':=λh' q=>by rw[hB,q];rfl
 have go:UG f x=KZ f x->vQ (pm x.op) (pi b2) h (pi br) (u3 B) (pi b1) (wT (pi b2) (pi b1) (pi br) (u3 B)):=λq=>r36 W hg hrb ho (by rw[hB,q]);simp only[EE,↓BK,zA,zj,zw,gP,g2];by_cases h7:x.op=7
 ·by_cases ca:x.a = -1
  ·simp only[EE,nth,zb,aad,Int.reduceEq,Int.reduceNeg,yJ,zA,zj,Xn,Xa,xk,ZG,ki,qx,uR,Kz,KA,KB,YJ,uw,g2,hg,hrb,h7,ca];exact no _ (by simp[UG,nD,Uy,h7,ca])
  by_cases cb:x.b = -1
  ·simp only[EE,nth,zb,aad,Int.reduceEq,Int.reduceNeg,yJ,zA,zj,Xn,Xa,xk,qM,ZG,ki,qx,uR,Kz,KA,KB,YJ,uw,g2,hg,hrb,h7,ca,cb];exact no _ (by simp[UG,pJ,iJ,h7,cb])
  ·simp only[EE,nth,Int.reduceEq,Int.reduceNeg,zA,zj,xk,qM,ZG,ki,qx,uR,Kz,KA,KB,YJ,uw,g2,h7,ca,cb];rw[h7]at go;exact go (by simp[UG,nD,pJ,h7,ca,cb])
 by_cases h10:x.op=10
 ·have n1:nD x=false:=by simp[nD,Uy,h10]
  have n2:pJ x=false:=by simp[pJ,iJ,h10]
  by_cases cd:x.d = -1
  ·simp only[EE,nth,zb,aad,Int.reduceEq,Int.reduceNeg,yJ,zA,zj,Xn,Xa,x8,ZG,ki,qx,uR,gI,KC,YJ,uw,g2,hg,hrb,h10,cd];rw[hB];simp[u3,UG,n1,n2,h10,cd]
  ·simp only[EE,nth,Int.reduceEq,Int.reduceNeg,zA,zj,x8,ZG,ki,qx,uR,gI,KC,YJ,uw,g2,h10,cd];rw[h10]at go;exact go (by simp[UG,n1,n2,h10,cd])
 have n2:pJ x=false:=by simp[pJ,iJ,h7]
 cases hA:Uy x.op with
 |false=>
  have n1:nD x=false:=by simp[nD,hA]
  have h3:¬x.op=3:=by intro q;simp[Uy,q]at hA
  have h4:¬x.op=4:=by intro q;simp[Uy,q]at hA
  have h5:¬x.op=5:=by intro q;simp[Uy,q]at hA
  have h6:¬x.op=6:=by intro q;simp[Uy,q]at hA
  have h11:¬x.op=11:=by intro q;simp[Uy,q]at hA
  have h14:¬x.op=14:=by intro q;simp[Uy,q]at hA
  simp only[EE,nth,ZG,ki,qx,uR,KC,YJ,uw,g2,h3,h4,h5,h6,h11,h14,h7,h10];exact go (by simp[UG,n1,n2,h10])
 |true=>
  have key:∀J:List aaa->za->Prop,(x.a ≠ -1->J [] h)->Uq (pi b2) h (pi br) (u3 B) J:=by
   intro J hJ;by_cases ca:x.a = -1
   ·simp only[EE,zb,aad,Int.reduceNeg,yJ,zA,zj,Xn,Xa,xk,Uq,g2,hg,hrb,ca];exact no _ (by simp[UG,nD,hA,ca])
   ·simp only[EE,Int.reduceNeg,zA,zj,xk,Uq,g2,ca];exact hJ ca
  have fin:x.a ≠ -1->UG f x=KZ f x:=λca=>by simp[UG,nD,n2,h10,ca]
  have step:∀J:List aaa->za->Prop,(UG f x=KZ f x->J [] h)->Uq (pi b2) h (pi br) (u3 B) J:=λJ hJ=>key J λca=>hJ (fin ca);by_cases h3:x.op=3
  ·simp only[EE,nth,uw,h3];rw[h3]at go;refine step _ λq=>?_;simp only[EE,g2,h3];exact go q
  by_cases h4:x.op=4
  ·simp only[EE,nth,Int.reduceEq,uR,uw,h4];rw[h4]at go;refine step _ λq=>?_;simp only[EE,g2,h4];exact go q
  by_cases h6:x.op=6
  ·simp only[EE,nth,Int.reduceEq,qx,uR,uw,h6];rw[h6]at go;refine step _ λq=>?_;simp only[EE,g2,h6];exact go q
  by_cases h14:x.op=14
  ·simp only[EE,nth,Int.reduceEq,ki,qx,uR,uw,h14];rw[h14]at go;refine step _ λq=>?_;simp only[EE,g2,h14];exact go q
  by_cases h5:x.op=5
  ·simp only[EE,nth,Int.reduceEq,ZG,ki,qx,uR,uw,h5];rw[h5]at go;refine step _ λq=>?_;simp only[EE,g2,h5];exact go q
  by_cases h11:x.op=11
  ·simp only[EE,nth,Int.reduceEq,ZG,ki,qx,uR,uw,h11];rw[h11]at go;refine step _ λq=>?_;simp only[EE,g2,h11];exact go q
  simp[Uy,h3,h4,h5,h6,h7,h11,h14]at hA
end
section
variable {h:za}{b1 b2 br:Nat}{f:Fn}{x:xG}{vs:List aaa}{B:Bool}
theorem r48(W:Bx h b1 b2 f x)(I:wt h x)(hro:h.ro<=h.next)(hl:br<h.next)(hg:h.get br=some (.cells [.bool false] 4))(hrb:h.ro<=br)(ho:1<=x.op/\x.op<=14){t0 t1 t9 t10 t11 t13 t14 t15 t16 t17 t18:aaa}(hB:B=((wz x).all (λu=>xr u f.zf)&&UG f x)) :
  gQ (pi b2) t0 t1 (pi b1) (pi br) t9 t10 t11 t13 t14 t15 t16 t17 t18 (u3 B) vs h:=by
 have g2:=W.g2;have an:=I.args.wk;simp only[EE,aad,Nat.reduceAdd,zZ,qI,gQ,g2];refine y5 (by kernel_rfl) (by simp only[EE]) (zd3 x h an) ?_;rintro _ _ ⟨rfl,rfl⟩;have e:Old h (h.push (xQ x)):=Old.push _ _;have g3:(h.push (xQ x)).get h.next=some (xQ x):=zk;have nx:(h.push (xQ x)).next=h.next+1:=rfl;have rx:(h.push (xQ x)).ro=h.ro:=rfl;generalize h.push (xQ x)=H at e g3 nx rx;have W2:=W.old e;have I2:=I.old e;have g4:=e.eh hl hg;have b1l:=W.l1;simp only[↓BK,zA,Xn,CK];refine DY (br:=br) (test:=λu=>xr u f.zf) (by kernel_rfl) (by omega) (by omega) (GQ (b:=h.next) I2.args I2.oj (by omega) g3) (λs1 hl=>zdE (by omega) (by omega) g4 (by omega) (by omega) W2.g1 hl) (λh' hall e'=>?_) (λh' hno _ _ hres=>?_)
 ·exact r47 (W2.old e') (e'.eh (by omega) g4) (by rw[e'.ro];omega) ho (by rw[hB,hall,aa2])
 ·simp only[EE,hres];rw[hB,hno];rfl
theorem r49(W:Bx h b1 b2 f x)(I:wt h x)(hc:zC h f.cv 9 (f.code.map xG.row))(hro:h.ro<=h.next)(hl:br<h.next)(hg:h.get br=some (.cells [.bool false] 4))(hrb:h.ro<=br)(ho:1<=x.op/\x.op<=14){t0 t1 t9 t10 t11 t13 t14 t15 t16:aaa}(hB:B=((ql x).all (λs=>xr s f.code.length)&&((wz x).all (λu=>xr u f.zf)&&UG f x))) :
  gS (pi b2) t0 t1 (pi b1) (pi br) t9 t10 t11 t13 t14 t15 t16 (u3 B) vs h:=by
 have g2:=W.g2;have an:=I.args.wk;simp only[EE,aad,Nat.reduceAdd,zZ,qI,gS,g2];refine y5 (by kernel_rfl) (by simp only[EE]) (zfb x h an) ?_;rintro _ _ ⟨rfl,rfl⟩;have e:Old h (h.push (xQ x)):=Old.push _ _;have g3:(h.push (xQ x)).get h.next=some (xQ x):=zk;have nx:(h.push (xQ x)).next=h.next+1:=rfl;have rx:(h.push (xQ x)).ro=h.ro:=rfl;generalize h.push (xQ x)=H at e g3 nx rx;have W2:=W.old e;have g4:=e.eh hl hg;have b1l:=W.l1;simp only[↓BK,zA,Xn,CI];refine DY (br:=br) (test:=λs=>xr s f.code.length) (by kernel_rfl) (by omega) (by omega) (PB (b:=h.next) (by omega) g3) (λs1 hl=>zdD (by omega) (by omega) g4 (by omega) (by omega) W2.g1 (hc.old e) hl) (λh' hall e'=>?_) (λh' hno _ _ hres=>?_)
 ·have e2:=e.trans e';exact r48 (W2.old e') (I.old e2) (by rw[e'.ro];have:=e'.next;omega) (by have:=e'.next;omega) (e'.eh (by omega) g4) (by rw[e'.ro];omega) ho (by rw[hB,hall,aa2])
 ·simp only[EE,hres];rw[hB,hno];rfl
end
theorem zdC(f:Fn)(x:xG)(h:za)(hpv:yN f.pv=true/\zV f.pv=false)(I:wt h x)(hc:zC h f.cv 9 (f.code.map xG.row)):yO pu 88 [f.val,x.val] h (.bool (Ww f x)):=by
 apply uh;replace I:=I.lock;replace hc:=hc.lock;generalize h.lock=L at I hc;apply Ym;intro hwf;have hro:=hwf.2;apply LO;unfold LN;have an:=I.args.wk;have cn:=hc.wk;obtain⟨hpc,hpn⟩:=hpv;have roL:L.ro<=L.next+1+1:=by omega
 by_cases c1:x.op<1
 ·have c1':¬1<=x.op:=by omega
  have hB:Ww f x=false:=by simp[Ww,c1']
  simp only[EE,↓nw,Value.cells,zb,aad,yJ,zA,zj,Xn,Xa,Mf,zw,KL,KM,Mf,roL,c1];rw[hB];rfl
 by_cases c2:14<x.op
 ·have c2':¬x.op<=14:=by omega
  have hB:Ww f x=false:=by simp[Ww,c2']
  simp only[EE,↓nw,Value.cells,zb,aad,yJ,zA,zj,Xn,Xa,Mf,zw,KL,KM,Mf,roL,c1,c2];rw[hB];rfl
 have c1':1<=x.op:=by omega
 have c2':x.op<=14:=by omega
 simp only[EE,↓nw,Value.cells,zA,zj,Mf,zw,KL,KM,Mf,c1,c2];generalize hH:((L.push (ug f)).push (xQ x)).push (.cells [.bool false] 4)=H;have e:Old L H:=by subst hH;exact((Old.push _ _).trans (Old.push _ _)).trans (Old.push _ _)
 have nH:H.next=L.next+3:=by subst hH;rfl
 have rH:H.ro=L.ro:=by subst hH;rfl
 have g1:H.get L.next=some (ug f):=by subst hH;rw[zt (by simp only[yD];omega),zt (by simp only[yD];omega),zk]
 have g2:H.get (L.next+1)=some (xQ x):=by subst hH;rw[zt (by simp only[yD];omega)];exact zI rfl
 have g3:H.get (L.next+1+1)=some (.cells [.bool false] 4):=by subst hH;exact zI rfl
 clear hH;have W:Bx H L.next (L.next+1) f x:=⟨by omega,by omega,g1,g2⟩;exact r49 W (I.old e) (hc.old e) (by omega) (by omega) g3 (by omega) ⟨c1',c2'⟩ (by simp[Ww,c1',c2'])
def FnQ(fv:aaa)(h:za)(x:xG)(b:Bool):Prop := ∀K:aaa->za->Prop,K (.bool b) h->zq pu fv [x.val] h K
theorem zet{g:FuncId}{c:aaa}{args:List aaa}{h:za}{K R:aaa->za->Prop}(hc:xO pu g=true)(hn:yC args=true)(hn2:yC (args++[c])=true)(hT:DC pu g (args++[c]) h R)(hk:∀v h1,R v h1->K v h1):zq pu (.func (.func g) #[] #[c]) args h K :=
 ⟨hn,by simpa using hn2,.inl ⟨hc,by simpa using hT.mono hk⟩⟩
section
variable {h:za}{cv fv:aaa}{code:List xG}{bad:xG->Bool}
theorem zeP(S:zC h cv 9 (code.map xG.row))(oj:code.length<=17592186043904)(hn:∀x,x∈code->zV x.av=false)(hfv:zV fv=false)(hq:∀x,x∈code->FnQ fv h x (bad x)):DC pu 56 [cv,fv] h (λv h1=>(∃n:Int,v=.int .i64 n/\decide (0<=n)=code.any bad)/\h1=h):=by
 apply BL;unfold Ah;have cn:=S.wk;have cl:=S.K3 3 h;rw[aaf]at cl;simp only[EE,↓BK,cn,cl];refine bT (λg=>g=h) code.length (Hy code λx => !bad x) rfl ?_;intro i h2 J hi hh hg hJ;subst hh;rcases aar i code.length with hlt|hge
 ·obtain⟨x,hx,hm⟩:=get_some hlt;obtain⟨b,o,c,t,ha,hbb,hgt,hle,htk,_⟩:=S.ED (i:=i) (r:=x.row) (by rw[aaq,hx];rfl) rfl;have hlt':(i:Int)<(code.length:Int):=by omega
  have hinc:IntKind.wrap .i64 ((i:Int)+1)=((i+1:Nat):Int):=inc (by omega);simp only[EE,nth,↓BK,aad,zZ,qI,ml,mm,Jd,hlt',ha,hgt,hle,htk];refine hq x hm _ ?_;cases hb:bad x with
  |true=>
   simp only[EE,nth];refine⟨_,rfl,?_⟩;rw[List.any_eq_true.2 ⟨x,hm,hb⟩];simp
  |false=>
   simp only[EE,nth,hinc];exact hJ _ hlt (by rw[XO hx,hb];rfl) rfl
 ·have hlt':¬(i:Int)<(code.length:Int):=by omega
  simp only[EE,nth,Int.reduceNeg,Jd,hlt'];refine⟨_,rfl,?_⟩;have:code.all (λx => !bad x)=true:=qh λk hk=>hg k (by omega);rw[aaD]at this
  symm
  rw[List.any_eq_false.2 λx hx=>by have:=this x hx;simpa using this];rfl
theorem C9(S:zC h cv 9 (code.map xG.row))(oj:code.length<=17592186043904)(hn:∀x,x∈code->zV x.av=false)(hfv:zV fv=false)(hq:∀x,x∈code->FnQ fv h x (bad x)):DC pu 29 [cv,fv] h (λv h1=>v=.bool (code.any bad)/\h1=h):=by
 apply oA;unfold fj;have cn:=S.wk;refine y5 (by kernel_rfl) (by simp only[EE,cn,hfv]) (zeP S oj hn hfv hq) ?_;rintro _ h1 ⟨⟨n,rfl,hn2⟩,rfl⟩;simp only[EE];rw[hn2]
end
theorem R4(l:List xG)(B:xG->Bool):(!(l.any λx => !B x))=l.all B:=by
 induction l with
 |nil=>rfl
 |cons a l ih=>simp only[List.any_cons,aa6,<- ih,Bool.not_or,Bool.not_not]
theorem zdH(f:Fn)(x:xG){h:za}{b1:Nat}(F:qE h f)(I:wt h x)(hb:b1<h.next)(hg:h.get b1=some (ug f)):FnQ (.func (.func 87) #[] #[pi b1]) h x (!Ww f x):=by
 intro K hK;have an:=I.args.wk
 have q:yO pu 87 [x.val,pi b1] h (.bool (!Ww f x)):=by
  apply uh;replace F:=F.lock;replace I:=I.lock;have hg':h.lock.get b1=some (ug f):=by rw[bE];exact hg
  have hb':b1<h.lock.next:=hb;generalize h.lock=L at F I hg' hb';apply I5;unfold I4;have pn:=F.params.wk;have cn:=F.code.wk;have e:Old L (L.push (xQ x)):=Old.push _ _;have g1:=e.eh hb' hg';have g2:(L.push (xQ x)).get L.next=some (xQ x):=zk;have hne:¬b1=L.next:=by omega
  simp only[EE,↓nw,Value.cells,aad,Nat.reduceAdd,zZ,mw,qI,hb',hg'];refine w8 (by kernel_rfl) (by simp only[EE]) (zdC f x _ ⟨F.params.eT,pn⟩ (I.old e) (F.code.old e)) ?_;simp only[EE];rfl
 exact zet (by kernel_rfl) (by simp only[EE]) (by simp only[abK,abT,EE]) q.dc (by rintro _ _ ⟨rfl,rfl⟩;exact hK)
theorem zf6{step:List aaa->za->(List aaa->za->Prop)->Prop}(Q:Nat->za->Prop){v:aaa}(n:Nat){h:za}(h0:Q 0 h)
  (hs:∀i h J,i<=n->Q i h->(∀h',i<n->Q (i+1) h'->J [v,pm ((i+1:Nat):Int)] h')->step [v,pm (i:Nat)] h J):LP step [v,pm 0] h:=by
 refine qY (λm vs h=>∃i,i<=n/\m=n-i/\vs=[v,pm (i:Nat)]/\Q i h) n ⟨0,aba _,rfl,rfl,h0⟩ ?_;rintro m vs h ⟨i,hi,rfl,rfl,e⟩;exact hs i h _ hi e λh' hlt e'=>⟨n-(i+1),by omega,i+1,hlt,rfl,rfl,e'⟩
def mE(m:List Bool):List aaa:=m.map λb => .bool b
theorem OB(n:Nat):qX [.bool false] n=mE (List.replicate n false):=by
 unfold qX mE;rw[List.map_replicate];apply abc;intro i;by_cases h:i<n
 ·simp[h,Nat.mod_one]
 ·rw[aal (by simp;omega),aal (by simp;omega)]
def EP(l:List Int)(i:Nat)(j:Nat):Bool:=(List.range i).any λk=>decide (l.getD k 0=(j:Int))
structure ziQ (lo:za) (bm:Nat) (l:List Int) (zf:Int) (i:Nat) (h:za):Prop where
 old:Old lo h
 met:∃m:List Bool,m.length=zf.toNat/\h.get bm=some (.cells (mE m) 4) /\ ∀j,j<zf.toNat->m[j]? = some (EP l i j)
 pre:∀k,k<i->iN l zf k=true
theorem zaB(l:List Int)(j:Nat):EP l 0 j=false:=rfl
theorem zaA(l:List Int)(i j:Nat):EP l (i+1) j=(EP l i j||decide (l.getD i 0=(j:Int))):=by
 unfold EP;rw[List.range_succ,List.any_append];simp
theorem zeX(l:List Int)(i:Nat){z:Int}(hz:l.getD i 0=z)(h0:0<=z):((List.range i).all λk => !decide (l.getD k 0=l.getD i 0)) = !EP l i z.toNat:=by
 unfold EP;rw[hz,show((z.toNat:Nat):Int)=z by omega]
 induction (List.range i) with
 |nil=>rfl
 |cons a t ih=>simp only[aa6,List.any_cons,ih,Bool.not_or]
def jG(f:Fn):Bool:=Jw f&&(mf f.params f.zf&&f.code.all (Ww f))
section
variable {h:za}{b1:Nat}{f:Fn}{vs:List aaa}{B:Bool}
theorem rr7(F:qE h f)(hb:b1<h.next)(hg:h.get b1=some (ug f))(hB:B=f.code.all (Ww f)):Zb (pi b1) (u3 B) vs h:=by
 have cn:=F.code.wk;simp only[EE,zA,uS,xL,Zb,hg,abT];refine y5 (by kernel_rfl) (by simp only[EE,cn]) (C9 F.code (by have:=F.tu;omega) (λx hx=>(F.ins x hx).args.wk) rfl (bad:=λx => !Ww f x) λx hx=>zdH f x F (F.ins x hx) hb hg) ?_;rintro _ h1 ⟨rfl,rfl⟩;simp only[EE];rw[R4,hB];rfl
theorem rr8(F:qE h f)(hro:h.ro<=h.next)(hb:b1<h.next)(hg:h.get b1=some (ug f))(h0:¬f.zf<0)(h5:¬5000<f.zf)(hB:B=(mf f.params f.zf&&f.code.all (Ww f))):Zc (pi b1) (u3 B) vs h:=by
 have pn:=F.params.wk;have pl:=F.params.kY 3;have mk:=zgS .i64 .i64 f.zf f.zf h (by omega) (Int.le_refl _) (by omega);have hne:¬b1=h.next:=by omega
 simp only[EE,↓BK,zA,yS,zj,uA,wh,Zc,hg,mk,pn,pl,hb,abk];rw[OB];generalize hH:h.push (.cells (mE (List.replicate f.zf.toNat false)) 4)=H;have e:Old h H:=by subst hH;exact Old.push _ _
 have gm:H.get h.next=some (.cells (mE (List.replicate f.zf.toNat false)) 4):=by subst hH;exact zk
 have nH:H.next=h.next+1:=by subst hH;rfl
 have rH:H.ro=h.ro:=by subst hH;rfl
 clear hH;refine zf6 (λi g=>ziQ h h.next f.params f.zf i g/\g.next=h.next+1) f.params.length ⟨⟨e,⟨_,by simp,gm,λj hj=>by rw[zaB];simp[hj]⟩,λk hk=>absurd hk (Nat.not_lt_zero _)⟩,nH⟩ ?_;rintro i g J hi ⟨M,ng⟩ hJ;obtain⟨m,hm,gm',hmet⟩:=M.met;have F2:=F.old M.old;have g1:=M.old.eh hb hg;have rg:g.ro<=h.next:=by rw[M.old.ro];exact hro
 rcases aar i f.params.length with hlt|hge
 ·obtain⟨z,hz,_⟩:=get_some hlt;obtain⟨b,o,c,t,ha,hbb,hgt,hco⟩:=F2.params.at hz;have hlt':(i:Int)<(f.params.length:Int):=by omega
  have hinc:IntKind.wrap .i64 ((i:Int)+1)=((i+1:Nat):Int):=inc (by have:=F.ET;omega);have hgd:=UY hz;simp only[EE,nth,↓BK,zA,zj,wh,ZT,Za,hlt',ha,hgt,hco,g1];refine yq (UA z f.zf g) ?_;by_cases z0:z<0\/f.zf<=z
  ·rw[vW z0];simp only[EE,jb,jc,jd];have:mf f.params f.zf=false:=Z4 hlt (by unfold iN;rw[hgd,vW z0];rfl);rw[hB,this];rfl
  ·have z1:¬z<0:=λq=>z0 (.inl q);have z2:¬f.zf<=z:=λq=>z0 (.inr q);rw[wN z1 z2];have hzl:z.toNat<m.length:=by omega
   have hix:0<=z/\z<((f.zf.toNat:Nat):Int):=by omega
   have hmz:=hmet z.toNat (by omega);have hcell:(mE m)[z.toNat]? = some (.bool (EP f.params i z.toNat)):=by unfold mE;rw[aaq,hmz];rfl
   have hpar:iN f.params f.zf i = !EP f.params i z.toNat:=by
    unfold iN;rw[hgd,wN z1 z2,aa2];have:=zeX f.params i hgd (by omega);rw[hgd]at this;exact this
   cases hmb:EP f.params i z.toNat with
   |true=>
    rw[hmb]at hcell hpar;simp only[EE,aad,zA,Xn,zc4,jb,jc,jd,hix,gm',abk,hcell];have:mf f.params f.zf=false:=Z4 hlt hpar;rw[hB,this];rfl
   |false=>
    rw[hmb]at hcell hpar;have hlen:z.toNat+1<=(mE m).length:=by unfold mE;rw[aaf];omega
    simp only[EE,nth,zb,aad,yJ,zA,Xn,Xa,zc4,jb,jc,jd,ZU,hix,gm',abk,hcell,hlen,rg,hinc];refine hJ _ hlt ⟨⟨?_,⟨m.set z.toNat true,by rw[aaW];exact hm,?_,λj hj=>?_⟩,λk hk=>?_⟩,ng⟩
    ·exact⟨M.old.next,M.old.ro,λb hb=>by rw[zK (by omega)];exact M.old.get b hb⟩
    ·rw[zR];unfold mE;rw[ab5]
    ·rw[zaA,hgd];by_cases hjz:j=z.toNat
     ·subst hjz;rw[aaM (by omega),show((z.toNat:Nat):Int)=z by omega];simp
     ·rw[aa4 (λq=>hjz q.symm),hmet j hj,show decide (z=(j:Int))=false from decide_eq_false (by omega),Bool.or_false]
    ·rcases aar k i with q|q
     ·exact M.pre k q
     ·have:k=i:=(by omega);subst this;exact hpar
 ·have hlt':¬(i:Int)<(f.params.length:Int):=by omega
  simp only[EE,nth,Za,hlt'];have hp:mf f.params f.zf=true:=Z3 λk hk=>M.pre k (by omega);exact rr7 F2 (aao hb M.old.next) g1 (by rw[hB,hp,aa2])
end
theorem Bq(f:Fn)(h:za)(F:qE h f):yO pu 55 [f.val] h (.bool (jG f)):=by
 apply uh;replace F:=F.lock;generalize h.lock=L at F;apply Ym;intro hwf;have hro:=hwf.2;apply mV;unfold oN;have pn:=F.params.wk;have cn:=F.code.wk;have F1:=F.old (Old.push L (.cells f.row 49));have cl:=F1.code.K3 3 (L.push (.cells f.row 49));rw[aaf]at cl;unfold jG Jw;by_cases c3:(5000:Int)<f.code.length
 ·simp only[EE,↓nw,Value.cells,zA,uS,xL,uN,vF,vG,wx,u4,u5,u6,u7,qR,u9,cn,cl,c3]
  first|rfl|simp[u3,c3]
 by_cases c1:f.zf<0
 ·simp only[EE,↓nw,Value.cells,zA,zj,uS,wh,xL,uN,vF,vG,wx,u4,u5,u6,u7,qR,u9,cn,cl,c3,c1];rfl
 by_cases c2:5000<f.zf
 ·simp only[EE,↓nw,Value.cells,zA,zj,uS,wh,xL,uN,vF,vG,wx,u4,u5,u6,u7,qR,u9,cn,cl,c3,c1,c2];rfl
 simp only[EE,↓nw,Value.cells,zA,zj,uS,wh,XC,xL,u4,u5,u6,u7,qR,u9,cn,cl,c3,c1,c2];refine yq (UA f.entry f.code.length _) ?_;by_cases c45:f.entry<0\/(f.code.length:Int)<=f.entry
 ·rw[vW c45];simp only[EE,uN,vF,vG,wx];rcases c45 with c4|c5
  ·simp[u3,c4]
  ·simp[u3,c5]
 have c4:¬f.entry<0:=λq=>c45 (.inl q);have c5:¬(f.code.length:Int)<=f.entry:=λq=>c45 (.inr q);rw[wN c4 c5];by_cases c6:f.frame<0
 ·simp only[EE,zA,zj,kQ,uN,vF,vG,wx,c6];simp[u3]
 by_cases c7:65536<f.frame
 ·simp only[EE,zA,zj,kQ,uN,vF,vG,wx,c6,c7];simp[u3]
 simp only[EE,zA,zj,kQ,uN,vF,vG,wx,c6,c7];refine rr8 F1 (abu hro) (aaH _) zk c1 c2 ?_;simp only[c1,c2,c3,c4,c5,acQ,aaZ,aa2]
def Ya(p:Pg):Bool:=nX p&&(p.globals.all WL&&p.funcs.all λf=>jG f&&f.code.all (ZL p))
section
variable {h:za}{b1:Nat}{p:Pg}{f:Fn}{x:xG}{vs:List aaa}{B:Bool}
theorem zi9(P:wB h p)(F:qE h f)(hro:h.ro<=h.next)(hb:b1<h.next)(hg:h.get b1=some (vI p)){i:Nat}(hx:f.code[i]? = some x){v0:aaa}{J:List aaa->za->Prop}
  (hB:ZL p x=false->B=false) (hJ:∀h',ZL p x=true->Old h h'->J [v0] h'):nh f.cv [v0,pm (i:Nat)] h (pi b1) (u3 B) J:=by
 have hm:=mem_of hx;have I:=F.ins x hm;have an:=I.args.wk;have ac:=I.args.eT;obtain⟨b,o,c,t,ha,hbb,hgt,hle,htk,_⟩:=F.code.ED (i:=i) (r:=x.row) (by rw[aaq,hx];rfl) rfl;have bad:ZL p x=false->∀h',u3 B (.bool false) h':=λq _=>by rw[hB q];rfl
 simp only[EE,nth,↓nw,Value.cells,↓BK,zb,aad,Nat.reduceAdd,yJ,zZ,qI,F4,pI,nh,ha,hgt,hle,htk,ac,pI,hro];generalize hH:(za.push h _).set h.next _=H;have e:Old h H:=by subst hH;exact(Old.push h _).set (aam _) _
 have g7:H.get h.next=some (xQ x):=by subst hH;exact zR
 have g1:=e.eh hb hg;clear hH;have PH:=P.old e;have fn:=PH.funcs.wk;have fl:=PH.funcs.K1 3;rw[aaf]at fl;have gn:=PH.globals.wk;have gl:=PH.globals.kY 3;have al:=(I.args.old e).kY 3;have fin:ZL p x=true->J [v0] H:=λq=>hJ H q e;have bad':ZL p x=false->u3 B (.bool false) H:=λq=>bad q H;unfold ZL C6 zcZ at fin bad';by_cases c10:x.op=10
 ·have c8:¬x.op=8:=by omega
  simp only[EE,zA,ue,zj,xj,zw,yj,dC,dD,dE,g1,g7,fn,fl,c10];simp only[EE,dz];refine Mt (UA x.sub p.funcs.length H).dc ?_;rintro _ _ ⟨rfl,rfl⟩;by_cases s01:x.sub<0\/(p.funcs.length:Int)<=x.sub
  ·rw[vW s01];simp only[EE,Vj,Vk,Vl,Vm,Vn,Vo,Vp,Vq];exact bad' (by rw[vW s01];simp[c10])
  have s0:¬x.sub<0:=λq=>s01 (.inl q);have s1:¬(p.funcs.length:Int)<=x.sub:=λq=>s01 (.inr q);rw[wN s0 s1];obtain⟨g,hgf,hgm⟩:=get_some (l:=p.funcs) (k:=x.sub.toNat) (by omega);obtain⟨b',o',c',t',ha',hbb',hgt',hle',htk',hk'⟩:=PH.funcs.dJ (i:=x.sub.toNat) (r:=g.row) (by rw[aaq,hgf];rfl) rfl;rw[H5 s0]at ha';have hk1:c'[o'+1]? = some g.pv:=hk' 1 (by omega);have pn:=(PH.fns g hgm).params.wk;have pl:=(PH.fns g hgm).params.kY 3;have hpa:iO p x.sub=g.params.length:=by simp only[iO,hgf]
  by_cases s2:(g.params.length:Int)=x.args.length
  ·simp only[EE,nth,Int.reduceEq,zA,yS,ue,zj,xj,uA,zw,yj,kR,Vr,Vs,Vt,Vu,XH,XI,XJ,XK,XL,XM,dw,dx,dy,Vj,Vk,Vl,Vm,Vn,Vo,Vp,Vq,g1,g7,an,al,ha',hgt',hk1,pn,pl,c10,s2];exact fin (by rw[wN s0 s1,hpa];simp[c10,s2])
  ·simp only[EE,zA,yS,ue,zj,xj,uA,yj,kR,Vj,Vk,Vl,Vm,Vn,Vo,Vp,Vq,g1,g7,an,al,ha',hgt',hk1,pn,pl,c10,s2];exact bad' (by rw[wN s0 s1,hpa];simp[c10,s2])
 by_cases c8:x.op=8
 ·simp only[EE,Int.reduceEq,zA,yS,zj,wj,zw,yj,dw,dx,dy,Vj,Vk,Vl,Vm,Vn,Vo,Vp,Vq,dz,dC,dD,dE,g1,g7,gn,gl,c8];refine Mt (UA x.sub p.globals.length H).dc ?_;rintro _ _ ⟨rfl,rfl⟩;by_cases s01:x.sub<0\/(p.globals.length:Int)<=x.sub
  ·rw[vW s01];simp only[EE,Vr,Vs,Vt,Vu,XH,XI,XJ,XK,XL,XM];exact bad' (by rw[vW (m:=p.globals.length) s01];simp[c8])
  have s0:¬x.sub<0:=λq=>s01 (.inl q);have s1:¬(p.globals.length:Int)<=x.sub:=λq=>s01 (.inr q);rw[wN s0 s1];by_cases s2:x.k<0
  ·simp only[EE,zA,xp,vR,Vr,Vs,Vt,Vu,XH,XI,XJ,XK,XL,XM,g7,c8,s2];exact bad' (by rw[wN s0 s1];simp[c8,s2])
  obtain⟨z,hz,_⟩:=get_some (l:=p.globals) (k:=x.sub.toNat) (by omega);obtain⟨b',o',c',t',ha',hbb',hgt',hco'⟩:=PH.globals.at hz;rw[H5 s0]at ha';have hgd:=UY hz;by_cases s3:z<x.k
  ·simp only[EE,zA,xp,yS,zj,wj,yj,vR,Vr,Vs,Vt,Vu,XH,XI,XJ,XK,XL,XM,g1,g7,ha',hgt',hco',c8,s2,s3];exact bad' (by rw[wN s0 s1,hgd];simp[c8,s3])
  ·simp only[EE,nth,zA,xp,yS,zj,wj,yj,vR,Vr,Vs,Vt,Vu,XH,XI,XJ,XK,XL,XM,g1,g7,ha',hgt',hco',c8,s2,s3];exact fin (by rw[wN s0 s1,hgd];simp[c8,s2,s3])
 simp only[EE,nth,zA,zj,zw,Vr,Vs,Vt,Vu,XH,XI,XJ,XK,XL,XM,dw,dx,dy,Vj,Vk,Vl,Vm,Vn,Vo,Vp,Vq,dz,dC,dD,dE,g7,c10,c8];exact fin (by simp[c10,c8])
theorem zja(P:wB h p)(hro:h.ro<=h.next)(hb:b1<h.next)(hg:h.get b1=some (vI p))(hB:B=p.funcs.all λf=>jG f&&f.code.all (ZL p)) :
  nk (pi b1) (u3 B) vs h:=by
 have fn:=P.funcs.wk;have fl:=P.funcs.K1 3;rw[aaf]at fl;simp only[EE,↓BK,zA,ue,xj,nk,hg,fn,fl];refine WA (lo:=h) p.funcs.length (Hy p.funcs λf=>jG f&&f.code.all (ZL p)) (.refl h) ?_;intro i h2 J hi e2 hq hJ;have g2:=e2.eh hb hg;have P2:=P.old e2;have hro2:h2.ro<=h2.next:=by rw[e2.ro];exact aaS hro e2.next
 rcases aar i p.funcs.length with hlt|hge
 ·obtain⟨f,hf,hm⟩:=get_some hlt;obtain⟨b,o,c,t,ha,hbb,hgt,hle,htk,_⟩:=P2.funcs.dJ (i:=i) (r:=f.row) (by rw[aaq,hf];rfl) rfl;have hlt':(i:Int)<(p.funcs.length:Int):=by omega
  have hinc:IntKind.wrap .i64 ((i:Int)+1)=((i+1:Nat):Int):=inc (by have:=P.Dk;omega);have F2:=P2.fns f hm;have pn:=F2.params.wk;have pc:=F2.params.eT;have cn:=F2.code.wk;have cc:=F2.code.eT;simp only[EE,nth,↓nw,Value.cells,↓BK,zb,aad,Nat.reduceAdd,yJ,zZ,mw,FZ,mC,CF,nj,hlt',ha,hgt,hle,htk,pc,cc,mC,hro2];generalize hH:(za.push h2 _).set h2.next _=H;have e3:Old h2 H:=by subst hH;exact(Old.push h2 _).set (aam _) _
  have g5:H.get h2.next=some (ug f):=by subst hH;exact zR
  have n5:h2.next<H.next:=by subst hH;exact aaH _
  have roH:H.ro<=H.next:=by rw[e3.ro];exact aaS hro2 e3.next
  clear hH;have FH:=F2.old e3;simp only[];refine w8 (by kernel_rfl) (by simp only[EE]) (Bq f H FH) ?_;cases hR:jG f with
  |false=>
   simp only[EE];rw[hB,qq (B:=λf=>jG f&&f.code.all (ZL p)) hf (by rw[hR];rfl)];rfl
  |true=>
   have cl:=FH.code.K3 3;rw[aaf]at cl;simp only[EE,nth,↓BK,zA,uS,xL,CE,g5,cn,cl];refine WA (lo:=H) f.code.length (Hy f.code (ZL p)) (.refl H) ?_;intro k h3 J3 hk e4 hq3 hJ3;have F3:=FH.old e4;have P3:=P2.old (e3.trans e4);have g3:=(e2.trans (e3.trans e4)).eh hb hg;have hro3:h3.ro<=h3.next:=by rw[e4.ro];exact aaS roH e4.next
   rcases aar k f.code.length with hlk|hgk
   ·obtain⟨x,hx,hmx⟩:=get_some hlk;have hlk':(k:Int)<(f.code.length:Int):=by omega
    have hinc3:IntKind.wrap .i64 ((k:Int)+1)=((k+1:Nat):Int):=inc (by have:=F2.tu;omega);simp only[EE,nth,↓BK,ni,hlk'];refine zi9 P3 F3 hro3 (aao hb (e2.trans (e3.trans e4)).next) g3 hx (λq=>?_) λh' q e5=>?_
    ·rw[hB,qq (B:=λf=>jG f&&f.code.all (ZL p)) hf (by rw[qq hx q,ab3])]
    ·simp only[EE,nth,CC,hinc3];exact hJ3 _ hlk (by rw[XO hx];exact q) (e4.trans e5)
   ·have hlk':¬(k:Int)<(f.code.length:Int):=(by omega);simp only[EE,nth,ni,CG,hlk',hinc];refine hJ _ hlt ?_ (e2.trans (e3.trans e4));rw[XO hf,hR,aa2];exact qh λk' hk'=>hq3 k' (by omega)
 ·have hlt':¬(i:Int)<(p.funcs.length:Int):=by omega
  simp only[EE,nth,nj,hlt'];have:(p.funcs.all λf=>jG f&&f.code.all (ZL p))=true:=qh λk hk=>hq k (by omega);rw[hB,this];rfl
theorem zjb(P:wB h p)(hro:h.ro<=h.next)(hb:b1<h.next)(hg:h.get b1=some (vI p))(hB:B=(p.globals.all WL&&p.funcs.all λf=>jG f&&f.code.all (ZL p))) :
  nq (pi b1) (u3 B) vs h:=by
 have gn:=P.globals.wk;have gl:=P.globals.kY 3;simp only[EE,↓BK,zA,yS,wj,nq,hg,gn,gl];refine WA (lo:=h) p.globals.length (Hy p.globals WL) (.refl h) ?_;intro i h2 J hi e2 hq hJ;have g2:=e2.eh hb hg;have P2:=P.old e2;rcases aar i p.globals.length with hlt|hge
 ·obtain⟨z,hz,_⟩:=get_some hlt;obtain⟨b,o,c,t,ha,hbb,hgt,hco⟩:=P2.globals.at hz;have hlt':(i:Int)<(p.globals.length:Int):=by omega
  have hinc:IntKind.wrap .i64 ((i:Int)+1)=((i+1:Nat):Int):=inc (by have:=P.MS;omega);by_cases z0:z<0
  ·simp only[EE,nth,↓BK,zA,zj,lJ,lK,lL,aD,hlt',ha,hgt,hco,z0];rw[hB,qq (B:=WL) hz (by simp[WL,z0])];rfl
  by_cases z1:65536<z
  ·simp only[EE,nth,↓BK,zA,zj,lJ,lK,lL,aD,hlt',ha,hgt,hco,z0,z1];rw[hB,qq (B:=WL) hz (by simp[WL,z1])];rfl
  simp only[EE,nth,↓BK,zA,zj,lJ,lK,lL,FQ,aD,hlt',ha,hgt,hco,z0,z1,hinc];exact hJ _ hlt (by rw[XO hz];simp only[WL,z0,z1,acQ,aaZ,ac1]) e2
 ·have hlt':¬(i:Int)<(p.globals.length:Int):=by omega
  simp only[EE,nth,aD,hlt'];have hp:p.globals.all WL=true:=qh λk hk=>hq k (by omega);exact zja P2 (by rw[e2.ro];exact aaS hro e2.next) (aao hb e2.next) g2 (by rw[hB,hp,aa2])
end
theorem Ia(p:Pg)(h:za)(P:wB h p):yO pu 27 [p.val] h (.bool (Ya p)):=by
 apply uh;replace P:=P.lock;generalize h.lock=L at P;apply Ym;intro hwf;have hro:=hwf.2;apply Od;unfold RI;have gn:=P.globals.wk;have fn:=P.funcs.wk;have P1:=P.old (Old.push L (.cells p.row 25));have gl:=P1.globals.kY 3;have fl:=P1.funcs.K1 3;rw[aaf]at fl;simp only[EE,↓nw,Value.cells,zA,ue,zj,xj,XB,fn,fl];refine yq (UA p.main p.funcs.length _) ?_;unfold Ya nX;by_cases c34:p.main<0\/(p.funcs.length:Int)<=p.main
 ·rw[vW c34];simp only[EE,QE,QF,QG,QH];rcases c34 with c|c
  ·simp[u3,c]
  ·simp[u3,c]
 have c3:¬p.main<0:=λq=>c34 (.inl q);have c4:¬(p.funcs.length:Int)<=p.main:=λq=>c34 (.inr q);rw[wN c3 c4];by_cases c2:(100:Int)<p.funcs.length
 ·simp only[EE,zA,ue,xj,QE,QF,QG,QH,fn,fl,c2];simp[u3]
 by_cases c1:(200:Int)<p.globals.length
 ·simp only[EE,zA,yS,ue,wj,xj,QE,QF,QG,QH,gn,fn,gl,fl,c1,c2];simp[u3]
 simp only[EE,zA,yS,ue,wj,xj,QE,QF,QG,QH,gn,fn,gl,fl,c1,c2];refine zjb P1 (abu hro) (aaH _) zk ?_;simp only[c3,c4,acQ,aaZ,aa2]
theorem zfj{x:xG}(h10:¬x.op=10):iK x.op=wr x.op:=by
 unfold iK wr;simp[h10]
theorem Pj{f:Fn}{x:xG}(h:WR f x=true):1<=x.op/\x.op<=14:=by
 unfold WR at h
 repeat' split at h
 all_goals first|omega|(cases h)
theorem zgC{f:Fn}(h0:0<=f.zf)(x:xG):Ww f x=Ws f x:=by
 unfold Ww Ws UG rL KZ;cases hU:(wz x).all λu=>xr u f.zf with
 |false=>simp
 |true=>
 cases hS:(ql x).all λs=>xr s f.code.length with
 |false=>simp
 |true=>
 cases hO:WR f x with
 |false=>
  have:¬x.op=10:=by intro q;simp[WR,q]at hO
  simp[this]
 |true=>
 obtain⟨o1,o2⟩:=Pj hO;cases h1:nD x with
 |true=>simp
 |false=>
 cases h2:pJ x with
 |true=>simp
 |false=>
 simp only[o1,o2,ac2,aaZ,aa2,abb];unfold Jb Ou Ov;by_cases h10:x.op=10
 ·have hw:wr x.op=true:=by simp[wr,h10]
  have hn:iK x.op=false:=by simp[iK,h10]
  have hwi:zu x=x.d:=by simp[zu,hw]
  rw[hn,hwi,hw];by_cases hd:x.d = -1
  ·have a:¬f.zf <= -1:=by omega
   simp[h10,hd,a]
  ·unfold xr;by_cases a:x.d < -1
   ·have b:¬0<=x.d:=(by omega);simp[h10,hd,a,b]
   ·have b:0<=x.d:=(by omega);by_cases c:x.d<f.zf
    ·have c':¬f.zf<=x.d:=(by omega);simp[h10,hd,a,b,c,c']
    ·have c':f.zf<=x.d:=(by omega);simp[h10,hd,a,b,c,c']
 ·rw[zfj h10];cases hw:wr x.op with
  |false=>
   have hwi:zu x = -1:=by simp[zu,hw]
   have a:¬f.zf <= -1:=by omega
   rw[hwi];simp[h10,a]
  |true=>
   have hwi:zu x=x.d:=by simp[zu,hw]
   rw[hwi];unfold xr;by_cases b:0<=x.d
   ·have a:¬x.d < -1:=(by omega);have a2:¬x.d = -1:=(by omega);by_cases c:x.d<f.zf
    ·have c':¬f.zf<=x.d:=(by omega);simp[h10,a,a2,b,c,c']
    ·have c':f.zf<=x.d:=(by omega);simp[h10,a,a2,b,c,c']
   ·by_cases a2:x.d = -1
    ·simp[h10,a2]
    ·have a:x.d < -1:=(by omega);simp[h10,a,a2,b]
theorem zdI(f:Fn):jG f=qL f:=by
 unfold jG qL;cases hs:Jw f with
 |false=>rfl
 |true=>
  have h0:0<=f.zf:=by
   unfold Jw at hs;simp only[aag,aaA,aaJ]at hs;omega
  rw[show Ww f=Ws f from funext λx=>zgC h0 x]
theorem rJ(p:Pg):Ya p=YQ p:=by
 unfold Ya YQ;rw[show(λf=>jG f&&f.code.all (ZL p))=(λf=>qL f&&f.code.all (ZL p)) from funext λf=>by rw[zdI]]
end Go.Rtl
namespace Go.Rm
open Go.Ai Go.Proofs Go.Mem
open Go.Rtl (xG Pg zu)
def isInt(a:V):Bool:=decide (a.k=1)&&kN a
def wK(a:V):Bool:=decide (a.k=2)&&kN a
def qj(n:Int):V:=⟨1,n,0⟩
def qW(b:Bool):V:=if b=true then qj 1 else qj 0
abbrev ui(n:Int):Int:=IntKind.wrap .i64 n
def WZ(f:BitVec 64->BitVec 64->BitVec 64)(a b:Int):Int:=ui (f (BitVec.ofInt 64 a) (BitVec.ofInt 64 b)).toNat
def uk(op a b:Int):Option V :=
 if op=11 then some (qj (ui (a+b))) else if op=12 then some (qj (ui (a-b))) else if op=13 then some (qj (ui (a*b)))
 else if op=14\/op=15 then (if b=0\/(a = -9223372036854775808/\b = -1) then none else if op=14 then some (qj (ui (a.tdiv b))) else some (qj (a.tmod b)))
 else if op=16 then some (qj (WZ (· &&& ·) a b)) else if op=17 then some (qj (WZ (· ||| ·) a b)) else if op=18 then some (qj (WZ (· ^^^ ·) a b))
 else if op=19\/op=20 then (if b<0\/63<b then none else if op=19 then some (qj (ui (a*2^b.toNat))) else some (qj (a.fdiv (2^b.toNat))))
 else if op=21 then some (qW (decide (a=b))) else if op=22 then some (qW (!decide (a=b))) else if op=23 then some (qW (decide (a<b)))
 else if op=24 then some (qW (decide (a<=b))) else if op=25 then some (qW (decide (b<a))) else if op=26 then some (qW (decide (b<=a))) else none
def wO(op:Int)(a b:V):Option V :=
 if (wK a&&wK b)||((wK a&&decide (b=qj 0))||(decide (a=qj 0)&&wK b)) then some (qW (decide (a=b) == decide (op=21))) else none
def yG(op:Int)(a b:V):Option V :=
 if isInt a&&isInt b then uk op a.n b.n
 else if decide (op=11)&&(wK a&&isInt b) then some (AW a.b (ui (a.n+b.n)))
 else if decide (op=11)&&(isInt a&&wK b) then some (AW b.b (ui (a.n+b.n)))
 else if decide (op=12)&&(wK a&&isInt b) then some (AW a.b (ui (a.n-b.n)))
 else if op=21\/op=22 then wO op a b else none
def notM(a:Int):Int:=ui (BitVec.ofInt 64 (-1) ^^^ BitVec.ofInt 64 a).toNat
def mM(op:Int)(a:V):Option V :=
 if isInt a=true then (if op=1 then some (qj (ui (0-a.n))) else if op=2 then some (qj (notM a.n)) else if op=3 then some (qj (ui (IntKind.wrap .i8 a.n))) else if op=4 then some (qj (ui (IntKind.wrap .i32 a.n))) else none) else none
structure Fr where
 f:Nat
 zf:List V
 k9:Int
 pt:Int
structure St where
 mem:MM
 used:Int
 kind:Int
 exit:Int
 ev:List (Int×Int)
 lk:List (Int×Int×Int)
 steps:Int
 gl:List Int
 calls:List Fr
def zT(l:List V)(r:Int):V:=if r<0 then v0 else l.getD r.toNat v0
def uz(l:List V)(r:Int)(v:V):List V:=if r<0 then l else (l++List.replicate (r.toNat+1-l.length) v0).set r.toNat v
def xh(S:St)(k a b:Int):St:={S with lk:=S.lk++[(k,a,b)]}
def ke(S:St)(k v:Int):St:={S with ev:=S.ev++[(k,v)]}
def za0(S:St)(c:Fr):St:={S with calls:=S.calls.dropLast++[c]}
def yE(c:Fr)(i:xG):V:=if i.b = -1 then qj i.k else zT c.zf i.b
def yR(c:Fr)(i:xG):Option V:=match yG 11 (zT c.zf i.a) (qj i.k) with
 |some p=>if p.k=2 then some p else none
 |none=>none
def uf(S:St)(c:Fr)(i:xG)(v:V):St:=za0 S {c with zf:=uz c.zf (zu i) v,pt:=i.s}
def j3(p:Pg)(c:Fr):Option xG:=(p.funcs[c.f]?).bind λf=>if c.pt<0 then none else f.code[c.pt.toNat]?
def wC:List Int->List V->List V->List V
 |r::rs,a::l2,l=>wC rs l2 (uz l r a)
 |_,_,l=>l
def wQ(p:Pg)(S:St)(n:Int)(args:List V):St×Bool :=
 if 20000<=S.calls.length then (S,false) else match p.funcs[n.toNat]? with
 |none=>(S,false)
 |some f=>(if (zW S.mem f.frame).2.2=0 then ({S with mem:=(zW S.mem f.frame).1,calls:=S.calls++[⟨n.toNat,wC f.params args [],(zW S.mem f.frame).2.1,f.entry⟩]},true) else ({S with mem:=(zW S.mem f.frame).1},false))
def kW(kept:Option (Int->Bool))(l:List V):List V:=match kept with
 |none=>l
 |some K=>(List.range l.length).map λ(k:Nat)=>if K (k:Int)=true then l.getD k v0 else v0
def qi(p:Pg)(kept:Option (Int->Bool))(S:St)(v:V):St×Bool:=match S.calls.getLast? with
 |none=>(S,false)
 |some c=>(match S.calls.dropLast.getLast? with
  |none=>(if v.k=1 then ({S with mem:=(qN S.mem c.k9).getD S.mem,calls:=[],kind:=1,exit:=v.n},true) else ({S with mem:=(qN S.mem c.k9).getD S.mem,calls:=[]},false))
  |some b=>(match j3 p b with
   |none=>(S,false)
   |some i=>({S with mem:=(qN S.mem c.k9).getD S.mem,calls:=S.calls.dropLast.dropLast++[{b with zf:=uz (kW kept b.zf) i.d v,pt:=i.s}]},true)))
def il(S:St)(c:Fr)(i:xG):St×Bool:=match yG i.sub (zT c.zf i.a) (yE c i) with
 |none=>(S,false)
 |some v=>(za0 (xh S 1 v.n 0) {c with pt:=if v.n=0 then i.t else i.s},true)
def Zw(world:List Int)(used:Int):Int:=if used<0 then 0 else world.getD used.toNat 0
def xq(p:Pg)(world:List Int)(kept:Option (Int->Bool))(S:St)(c:Fr)(i:xG):St×Bool :=
 if i.op=2 then (uf S c i (qj i.k),true)
 else if i.op=3 then (uf S c i (zT c.zf i.a),true)
 else if i.op=4 then (match mM i.sub (zT c.zf i.a) with
  |none=>(S,false)
  |some v=>(uf S c i v,true))
 else if i.op=5 then
  (let S1:=if (i.sub=14\/i.sub=15)/\(zT c.zf i.a).k=1/\(yE c i).k=1 then xh S 3 (zT c.zf i.a).n (yE c i).n else S
  match yG i.sub (zT c.zf i.a) (yE c i) with
  |none=>(S1,false)
  |some v=>(uf S1 c i v,true))
 else if i.op=6 then (match yR c i with
  |none=>(S,false)
  |some q=>(match kZ S.mem i.sub q with
   |none=>(xh S 2 q.b q.n,false)
   |some v=>(uf (xh S 2 q.b q.n) c i v,true)))
 else if i.op=7 then (match yR c i with
  |none=>(S,false)
  |some q=>(match wX S.mem i.sub q (zT c.zf i.b) with
   |none=>(xh S 2 q.b q.n,false)
   |some M=>(uf {xh S 2 q.b q.n with mem:=M} c i v0,true)))
 else if i.op=8 then (uf S c i (AW (S.gl.getD i.sub.toNat 0) i.k),true)
 else if i.op=9 then (uf S c i (AW c.k9 i.k),true)
 else if i.op=10 then wQ p (xh S 4 i.sub 0) i.sub (i.args.map (zT c.zf))
 else if i.op=11 then il S c i
 else if i.op=12 then qi p kept S (zT c.zf i.a)
 else if i.op=13 then (uf {ke S 1 (Zw world S.used) with used:=S.used+1} c i (qj (Zw world S.used)),true)
 else if i.op=14 then (if (zT c.zf i.a).k=1 then (uf (ke S 2 (zT c.zf i.a).n) c i v0,true) else (S,false))
 else (uf S c i v0,true)
def kP(p:Pg)(world:List Int)(kept:Option (Int->Bool))(S:St):St×Bool:=match S.calls.getLast? with
 |none=>(S,false)
 |some c=>(match j3 p c with
  |none=>(S,false)
  |some i=>xq p world kept S c i)
def QY(p:Pg)(world:List Int)(kept:Option (Int->Bool)):Nat->St×Bool->St×Bool
 |0,(S,ok)=>if ok=true/\S.kind=0 then ({S with kind:=2},ok) else (S,ok)
 |n+1,(S,ok)=>if ok=true/\S.kind=0 then QY p world kept n (kP p world kept {S with steps:=S.steps+1}) else (S,ok)
def xK:List Int->MM->List Int->MM×List Int
 |[],M,l=>(M,l)
 |n::ns,M,l=>xK ns ((Xl (zW M n).1 (zW M n).2.1).getD (zW M n).1) (l++[(zW M n).2.1])
def kg(p:Pg)(args:List Int):St×Bool:=wQ p ⟨(xK p.globals [] []).1,0,0,0,[],[],0,(xK p.globals [] []).2,[]⟩ p.main (args.map qj)
def Jm(r:St×Bool):St:=if r.2=true then r.1 else {r.1 with kind:=3}
def runM(p:Pg)(args world:List Int)(kept:Option (Int->Bool))(fuel:Nat):St:=Jm (QY p world kept fuel (kg p args))
end Go.Rm
