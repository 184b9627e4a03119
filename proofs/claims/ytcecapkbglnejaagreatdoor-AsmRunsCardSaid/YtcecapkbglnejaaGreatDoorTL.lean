import Derived.Test.YtcecapkbglnejaaGreatDoorTK
set_option linter.unusedVariables false
set_option linter.unusedSimpArgs false
set_option maxRecDepth 100000
namespace Go.As
open Go.Ai Go.Proofs Go.Mem Go.Rm
open Go.Rtl (zl zE Old yB xr inc RM Lh Xm U1 J4 get_some)
section
variable {h:za}{sv:aaa}{rows:List (List aaa)}
theorem Z2(S:zE h sv 7 rows){i:Nat}{r:List aaa}(hr:rows[i]? = some r)(hn:r.length=7):∃b o c t,zJ pu 45 sv (pm i)=some (.pointer (some ⟨b,o,none⟩))/\b<h.next/\h.get b=some (.cells c t)/\o+7<=c.length/\(c.drop o).take 7=r /\ ∀k,k<7->c[o+k]? = r[k]?:=by
 obtain⟨b,o,c,t,⟨off,cp,rfl,rfl⟩,hi,hb,hg,hl,ht,hk⟩:=S.spot hr hn;have h1:0<=(i:Int)/\(i:Int)<(rows.length:Int):=by omega
 exact⟨b,off+i*7,c,t,by simp only[zgD,h1,aaw,and_self,aas],hb,hg,hl,ht,hk⟩
theorem Ws(S:zE h sv 2 rows){i:Nat}{r:List aaa}(hr:rows[i]? = some r)(hn:r.length=2):∃b o c t,zJ pu 23 sv (pm i)=some (.pointer (some ⟨b,o,none⟩))/\b<h.next/\h.get b=some (.cells c t)/\o+2<=c.length/\(c.drop o).take 2=r /\ ∀k,k<2->c[o+k]? = r[k]?:=by
 obtain⟨b,o,c,t,⟨off,cp,rfl,rfl⟩,hi,hb,hg,hl,ht,hk⟩:=S.spot hr hn;have h1:0<=(i:Int)/\(i:Int)<(rows.length:Int):=by omega
 exact⟨b,off+i*2,c,t,by simp only[zgA,h1,aaw,and_self,aas],hb,hg,hl,ht,hk⟩
theorem kP{l:List xY}{n:Nat}(S:zE h sv n (l.map xY.row))(r:TypeId)(h':za):zP pu .len [45] r [sv] h'=some (pm l.length,h'):=by
 rcases S with⟨rfl,e⟩|⟨b,off,cp,rfl,_⟩
 ·have:l=[]:=by simpa using e
  subst this;simp only[T4,aaC]
 ·simp only[T4,aav]
theorem Z6{l:List Fn}{n:Nat}(S:zE h sv n (l.map Fn.row))(r:TypeId)(h':za):zP pu .len [23] r [sv] h'=some (pm l.length,h'):=by
 rcases S with⟨rfl,e⟩|⟨b,off,cp,rfl,_⟩
 ·have:l=[]:=by simpa using e
  subst this;simp only[T3,aaC]
 ·simp only[T3,aav]
end
theorem mk1(h:za):(v7 h).1=.map (some h.next):=rfl
theorem mk2(h:za):(v7 h).2=h.push (dV []):=rfl
theorem kt3:yk pu (underlying 3)=some (.int .i64):=by kernel_rfl
theorem ktB:yk pu (underlying 122)=some (.map 3 4):=by kernel_rfl
theorem zrB:Ye pu 4=some (.bool false):=by kernel_rfl
def Aj(m:List (Int×aaa)):Prop := ∀k v,mS m k=some v->v=.bool true
theorem zgI{h:za}{b:Nat}{m:List (Int×aaa)}(hb:Aj m)(g:h.get b=some (dV m))(k:Int):XC pu 122 (.map (some b)) (pm k) false h=some (.bool (hasB m k)):=by
 rw[HO ktB kt3 zrB g k false];unfold hasB;cases e:mS m k with
 |none=>rfl
 |some v=>rw[hb k v e];rfl
theorem Py{m:List (Int×aaa)}(hb:Aj m)(k:Int):Aj (QU m k (.bool true)):=by
 intro k' v e;rw[mT]at e;by_cases q:k=k'
 ·rw[aai q]at e;exact(abP e).symm
 ·rw[aae q]at e;exact hb k' v e
theorem nh(gl:List Int):∀(xs ys:List xY) (m:List (Int×aaa)) (s:Bool),Ze gl (xs++ys) m s=(Ze gl xs m s).bind λr=>Ze gl ys r.1 r.2
 |[],ys,m,s=>rfl
 |x::xs,ys,m,s=>by
  show(if Xw gl x=false then none else if x.op=20 then (if hasB m x.l=true then none else Ze gl (xs++ys) _ s) else Ze gl (xs++ys) m true)=Option.bind (if Xw gl x=false then none else if x.op=20 then (if hasB m x.l=true then none else Ze gl xs _ s) else Ze gl xs m true) _;rw[nh gl xs,nh gl xs]
  repeat' split
  all_goals rfl
theorem aX(gl:List Int):∀(xs:List xY) (m:List (Int×aaa)) (s:Bool) {r:List (Int×aaa)×Bool},Aj m->Ze gl xs m s=some r->Aj r.1
 |[],m,s,r,hb,e=>by cases e;exact hb
 |x::xs,m,s,r,hb,e=>by
  have e:(if Xw gl x=false then none else if x.op=20 then (if hasB m x.l=true then none else Ze gl xs _ s) else Ze gl xs m true)=some r:=e;split at e
  ·cases e
  split at e
  ·split at e
   ·cases e
   ·exact aX gl xs _ _ (Py hb _) e
  ·exact aX gl xs _ _ hb e
section
variable {h:za}{p:Pg}{f:Fn}
theorem LL(P:wR h p)(hf:f∈p.funcs):xC pu 31 [p.val,f.val] h (.bool (AN p f)):=by
 apply yB;replace P:=P.lock;generalize h.lock=L at P;apply YG;intro wf;apply BX;unfold tR;have F:=P.fns f hf;have s0:Sat (.of L) L []:=Sat.self wf.2;have RP:Rd (.of L) (wR · p):=Rd.of (yE.uf L) P λh' o=>P.old o;have gvn:=P.globals.kY;have fvn:=P.funcs.kY;have cvn:=F.code.kY;have cvc:=F.code.fC;have gvc:=P.globals.fC;have fvc:=P.funcs.fC;have cl:=λH=>kP F.code 3 H;have fl:=λH=>Z6 P.funcs 3 H;simp only[EE,Value.cells];refine w8 s0 λb2 h2 s2=>?_;simp only[];refine w8 s2 λb3 h4 s4=>?_;have g3:=s4.get;simp only[EE,zo,Yd,uB,cvn,g3,cl];by_cases c1:(f.code.length:Int)>100000
 ·simp only[EE,c1];have:AN p f=false:=by unfold AN;simp[show(100000:Int)<f.code.length from c1]
  rw[this];rfl
 have c1':¬(100000:Int)<f.code.length:=c1;have hB:AN p f=m3 p.funcs.length f.code (Ze p.globals f.code [] false):=by unfold AN;rw[abR c1'];rfl
 simp only[EE,zo,Yd,uB,gf,c1];have sm:=s4.push (dV []);have gm3:=(sm.p 1).get;simp only[EE,nth,↓xg,mk2,gm3,cvn,cl];generalize hmb:h4.next=mb at sm gm3 ⊢;generalize h4.push (dV [])=h5 at sm gm3 ⊢
 have bad:∀n m s,Ze p.globals (f.code.take n) m s=none->Ze p.globals f.code m s=none:=λn m s e=>by
  rw[<- List.take_append_drop n f.code,nh,e];rfl
 refine qQ (λn vs h'=>∃(i:Nat) (m:List (Int×aaa)) (more:Bool) (v0:aaa),i<=f.code.length/\n=f.code.length-i/\vs=[v0,.bool more,pm (i:Nat)]/\Ze p.globals (f.code.take i) [] false=some (m,more)/\Sat (.of L) h' [pt mb (dV m),pt b3 (.cells f.row 47),pt b2 (.cells p.row 25)])
  f.code.length ⟨0,[],false,.bool false,aaX _,rfl,rfl,rfl,sm⟩ ?_
 rintro n vs h' ⟨i,m,more,v0,hi,rfl,rfl,hscan,s⟩;unfold lZ;by_cases hc:(i:Int)<(f.code.length:Int)
 ·obtain⟨x,hx,hxm⟩:=get_some (l:=f.code) (k:=i) (by omega);have F2:=(RP.at s).fns f hf;obtain⟨bi,oi,ci,ti,ha,hbi,hgi,hle,htk,_⟩:=Z2 F2.code (i:=i) (r:=x.row) (by rw[aau,hx];rfl) rfl;have et:f.code.take (i+1)=f.code.take i++[x]:=by rw[acx,hx];rfl
  have hsn:=nh p.globals (f.code.take i) [x] [] false;rw[<- et,hscan]at hsn;have hsn:Ze p.globals (f.code.take (i+1)) [] false=if Xw p.globals x=false then none else if x.op=20 then (if hasB m x.l=true then none else some (QU m x.l (.bool true),more)) else some (m,true):=hsn;have no:Ze p.globals (f.code.take (i+1)) [] false=none->AN p f=false:=λe=>by rw[hB,bad _ _ _ e];rfl
  simp only[EE,nth,Value.cells,↓xg,zN,xx,G3,lY,hc,ha,hgi,hle,htk];refine w8 s λb8 h6 s6=>?_;simp only[EE,Nat.reduceAdd,G1];refine z9 s6 (by simp) rfl λh7 s7=>?_;have g8:=s7.get;have g2:=(s7.p 3).get;simp only[EE,zb,Nat.reduceAdd,zN,zo,w9,xx,xZ,g8,g2];refine iS (by simp only[yy,gvn,aaI];rfl) (PQ (x:=x) (RP.at s7).globals) ?_;cases hI:Xw p.globals x with
  |false=>
   simp only[EE];rw[no (by rw[hsn,aai hI])];rfl
  |true=>
   rw[aae (by rw[hI];simp)]at hsn;simp only[EE,zb,Nat.reduceAdd,zo,zf,lX,g8];by_cases o20:x.op=20
   ·rw[aai o20]at hsn;have lk:=zgI (aX p.globals _ _ _ (λk v e=>by cases e) hscan) (s7.p 1).get x.l;simp only[EE,zb,Nat.reduceAdd,zo,vB,lW,g8,o20,mk1,hmb,lk];cases hl:hasB m x.l with
    |true=>
     simp only[EE];rw[no (by rw[hsn,aai hl])];rfl
    |false=>
     rw[aae (by rw[hl];simp)]at hsn;have up:=Il (v := .bool true) ktB kt3 (s7.p 1).get (s7.p 1).wr x.l;simp only[EE,nth,zb,Nat.reduceAdd,zo,vB,lV,JW,g8,mk1,hmb,up,inc (show i<4611686018427387904 by have:=F.ru;omega)];exact⟨f.code.length-(i+1),by omega,i+1,_,_,_,by omega,rfl,rfl,hsn,((s7.p 1).set _).k [0,2,3]⟩
   ·rw[aae o20]at hsn;simp only[EE,nth,JW,o20,inc (show i<4611686018427387904 by have:=F.ru;omega)];exact⟨f.code.length-(i+1),by omega,i+1,_,_,_,by omega,rfl,rfl,hsn,s7.k [1,2,3]⟩
 ·have hi9:i=f.code.length:=by omega
  subst hi9;rw[acd]at hscan;rw[hscan]at hB;have hB:AN p f=(f.code.all (UG p.funcs.length m)&&more):=hB;have g3:=(s.p 1).get;simp only[EE,nth,hc];simp only[EE,nth,↓xg,zo,Yd,uB,f9,g3,cvn,cl];have hbm:=aX p.globals _ _ _ (λk v e=>by cases e) hscan
  refine qQ (λn vs h'=>∃(i:Nat) (v0:aaa),i<=f.code.length/\n=f.code.length-i/\vs=[v0,pm (i:Nat)]/\(∀k,k<i->Lh f.code (UG p.funcs.length m) k=true)/\Sat (.of L) h' [pt mb (dV m),pt b3 (.cells f.row 47),pt b2 (.cells p.row 25)])
   f.code.length ⟨0,v0,aaX _,rfl,rfl,λk hk=>by omega,s⟩ ?_
  rintro n vs h' ⟨i,v0,hi,rfl,rfl,hall,s⟩;unfold f8;by_cases hc:(i:Int)<(f.code.length:Int)
  ·obtain⟨x,hx,hxm⟩:=get_some (l:=f.code) (k:=i) (by omega);have F2:=(RP.at s).fns f hf;obtain⟨bi,oi,ci,ti,ha,hbi,hgi,hle,htk,_⟩:=Z2 F2.code (i:=i) (r:=x.row) (by rw[aau,hx];rfl) rfl;have no:UG p.funcs.length m x=false->AN p f=false:=λe=>by rw[hB,U1 hx e];rfl
   have go:UG p.funcs.length m x=true->∀k,k<i+1->Lh f.code (UG p.funcs.length m) k=true:=λe k hk=>by
    by_cases q:k=i
    ·subst q;rw[J4 hx];exact e
    ·exact hall k (by omega)
   have hin:=inc (show i<4611686018427387904 by have:=F.ru;omega);simp only[EE,nth,Value.cells,↓xg,zN,xx,G3,fZ,hc,ha,hgi,hle,htk];refine w8 s λb10 h6 s6=>?_;simp only[EE,Nat.reduceAdd,G1];refine z9 s6 (by simp) rfl λh7 s7=>?_;have g10:=s7.get;have g2:=(s7.p 3).get;have lk:=zgI hbm (s7.p 1).get x.l
   have fin:(∀v,UG p.funcs.length m x=true->∃m1,m1<f.code.length-i /\ ∃(i':Nat) (v0:aaa),i'<=f.code.length/\m1=f.code.length-i' /\ [v,pm ((i+1:Nat):Int)]=[v0,Value.int .i64 (i':Nat)]/\(∀k,k<i'->Lh f.code (UG p.funcs.length m) k=true)/\Sat (.of L) h7 [pt mb (dV m),pt b3 (.cells f.row 47),pt b2 (.cells p.row 25)]) :=
    λv e=>⟨f.code.length-(i+1),by omega,i+1,v,by omega,rfl,rfl,go e,s7.k [1,2,3]⟩
   by_cases o18:x.op=18
   ·have hh:UG p.funcs.length m x=hasB m x.l:=(by unfold UG;simp[o18]);simp only[EE,↓xg,zb,Nat.reduceAdd,zo,zf,vB,jZ,j0,j1,j2,j3,g10,o18,mk1,hmb,lk];cases hl:hasB m x.l with
    |false=>simp only[EE];rw[no (by rw[hh,hl])];rfl
    |true=>
     simp only[EE,nth,zb,Nat.reduceAdd,Int.reduceEq,zo,zf,ZX,ZY,ZZ,jV,jW,jX,jY,Xy,g10,o18,hin];exact fin _ (by rw[hh,hl])
   by_cases o19:x.op=19
   ·have hh:UG p.funcs.length m x=hasB m x.l:=(by unfold UG;simp[o19]);simp only[EE,↓xg,zb,Nat.reduceAdd,Int.reduceEq,zo,zf,vB,jZ,j0,j1,j2,j3,g10,o19,mk1,hmb,lk];cases hl:hasB m x.l with
    |false=>simp only[EE];rw[no (by rw[hh,hl])];rfl
    |true=>
     simp only[EE,nth,zb,Nat.reduceAdd,Int.reduceEq,zo,zf,ZX,ZY,ZZ,jV,jW,jX,jY,Xy,g10,o19,hin];exact fin _ (by rw[hh,hl])
   by_cases o21:x.op=21
   ·by_cases s0:x.sub<0
    ·simp only[EE,↓xg,zb,Nat.reduceAdd,Int.reduceEq,zo,zf,zB,ZX,ZY,ZZ,jV,jW,jX,jY,jZ,j0,j1,j2,j3,g10,o21,s0];rw[no (by unfold UG;simp[o21,s0])];rfl
    by_cases s1:x.sub ≥ (p.funcs.length:Int)
    ·simp only[EE,↓xg,zb,Nat.reduceAdd,Int.reduceEq,zo,vZ,yZ,zf,zB,ZX,ZY,ZZ,jV,jW,jX,jY,jZ,j0,j1,j2,j3,g10,g2,fvn,fl,o21,s0,s1];rw[no (by have s1:(p.funcs.length:Int)<=x.sub:=s1;unfold UG;simp[o21,s1])];rfl
    simp only[EE,nth,↓xg,zb,Nat.reduceAdd,Int.reduceEq,zo,vZ,yZ,zf,zB,ZX,ZY,ZZ,jV,jW,jX,jY,jZ,j0,j1,j2,j3,Xy,g10,g2,fvn,fl,o21,s0,s1,hin];exact fin _ (by have s1:¬(p.funcs.length:Int)<=x.sub:=s1;unfold UG;simp[o21,s0,s1])
   simp only[EE,nth,↓xg,zb,Nat.reduceAdd,zo,zf,ZX,ZY,ZZ,jV,jW,jX,jY,jZ,j0,j1,j2,j3,Xy,g10,o18,o19,o21,hin];exact fin _ (by unfold UG;simp[o18,o19,o21])
  ·have hi9:i=f.code.length:=by omega
   subst hi9;simp only[EE,nth,hc];rw[hB,Xm hall];simp[xr]
end
def Fu(n:Int):Bool := !decide (n<0) && !decide (65536<n)
section
variable {p:Pg}
theorem zhD{lo:yE}{H:za}{b1:Nat}{vs:List aaa}(RP:Rd lo (wR · p))(s:Sat lo H [pt b1 (.cells p.row 25)]){B:Bool}(hB:B=p.funcs.all (AN p)):nH (pi b1) (xr B) vs H:=by
 have P:=RP.at s;have g1:=s.get;have fvn:=P.funcs.kY;have fl:=λh'=>Z6 P.funcs 3 h';unfold nH;simp only[EE,↓xg,zo,vZ,yZ,g1,fvn,fl]
 refine qQ (λn vs h'=>∃(i:Nat) (v0:aaa),i<=p.funcs.length/\n=p.funcs.length-i/\vs=[v0,pm (i:Nat)]/\(∀k,k<i->Lh p.funcs (AN p) k=true)/\Sat lo h' [pt b1 (.cells p.row 25)])
  p.funcs.length ⟨0,nth vs 0,aaX _,rfl,rfl,λk hk=>by omega,s⟩ ?_
 rintro n vs h' ⟨i,v0,hi,rfl,rfl,hall,s⟩;unfold FW;by_cases hc:(i:Int)<(p.funcs.length:Int)
 ·obtain⟨f,hf,hfm⟩:=get_some (l:=p.funcs) (k:=i) (by omega);obtain⟨bi,oi,ci,ti,ha,hbi,hgi,hle,htk,_⟩:=Ws (RP.at s).funcs (i:=i) (r:=f.row) (by rw[aau,hf];rfl) rfl;have cvn:=(P.fns f hfm).code.kY;have cvc:=(P.fns f hfm).code.fC;have gvn:=P.globals.kY;simp only[EE,nth,Value.cells,↓xg,zN,bE,Td,FU,hc,ha,hgi,hle,htk];refine w8 s λb6 h6 s6=>?_;simp only[EE,Nat.reduceAdd,S9];refine z9 s6 (by simp) (by simp[cvc];rfl) λh7 s7=>?_;have g6:=s7.get;have g1:=(s7.p 1).get;simp only[EE,zb,Nat.reduceAdd,zN,Um,bE,g6,g1];refine iS (by simp only[yy];rfl) (LL (RP.at s7) hfm) ?_;cases hF:AN p f with
  |false=>
   simp only[EE,sF];rw[hB,U1 hf hF];rfl
  |true=>
   simp only[EE,nth,sF,FV,inc (show i<4611686018427387904 by have:=P.PK;omega)]
   exact⟨p.funcs.length-(i+1),by omega,i+1,_,by omega,rfl,rfl,λk hk=>(by
    by_cases q:k=i
    ·subst q;rw[J4 hf];exact hF
    ·exact hall k (by omega)),s7.k [1]⟩
 ·have hi9:i=p.funcs.length:=by omega
  subst hi9;simp only[EE,nth,hc];rw[hB,Xm hall];rfl
theorem zhE{lo:yE}{H:za}{b1:Nat}{vs:List aaa}(RP:Rd lo (wR · p))(s:Sat lo H [pt b1 (.cells p.row 25)]){B:Bool}(hB:B=(p.globals.all Fu&&p.funcs.all (AN p))):nI (pi b1) (xr B) vs H:=by
 have P:=RP.at s;have g1:=s.get;have gvn:=P.globals.kY;have gl:=λh'=>Ww P.globals 3 h';unfold nI;simp only[EE,↓xg,zo,w9,xZ,g1,gvn,gl]
 refine qQ (λn vs h'=>∃(i:Nat) (v0:aaa),i<=p.globals.length/\n=p.globals.length-i/\vs=[v0,pm (i:Nat)]/\(∀k,k<i->Lh p.globals Fu k=true)/\Sat lo h' [pt b1 (.cells p.row 25)])
  p.globals.length ⟨0,nth vs 0,aaX _,rfl,rfl,λk hk=>by omega,s⟩ ?_
 rintro n vs h' ⟨i,v0,hi,rfl,rfl,hall,s⟩;unfold FT;by_cases hc:(i:Int)<(p.globals.length:Int)
 ·obtain⟨z,hz,hzm⟩:=get_some (l:=p.globals) (k:=i) (by omega);obtain⟨bi,oi,ci,ti,ha,hbi,hgi,hat⟩:=Jo (RP.at s).globals hz;have no:Fu z=false->B=false:=λe=>by rw[hB,U1 hz e];rfl
  by_cases z0:z<0
  ·simp only[EE,nth,↓xg,zo,lK,lL,lM,hc,ha,hgi,hat,z0];rw[no (by unfold Fu;simp[z0])];rfl
  by_cases z1:z>65536
  ·simp only[EE,nth,↓xg,zo,lK,lL,lM,hc,ha,hgi,hat,z0,z1];rw[no (by have z1:65536<z:=z1;unfold Fu;simp[z1])];rfl
  simp only[EE,nth,↓xg,zo,lK,lL,lM,FR,hc,ha,hgi,hat,z0,z1,inc (show i<4611686018427387904 by have:=P.LJ;omega)]
  exact⟨p.globals.length-(i+1),by omega,i+1,_,by omega,rfl,rfl,λk hk=>(by
   by_cases q:k=i
   ·subst q;rw[J4 hz];have z1:¬65536<z:=z1;unfold Fu;simp[z0,z1]
   ·exact hall k (by omega)),s⟩
 ·have hi9:i=p.globals.length:=by omega
  subst hi9;simp only[EE,nth,hc];exact zhD RP s (by rw[hB,Xm hall];rfl)
theorem iY{h:za}(P:wR h p):xC pu 17 [p.val] h (.bool (Yx p)):=by
 apply yB;replace P:=P.lock;generalize h.lock=L at P;apply YG;intro wf;apply O0;unfold R9;have s0:Sat (.of L) L []:=Sat.self wf.2;have RP:Rd (.of L) (wR · p):=Rd.of (yE.uf L) P λh' o=>P.old o;have gvn:=P.globals.kY;have fvn:=P.funcs.kY;have fl:=λh'=>Z6 P.funcs 3 h';have gl:=λh'=>Ww P.globals 3 h';simp only[EE,Value.cells];refine w8 s0 λb1 h2 s2=>?_;have g1:=s2.get;have no:qO p=false->Yx p=false:=λe=>by unfold Yx;rw[e];rfl
 by_cases c1:p.main<0
 ·simp only[EE,zo,jR,X5,X6,X7,X8,X9,Wa,Wb,Wc,Wd,We,Wf,g1,c1];rw[no (by unfold qO;simp[c1])];rfl
 by_cases c2:p.main ≥ (p.funcs.length:Int)
 ·simp only[EE,zo,vZ,yZ,jR,X5,X6,X7,X8,X9,Wa,Wb,Wc,Wd,We,Wf,g1,fvn,fl,c1,c2];rw[no (by have c2:(p.funcs.length:Int)<=p.main:=c2;unfold qO;simp[c2])];rfl
 by_cases c3:(p.funcs.length:Int)>100
 ·simp only[EE,zo,vZ,yZ,jR,X5,X6,X7,X8,X9,Wa,Wb,Wc,Wd,We,Wf,g1,fvn,fl,c1,c2,c3];rw[no (by have c3:(100:Int)<p.funcs.length:=c3;unfold qO;simp[c3])];rfl
 by_cases c4:(p.globals.length:Int)>200
 ·simp only[EE,zo,w9,vZ,xZ,yZ,jR,X5,X6,X7,X8,X9,Wa,Wb,Wc,Wd,We,Wf,g1,fvn,fl,gvn,gl,c1,c2,c3,c4];rw[no (by have c4:(200:Int)<p.globals.length:=c4;unfold qO;simp[c4])];rfl
 by_cases c5:p.params<0
 ·simp only[EE,zo,w9,vZ,xZ,yZ,jR,ku,X5,X6,X7,X8,X9,Wa,Wb,Wc,Wd,We,Wf,g1,fvn,fl,gvn,gl,c1,c2,c3,c4,c5];rw[no (by unfold qO;simp[c5])];rfl
 by_cases c6:p.params>6
 ·simp only[EE,zo,w9,vZ,xZ,yZ,jR,ku,X5,X6,X7,X8,X9,Wa,Wb,Wc,Wd,We,Wf,g1,fvn,fl,gvn,gl,c1,c2,c3,c4,c5,c6];rw[no (by have c6:6<p.params:=c6;unfold qO;simp[c6])];rfl
 simp only[EE,zo,w9,vZ,xZ,yZ,jR,ku,X5,X6,X7,X8,X9,Wa,Wb,Wc,Wd,We,Wf,g1,fvn,fl,gvn,gl,c1,c2,c3,c4,c5,c6];refine zhE RP s2 ?_
 have hs:qO p=true:=by
  have c2:¬(p.funcs.length:Int)<=p.main:=c2;have c3:¬(100:Int)<p.funcs.length:=c3;have c4:¬(200:Int)<p.globals.length:=c4;have c6:¬6<p.params:=c6;unfold qO;simp[c1,c2,c3,c4,c5,c6]
 unfold Yx;rw[hs];rfl
end
open Go.Rtl (wD yM)
def DO(l:List V):List aaa:=((List.range 16).map λi=>(l.getD i v0).ke).flatten
def vz(p:Pg)(lv:aaa)(mb wb:Nat)(S:St)(ev lk gl cl:aaa)(lim:Int):List aaa :=
 [p.gv,p.fv,pm p.main,pm p.params,lv,xG mb,xG wb,pm S.kind,pm S.exit,ev,lk,pm S.steps,gl,cl]++(DO S.jb++[.bool S.flags,pm S.a.k,pm S.a.n,pm S.a.b,pm S.b.k,pm S.b.n,pm S.b.b,pm S.stack,pm lim,pm S.jU])
section
variable {p:Pg}{lv:aaa}{mb wb:Nat}{S:St}{ev lk gl cl:aaa}{lim:Int}
theorem ug:(vz p lv mb wb S ev lk gl cl lim).length=72:=by kernel_rfl
theorem nc{n:Nat}:(n<=(vz p lv mb wb S ev lk gl cl lim).length)=(n<=72):=by rw[ug]
theorem zhS:(vz p lv mb wb S ev lk gl cl lim)[1]? = some p.fv:=by kernel_rfl
theorem zhT:(vz p lv mb wb S ev lk gl cl lim)[2]? = some (pm p.main):=by kernel_rfl
theorem ze6:(vz p lv mb wb S ev lk gl cl lim)[4]? = some lv:=by kernel_rfl
theorem Rk:(vz p lv mb wb S ev lk gl cl lim)[5]? = some (xG mb):=by kernel_rfl
theorem zhU:(vz p lv mb wb S ev lk gl cl lim)[6]? = some (xG wb):=by kernel_rfl
theorem zg6:(vz p lv mb wb S ev lk gl cl lim)[7]? = some (pm S.kind):=by kernel_rfl
theorem zhV:(vz p lv mb wb S ev lk gl cl lim)[9]? = some ev:=by kernel_rfl
theorem zg5:(vz p lv mb wb S ev lk gl cl lim)[10]? = some lk:=by kernel_rfl
theorem zdt:(vz p lv mb wb S ev lk gl cl lim)[11]? = some (pm S.steps):=by kernel_rfl
theorem zdu:(vz p lv mb wb S ev lk gl cl lim)[12]? = some gl:=by kernel_rfl
theorem Ot:(vz p lv mb wb S ev lk gl cl lim)[13]? = some cl:=by kernel_rfl
theorem Ou:(vz p lv mb wb S ev lk gl cl lim)[62]? = some (.bool S.flags):=by kernel_rfl
theorem H5:(vz p lv mb wb S ev lk gl cl lim)[69]? = some (pm S.stack):=by kernel_rfl
theorem zdx:(vz p lv mb wb S ev lk gl cl lim)[70]? = some (pm lim):=by kernel_rfl
theorem zdy:(vz p lv mb wb S ev lk gl cl lim)[71]? = some (pm S.jU):=by kernel_rfl
theorem zdv:((vz p lv mb wb S ev lk gl cl lim).drop 63).take 3=[pm S.a.k,pm S.a.n,pm S.a.b]:=by kernel_rfl
theorem zdw:((vz p lv mb wb S ev lk gl cl lim).drop 66).take 3=[pm S.b.k,pm S.b.n,pm S.b.b]:=by kernel_rfl
theorem ze7:((vz p lv mb wb S ev lk gl cl lim).drop 7).take 5=[pm S.kind,pm S.exit,ev,lk,pm S.steps]:=by kernel_rfl
variable (k_:Int)(v_:aaa)(q_:V)(f_:Bool)
theorem zfd:zb (vz p lv mb wb S ev lk gl cl lim) 7 [pm k_]=vz p lv mb wb {S with kind:=k_} ev lk gl cl lim:=by kernel_rfl
theorem zhZ:zb (vz p lv mb wb S ev lk gl cl lim) 8 [pm k_]=vz p lv mb wb {S with exit:=k_} ev lk gl cl lim:=by kernel_rfl
theorem zhb:zb (vz p lv mb wb S ev lk gl cl lim) 11 [pm k_]=vz p lv mb wb {S with steps:=k_} ev lk gl cl lim:=by kernel_rfl
theorem Oz:zb (vz p lv mb wb S ev lk gl cl lim) 62 [.bool f_]=vz p lv mb wb {S with flags:=f_} ev lk gl cl lim:=by kernel_rfl
theorem zaV:zb (vz p lv mb wb S ev lk gl cl lim) 69 [pm k_]=vz p lv mb wb {S with stack:=k_} ev lk gl cl lim:=by kernel_rfl
theorem zhf:zb (vz p lv mb wb S ev lk gl cl lim) 71 [pm k_]=vz p lv mb wb {S with jU:=k_} ev lk gl cl lim:=by kernel_rfl
theorem zhd:zb (vz p lv mb wb S ev lk gl cl lim) 63 q_.ke=vz p lv mb wb {S with a:=q_} ev lk gl cl lim:=by kernel_rfl
theorem zhe:zb (vz p lv mb wb S ev lk gl cl lim) 66 q_.ke=vz p lv mb wb {S with b:=q_} ev lk gl cl lim:=by kernel_rfl
theorem zhY:zb (vz p lv mb wb S ev lk gl cl lim) 4 [v_]=vz p v_ mb wb S ev lk gl cl lim:=by kernel_rfl
theorem zh0:zb (vz p lv mb wb S ev lk gl cl lim) 9 [v_]=vz p lv mb wb S v_ lk gl cl lim:=by kernel_rfl
theorem zha:zb (vz p lv mb wb S ev lk gl cl lim) 10 [v_]=vz p lv mb wb S ev v_ gl cl lim:=by kernel_rfl
theorem zhc:zb (vz p lv mb wb S ev lk gl cl lim) 12 [v_]=vz p lv mb wb S ev lk v_ cl lim:=by kernel_rfl
theorem zdC:zb (vz p lv mb wb S ev lk gl cl lim) 13 [v_]=vz p lv mb wb S ev lk gl v_ lim:=by kernel_rfl
theorem pf(l:List V):∀r,r∈(List.range 16).map (λi=>(l.getD i v0).ke)->r.length=3:=uF (f:=λi=>(l.getD i v0).ke) (λ_=>rfl) _
theorem dR{l:List V}{r:Int}(h0:0<=r):EM l r=l.getD r.toNat v0:=by unfold EM;rw[aae (by omega)]
theorem Z9{r:Int}(h0:0<=r)(h1:r<16):((vz p lv mb wb S ev lk gl cl lim).drop (14+r.toNat*3)).take 3=[pm (zj S r).k,pm (zj S r).n,pm (zj S r).b]:=by
 have hr:((List.range 16).map λi=>(S.jb.getD i v0).ke)[r.toNat]? = some ((S.jb.getD r.toNat v0).ke):=by
  rw[aau,List.getElem?_range (by omega)];rfl
 obtain⟨a,b⟩:=wD (pf S.jb) hr;have hl:(DO S.jb).length=48:=by kernel_rfl
 have e:∀(X Y:List aaa),X.length=14->(X++Y).drop (14+r.toNat*3)=Y.drop (r.toNat*3):=λX Y hX=>by
  rw[List.drop_append,hX,List.drop_of_length_le (by omega),ack,Nat.add_sub_cancel_left]
 unfold vz;rw[e _ _ rfl,List.drop_append_of_le_length (by omega),List.take_append_of_le_length (by rw[ace,hl];omega)];show(((List.range 16).map λi=>(S.jb.getD i v0).ke).flatten.drop (r.toNat*3)).take 3=_;rw[b];unfold zj;rw[dR h0];rfl
theorem Ya{r:Int}(h1:r<16):(14+r.toNat*3+3<=(vz p lv mb wb S ev lk gl cl lim).length)=True:=by
 rw[ug];simp;omega
theorem BF{r:Int}(h0:0<=r)(h1:r<16)(hl:S.jb.length=16)(v:V):zb (vz p lv mb wb S ev lk gl cl lim) (14+r.toNat*3) v.ke=vz p lv mb wb (xt S r v) ev lk gl cl lim:=by
 obtain⟨n,rfl⟩:∃n:Nat,r=n:=⟨r.toNat,by omega⟩;have hn:n<16:=by omega
 obtain⟨mem,used,kind,exit,e,l,steps,g,calls,jb,flags,a,b,stack,jU⟩:=S
 match jb,hl with
 |[x0,x1,x2,x3,x4,x5,x6,x7,x8,x9,x10,x11,x12,x13,x14,x15],_=>
  match n,hn with
  |0,_=>rfl
  |1,_=>rfl
  |2,_=>rfl
  |3,_=>rfl
  |4,_=>rfl
  |5,_=>rfl
  |6,_=>rfl
  |7,_=>rfl
  |8,_=>rfl
  |9,_=>rfl
  |10,_=>rfl
  |11,_=>rfl
  |12,_=>rfl
  |13,_=>rfl
  |14,_=>rfl
  |15,_=>rfl
end
section
variable {lo:yE}{h:za}{L:List HP}{ty:TypeId}{n:Nat}{sv:aaa}{rows:List (List aaa)}
theorem Jz(s:Sat lo h (w7 ty n sv rows::L))(hn:∀r,r∈rows->r.length=n){i:Nat}{row:List aaa}(hr:rows[i]? = some row) :
  ∃q c cs,sv=.slice (some ⟨q,0,none⟩) rows.length c/\h.get q=some (.cells cs ty)/\h.ro<=q/\q<h.next/\i*n+n<=cs.length/\(cs.drop (i*n)).take n=row/\(∀k,k<n->cs[i*n+k]? = row[k]?) /\ ∀j vs,j+vs.length<=n->Sat lo (h.set q (some (.cells (zb cs (i*n+j) vs) ty))) (w7 ty n sv (rows.set i (zb row j vs))::L):=by
 have hi:i<rows.length:=by
  rcases aax i rows.length with a|a
  ·exact a
  ·rw[aak a]at hr;cases hr
 have hrl:=hn row (aaA hr);have R:=ua s hn;obtain⟨b',o,c',t',⟨off,cp,e1,rfl⟩,_,hb,hg,hl,ht,hk⟩:=R.spot hr hrl;obtain⟨q,c,cs,e2,gq,wq,lq,s2⟩:=aZ s hn hi;rw[e1]at e2;simp only[abu,aab,abJ,aba,ab1]at e2;obtain⟨⟨rfl,rfl⟩,rfl⟩:=e2;rw[gq]at hg;simp only[aab,wQ.cells.injEq]at hg;obtain⟨rfl,rfl⟩:=hg;rw[aay]at ht hl;simp only[aay]at hk;refine⟨b',cp,cs,e1,gq,wq,hb,lq,ht,hk,λj vs hj=>?_⟩
 have e:zb cs (i*n+j) vs=zb cs (i*n) (zb row j vs):=by
  apply abw;intro x;rw[Us (zb row j vs) cs (i*n) x (by rw[Zq,hrl];exact lq),Zq,hrl,Us vs cs _ x (by omega)];by_cases hx:i*n<=x/\x<i*n+n
  ·rw[aai hx,Us vs row j _ (by omega)];by_cases hxj:i*n+j<=x/\x<i*n+j+vs.length
   ·rw[aai hxj,aai (by omega)];congr 1;omega
   ·rw[aae hxj,aae (by omega),<- hk (x-i*n) (by omega)];congr 1;omega
  ·rw[aae hx,aae (by omega)]
 rw[e];exact s2 _ (by rw[Zq];exact hrl)
theorem Bo{q i j:Nat}{cs row vs:List aaa}{K:za->Prop}(gq:h.get q=some (.cells cs ty))(wq:h.ro<=q)(lq:i*n+n<=cs.length)(s3:∀j vs,j+vs.length<=n->Sat lo (h.set q (some (.cells (zb cs (i*n+j) vs) ty))) (w7 ty n sv (rows.set i (zb row j vs))::L))(hj:j+vs.length<=n)(hc:vs.all wI=true)
  (k:∀h',Sat lo h' (w7 ty n sv (rows.set i (zb row j vs))::L)->K h'):opt (xw h q (i*n+j) vs) K:=by
 rw[Fo gq,aai ⟨by omega,wq,hc⟩];exact k _ (s3 j vs hj)
end
def yX(c:Fr):List aaa:=[pm (c.f:Nat),pm c.pt,pm c.qX,pm c.size,pm c.KC.k,pm c.KC.n,pm c.KC.b]
def xH(p:Pg)(lv:aaa)(mb wb:Nat)(S:St)(ev lk gl cl:aaa)(lim:Int):wQ := .cells (vz p lv mb wb S ev lk gl cl lim) 108
theorem mx(a b:Int)(r:TypeId)(h:za):zP pu .max [3,3] r [pm a,pm b] h=some (pm (max a b),h):=by
 have e0:yk pu (Builtin.max_ #[3,3] r #[pm a,pm b])=some (pm (if b>a then b else a)):=rfl;have e:(if b>a then b else a)=max a b:=by split <;> omega
 rw[e]at e0;show(cond (List.all [Value.int .i64 a,pm b] flat) ((fl (yk pu (Builtin.max_ #[3,3] r #[pm a,pm b]))).map λv=>(v,h)) none)=_;rw[e0];rfl
section
variable {lo:yE}{h:za}{b mb wb:Nat}{p:Pg}{S:St}{lv ev lk gl cl:aaa}{lim:Int}
theorem EX(s:Sat lo h [pt b (xH p lv mb wb S ev lk gl cl lim),w7 80 3 lk (S.lk.map vQ)])(hb:(S.lk.length+1)*24<=2^47)(k_ a c:Int) :
  DC pu 92 [xG b,pm k_,pm a,pm c] h (λ_ h'=>∃lk',Sat lo h' [pt b (xH p lv mb wb (yH S k_ a c) ev lk' gl cl lim),w7 80 3 lk' ((yH S k_ a c).lk.map vQ)]):=by
 apply oh;unfold tV xG;have gm:=s.get;unfold xH at gm;have n0:=wL (s.p 1);have s1:=s.push (.cells [pm k_,pm a,pm c] 80);obtain⟨b',c',h2,a1,s2⟩:=YD (s1.p 2) (uF (f:=vQ) (λ_=>rfl) _) [pm k_,pm a,pm c] rfl (by decide) 24 (by rw[aav];exact hb);rw[aav]at a1 s2
 have ha:∀r,zP pu .append [31,31] r [lk,.slice (some ⟨h.next,0,none⟩) 1 3] (h.push (.cells [pm k_,pm a,pm c] 80))=some (.slice (some ⟨b',0,none⟩) (S.lk.length+1) c',h2):=λr=>by
  rw[zcU r _ _ 1 [pm k_,pm a,pm c] _ rfl (by simp only[vW,zv];rfl) rfl rfl];exact a1
 simp only[EE,Nat.reduceAdd,zo,GQ,zcW,pW,Dh,Yf,mI,gm,zg5,n0,ha];refine z9 (s2.p 2) (by simp[ug]) rfl λh3 s3=>?_;rw[zha]at s3;simp only[KD];refine⟨.slice (some ⟨b',0,none⟩) (S.lk.length+1) c',?_⟩;have e1:((yH S k_ a c).lk.map vQ)=S.lk.map vQ++[[pm k_,pm a,pm c]]:=by simp[yH,vQ]
 rw[e1];exact s3.k [0,1]
theorem NR(s:Sat lo h [pt b (xH p lv mb wb S ev lk gl cl lim),w7 85 2 ev (S.ev.map qG)])(hb:(S.ev.length+1)*16<=2^47)(k_ a:Int) :
  DC pu 96 [xG b,pm k_,pm a] h (λ_ h'=>∃ev',Sat lo h' [pt b (xH p lv mb wb (wS S k_ a) ev' lk gl cl lim),w7 85 2 ev' ((wS S k_ a).ev.map qG)]):=by
 apply IS;unfold M7 xG;have gm:=s.get;unfold xH at gm;have n0:=wL (s.p 1);have s1:=s.push (.cells [pm k_,pm a] 85);obtain⟨b',c',h2,a1,s2⟩:=YD (s1.p 2) (uF (f:=qG) (λ_=>rfl) _) [pm k_,pm a] rfl (by decide) 16 (by rw[aav];exact hb);rw[aav]at a1 s2
 have ha:∀r,zP pu .append [30,30] r [ev,.slice (some ⟨h.next,0,none⟩) 1 3] (h.push (.cells [pm k_,pm a] 85))=some (.slice (some ⟨b',0,none⟩) (S.ev.length+1) c',h2):=λr=>by
  rw[zcT r _ _ 1 [pm k_,pm a] _ rfl (by simp only[vW,zv];rfl) rfl rfl];exact a1
 simp only[EE,Nat.reduceAdd,zo,Np,S8,oF,oG,Yf,rT,gm,zhV,n0,ha];refine z9 (s2.p 2) (by simp[ug]) rfl λh3 s3=>?_;rw[zh0]at s3;simp only[KD];refine⟨.slice (some ⟨b',0,none⟩) (S.ev.length+1) c',?_⟩;have e1:((wS S k_ a).ev.map qG)=S.ev.map qG++[[pm k_,pm a]]:=by simp[wS,qG]
 rw[e1];exact s3.k [0,1]
structure OQ (lim:Int) (S:St):Prop where
 l0:0<=lim
 l1:lim<4294967296
 s0 : -4611686018427387904<=S.stack
 s1:S.stack<4294967296
theorem TX{L:List HP}(s:Sat lo h (pt b (xH p lv mb wb S ev lk gl cl lim)::L))(hs:OQ lim S){n:Int}(n0:0<=n)(n1:n<4294967296) :
  DC pu 84 [xG b,pm n] h (λv h'=>v=.bool (zY lim S n).2/\Sat lo h' (pt b (xH p lv mb wb (zY lim S n).1 ev lk gl cl lim)::L)):=by
 apply oc;unfold tT xG;have gm:=s.get;unfold xH at gm;obtain⟨l0,l1,q0,q1⟩:=hs;have w1:IntKind.wrap .i64 (lim-S.stack)=lim-S.stack:=Go.Mem.vF (by omega) (by omega);by_cases hc:n>lim-S.stack
 ·simp only[EE,zo,Jr,Dq,Yf,kx,cY,gm,H5,zdx,w1,hc];refine z9 s (by simp[ug]) rfl λh3 s3=>?_;rw[zfd]at s3;simp only[EE];have e:zY lim S n=({S with kind:=4},false):=by unfold zY;rw[aai hc]
  rw[e];exact⟨rfl,s3⟩
 ·have w2:IntKind.wrap .i64 (S.stack+n)=S.stack+n:=Go.Mem.vF (by omega) (by omega);simp only[EE,zo,Jr,Dq,cZ,gm,H5,zdx,w1,w2,hc];refine z9 s (by simp[ug]) rfl λh3 s3=>?_;rw[zaV]at s3;have g3:=s3.get;simp only[EE,zo,Jr,Dr,g3,H5,zdy,mx];refine z9 s3 (by simp[ug]) rfl λh4 s4=>?_;rw[zhf]at s4;simp only[EE];have e:zY lim S n=({S with stack:=S.stack+n,jU:=max S.jU (S.stack+n)},true):=by unfold zY;rw[aae hc]
  rw[e];exact⟨rfl,s4⟩
end
theorem Z4(l:List Fr):∀r,r∈l.map yX->r.length=7:=uF (f:=yX) (λ_=>rfl) l
section
variable {lo:yE}{h:za}{L:List HP}{b mb wb:Nat}{p:Pg}{S:St}{lv ev lk gl cl:aaa}{lim:Int}
theorem NP(s:Sat lo h [pt b (xH p lv mb wb S ev lk gl cl lim),w7 134 7 cl (S.calls.map yX)])(hs:OQ lim S)(hc:(S.calls.length+1)*56<=2^47)(f:Nat) :
  DC pu 65 [xG b,pm (f:Nat)] h (λ_ h'=>∃cl',Sat lo h' [pt b (xH p lv mb wb (ye lim S f) ev lk gl cl' lim),w7 134 7 cl' ((ye lim S f).calls.map yX)]):=by
 apply iM;unfold lT xG;refine dM (TX s hs (n:=8) (by decide) (by decide)) ?_;rintro v h2 ⟨rfl,s2⟩;have en:(zY lim S 8).1.calls=S.calls:=by unfold zY;split <;> rfl
 cases hg:(zY lim S 8).2 with
 |false=>
  simp only[EE,KD];have e:ye lim S f=(zY lim S 8).1:=by unfold ye;rw[hg];rfl
  rw[e,en];exact⟨cl,s2⟩
 |true=>
  have e:ye lim S f = { (zY lim S 8).1 with calls:=S.calls++[⟨f,0,0,0,v0⟩]}:=by unfold ye;rw[hg,aai rfl,en]
  have gm:=s2.get;unfold xH at gm;have n0:=wL (s2.p 1);have s3:=s2.push (.cells (yX ⟨f,0,0,0,v0⟩) 134);obtain⟨b',c',h4,a1,s4⟩:=YD (s3.p 2) (Z4 _) (yX ⟨f,0,0,0,v0⟩) rfl (by decide) 56 (by rw[aav];exact hc);rw[aav]at a1 s4
  have ha:∀r,zP pu .append [106,106] r [cl,.slice (some ⟨h2.next,0,none⟩) 1 3] (h2.push (.cells [pm (f:Nat),pm 0,pm 0,pm 0,pm 0,pm 0,pm 0] 134))=some (.slice (some ⟨b',0,none⟩) (S.calls.length+1) c',h4):=λr=>by
   rw[zdS r _ _ 1 (yX ⟨f,0,0,0,v0⟩) _ rfl (by simp only[vW,zv];rfl) rfl rfl];exact a1
  simp only[EE,zo,En,S5,Tf,Lo,mE,K5,gm,Ot,n0,ha];refine z9 (s4.p 2) (by simp[ug]) rfl λh5 s5=>?_;rw[zdC]at s5;simp only[KD];refine⟨.slice (some ⟨b',0,none⟩) (S.calls.length+1) c',?_⟩;have e1:(ye lim S f).calls.map yX=S.calls.map yX++[yX ⟨f,0,0,0,v0⟩]:=by rw[e];simp
  rw[e1,e];exact s5.k [0,1]
theorem Fc{to:Int}(h0:0<=to)(h1:to<16)(hl:S.jb.length=16)(o:Option V):zb (vz p lv mb wb S ev lk gl cl lim) (14+to.toNat*3) [pm (o.getD v0).k,pm (o.getD v0).n,pm (o.getD v0).b]=vz p lv mb wb (xV S to o).1 ev lk gl cl lim:=BF h0 h1 hl (o.getD v0)
theorem pX(s:Sat lo h (pt b (xH p lv mb wb S ev lk gl cl lim)::L))(hl:S.jb.length=16){to:Int}(h0:0<=to)(h1:to<16)(op:Int)(a c:V) :
  DC pu 86 [xG b,pm op,pm to,vv a,vv c] h (λv h'=>v=.bool (xV S to (zH op a c)).2/\Sat lo h' (pt b (xH p lv mb wb (xV S to (zH op a c)).1 ev lk gl cl lim)::L)):=by
 apply Si;unfold zcN xG;simp only[EE,Value.cells];refine w8 s λb1 h2 s2=>?_;simp only[EE,zN];refine w8 s2 λb2 h3 s3=>?_;have g1:=(s3.p 1).get;have g2:=s3.get;simp only[EE,Nat.reduceAdd,zN,g1,g2];refine xU (Tk op a c _) ?_;rw[yx];simp only[EE,Value.cells,M3];refine w8 s3 λb3 h4 s4=>?_;simp only[EE,Nat.reduceAdd];refine z9 s4 (by simp) rfl λh5 s5=>?_;have g3:=s5.get;have gm:=(s5.p 3).get;unfold xH at gm;simp only[EE,zb,Nat.reduceAdd,zN,xQ,xW,g3,h0,h1];refine z9 (s5.p 3) (by rw[ug];simp;omega) rfl λh6 s6=>?_;rw[Fc h0 h1 hl]at s6;simp only[EE];exact⟨rfl,((((s6.p 1).drop.p 1).drop).p 1).drop⟩
theorem zhm(s:Sat lo h (pt b (xH p lv mb wb S ev lk gl cl lim)::L))(hl:S.jb.length=16){to:Int}(h0:0<=to)(h1:to<16)(op:Int)(a:V) :
  DC pu 88 [xG b,pm op,pm to,vv a] h (λv h'=>v=.bool (xV S to (bO op a)).2/\Sat lo h' (pt b (xH p lv mb wb (xV S to (bO op a)).1 ev lk gl cl lim)::L)):=by
 apply zbp;unfold zfT xG;simp only[EE,Value.cells];refine w8 s λb1 h2 s2=>?_;have g1:=s2.get;simp only[EE,Nat.reduceAdd,zN,g1];refine xU (zh1 op a _) ?_;rw[yx];simp only[EE,Value.cells,Su];refine w8 s2 λb3 h4 s4=>?_;simp only[EE,Nat.reduceAdd];refine z9 s4 (by simp) rfl λh5 s5=>?_;have g3:=s5.get;have gm:=(s5.p 2).get;unfold xH at gm;simp only[EE,zb,Nat.reduceAdd,zN,xQ,xW,g3,h0,h1];refine z9 (s5.p 2) (by rw[ug];simp;omega) rfl λh6 s6=>?_;rw[Fc h0 h1 hl]at s6;simp only[EE];exact⟨rfl,((s6.p 1).drop.p 1).drop⟩
end
theorem za0(a:V)(h:za):xC pu 89 [vv a] h (vv (Zs a)):=by
 apply vC rfl;apply Pe;unfold Sr;have s0:Sat ⟨λ_=>none,h.lock.ro⟩ h.lock []:=⟨rfl,aam _,λb x e=>by cases e⟩;simp only[EE,Value.cells];refine w8 s0 λb1 h2 s2=>?_;simp only[EE,zo];refine w8 s2 λb2 h3 s3=>?_;have g1:=(s3.p 1).get;simp only[EE,Int.reduceLE,Int.reduceToNat,g1];rw[show min 63 IntKind.i64.bits=63 from rfl];refine xU (Xo _ h3) ?_;simp only[EE,Nat.reduceAdd];refine z9 s3 (by simp) rfl λh4 s4=>?_;have g4:=s4.get;simp only[EE,zb,Nat.reduceAdd,zN,g4];rfl
theorem zfu(n:Int):wH (Go.Rm.vF n):=by
 unfold Go.Rm.vF wH;simp only[IntKind.wrap,IntKind.bits,IntKind.signed]
 constructor <;> simp <;> omega
theorem JZ{a q:V}{k:Int}(ha:vb a)(h:zH 11 a (wB k)=some q)(h2:q.k=2):q.ok:=by
 have hb:=eC ha (bP k) h;have hi:isInt (wB k)=true:=rfl;have hp:wX (wB k)=false:=rfl
 have hn:wH q.n:=by
  unfold zH at h;rw[hi,hp]at h;cases h1:isInt a with
  |true=>
   rw[h1]at h;have h:some (wB (Go.Rm.vF (a.n+(wB k).n)))=some q:=h;cases h;cases h2
  |false=>
   rw[h1]at h;cases h3:wX a with
   |true=>
    rw[h3]at h;have h:some (iQ a.b (Go.Rm.vF (a.n+(wB k).n)))=some q:=h;cases h;unfold iQ;split
    ·exact XY
    ·exact zfu _
   |false=>
    rw[h3]at h;have h:(none:Option V)=some q:=h;cases h
 exact⟨by rw[h2];exact⟨by decide,by decide⟩,hn,hb⟩
section
variable {lo:yE}{h:za}{L:List HP}{b mb wb:Nat}{p:Pg}{S:St}{lv ev lk gl cl:aaa}{lim:Int}{i:xY}
theorem GL(s:Sat lo h [pt b (xH p lv mb wb S ev lk gl cl lim),w7 80 3 lk (S.lk.map vQ),WT mb S.mem])(hL:(S.lk.length+1)*24<=2^47)(hl:S.jb.length=16)(hv:∀r,vb (zj S r))(hs:small S.mem)(hsub:wH i.sub)(m0:0<=i.m)(m1:i.m<16)(r0:0<=i.r)(r1:i.r<16) :
  DC pu 85 [xG b,i.val] h (λv h'=>v=.bool (yb S i).2 /\ ∃lk',Sat lo h' [pt b (xH p lv mb wb (yb S i).1 ev lk' gl cl lim),w7 80 3 lk' ((yb S i).1.lk.map vQ),WT mb (yb S i).1.mem]):=by
 apply YG;intro wf;apply cS;unfold cR xG;simp only[EE,Value.cells];refine Ok s wf λb1 h2 wf2 s2=>?_;have g1:=s2.get;have gm:=(s2.p 1).get;unfold xH at gm;simp only[EE,zN,zo,xQ,y5,zX,xW,g1,gm,m0,m1,Ya m1,Z9 m0 m1];refine JC (Xo i.k _) ?_;refine JC (Tk 11 (zj S i.m) (wB i.k) _) ?_;rw[yx];simp only[EE,Value.cells,Qu];cases hb:zH 11 (zj S i.m) (wB i.k) with
 |none=>
  have e:yb S i=(S,false):=by unfold yb;rw[hb]
  rw[e];simp only[Option.getD_none,v0];refine w8 s2 λb3 h3 s3=>?_;simp only[EE,Nat.reduceAdd];refine z9 s3 (by simp) rfl λh4 s4=>?_;simp only[EE,ZR,abB];exact⟨lk,s4.k [2,3,4]⟩
 |some q=>
  simp only[abH];refine Ok s2 wf2 λb3 h3 wf3 s3=>?_;simp only[EE,Nat.reduceAdd];refine z9 s3 (by simp) rfl λh4 s4=>?_;have g4:=s4.get;by_cases hk:q.k=2
  ·have hq:=JZ (hv i.m) hb hk;simp only[EE,zb,Nat.reduceAdd,zo,Qt,ZR,aa1,g4,hk];obtain⟨lo1,l1,s5,fr⟩:=(s4.f [2,3]).call (L2:=[pt b (xH p lv mb wb S ev lk gl cl lim),w7 80 3 lk (S.lk.map vQ)]);refine dM ((EX s5 hL 2 q.b q.n).zgQ λv h' x w=>And.intro x w) ?_;rintro v h5 ⟨⟨lk',s6⟩,wf5⟩;have s7:=fr _ _ s6;have g3:=(s7.p 2).get;have g1:=(s7.p 3).get;have gm:=s7.get;unfold xH at gm;by_cases h4:i.op=4
   ·have e1:kd S.mem i.sub q (zj S i.r)=none->yb S i=(yH S 2 q.b q.n,false):=λz=>by unfold yb;rw[hb];simp only[aai hk,aai h4,z]
    have e2:∀M,kd S.mem i.sub q (zj S i.r)=some M->yb S i=({yH S 2 q.b q.n with mem:=M},true):=λM z=>by unfold yb;rw[hb];simp only[aai hk,aai h4,z]
    simp only[EE,zN,zo,ou,Js,zf,zB,Qq,XO,g1,h4];simp only[EE,zb,Nat.reduceAdd,zN,zo,xQ,yQ,xW,g1,g3,gm,Rk,r0,r1,Ya r1,Z9 r0 r1];obtain⟨lo2,l2,s8,fr2⟩:=(s7.f [4]).call (L2:=[WT mb S.mem]);refine BQ (zcu (v:=zj S i.r) s8 hs hsub hq) ?_;rintro v h6 ⟨rfl,s9⟩;have s10:=fr2 _ _ s9;simp only[EE];cases hst:kd S.mem i.sub q (zj S i.r) with
    |none=>rw[hst]at s10;rw[e1 hst];exact⟨rfl,lk',s10.k [1,2,0]⟩
    |some M=>rw[hst]at s10;rw[e2 M hst];exact⟨rfl,lk',s10.k [1,2,0]⟩
   ·have e0:yb S i=xV (yH S 2 q.b q.n) i.r (Wx S.mem i.sub q):=(by unfold yb;rw[hb];simp only[aai hk,aae h4]);simp only[EE,zN,zo,ou,Js,zf,yQ,zB,Qs,XO,g1,h4];simp only[EE,zb,Nat.reduceAdd,g3,gm,Rk];refine Ez (by kernel_rfl) rfl wf5 (s7.f [4]) (zeD (s7.f [4]) hs hsub hq) ?_;rintro v h6 ⟨rfl,s8⟩ back _;have s9:=back _ s8;clear back;rw[ack]at s9;have gm:=(s9.p 1).get;unfold xH at gm;rw[yx];simp only[EE,Nat.reduceAdd,xQ,xW,Qr,r0,r1];refine z9 (s9.p 1) (by rw[ug];simp;omega) rfl λh7 s10=>?_;rw[Fc r0 r1 (S:=yH S 2 q.b q.n) hl]at s10;simp only[EE];rw[e0];exact⟨rfl,lk',s10.k [0,2,1]⟩
  ·have e:yb S i=(S,false):=by unfold yb;rw[hb];simp only[aae hk]
   rw[e];simp only[EE,zb,Nat.reduceAdd,zo,ZR,aa1,g4,hk];exact⟨lk,s4.k [2,3,4]⟩
end
theorem Aq:Nat.beq (Tryz.prog.cellsOf 134) 7=true:=by kernel_rfl
theorem EA{c:Nat}(hc:c≠0):aC c 0=c:=by
 match c with
 |0=>exact absurd rfl hc
 |1=>rfl
 |k+2=>rfl
section
variable {lo:yE}{h:za}{L:List HP}{b mb wb:Nat}{p:Pg}{S:St}{lv ev lk gl cl:aaa}{lim:Int}{i:xY}{mv:V}
theorem Fa:((vz p lv mb wb S ev lk gl cl lim).drop 14).take 3=[pm (zj S 0).k,pm (zj S 0).n,pm (zj S 0).b]:=Z9 (r:=0) (by decide) (by decide)
theorem zcj:((vz p lv mb wb S ev lk gl cl lim).drop 20).take 3=[pm (zj S 2).k,pm (zj S 2).n,pm (zj S 2).b]:=Z9 (r:=2) (by decide) (by decide)
theorem zck:((vz p lv mb wb S ev lk gl cl lim).drop 26).take 3=[pm (zj S 4).k,pm (zj S 4).n,pm (zj S 4).b]:=Z9 (r:=4) (by decide) (by decide)
theorem zci:((vz p lv mb wb S ev lk gl cl lim).drop 17).take 3=[pm (zj S 1).k,pm (zj S 1).n,pm (zj S 1).b]:=Z9 (r:=1) (by decide) (by decide)
theorem Tw(s:Sat lo h [pt b (xH p lv mb wb S ev lk gl cl lim),w7 80 3 lk (S.lk.map vQ)])(hL:(S.lk.length+1)*24<=2^47)(hl:S.jb.length=16) :
  DC pu 90 [xG b,vv mv] h (λv h'=>v=.bool (qF S mv).2 /\ ∃lk',Sat lo h' [pt b (xH p lv mb wb (qF S mv).1 ev lk' gl cl lim),w7 80 3 lk' ((qF S mv).1.lk.map vQ)]):=by
 apply cU;unfold cT xG;simp only[EE,Value.cells,seval,zN,xQ,xW];refine w8 s λb1 h2 s2=>?_;have gm:=(s2.p 1).get;unfold xH at gm;simp only[EE,Nat.reduceLeDiff,gm,nc,Fa];refine w8 s2 λb2 h3 s3=>?_;simp only[EE,Nat.reduceAdd];refine z9 s3 (by simp) rfl λh4 s4=>?_;have g2:=s4.get;have g1:=(s4.p 1).get;by_cases k1:(zj S 0).k=1
 ·by_cases k2:mv.k=1
  ·simp only[EE,zb,Nat.reduceAdd,zo,Qy,XS,g1,g2,k1,k2];obtain⟨lo1,l1,s5,fr⟩:=(s4.f [2,3]).call (L2:=[pt b (xH p lv mb wb S ev lk gl cl lim),w7 80 3 lk (S.lk.map vQ)]);refine dM (EX s5 hL 3 (zj S 0).n mv.n) ?_;rintro v h5 ⟨lk',s6⟩;have s7:=fr _ _ s6;have gm:=s7.get;unfold xH at gm;have g2:=(s7.p 2).get;have g1:=(s7.p 3).get;have e2:zj (yH S 3 (zj S 0).n mv.n) 2=zj S 2:=rfl;simp only[EE,zb,seval,zN,xQ,xW,Vi,gm,g2,nc,zcj,e2,k1];have sq:=za0 (zj S 0) h5;unfold vv at sq;rw[k1]at sq;refine JC sq ?_;have hv:=veq (zj S 2) (Zs (zj S 0));by_cases c2:zj S 2=Zs (zj S 0)
   ·have hv:_=true:=hv.trans (abE c2);simp only[EE,zb,Nat.reduceAdd,zN,L3,Vh,XR,hv,g1,g2,k1,k2];have B1:=pX (to:=0) s7 hl (by decide) (by decide) 14 (zj S 0) mv;unfold vv at B1;rw[k1,k2]at B1;refine dM B1 ?_;rintro v h6 ⟨rfl,s8⟩;have g2:=(s8.p 2).get;have g1:=(s8.p 3).get;cases hr:(xV (yH S 3 (zj S 0).n mv.n) 0 (zH 14 (zj S 0) mv)).2 with
    |false=>
     have e:qF S mv=xV (yH S 3 (zj S 0).n mv.n) 0 (zH 14 (zj S 0) mv):=(by unfold qF;rw[aai ⟨k1,k2⟩,aai c2,aae (by rw[hr];simp)]);rw[e,hr];simp only[EE,Vf,Vg];exact⟨lk',s8.k [0,1]⟩
    |true=>
     have e:qF S mv=xV (xV (yH S 3 (zj S 0).n mv.n) 0 (zH 14 (zj S 0) mv)).1 2 (zH 15 (zj S 0) mv):=(by unfold qF;rw[aai ⟨k1,k2⟩,aai c2,aai hr]);rw[e];simp only[EE,zb,Nat.reduceAdd,zN,Vf,Vg,g1,g2];have B2:=pX (to:=2) s8 (by show(List.set _ _ _).length=16;rw[abd];exact hl) (by decide) (by decide) 15 (zj S 0) mv;unfold vv at B2;rw[k1,k2]at B2;refine dM B2 ?_;rintro v h7 ⟨rfl,s9⟩;simp only[EE];exact⟨lk',s9.k [0,1]⟩
   ·have hv:_=false:=hv.trans (abR c2);have e:qF S mv=(yH S 3 (zj S 0).n mv.n,false):=by unfold qF;rw[aai ⟨k1,k2⟩,aae c2]
    rw[e];simp only[EE,L3,XR,hv];exact⟨lk',s7.k [0,1]⟩
  ·have e:qF S mv=(S,false):=by unfold qF;rw[aae (λq=>k2 q.2)]
   rw[e];simp only[EE,zb,Nat.reduceAdd,zo,XS,g1,g2,k1,k2];exact⟨lk,s4.k [2,3]⟩
 ·have e:qF S mv=(S,false):=by unfold qF;rw[aae (λq=>k1 q.1)]
  rw[e];simp only[EE,zb,Nat.reduceAdd,zo,XS,g2,k1];exact⟨lk,s4.k [2,3]⟩
theorem oD{b c k:Nat}{h:za}{cs:List aaa}(hc:c≠0)(hg:h.get b=some (.cells cs 134)):B7 pu 106 (.slice (some ⟨b,0,none⟩) (k+1) c) none (some (pm (k:Nat))) h=some (.slice (some ⟨b,0,none⟩) k c):=by
 have h1:(0:Int)<=(k:Int)/\(k:Int)<=((k+1:Nat):Int):=by omega
 rw[zfi,Y3,aai h1,aaK,Kg,aaK,OI hg,Aq,aaB,EA hc];simp
theorem Fl{ty:TypeId}{n q k c:Nat}{rows:List (List aaa)}{row:List aaa}(hn:∀r,r∈rows++[row]->r.length=n)(hk:k=rows.length)(s:Sat lo h (w7 ty n (.slice (some ⟨q,0,none⟩) (k+1) c) (rows++[row])::L)):c≠0/\(∃cs,h.get q=some (.cells cs ty))/\Sat lo h (w7 ty n (.slice (some ⟨q,0,none⟩) k c) rows::L):=by
 rcases Xp s with⟨e,_⟩|⟨b',c',cs,e,hc,hl,ht,s⟩
 ·cases e
 ·simp only[abu,aab,abJ,aba]at e;obtain⟨rfl,_,rfl⟩:=e;have hlen:(rows++[row]).length=rows.length+1:=by simp
  have hr:row.length=n:=hn row (by simp);rw[hlen,Nat.succ_mul]at hl ht;rw[hk];refine⟨hc,⟨cs,s.get⟩,Fm hc (by omega) ?_ s⟩;have h2:=congrArg (List.take (rows.length*n)) ht;rw[List.take_take,Nat.min_eq_left (by omega)]at h2;rw[h2,List.flatten_append,List.take_append_of_le_length (by rw[yM λr q=>hn r (by simp[q])];exact aam _),acm (by rw[yM λr q=>hn r (by simp[q])];exact aam _)]
theorem zb4{q cp:Nat}{c:Fr}{ini:List Fr}(s:Sat lo h (pt b (xH p lv mb wb S ev lk gl cl lim)::w7 134 7 cl (S.calls.map yX)::L))(hcl:cl=.slice (some ⟨q,0,none⟩) (ini.length+1) cp)(hc:S.calls=ini++[c])(hn1:ini.length<4611686018427387900)(hs:OQ lim S) :
  DC pu 93 [xG b,.pointer (some ⟨q,ini.length*7,none⟩)] h (λv h'=>v=.bool (kK S c).2 /\ ∃cl',Sat lo h' (pt b (xH p lv mb wb (kK S c).1 ev lk gl cl' lim)::w7 134 7 cl' ((kK S c).1.calls.map yX)::L)):=by
 apply IV;unfold Nb xG;have hrow:(S.calls.map yX)[ini.length]? = some (yX c):=by rw[aau,hc];simp
 obtain⟨q',c',cs',e1,gq,wq,ltq,lq,tq,kq,_⟩:=Jz (s.p 1) (Z4 _) hrow;rw[hcl]at e1;simp only[abu,aab,abJ,aba]at e1;obtain⟨rfl,_,rfl⟩:=e1;have k2:=kq 2 (by decide);have k2:cs'[ini.length*7+2]? = some (pm c.qX):=k2;have hdl:S.calls.dropLast=ini:=by rw[hc,abq]
 by_cases hb:c.qX=0
 ·have w1:IntKind.wrap .i64 (S.stack-8)=S.stack-8:=Go.Mem.vF (by have:=hs.s0;omega) (by have:=hs.s1;omega);simp only[EE,zo,Es,Ur,QM,CY,gq,k2,hb];refine z9 s (by simp[ug]) rfl λh2 s2=>?_;rw[Oz]at s2;have g2:=s2.get;simp only[EE,zo,Jr,g2,H5,w1];refine z9 s2 (by simp[ug]) rfl λh3 s3=>?_;rw[zaV]at s3;have g3:=s3.get;have e3:S.calls.map yX=ini.map yX++[yX c]:=by rw[hc];simp
  rw[hcl,e3]at s3;obtain⟨hc0,⟨cs,gq3⟩,s4⟩:=Fl (by rw[<- e3];exact Z4 _) (by simp) (s3.p 1);have w2:IntKind.wrap .i64 (((ini.length+1:Nat):Int)-1)=(ini.length:Nat):=by rw[show(((ini.length+1:Nat):Int)-1)=(ini.length:Nat) by omega];exact Go.Mem.vF (by omega) (by omega)
  have sl:=oD (k:=ini.length) hc0 gq3;simp only[EE,zo,En,S5,mE,EZ,g3,Ot,hcl,w2,sl];refine z9 (s4.p 1) (by simp[ug]) rfl λh5 s5=>?_;rw[zdC]at s5;have g5:=s5.get;simp only[EE,zo,En,mE,EZ,g5,Ot];by_cases hi:(ini.length:Int)>0
  ·have e:kK S c=({S with flags:=false,stack:=S.stack-8,calls:=ini},true):=by
    unfold kK;rw[aae (λq=>q hb),hdl,aai (by intro q;rw[q]at hi;simp at hi)]
   simp only[EE,hi];rw[e];exact⟨rfl,_,s5⟩
  ·have hi0:ini=[]:=abz (by omega);simp only[EE,Value.cells,seval,zN,xQ,xW,CX,hi];simp only[EE,Nat.reduceLeDiff,g5,nc,Fa];refine w8 s5 λb6 h6 s6=>?_;simp only[EE,Nat.reduceAdd];refine z9 s6 (by simp) rfl λh7 s7=>?_;have g7:=s7.get;by_cases hk:(zj S 0).k=1
   ·have e:kK S c=({S with flags:=false,stack:=S.stack-8,calls:=[],kind:=1,exit:=(zj S 0).n},true):=by
     unfold kK;rw[aae (λq=>q hb),hdl,aae (by rw[hi0];simp),aai hk]
    have hne:b6≠b:=s7.ne;have hne2:b≠b6:=λq=>hne q.symm;have ek:∀X,zj ({S with flags:=false,stack:=S.stack-8}:St) X=zj S X:=λ_=>rfl;simp only[EE,zb,Nat.reduceAdd,Nat.reduceLeDiff,ne_eq,zo,Yf,kx,CW,g7,ek,hk,C9,hne2,ne_eq,true_or];refine z9 (s7.p 1) (by simp[ug]) rfl λh8 s8=>?_;rw[zfd]at s8;have g8:=s8.get;simp only[EE,Nat.reduceAdd,zf5,Yf,EG];refine z9 s8 (by simp[ug]) rfl λh9 s9=>?_;rw[zhZ]at s9;simp only[EE];rw[e];rw[hi0]at s9;exact⟨rfl,_,(s9.p 1).drop⟩
   ·have e:kK S c=({S with flags:=false,stack:=S.stack-8,calls:=[]},false):=by
     unfold kK;rw[aae (λq=>q hb),hdl,aae (by rw[hi0];simp),aae hk]
    have ek:∀X,zj ({S with flags:=false,stack:=S.stack-8}:St) X=zj S X:=λ_=>rfl;simp only[EE,zb,Nat.reduceAdd,zo,g7,ek,hk];rw[e];rw[hi0]at s7;exact⟨rfl,_,s7.drop⟩
 ·have e:kK S c=(S,false):=by unfold kK;rw[aai hb]
  rw[e];simp only[EE,zo,QM,gq,k2,hb];exact⟨cl,s⟩
end
section
variable {lo:yE}{h:za}{L:List HP}{b mb wb:Nat}{p:Pg}{S:St}{lv ev lk gl cl:aaa}{lim:Int}{i:xY}
theorem kD{q cp:Nat}{c:Fr}{ini:List Fr}(s:Sat lo h (w7 134 7 cl ((ini++[c]).map yX)::L))(hcl:cl=.slice (some ⟨q,0,none⟩) (ini.length+1) cp):∃cs,h.get q=some (.cells cs 134)/\h.ro<=q/\q<h.next/\ini.length*7+7<=cs.length/\cs[ini.length*7]? = some (pm (c.f:Nat))/\cs[ini.length*7+1]? = some (pm c.pt)/\cs[ini.length*7+2]? = some (pm c.qX)/\cs[ini.length*7+3]? = some (pm c.size)/\(cs.drop (ini.length*7+4)).take 3=[pm c.KC.k,pm c.KC.n,pm c.KC.b]:=by
 have hrow:((ini++[c]).map yX)[ini.length]? = some (yX c):=by rw[aau];simp
 obtain⟨q',c',cs,e1,gq,wq,ltq,lq,tq,kq,_⟩:=Jz s (Z4 _) hrow;rw[hcl]at e1;simp only[abu,aab,abJ,aba]at e1;obtain⟨rfl,_,rfl⟩:=e1;have k0:=kq 0 (by decide);rw[ab8]at k0;refine⟨cs,gq,wq,ltq,lq,k0,kq 1 (by decide),kq 2 (by decide),kq 3 (by decide),?_⟩
 have:(cs.drop (ini.length*7+4)).take 3=((cs.drop (ini.length*7)).take 7).drop 4:=by
  rw[List.drop_take,List.drop_drop]
 rw[this,tq];rfl
theorem Xr{q cp:Nat}{c c':Fr}{ini:List Fr}{K:za->Prop}(s:Sat lo h (w7 134 7 cl ((ini++[c]).map yX)::L))(hcl:cl=.slice (some ⟨q,0,none⟩) (ini.length+1) cp){j:Nat}{vs:List aaa}(hj:j+vs.length<=7)(hc:vs.all wI=true)(e:zb (yX c) j vs=yX c')(k:∀h',Sat lo h' (w7 134 7 cl ((ini++[c']).map yX)::L)->K h'):opt (xw h q (ini.length*7+j) vs) K:=by
 have hrow:((ini++[c]).map yX)[ini.length]? = some (yX c):=by rw[aau];simp
 obtain⟨q',c1,cs,e1,gq,wq,ltq,lq,tq,kq,s2⟩:=Jz s (Z4 _) hrow;rw[hcl]at e1;simp only[abu,aab,abJ,aba]at e1;obtain⟨rfl,_,rfl⟩:=e1;refine Bo gq wq lq s2 hj hc λh' s'=>k h' ?_;rw[e]at s'
 have:((ini++[c]).map yX).set ini.length (yX c')=(ini++[c']).map yX:=by
  rw[<- acF,List.set_append_right _ _ (aam _)];simp
 rw[this]at s';exact s'
theorem OA(hl:S.jb.length=16)(v:V):zb (vz p lv mb wb S ev lk gl cl lim) 26 [pm v.k,pm v.n,pm v.b]=vz p lv mb wb (xt S 4 v) ev lk gl cl lim:=BF (r:=4) (by decide) (by decide) hl v
theorem NX{q cp:Nat}{c:Fr}{ini:List Fr}(s:Sat lo h [pt b (xH p lv mb wb S ev lk gl cl lim),w7 134 7 cl (S.calls.map yX),WT mb S.mem])(hcl:cl=.slice (some ⟨q,0,none⟩) (ini.length+1) cp)(hc:S.calls=ini++[c])(hs:OQ lim S)(hl:S.jb.length=16)(hL:S.mem.length<=100000)(hb:c.qX<9223372036854775808)(hz:0<=c.size/\c.size<=65536)(k0:0<=i.k)(k1:i.k<=65536)(ho:i.op=23\/i.op=24) :
  DC pu 94 [xG b,.pointer (some ⟨q,ini.length*7,none⟩),i.val] h (λv h'=>v=.bool (yK lim S c i).2/\Sat lo h' [pt b (xH p lv mb wb (yK lim S c i).1 ev lk gl cl lim),w7 134 7 cl ((yK lim S c i).1.calls.map yX),WT mb (yK lim S c i).1.mem]):=by
 apply iO;unfold lU xG;rw[hc]at s;simp only[EE,Value.cells];refine w8 s λb5 h2 s2=>?_;have g5:=s2.get;obtain⟨cs,gq,wq,ltq,lq,kf,kp,kb,kz,kr⟩:=kD (s2.p 2) hcl;by_cases h24:i.op=24
 ·simp only[EE,zo,QM,zf,K8,g5,h24];by_cases hb0:c.qX=0
  ·have e:yK lim S c i=(S,false):=by unfold yK;rw[aai h24,aai (.inl hb0)]
   rw[e];simp only[EE,Xg,Xh,Xi,gq,kb,hb0];rw[hc];exact s2.k [1,2,3]
  ·by_cases hz0:c.size=i.k
   ·simp only[EE,zo,ou,Js,QM,mH,zX,K7,Xg,Xh,Xi,gq,kb,kz,g5,hb0,hz0];have gm:=(s2.p 1).get;unfold xH at gm;simp only[EE,gm,Rk];obtain⟨lo1,l1,s3,fr⟩:=(s2.f [3]).call (L2:=[WT mb S.mem]);refine BQ (zeo s3 hL hb) ?_;rintro v h3 ⟨rfl,s4⟩;have s5:=fr _ _ s4;clear gq kf kp kb kz kr gm;obtain⟨cs,gq,wq,ltq,lq,kf,kp,kb,kz,kr⟩:=kD (s5.p 3) hcl;have gm:=(s5.p 2).get;unfold xH at gm;have w1:IntKind.wrap .i64 (S.stack-c.size)=S.stack-c.size:=Go.Mem.vF (by have:=hs.s0;omega) (by have:=hs.s1;omega);simp only[EE,zo,Jr,mH,K6,gm,gq,kz,H5,w1];refine z9 (s5.p 2) (by simp[ug]) rfl λh6 s6=>?_;rw[zaV]at s6;obtain⟨cs2,gq2,_,_,lq2,_,_,_,_,kr2⟩:=kD (s6.p 3) hcl;have lr:ini.length*7+4+3<=cs2.length:=by omega
    have lr2:ini.length*7+7<=cs2.length:=lq2;simp only[EE,seval,zN,xQ,Hv,xW,gq2,kr2,lr];refine z9 s6 (by simp[ug]) rfl λh7 s7=>?_;rw[OA (S:={S with stack:=S.stack-c.size}) hl]at s7;simp only[EE,QM];refine Xr (c':={c with qX:=0}) (s7.p 3) hcl (j:=2) (by simp) rfl rfl λh8 s8=>?_;simp only[EE]
    have e:yK lim S c i=(vj (xt {S with mem:=(Yw S.mem c.qX).getD S.mem,stack:=S.stack-c.size} 4 c.KC) {c with qX:=0},true):=by
     unfold yK;rw[aai h24,aae (by rintro(q|q);exact hb0 q;exact q hz0)]
    have ec:(vj (xt {S with mem:=(Yw S.mem c.qX).getD S.mem,stack:=S.stack-c.size} 4 c.KC) {c with qX:=0}).calls=ini++[{c with qX:=0}]:=by
     show S.calls.dropLast++[_]=_;rw[hc,abq]
    rw[e];refine⟨rfl,?_⟩;rw[ec];exact s8.k [1,0,2]
   ·have e:yK lim S c i=(S,false):=(by unfold yK;rw[aai h24,aai (.inr hz0)]);rw[e];simp only[EE,zo,mH,zX,Xg,Xh,Xi,gq,kb,kz,g5,hb0,hz0];rw[hc];exact s2.k [1,2,3]
 ·simp only[EE,zo,QM,zf,XT,g5,h24,gq,kb];by_cases hb0:c.qX=0
  ·simp only[EE,zo,zX,Qz,g5,hb0]
   have e0:yK lim S c i=if (zY lim S i.k).2=true then
     (vj (xt { (zY lim S i.k).1 with mem:=(yJ S.mem i.k).1} 4 (iQ (yJ S.mem i.k).2.1 0)) {c with qX:=(yJ S.mem i.k).2.1,size:=i.k,KC:=zj S 4},decide ((yJ S.mem i.k).2.2=0))
    else ((zY lim S i.k).1,true):=by unfold yK;rw[aae h24,aae (λq=>q hb0)]
   have ec:(zY lim S i.k).1.calls=S.calls:=by unfold zY;split <;> rfl
   have em:(zY lim S i.k).1.mem=S.mem:=by unfold zY;split <;> rfl
   have er:(zY lim S i.k).1.jb=S.jb:=by unfold zY;split <;> rfl
   refine dM (TX (s2.f [1]) hs k0 (by omega)) ?_;rintro v h3 ⟨rfl,s3⟩;cases hg:(zY lim S i.k).2 with
   |false=>
    rw[aae (by rw[hg];simp)]at e0;rw[e0];simp only[EE];rw[ec,em,hc];exact s3.k [0,2,3]
   |true=>
    rw[aai hg]at e0;have g5:=(s3.p 1).get;have gm:=s3.get;unfold xH at gm;simp only[EE,zo,ou,Js,zX,U8,gm,g5,Rk];obtain⟨lo1,l1,s4,fr⟩:=(s3.f [3]).call (L2:=[WT mb S.mem]);refine BQ (Nr s4 i.k) ?_;rintro v h4 ⟨rfl,s5⟩;have s6:=fr _ _ s5;obtain⟨M',rB,rE,hA⟩:∃M' rB rE,yJ S.mem i.k=(M',rB,rE):=⟨_,_,_,rfl⟩;rw[hA]at s6 e0 ⊢;have g5:=(s6.p 2).get;have gm:=(s6.p 1).get;unfold xH at gm
    have hne:b5≠q:=by
     intro e;obtain⟨cs,gq,_⟩:=kD (s6.p 3) hcl;rw[<- e,g5]at gq;cases gq
    have hne2:q≠b5:=λq=>hne q.symm;have eg:zj (zY lim S i.k).1 4=zj S 4:=by unfold zj;rw[er]
    simp only[EE,seval,ne_eq,zN,zo,xQ,QM,zX,xW,Ja,gm,g5,nc,zck,eg,C9,hne2,ne_eq,true_or];refine Xr (c':={c with qX:=rB}) (s6.p 3) hcl (j:=2) (by simp) rfl rfl λh7 s7=>?_;simp only[EE,mH];refine Xr (c':={c with qX:=rB,size:=i.k}) s7 hcl (j:=3) (by simp) rfl rfl λh8 s8=>?_;simp only[EE,Nat.reduceAdd,Hv];refine Xr (c':={c with qX:=rB,size:=i.k,KC:=zj S 4}) s8 hcl (j:=4) (by simp) rfl rfl λh9 s9=>?_;simp only[];refine JC (Tb rB 0 _) ?_;simp only[EE,seval,xQ,xW,K9];refine z9 (s9.p 2) (by simp[ug]) rfl λh10 s10=>?_;rw[OA (by rw[er];exact hl)]at s10;simp only[EE]
    have ec2:(vj (xt { (zY lim S i.k).1 with mem:=M'} 4 (iQ rB 0)) {c with qX:=rB,size:=i.k,KC:=zj S 4}).calls=ini++[{c with qX:=rB,size:=i.k,KC:=zj S 4}]:=by
     show(zY lim S i.k).1.calls.dropLast++[_]=_;rw[ec,hc,abq]
    rw[e0];refine⟨rfl,?_⟩;show Sat lo h10 [pt b (xH p lv mb wb (vj (xt { (zY lim S i.k).1 with mem:=M'} 4 (iQ rB 0)) {c with qX:=rB,size:=i.k,KC:=zj S 4}) ev lk gl cl lim),w7 134 7 cl ((vj (xt { (zY lim S i.k).1 with mem:=M'} 4 (iQ rB 0)) {c with qX:=rB,size:=i.k,KC:=zj S 4}).calls.map yX),WT mb M'];rw[ec2];exact s10.k [0,1,2]
  ·have e:yK lim S c i=(S,false):=by unfold yK;rw[aae h24,aai hb0]
   rw[e];simp only[EE,hb0];rw[hc];exact s2.k [1,2,3]
end
def Da(p:Pg)(b mb wb:Nat)(wn:aaa)(world:List Int)(lim:Int)(lv gl:aaa)(S:St)(ev lk cl:aaa):List HP :=
 [pt b (xH p lv mb wb S ev lk gl cl lim),w7 80 3 lk (S.lk.map vQ),w7 85 2 ev (S.ev.map qG),w7 134 7 cl (S.calls.map yX),WT mb S.mem,pt wb (.cells [wn,pm S.used] 151),w7 2 1 wn (world.map yA)]
def BS(lo:yE)(p:Pg)(b mb wb:Nat)(wn:aaa)(world:List Int)(lim:Int)(lv gl:aaa)(S:St)(h:za):Prop := ∃ev lk cl,Sat lo h (Da p b mb wb wn world lim lv gl S ev lk cl)
structure rH (lim:Int) (S:St):Prop where
 hl:S.jb.length=16
 hv:∀r,vb (zj S r)
 Mn:OQ lim S
 lk:(S.lk.length+1)*24<=2^47
 ev:(S.ev.length+1)*16<=2^47
 cs:(S.calls.length+1)*56<=2^47
 mem:small S.mem/\S.mem.length<=100000
 used:0<=S.used/\S.used<4611686018427387904
structure Iv (c:Fr):Prop where
 qX:c.qX<9223372036854775808
 size:0<=c.size/\c.size<=65536
def xB(lo:yE)(p:Pg)(b mb wb:Nat)(wn:aaa)(world:List Int)(lim:Int)(lv gl:aaa)(b5 q j:Nat)(i:xY)(h:za)(r:St×Bool):Prop :=
 xA (pm i.op) (pi b5) h (pi b) (λv h'=>v=.bool r.2/\BS lo p b mb wb wn world lim lv gl r.1 h') (.pointer (some ⟨q,j,none⟩)) (λ_ h'=>Value.bool true=.bool r.2/\BS lo p b mb wb wn world lim lv gl r.1 h')
section
variable {lo:yE}{h:za}{L:List HP}{b mb wb:Nat}{p:Pg}{S:St}{wn lv gl ev lk cl:aaa}{world:List Int}{lim:Int}{i:xY}{c:Fr}{q j:Nat}
theorem Fj{X:List HP}{r:Int}{K:za->Prop}(s:Sat lo h (pt b (xH p lv mb wb S ev lk gl cl lim)::X))(hl:S.jb.length=16)(h0:0<=r)(h1:r<16)(v:V)(k:∀h',Sat lo h' (pt b (xH p lv mb wb (xt S r v) ev lk gl cl lim)::X)->K h'):opt (xw h b (14+r.toNat*3) [pm v.k,pm v.n,pm v.b]) K:=by
 refine z9 s (by rw[ug];simp;omega) rfl λh' s'=>?_;have e:zb (vz p lv mb wb S ev lk gl cl lim) (14+r.toNat*3) [pm v.k,pm v.n,pm v.b]=vz p lv mb wb (xt S r v) ev lk gl cl lim:=BF h0 h1 hl v;rw[e]at s';exact k h' s'
theorem Kh(S:St)(i:xY):(yb S i).1.ev=S.ev/\(yb S i).1.calls=S.calls/\(yb S i).1.used=S.used:=by
 unfold yb;split
 ·exact⟨rfl,rfl,rfl⟩
 ·split
  ·split
   ·split <;> exact⟨rfl,rfl,rfl⟩
   ·exact⟨rfl,rfl,rfl⟩
  ·exact⟨rfl,rfl,rfl⟩
variable {b5:Nat}{h2:za}(s2:Sat lo h2 (pt b5 (.cells i.row 50)::Da p b mb wb wn world lim lv gl S ev lk cl))(B:rH lim S)
include s2 B
theorem zeS(hk:i.op=1)(r0:0<=i.r)(r1:i.r<16)(m0:0<=i.m)(m1:i.m<16):xB lo p b mb wb wn world lim lv gl b5 q j i h2 ((xt S i.r (zj S i.m)),true):=by
 have g5:=s2.get;have gm:=(s2.p 1).get;unfold xH at gm;unfold xB;simp only[EE,Nat.reduceAdd,zN,zo,xQ,yQ,y5,xW,CZ,xA,g5,gm,hk,m0,m1,Ya m1,Z9 m0 m1,r0,r1];refine Fj (s2.p 1) B.hl r0 r1 _ λh3 s3=>?_;simp only[EE];exact⟨ev,lk,cl,(s3.p 1).drop⟩
theorem zeT(hk:i.op=2)(r0:0<=i.r)(r1:i.r<16):xB lo p b mb wb wn world lim lv gl b5 q j i h2 ((xt S i.r (wB i.k)),true):=by
 have g5:=s2.get;have gm:=(s2.p 1).get;unfold xH at gm;unfold xB;simp only[EE,Int.reduceEq,zo,yQ,zX,Jg,xM,xA,g5,hk];refine JC (Xo i.k _) ?_;simp only[EE,Nat.reduceAdd,xQ,xW,Jd,r0,r1];refine Fj (s2.p 1) B.hl r0 r1 _ λh3 s3=>?_;simp only[EE];exact⟨ev,lk,cl,(s3.p 1).drop⟩
theorem zeU(hk:i.op=3)(r0:0<=i.r)(r1:i.r<16)(m0:0<=i.m)(m1:i.m<16)(hsub:wH i.sub):xB lo p b mb wb wn world lim lv gl b5 q j i h2 (yb S i):=by
 have g5:=s2.get;have gm:=(s2.p 1).get;unfold xH at gm;unfold xB;simp only[EE,nth,Nat.reduceAdd,Int.reduceEq,zN,xx,zL,xS,xM,xA,g5,hk];have ei:i.val=.agg #[pm 3,pm i.r,pm i.m,pm i.sub,pm i.cc,pm i.l,pm i.k]:=by rw[<- hk]
 rw[<- ei];obtain⟨lo1,l1,s3,fr⟩:=(s2.f [1,2,5]).call (L2:=[pt b (xH p lv mb wb S ev lk gl cl lim),w7 80 3 lk (S.lk.map vQ),WT mb S.mem]);refine dM (GL (i:=i) s3 B.lk B.hl B.hv B.mem.1 hsub m0 m1 r0 r1) ?_;rintro v h4 ⟨rfl,lk',s4⟩;have s5:=fr _ _ s4;simp only[EE];have ee:(yb S i).1.ev=S.ev/\(yb S i).1.calls=S.calls/\(yb S i).1.used=S.used:=Kh S i;refine⟨ev,lk',cl,?_⟩;unfold Da;rw[ee.1,ee.2.1,ee.2.2];exact s5.k [0,1,4,5,2,6,7]
theorem zeV(hk:i.op=4)(r0:0<=i.r)(r1:i.r<16)(m0:0<=i.m)(m1:i.m<16)(hsub:wH i.sub):xB lo p b mb wb wn world lim lv gl b5 q j i h2 (yb S i):=by
 have g5:=s2.get;have gm:=(s2.p 1).get;unfold xH at gm;unfold xB;simp only[EE,nth,Nat.reduceAdd,Int.reduceEq,zN,xx,zL,xS,xM,xA,g5,hk];have ei:i.val=.agg #[pm 4,pm i.r,pm i.m,pm i.sub,pm i.cc,pm i.l,pm i.k]:=by rw[<- hk]
 rw[<- ei];obtain⟨lo1,l1,s3,fr⟩:=(s2.f [1,2,5]).call (L2:=[pt b (xH p lv mb wb S ev lk gl cl lim),w7 80 3 lk (S.lk.map vQ),WT mb S.mem]);refine dM (GL (i:=i) s3 B.lk B.hl B.hv B.mem.1 hsub m0 m1 r0 r1) ?_;rintro v h4 ⟨rfl,lk',s4⟩;have s5:=fr _ _ s4;simp only[EE];have ee:(yb S i).1.ev=S.ev/\(yb S i).1.calls=S.calls/\(yb S i).1.used=S.used:=Kh S i;refine⟨ev,lk',cl,?_⟩;unfold Da;rw[ee.1,ee.2.1,ee.2.2];exact s5.k [0,1,4,5,2,6,7]
theorem zeW(hk:i.op=5)(r0:0<=i.r)(r1:i.r<16)(m0:0<=i.m)(m1:i.m<16):xB lo p b mb wb wn world lim lv gl b5 q j i h2 (xV S i.r (zH 11 (zj S i.m) (wB i.k))):=by
 have g5:=s2.get;have gm:=(s2.p 1).get;unfold xH at gm;unfold xB;simp only[EE,nth,Nat.reduceAdd,Int.reduceEq,zN,zo,xx,xQ,yQ,y5,zX,xW,xc,zQ,zL,xS,xM,xA,g5,gm,hk,m0,m1,Ya m1,Z9 m0 m1];refine JC (Xo i.k _) ?_;refine BQ (pX (s2.p 1) B.hl r0 r1 11 (zj S i.m) (wB i.k)) ?_;rintro v h3 ⟨rfl,s3⟩;simp only[EE];exact⟨ev,lk,cl,(s3.p 1).drop⟩
theorem zeX(hk:i.op=6)(r0:0<=i.r)(r1:i.r<16)(s0:0<=i.sub)(s1:i.sub<S.gl.length)(hg:Rd lo (zl · gl S.gl)):xB lo p b mb wb wn world lim lv gl b5 q j i h2 ((xt S i.r (iQ (S.gl.getD i.sub.toNat 0) i.k)),true):=by
 have g5:=s2.get;have gm:=(s2.p 1).get;unfold xH at gm;unfold xB;obtain⟨z,hz⟩:∃z,S.gl[i.sub.toNat]? = some z:=⟨_,aac (by omega)⟩;obtain⟨bb,o,cs,t,hix,hb,hgt,hat0⟩:=Jo (hg.at s2) hz;rw[show((i.sub.toNat:Nat):Int)=i.sub from abZ s0]at hix;have gn:=(hg.at s2).kY;rw[show S.gl.getD i.sub.toNat 0=z by rw[aaF,hz];rfl];simp only[EE,nth,Nat.reduceAdd,Int.reduceEq,zN,zo,w9,xx,Hu,yQ,zB,zX,y9,xR,zQ,zL,xS,xM,xA,g5,gm,hk,zdu,hix,hgt,hat0];refine JC (Tb z i.k _) ?_;simp only[EE,Nat.reduceAdd,xQ,xW,dm,r0,r1];refine Fj (s2.p 1) B.hl r0 r1 _ λh3 s3=>?_;simp only[];exact⟨ev,lk,cl,(s3.p 1).drop⟩
theorem zeY(hk:i.op=7)(r0:0<=i.r)(r1:i.r<16)(m0:0<=i.m)(m1:i.m<16):xB lo p b mb wb wn world lim lv gl b5 q j i h2 (xV S i.r (zH i.sub (zj S i.r) (zj S i.m))):=by
 have g5:=s2.get;have gm:=(s2.p 1).get;unfold xH at gm;unfold xB;simp only[EE,nth,Nat.reduceAdd,Int.reduceEq,zN,zo,xx,xQ,yQ,y5,zB,xW,xL,wi,xR,zQ,zL,xS,xM,xA,g5,gm,hk,m0,m1,Ya m1,Z9 m0 m1,r0,r1,Ya r1,Z9 r0 r1];refine BQ (pX (s2.p 1) B.hl r0 r1 i.sub (zj S i.r) (zj S i.m)) ?_;rintro v h3 ⟨rfl,s3⟩;simp only[EE];exact⟨ev,lk,cl,(s3.p 1).drop⟩
theorem zeZ(hk:i.op=8)(r0:0<=i.r)(r1:i.r<16):xB lo p b mb wb wn world lim lv gl b5 q j i h2 (xV S i.r (zH i.sub (zj S i.r) (wB i.k))):=by
 have g5:=s2.get;have gm:=(s2.p 1).get;unfold xH at gm;unfold xB;simp only[EE,nth,Nat.reduceAdd,Int.reduceEq,zN,zo,xx,xQ,yQ,zB,zX,xW,xK,ya,wi,xR,zQ,zL,xS,xM,xA,g5,gm,hk,r0,r1,Ya r1,Z9 r0 r1];refine JC (Xo i.k _) ?_;refine BQ (pX (s2.p 1) B.hl r0 r1 i.sub (zj S i.r) (wB i.k)) ?_;rintro v h3 ⟨rfl,s3⟩;simp only[EE];exact⟨ev,lk,cl,(s3.p 1).drop⟩
theorem zau(hk:i.op=11)(r0:0<=i.r)(r1:i.r<16):xB lo p b mb wb wn world lim lv gl b5 q j i h2 (xV S i.r (zH i.sub (zj S i.r) (wB i.k))):=by
 have g5:=s2.get;have gm:=(s2.p 1).get;unfold xH at gm;unfold xB;simp only[EE,nth,Nat.reduceAdd,Int.reduceEq,zN,zo,xx,xQ,yQ,zB,zX,xW,xK,ya,wi,xR,zQ,zL,xS,xM,xA,g5,gm,hk,r0,r1,Ya r1,Z9 r0 r1];refine JC (Xo i.k _) ?_;refine BQ (pX (s2.p 1) B.hl r0 r1 i.sub (zj S i.r) (wB i.k)) ?_;rintro v h3 ⟨rfl,s3⟩;simp only[EE];exact⟨ev,lk,cl,(s3.p 1).drop⟩
theorem ze0(hk:i.op=9)(r0:0<=i.r)(r1:i.r<16):xB lo p b mb wb wn world lim lv gl b5 q j i h2 (xV S i.r (bO i.sub (zj S i.r))):=by
 have g5:=s2.get;have gm:=(s2.p 1).get;unfold xH at gm;unfold xB;simp only[EE,nth,Nat.reduceAdd,Int.reduceEq,zN,zo,xx,xQ,yQ,zB,xW,wh,wN,ya,wi,xR,zQ,zL,xS,xM,xA,g5,gm,hk,r0,r1,Ya r1,Z9 r0 r1];refine BQ (zhm (s2.p 1) B.hl r0 r1 i.sub (zj S i.r)) ?_;rintro v h3 ⟨rfl,s3⟩;simp only[EE];exact⟨ev,lk,cl,(s3.p 1).drop⟩
theorem zat(hk:i.op=10)(r0:0<=i.r)(r1:i.r<16)(m0:0<=i.m)(m1:i.m<16):xB lo p b mb wb wn world lim lv gl b5 q j i h2 (xV S i.r (bO i.sub (zj S i.m))):=by
 have g5:=s2.get;have gm:=(s2.p 1).get;unfold xH at gm;unfold xB;simp only[EE,nth,Nat.reduceAdd,Int.reduceEq,zN,zo,xx,xQ,yQ,y5,zB,xW,wF,w6,wN,ya,wi,xR,zQ,zL,xS,xM,xA,g5,gm,hk,m0,m1,Ya m1,Z9 m0 m1];refine BQ (zhm (s2.p 1) B.hl r0 r1 i.sub (zj S i.m)) ?_;rintro v h3 ⟨rfl,s3⟩;simp only[EE];exact⟨ev,lk,cl,(s3.p 1).drop⟩
end
def JF(p:Pg)(lv:aaa)(h:za):Prop := ∃ls:List Nat,zE h lv 1 (ls.map λq=>[.map (some q)])/\ls.length=p.funcs.length /\ ∀(k q:Nat) (f:Fn),ls[k]? = some q->p.funcs[k]? = some f->h.get q=some (dV (Kv f.code 0 []))
section
variable {lo:yE}{h:za}{L:List HP}{b mb wb:Nat}{p:Pg}{S:St}{wn lv gl ev lk cl:aaa}{world:List Int}{lim:Int}{i:xY}{c:Fr}{ini:List Fr}{q j cp:Nat}
theorem SQ(n:Int):IntKind.wrap .i64 (BitVec.ofInt IntKind.i64.bits n &&& BitVec.ofInt IntKind.i64.bits 63).toNat=kN (· &&& ·) n 63:=rfl
theorem zcs(hl:S.jb.length=16)(v:V):zb (vz p lv mb wb S ev lk gl cl lim) 20 [pm v.k,pm v.n,pm v.b]=vz p lv mb wb (xt S 2 v) ev lk gl cl lim:=BF (r:=2) (by decide) (by decide) hl v
theorem zcr(hl:S.jb.length=16)(v:V):zb (vz p lv mb wb S ev lk gl cl lim) 14 [pm v.k,pm v.n,pm v.b]=vz p lv mb wb (xt S 0 v) ev lk gl cl lim:=BF (r:=0) (by decide) (by decide) hl v
theorem zhg(v:V):zb (vz p lv mb wb S ev lk gl cl lim) 63 [pm v.k,pm v.n,pm v.b]=vz p lv mb wb {S with a:=v} ev lk gl cl lim:=zhd v
theorem zhh(v:V):zb (vz p lv mb wb S ev lk gl cl lim) 66 [pm v.k,pm v.n,pm v.b]=vz p lv mb wb {S with b:=v} ev lk gl cl lim:=zhe v
theorem zgz{r r':Int}{v:V}(h0:0<=r)(h1:0<=r')(hn:r≠r'):zj (xt S r v) r'=zj S r':=by
 unfold zj xt;rw[dR h1,dR h1];show(S.jb.set r.toNat v).getD r'.toNat v0=_;rw[aaF,aaF,abj (by omega)]
theorem Hl(S:St)(m:V):(qF S m).1.ev=S.ev/\(qF S m).1.calls=S.calls/\(qF S m).1.used=S.used/\(qF S m).1.mem=S.mem:=by
 unfold qF;split
 ·split
  ·split <;> exact⟨rfl,rfl,rfl,rfl⟩
  ·exact⟨rfl,rfl,rfl,rfl⟩
 ·exact⟨rfl,rfl,rfl,rfl⟩
variable {b5:Nat}{h2:za}(s2:Sat lo h2 (pt b5 (.cells i.row 50)::Da p b mb wb wn world lim lv gl S ev lk cl))(B:rH lim S)
include s2 B
theorem zav(hk:i.op=12)(r0:0<=i.r)(r1:i.r<16):xB lo p b mb wb wn world lim lv gl b5 q j i h2 (if (zj S 1).k=1 then (xV S i.r (zH i.sub (zj S i.r) (wB (kN (· &&& ·) (zj S 1).n 63)))) else (S,false)):=by
 have g5:=s2.get;have gm:=(s2.p 1).get;unfold xH at gm;unfold xB;simp only[EE,nth,Value.cells,seval,zN,xx,xQ,xW,wM,vi,w6,wN,ya,wi,xR,zQ,zL,xS,xM,xA,g5,gm,hk,nc,zci];refine w8 s2 λb6 h3 s3=>?_;simp only[EE,Nat.reduceAdd];refine z9 s3 (by simp) rfl λh4 s4=>?_;have g6:=s4.get;have g5:=(s4.p 1).get;have gm:=(s4.p 2).get;unfold xH at gm;by_cases k1:(zj S 1).k=1
 ·rw[aai k1];simp only[EE,zb,Nat.reduceAdd,zN,zo,xQ,yQ,zB,xW,dq,dr,dt,du,Jh,Ji,Qb,g5,g6,gm,k1,r0,r1,Ya r1,Z9 r0 r1];rw[SQ];refine JC (Xo (kN (· &&& ·) (zj S 1).n 63) _) ?_;simp only[EE,dp];refine BQ (pX (s4.p 2) B.hl r0 r1 i.sub (zj S i.r) (wB (kN (· &&& ·) (zj S 1).n 63))) ?_;rintro v h3 ⟨rfl,s3⟩;simp only[EE];exact⟨ev,lk,cl,s3.k [0,3,4,5,6,7,8]⟩
 ·rw[aae k1];simp only[EE,zb,Nat.reduceAdd,zo,dp,dq,dr,dt,du,Jh,Ji,Qb,g6,k1];exact⟨ev,lk,cl,s4.drop.drop⟩
theorem zaw(hk:i.op=13)  : xB lo p b mb wb wn world lim lv gl b5 q j i h2 ((xt S 2 (Zs (zj S 0))),(decide ((zj S 0).k=1))):=by
 have g5:=s2.get;have gm:=(s2.p 1).get;unfold xH at gm;unfold xB;simp only[EE,nth,seval,zN,xx,xQ,xW,wZ,vh,vi,w6,wN,ya,wi,xR,zQ,zL,xS,xM,xA,g5,gm,hk,nc,Fa];refine JC (za0 (zj S 0) _) ?_;simp only[EE,seval,xQ,xW,Qc];refine z9 (s2.p 1) (by simp[ug]) rfl λh3 s3=>?_;rw[zcs B.hl (Zs (zj S 0))]at s3;have gm:=s3.get;unfold xH at gm;have e0:zj (xt S 2 (Zs (zj S 0))) 0=zj S 0:=zgz (by decide) (by decide) (by decide);simp only[EE,seval,zo,xQ,xW,gm];refine⟨rfl,?_,ev,lk,cl,(s3.p 1).drop⟩;show Value.bool ((zj (xt S 2 (Zs (zj S 0))) 0).k == 1)=_;rw[e0];rfl
theorem zax(hk:i.op=14)(m0:0<=i.m)(m1:i.m<16):xB lo p b mb wb wn world lim lv gl b5 q j i h2 (qF S (zj S i.m)):=by
 have g5:=s2.get;have gm:=(s2.p 1).get;unfold xH at gm;unfold xB;simp only[EE,nth,Nat.reduceAdd,Int.reduceEq,zN,zo,xx,xQ,y5,xW,vH,vU,vh,vi,w6,wN,ya,wi,xR,zQ,zL,xS,xM,xA,g5,gm,hk,m0,m1,Ya m1,Z9 m0 m1];obtain⟨lo1,l1,s3,fr⟩:=(s2.f [1,2]).call (L2:=[pt b (xH p lv mb wb S ev lk gl cl lim),w7 80 3 lk (S.lk.map vQ)]);refine BQ (Tw (mv:=zj S i.m) s3 B.lk B.hl) ?_;rintro v h4 ⟨rfl,lk',s4⟩;have s5:=fr _ _ s4;simp only[EE];obtain⟨e1,e2,e3,e4⟩:=Hl S (zj S i.m);refine⟨ev,lk',cl,?_⟩;unfold Da;rw[e1,e2,e3,e4];exact s5.k [0,1,3,4,5,6,7]
theorem zay(hk:i.op=15)(r0:0<=i.r)(r1:i.r<16)(m0:0<=i.m)(m1:i.m<16):xB lo p b mb wb wn world lim lv gl b5 q j i h2 ({S with flags:=true,a:=zj S i.r,b:=zj S i.m},true):=by
 have:=B;have g5:=s2.get;have gm:=(s2.p 1).get;unfold xH at gm;unfold xB;simp only[EE,nth,Nat.reduceAdd,Int.reduceEq,zN,zo,xx,Es,xQ,Ur,yQ,y5,xW,vT,uw,vU,vh,vi,w6,wN,ya,wi,xR,zQ,zL,xS,xM,xA,g5,gm,hk,m0,m1,Ya m1,Z9 m0 m1,r0,r1,Ya r1,Z9 r0 r1];refine z9 (s2.p 1) (by simp[ug]) rfl λh3 s3=>?_;rw[Oz]at s3;simp only[EE,Nat.reduceAdd,mF];refine z9 s3 (by simp[ug]) rfl λh4 s4=>?_;rw[zhg]at s4;simp only[EE,Nat.reduceAdd,fF];refine z9 s4 (by simp[ug]) rfl λh5 s5=>?_;rw[zhh (zj S i.m)]at s5;simp only[];exact⟨ev,lk,cl,(s5.p 1).drop⟩
theorem zaz(hk:i.op=16)(r0:0<=i.r)(r1:i.r<16):xB lo p b mb wb wn world lim lv gl b5 q j i h2 ({S with flags:=true,a:=zj S i.r,b:=wB i.k},true):=by
 have:=B;have g5:=s2.get;have gm:=(s2.p 1).get;unfold xH at gm;unfold xB;simp only[EE,nth,Nat.reduceAdd,Int.reduceEq,zN,zo,xx,xQ,yQ,zX,xW,uu,uv,uw,vU,vh,vi,w6,wN,ya,wi,xR,zQ,zL,xS,xM,xA,g5,gm,hk,r0,r1,Ya r1,Z9 r0 r1];refine JC (Xo i.k _) ?_;simp only[EE,Es,Ur,Vn];refine z9 (s2.p 1) (by simp[ug]) rfl λh3 s3=>?_;rw[Oz]at s3;simp only[EE,Nat.reduceAdd,mF];refine z9 s3 (by simp[ug]) rfl λh4 s4=>?_;rw[zhg]at s4;simp only[EE,Nat.reduceAdd,fF];refine z9 s4 (by simp[ug]) rfl λh5 s5=>?_;rw[zhh (wB i.k)]at s5;simp only[];exact⟨ev,lk,cl,(s5.p 1).drop⟩
theorem zaA(hk:i.op=17)(r0:0<=i.r)(r1:i.r<16):xB lo p b mb wb wn world lim lv gl b5 q j i h2 (if S.flags=true then (xV S i.r (zH i.cc S.a S.b)) else (S,false)):=by
 have g5:=s2.get;have gm:=(s2.p 1).get;unfold xH at gm;unfold xB;cases hf:S.flags with
 |false=>
  rw[aae (by decide)];simp only[EE,nth,Nat.reduceAdd,Int.reduceEq,zN,zo,ow,xx,Ur,Wk,Qd,Qe,Vo,Qf,Wl,Wm,u4,qw,uv,uw,vU,vh,vi,w6,wN,ya,wi,xR,zQ,zL,xS,xM,xA,g5,gm,hk,Ou,hf];exact⟨ev,lk,cl,s2.drop⟩
 |true=>
  rw[aai rfl];simp only[EE,nth,seval,zN,zo,ow,xx,fF,Ur,mF,yQ,Kl,Wk,Qd,Qe,Vo,Qf,Wl,Wm,u4,qw,uv,uw,vU,vh,vi,w6,wN,ya,wi,xR,zQ,zL,xS,xM,xA,g5,gm,hk,Ou,hf,nc,zdv,zdw];refine BQ (pX (s2.p 1) B.hl r0 r1 i.cc S.a S.b) ?_;rintro v h3 ⟨rfl,s3⟩;simp only[EE];exact⟨ev,lk,cl,(s3.p 1).drop⟩
theorem zaD(hk:i.op=20)  : xB lo p b mb wb wn world lim lv gl b5 q j i h2 (S,true):=by
 have:=B;have g5:=s2.get;have gm:=(s2.p 1).get;unfold xH at gm;unfold xB;simp only[EE,nth,Nat.reduceAdd,Int.reduceEq,zN,xx,k9,Wo,u3,Yp,Zp,jv,km,ko,qw,uv,uw,vU,vh,vi,w6,wN,ya,wi,xR,zQ,zL,xS,xM,xA,g5,hk];exact⟨ev,lk,cl,s2.drop⟩
end
section
variable {lo:yE}{h:za}{L:List HP}{b mb wb:Nat}{p:Pg}{S:St}{wn lv gl ev lk cl:aaa}{world:List Int}{lim:Int}{i:xY}{c:Fr}{ini:List Fr}{q j cp:Nat}
theorem EV{f:Fn}{n:Nat}(hL:JF p lv h)(hf:p.funcs[n]? = some f)(l:Int):yu lv=false /\ ∃bb o cs t qm,zJ pu 103 lv (pm (n:Nat))=some (.pointer (some ⟨bb,o,none⟩))/\h.get bb=some (.cells cs t)/\cs[o]? = some (.map (some qm))/\XC pu 129 (.map (some qm)) (pm l) false h=some (pm (ve p n l)):=by
 obtain⟨ls,S,hlen,hm⟩:=hL
 have hn:n<ls.length:=by
  rw[hlen];rcases aax n p.funcs.length with a|a
  ·exact a
  ·rw[aak a]at hf;cases hf
 have hq:ls[n]? = some ls[n]:=aac hn;have hr:(ls.map λq=>[Value.map (some q)])[n]? = some [.map (some ls[n])]:=by rw[aau,hq];rfl
 refine⟨S.kY,?_⟩;obtain⟨bb,o,cs,t,⟨off,cp,rfl,rfl⟩,hi,hb,hg,hl,ht,hk⟩:=S.spot hr rfl;have h1:0<=(n:Int)/\(n:Int)<((ls.map λq=>[Value.map (some q)]).length:Int):=by omega
 refine⟨bb,off+n*1,cs,t,ls[n],by simp only[zew,h1,aaw,and_self,aas],hg,hk 0 (by decide),?_⟩;rw[HO (kt:=3) (et:=3) (kind := .i64) (z := pm 0) (by kernel_rfl) (by kernel_rfl) (by kernel_rfl) (hm n _ f hq hf) l false];have hp:=AZ f.code l 0 0 [] (.inr ⟨rfl,rfl⟩);have e:ve p n l=Yt f.code l 0 0:=by unfold ve;rw[hf]
 rw[e];rcases hp with hp|⟨hp,hz⟩
 ·rw[hp];rfl
 ·rw[hp,hz];rfl
theorem N4{X:List HP}(hcl:cl=.slice (some ⟨q,0,none⟩) (ini.length+1) cp)(hc:S.calls=ini++[c])(s:Sat lo h (w7 134 7 cl (S.calls.map yX)::X))(z:Int){K:za->Prop}(k:∀h',Sat lo h' (w7 134 7 cl ((vj S {c with pt:=z}).calls.map yX)::X)->K h'):opt (xw h q (ini.length*7+1) [pm z]) K:=by
 rw[hc]at s;refine Xr (c':={c with pt:=z}) s hcl (j:=1) (by simp) rfl rfl λh' s'=>k h' ?_
 have e:(vj S {c with pt:=z}).calls=ini++[{c with pt:=z}]:=by
  show S.calls.dropLast++[_]=_;rw[hc,abq]
 rw[e];exact s'
variable {b5:Nat}{h2:za}(s2:Sat lo h2 (pt b5 (.cells i.row 50)::Da p b mb wb wn world lim lv gl S ev lk cl))(B:rH lim S)
include s2 B
theorem zaB(hk:i.op=18)(hcl:cl=.slice (some ⟨q,0,none⟩) (ini.length+1) cp)(hc:S.calls=ini++[c]){f:Fn}(hL:Rd lo (JF p lv))(hf:p.funcs[c.f]? = some f):xB lo p b mb wb wn world lim lv gl b5 q (ini.length*7) i h2 ((vj S {c with pt:=ve p c.f i.l}),true):=by
 have:=B;have g5:=s2.get;have gm:=(s2.p 1).get;unfold xH at gm;unfold xB;obtain⟨ln,bb,o,cs,t,qm,hix,hgt,hat0,hlk⟩:=EV (hL.at s2) hf i.l;have s2':=s2;unfold Da at s2';rw[hc]at s2';obtain⟨cs2,gq,wq,ltq,lq,kf,kp,kb,kz,kr⟩:=kD (s2'.p 4) hcl;simp only[EE,nth,Nat.reduceAdd,Int.reduceEq,zN,zo,I9,SJ,xx,AD,AE,Jt,vB,qM,ko,qw,uv,uw,vU,vh,vi,w6,wN,ya,wi,xR,zQ,zL,xS,xM,xA,g5,gm,gq,kf,hk,ze6,hix,hgt,hat0,hlk];refine N4 hcl hc (s2.p 4) _ λh3 s3=>?_;simp only[];exact⟨ev,lk,cl,s3.k [2,3,4,0,5,6,7]⟩
theorem zaC(hk:i.op=19)(hcl:cl=.slice (some ⟨q,0,none⟩) (ini.length+1) cp)(hc:S.calls=ini++[c]){f:Fn}(hL:Rd lo (JF p lv))(hff:p.funcs[c.f]? = some f):xB lo p b mb wb wn world lim lv gl b5 q (ini.length*7) i h2 (Yh p S c i):=by
 have g5:=s2.get;have gm:=(s2.p 1).get;unfold xH at gm;unfold xB;obtain⟨ln,bb,o,cs,t,qm,hix,hgt,hat0,hlk⟩:=EV (hL.at s2) hff i.l;simp only[EE,nth,seval,zN,zo,xx,fF,mF,Kl,ki,km,ko,qw,uv,uw,vU,vh,vi,w6,wN,ya,wi,xR,zQ,zL,xS,xM,xA,g5,gm,hk,nc,zdv,zdw];refine JC (Tk i.cc S.a S.b _) ?_;rw[yx];simp only[EE,Value.cells,Jf];cases hb:zH i.cc S.a S.b with
 |none=>
  have e:Yh p S c i=(S,false):=by unfold Yh;rw[hb]
  rw[e];simp only[Option.getD_none,v0];refine w8 s2 λb6 h3 s3=>?_;simp only[EE,Nat.reduceAdd];refine z9 s3 (by simp) rfl λh4 s4=>?_;simp only[EE,Vq,Vr,Wn,abB];exact⟨ev,lk,cl,s4.drop.drop⟩
 |some v=>
  simp only[abH];refine w8 s2 λb6 h3 s3=>?_;simp only[EE,Nat.reduceAdd];refine z9 s3 (by simp) rfl λh4 s4=>?_;have g6:=s4.get;have g5:=(s4.p 1).get;have gm:=(s4.p 2).get;unfold xH at gm;cases hf:S.flags with
  |false=>
   have e:Yh p S c i=(S,false):=by unfold Yh;rw[hb];simp only[hf,abh,aar]
   rw[e];simp only[EE,zo,ow,Ur,Vq,Vr,Wn,gm,Ou,hf,aa1];exact⟨ev,lk,cl,s4.drop.drop⟩
  |true=>
   have e:Yh p S c i=((if v.n=0 then yH S 1 v.n 0 else vj (yH S 1 v.n 0) {c with pt:=ve p c.f i.l}),true):=by unfold Yh;rw[hb];simp only[hf,aas]
   rw[e];simp only[EE,zb,Nat.reduceAdd,zo,ow,Ur,Je,Vq,Vr,Wn,g6,gm,Ou,hf,aa1];obtain⟨lo1,l1,s5,fr⟩:=(s4.f [2,3]).call (L2:=[pt b (xH p lv mb wb S ev lk gl cl lim),w7 80 3 lk (S.lk.map vQ)]);refine dM (EX s5 B.lk 1 v.n 0) ?_;rintro r h5 ⟨lk',s6⟩;have s7:=fr _ _ s6;have g6:=(s7.p 2).get;have g5:=(s7.p 3).get;have gm:=s7.get;unfold xH at gm;by_cases hv:v.n=0
   ·rw[aai hv];simp only[EE,zb,Nat.reduceAdd,zo,Qg,g6,hv];rw[hv]at s7;exact⟨ev,lk',cl,s7.k [0,1,4,5,6,7,8]⟩
   ·rw[aae hv];obtain⟨ln,bb,o,cs,t,qm,hix,hgt,hat0,hlk⟩:=EV (hL.at s7) hff i.l;have s7':=s7;rw[hc]at s7';obtain⟨cs2,gq,wq,ltq,lq,kf,kp,kb,kz,kr⟩:=kD (s7'.p 5) hcl;simp only[EE,zb,Nat.reduceAdd,zo,I9,SJ,AD,AE,Jt,vB,Vp,Qg,g5,g6,gm,gq,kf,hv,ze6,hix,hgt,hat0,hlk];refine N4 (S:=yH S 1 v.n 0) hcl hc (s7.p 5) _ λh3 s3=>?_;simp only[EE];exact⟨ev,lk',cl,s3.k [1,2,5,0,6,7,8]⟩
omit s2 B in
theorem iT(lim:Int)(S:St)(f:Nat):(ye lim S f).ev=S.ev/\(ye lim S f).lk=S.lk/\(ye lim S f).used=S.used/\(ye lim S f).mem=S.mem:=by
 unfold ye zY;by_cases hc:lim-S.stack<8
 ·rw[aai hc];exact⟨rfl,rfl,rfl,rfl⟩
 ·rw[aae hc];exact⟨rfl,rfl,rfl,rfl⟩
omit s2 B in
theorem zaU(S:St)(c:Fr):(kK S c).1.ev=S.ev/\(kK S c).1.lk=S.lk/\(kK S c).1.used=S.used/\(kK S c).1.mem=S.mem:=by
 unfold kK;split
 ·exact⟨rfl,rfl,rfl,rfl⟩
 ·split
  ·exact⟨rfl,rfl,rfl,rfl⟩
  ·split <;> exact⟨rfl,rfl,rfl,rfl⟩
omit s2 B in
theorem AP(lim:Int)(S:St)(c:Fr)(i:xY):(yK lim S c i).1.ev=S.ev/\(yK lim S c i).1.lk=S.lk/\(yK lim S c i).1.used=S.used:=by
 unfold yK zY;split
 ·split <;> exact⟨rfl,rfl,rfl⟩
 ·split
  ·exact⟨rfl,rfl,rfl⟩
  ·by_cases hc:lim-S.stack<i.k
   ·rw[aai hc];exact⟨rfl,rfl,rfl⟩
   ·rw[aae hc];exact⟨rfl,rfl,rfl⟩
theorem zaE(hk:i.op=21)(hs0:0<=i.sub):xB lo p b mb wb wn world lim lv gl b5 q j i h2 ((ye lim (yH {S with flags:=false} 4 i.sub 0) i.sub.toNat),true):=by
 have g5:=s2.get;have gm:=(s2.p 1).get;unfold xH at gm;unfold xB;obtain⟨fn,hfn⟩:∃fn:Nat,i.sub=fn:=⟨i.sub.toNat,by omega⟩;rw[hfn,aaw];simp only[EE,nth,Nat.reduceAdd,Int.reduceEq,zN,xx,Es,Ur,ja,jv,km,ko,qw,uv,uw,vU,vh,vi,w6,wN,ya,wi,xR,zQ,zL,xS,xM,xA,g5,hk];refine z9 (s2.p 1) (by simp[ug]) rfl λh3 s3=>?_;rw[Oz]at s3;simp only[EE,zo,zB];have g5:=(s3.p 1).get;simp only[EE,g5,hfn];obtain⟨lo1,l1,s4,fr⟩:=(s3.f [0,2]).call (L2:=[pt b (xH p lv mb wb {S with flags:=false} ev lk gl cl lim),w7 80 3 lk (S.lk.map vQ)]);refine dM (EX (S:={S with flags:=false}) s4 B.lk 4 fn 0) ?_;rintro r h5 ⟨lk',s6⟩;have s7:=fr _ _ s6;have g5:=(s7.p 2).get;simp only[EE,zo,zB,Qh,g5,hfn];obtain⟨lo2,l2,s8,fr2⟩:=(s7.f [0,4]).call (L2:=[pt b (xH p lv mb wb (yH {S with flags:=false} 4 fn 0) ev lk' gl cl lim),w7 134 7 cl (S.calls.map yX)]);refine dM (NP (S:=yH {S with flags:=false} 4 fn 0) s8 ⟨B.Mn.l0,B.Mn.l1,B.Mn.s0,B.Mn.s1⟩ B.cs fn) ?_;rintro r h9 ⟨cl',s10⟩;have s11:=fr2 _ _ s10;simp only[];obtain⟨e1,e2,e3,e4⟩:=iT lim (yH {S with flags:=false} 4 fn 0) fn;refine⟨ev,lk',cl',?_⟩;unfold Da;rw[e1,e2,e3,e4];exact s11.k [0,2,4,1,5,6,7]
theorem zaF(hk:i.op=22)(hcl:cl=.slice (some ⟨q,0,none⟩) (ini.length+1) cp)(hc:S.calls=ini++[c])(hn1:ini.length<4611686018427387900):xB lo p b mb wb wn world lim lv gl b5 q (ini.length*7) i h2 (kK S c):=by
 have g5:=s2.get;have gm:=(s2.p 1).get;unfold xH at gm;unfold xB;simp only[EE,nth,Nat.reduceAdd,Int.reduceEq,zN,xx,Zp,jv,km,ko,qw,uv,uw,vU,vh,vi,w6,wN,ya,wi,xR,zQ,zL,xS,xM,xA,g5,hk];refine dM (zb4 (s2.f [1,4]) hcl hc hn1 B.Mn) ?_;rintro v h4 ⟨rfl,cl',s4⟩;simp only[EE];obtain⟨e1,e2,e3,e4⟩:=zaU S c;refine⟨ev,lk,cl',?_⟩;unfold Da;rw[e1,e2,e3,e4];exact s4.k [0,3,4,1,5,6,7]
theorem zaG(hk:i.op=23)(hcl:cl=.slice (some ⟨q,0,none⟩) (ini.length+1) cp)(hc:S.calls=ini++[c])(hF:Iv c)(k0:0<=i.k)(k1:i.k<=65536):xB lo p b mb wb wn world lim lv gl b5 q (ini.length*7) i h2 (yK lim S c i):=by
 have g5:=s2.get;have gm:=(s2.p 1).get;unfold xH at gm;unfold xB;simp only[EE,nth,Nat.reduceAdd,Int.reduceEq,zN,xx,u3,Yp,Zp,jv,km,ko,qw,uv,uw,vU,vh,vi,w6,wN,ya,wi,xR,zQ,zL,xS,xM,xA,g5,hk];have ei:i.val=.agg #[pm 23,pm i.r,pm i.m,pm i.sub,pm i.cc,pm i.l,pm i.k]:=by rw[<- hk]
 rw[<- ei];obtain⟨lo1,l1,s3,fr⟩:=(s2.f [1,4,5]).call (L2:=[pt b (xH p lv mb wb S ev lk gl cl lim),w7 134 7 cl (S.calls.map yX),WT mb S.mem]);refine dM (NX (i:=i) s3 hcl hc B.Mn B.hl B.mem.2 hF.qX hF.size k0 k1 (by omega)) ?_;rintro v h4 ⟨rfl,s4⟩;have s5:=fr _ _ s4;simp only[EE];obtain⟨e1,e2,e3⟩:=AP lim S c i;refine⟨ev,lk,cl,?_⟩;unfold Da;rw[e1,e2,e3];exact s5.k [0,4,5,1,2,6,7]
theorem zaH(hk:i.op=24)(hcl:cl=.slice (some ⟨q,0,none⟩) (ini.length+1) cp)(hc:S.calls=ini++[c])(hF:Iv c)(k0:0<=i.k)(k1:i.k<=65536):xB lo p b mb wb wn world lim lv gl b5 q (ini.length*7) i h2 (yK lim S c i):=by
 have g5:=s2.get;have gm:=(s2.p 1).get;unfold xH at gm;unfold xB;simp only[EE,nth,Nat.reduceAdd,Int.reduceEq,zN,xx,u3,Yp,Zp,jv,km,ko,qw,uv,uw,vU,vh,vi,w6,wN,ya,wi,xR,zQ,zL,xS,xM,xA,g5,hk];have ei:i.val=.agg #[pm 24,pm i.r,pm i.m,pm i.sub,pm i.cc,pm i.l,pm i.k]:=by rw[<- hk]
 rw[<- ei];obtain⟨lo1,l1,s3,fr⟩:=(s2.f [1,4,5]).call (L2:=[pt b (xH p lv mb wb S ev lk gl cl lim),w7 134 7 cl (S.calls.map yX),WT mb S.mem]);refine dM (NX (i:=i) s3 hcl hc B.Mn B.hl B.mem.2 hF.qX hF.size k0 k1 (by omega)) ?_;rintro v h4 ⟨rfl,s4⟩;have s5:=fr _ _ s4;simp only[EE];obtain⟨e1,e2,e3⟩:=AP lim S c i;refine⟨ev,lk,cl,?_⟩;unfold Da;rw[e1,e2,e3];exact s5.k [0,4,5,1,2,6,7]
theorem zaI(hk:i.op=25)(hwl:world.length<4611686018427387904):xB lo p b mb wb wn world lim lv gl b5 q j i h2 ((xt {wS S 1 (qj world S.used) with used:=S.used+1} 0 (wB (qj world S.used))),true):=by
 have g5:=s2.get;have gm:=(s2.p 1).get;unfold xH at gm;unfold xB;simp only[EE,nth,Nat.reduceAdd,Int.reduceEq,zN,zo,zdP,xx,TJ,Zo,Wo,u3,Yp,Zp,jv,km,ko,qw,uv,uw,vU,vh,vi,w6,wN,ya,wi,xR,zQ,zL,xS,xM,xA,g5,gm,hk,zhU];obtain⟨lo1,l1,s3,fr⟩:=(s2.f [6,7]).call (L2:=[pt wb (.cells [wn,pm S.used] 151),w7 2 1 wn (world.map yA)]);refine dM (zeQ s3 B.used.1 B.used.2 hwl) ?_;rintro r h2 ⟨rfl,s4⟩;have s5:=fr _ _ s4;simp only[];obtain⟨lo2,l2,s6,fr2⟩:=(s5.f [3,5]).call (L2:=[pt b (xH p lv mb wb S ev lk gl cl lim),w7 85 2 ev (S.ev.map qG)]);refine dM (NR s6 B.ev 1 (qj world S.used)) ?_;rintro r h5 ⟨ev',s7⟩;have s8:=fr2 _ _ s7;simp only[];refine JC (Xo (qj world S.used) _) ?_;simp only[EE,seval,xQ,xW,Qi];refine z9 s8 (by simp[ug]) rfl λh9 s9=>?_;rw[zcr (S:=wS S 1 (qj world S.used)) B.hl (wB (qj world S.used))]at s9;simp only[];exact⟨ev',lk,cl,s9.k [0,5,1,6,7,2,3]⟩
theorem zaJ(hk:i.op=26)  : xB lo p b mb wb wn world lim lv gl b5 q j i h2 (if (zj S 0).k=1 then (wS S 2 (zj S 0).n,true) else (S,false)):=by
 have g5:=s2.get;have gm:=(s2.p 1).get;unfold xH at gm;unfold xB;have e14:(vz p lv mb wb S ev lk gl cl lim)[14]? = some (pm (zj S 0).k):=by kernel_rfl
 have e15:(vz p lv mb wb S ev lk gl cl lim)[15]? = some (pm (zj S 0).n):=by kernel_rfl
 by_cases k1:(zj S 0).k=1
 ·rw[aai k1];simp only[EE,nth,seval,zN,zo,xx,xQ,xW,Vs,Yo,k9,Wo,u3,Yp,Zp,jv,km,ko,qw,uv,uw,vU,vh,vi,w6,wN,ya,wi,xR,zQ,zL,xS,xM,xA,g5,gm,hk,e14,e15,k1];obtain⟨lo2,l2,s6,fr2⟩:=(s2.f [1,3]).call (L2:=[pt b (xH p lv mb wb S ev lk gl cl lim),w7 85 2 ev (S.ev.map qG)]);refine dM (NR s6 B.ev 2 (zj S 0).n) ?_;rintro r h5 ⟨ev',s7⟩;have s8:=fr2 _ _ s7;simp only[];exact⟨ev',lk,cl,s8.k [0,3,1,4,5,6,7]⟩
 ·rw[aae k1];simp only[EE,nth,seval,zN,zo,xx,xQ,xW,Yo,k9,Wo,u3,Yp,Zp,jv,km,ko,qw,uv,uw,vU,vh,vi,w6,wN,ya,wi,xR,zQ,zL,xS,xM,xA,g5,gm,hk,e14,k1];exact⟨ev,lk,cl,s2.drop⟩
end
structure gE (p:Pg) (i:xY):Prop where
 lo:1<=i.op
 hi:i.op<=26
 r:E4 i.op=true->0<=i.r/\i.r<16
 m:m7 i.op=true->0<=i.m/\i.m<16
 sub:i.op=3\/i.op=4->wH i.sub
 glo:i.op=6->0<=i.sub/\i.sub<p.globals.length
 frame:i.op=23\/i.op=24->0<=i.k/\i.k<=65536
 call:i.op=21->0<=i.sub/\i.sub<p.funcs.length
theorem zb0{p:Pg}{i:xY}{m:List (Int×aaa)}(h:Xw p.globals i=true)(hh:UG p.funcs.length m i=true):gE p i:=by
 unfold Xw at h;simp only[aah,aaR]at h;obtain⟨h1,h2,h3,h4⟩:=h;unfold Wz at h3;simp only[aah]at h3;obtain⟨h5,h6⟩:=h3;refine⟨h1,h2,λq=>?_,λq=>?_,λq=>?_,λq=>?_,λq=>?_,λq=>?_⟩
 ·rw[q]at h5;simp at h5;omega
 ·rw[q]at h6;simp at h6;omega
 ·unfold yC at h4;rw[aai q]at h4;simp at h4;obtain⟨h7,_⟩:=h4;unfold wH;omega
 ·unfold yC at h4;rw[aae (by omega),aae (by omega),aai q]at h4;simp at h4;omega
 ·unfold yC at h4;rw[aae (by omega),aae (by omega),aae (by omega),aae (by omega),aae (by omega),aae (by omega),aae (by omega),aae (by omega),aae (by omega),aae (by omega),aae (by omega),aai q]at h4;simp at h4;omega
 ·unfold UG at hh;rw[q]at hh;simp at hh;omega
section
variable {lo:yE}{h:za}{b mb wb:Nat}{p:Pg}{S:St}{wn lv gl ev lk cl:aaa}{world:List Int}{lim:Int}{i:xY}{c:Fr}{ini:List Fr}{q cp:Nat}{f:Fn}
theorem zfm(s:Sat lo h (Da p b mb wb wn world lim lv gl S ev lk cl))(B:rH lim S)(hF:Iv c)(hcl:cl=.slice (some ⟨q,0,none⟩) (ini.length+1) cp)(hc:S.calls=ini++[c])(hn1:ini.length<4611686018427387900)(hwl:world.length<4611686018427387904)(hg:Rd lo (zl · gl S.gl))(hgl:S.gl.length=p.globals.length)(hL:Rd lo (JF p lv))(hf:p.funcs[c.f]? = some f)(G:gE p i) :
  DC pu 66 [xG b,.pointer (some ⟨q,ini.length*7,none⟩),i.val] h (λv h'=>v=.bool (zi p lim world S c i).2/\BS lo p b mb wb wn world lim lv gl (zi p lim world S c i).1 h'):=by
 apply ot;unfold tX xG;simp only[EE,Value.cells];refine w8 s λb5 h2 s2=>?_;have g5:=s2.get;simp only[EE,↓xg,zo,zf,g5];show xB lo p b mb wb wn world lim lv gl b5 q (ini.length*7) i h2 (zi p lim world S c i);have hd:i.op=1\/i.op=2\/i.op=3\/i.op=4\/i.op=5\/i.op=6\/i.op=7\/i.op=8\/i.op=9\/i.op=10\/i.op=11\/i.op=12\/i.op=13\/i.op=14\/i.op=15\/i.op=16\/i.op=17\/i.op=18\/i.op=19\/i.op=20\/i.op=21\/i.op=22\/i.op=23\/i.op=24\/i.op=25\/i.op=26:=by have:=G.lo;have:=G.hi;omega
 rcases hd with hk|hk|hk|hk|hk|hk|hk|hk|hk|hk|hk|hk|hk|hk|hk|hk|hk|hk|hk|hk|hk|hk|hk|hk|hk|hk
 ·have e:zi p lim world S c i=(xt S i.r (zj S i.m),true):=by unfold zi;simp only[hk,Int.reduceEq,aaG,aas,aar]
  rw[e];exact zeS s2 B hk (G.r (by rw[hk];rfl)).1 (G.r (by rw[hk];rfl)).2 (G.m (by rw[hk];rfl)).1 (G.m (by rw[hk];rfl)).2
 ·have e:zi p lim world S c i=(xt S i.r (wB i.k),true):=by unfold zi;simp only[hk,Int.reduceEq,aaG,aas,aar]
  rw[e];exact zeT s2 B hk (G.r (by rw[hk];rfl)).1 (G.r (by rw[hk];rfl)).2
 ·have e:zi p lim world S c i=yb S i:=by unfold zi;simp only[hk,Int.reduceEq,aaN,aaG,aas,aar]
  rw[e];exact zeU s2 B hk (G.r (by rw[hk];rfl)).1 (G.r (by rw[hk];rfl)).2 (G.m (by rw[hk];rfl)).1 (G.m (by rw[hk];rfl)).2 (G.sub (.inl hk))
 ·have e:zi p lim world S c i=yb S i:=by unfold zi;simp only[hk,Int.reduceEq,aaY,aaG,aas,aar]
  rw[e];exact zeV s2 B hk (G.r (by rw[hk];rfl)).1 (G.r (by rw[hk];rfl)).2 (G.m (by rw[hk];rfl)).1 (G.m (by rw[hk];rfl)).2 (G.sub (.inr hk))
 ·have e:zi p lim world S c i=xV S i.r (zH 11 (zj S i.m) (wB i.k)):=by unfold zi;simp only[hk,Int.reduceEq,aaG,aas,aar]
  rw[e];exact zeW s2 B hk (G.r (by rw[hk];rfl)).1 (G.r (by rw[hk];rfl)).2 (G.m (by rw[hk];rfl)).1 (G.m (by rw[hk];rfl)).2
 ·have e:zi p lim world S c i=(xt S i.r (iQ (S.gl.getD i.sub.toNat 0) i.k),true):=by unfold zi;simp only[hk,Int.reduceEq,aaG,aas,aar]
  rw[e];exact zeX s2 B hk (G.r (by rw[hk];rfl)).1 (G.r (by rw[hk];rfl)).2 (G.glo hk).1 (by rw[hgl];exact(G.glo hk).2) hg
 ·have e:zi p lim world S c i=xV S i.r (zH i.sub (zj S i.r) (zj S i.m)):=by unfold zi;simp only[hk,Int.reduceEq,aaG,aas,aar]
  rw[e];exact zeY s2 B hk (G.r (by rw[hk];rfl)).1 (G.r (by rw[hk];rfl)).2 (G.m (by rw[hk];rfl)).1 (G.m (by rw[hk];rfl)).2
 ·have e:zi p lim world S c i=xV S i.r (zH i.sub (zj S i.r) (wB i.k)):=by unfold zi;simp only[hk,Int.reduceEq,aaN,aaG,aas,aar]
  rw[e];exact zeZ s2 B hk (G.r (by rw[hk];rfl)).1 (G.r (by rw[hk];rfl)).2
 ·have e:zi p lim world S c i=xV S i.r (bO i.sub (zj S i.r)):=by unfold zi;simp only[hk,Int.reduceEq,aaG,aas,aar]
  rw[e];exact ze0 s2 B hk (G.r (by rw[hk];rfl)).1 (G.r (by rw[hk];rfl)).2
 ·have e:zi p lim world S c i=xV S i.r (bO i.sub (zj S i.m)):=by unfold zi;simp only[hk,Int.reduceEq,aaG,aas,aar]
  rw[e];exact zat s2 B hk (G.r (by rw[hk];rfl)).1 (G.r (by rw[hk];rfl)).2 (G.m (by rw[hk];rfl)).1 (G.m (by rw[hk];rfl)).2
 ·have e:zi p lim world S c i=xV S i.r (zH i.sub (zj S i.r) (wB i.k)):=by unfold zi;simp only[hk,Int.reduceEq,aaY,aaG,aas,aar]
  rw[e];exact zau s2 B hk (G.r (by rw[hk];rfl)).1 (G.r (by rw[hk];rfl)).2
 ·have e:zi p lim world S c i=(if (zj S 1).k=1 then xV S i.r (zH i.sub (zj S i.r) (wB (kN (· &&& ·) (zj S 1).n 63))) else (S,false)):=by unfold zi;simp only[hk,Int.reduceEq,aaG,aas,aar]
  rw[e];exact zav s2 B hk (G.r (by rw[hk];rfl)).1 (G.r (by rw[hk];rfl)).2
 ·have e:zi p lim world S c i=(xt S 2 (Zs (zj S 0)),decide ((zj S 0).k=1)):=by unfold zi;simp only[hk,Int.reduceEq,aaG,aas,aar]
  rw[e];exact zaw s2 B hk
 ·have e:zi p lim world S c i=qF S (zj S i.m):=by unfold zi;simp only[hk,Int.reduceEq,aaG,aas,aar]
  rw[e];exact zax s2 B hk (G.m (by rw[hk];rfl)).1 (G.m (by rw[hk];rfl)).2
 ·have e:zi p lim world S c i=({S with flags:=true,a:=zj S i.r,b:=zj S i.m},true):=by unfold zi;simp only[hk,Int.reduceEq,aaG,aas,aar]
  rw[e];exact zay s2 B hk (G.r (by rw[hk];rfl)).1 (G.r (by rw[hk];rfl)).2 (G.m (by rw[hk];rfl)).1 (G.m (by rw[hk];rfl)).2
 ·have e:zi p lim world S c i=({S with flags:=true,a:=zj S i.r,b:=wB i.k},true):=by unfold zi;simp only[hk,Int.reduceEq,aaG,aas,aar]
  rw[e];exact zaz s2 B hk (G.r (by rw[hk];rfl)).1 (G.r (by rw[hk];rfl)).2
 ·have e:zi p lim world S c i=(if S.flags=true then xV S i.r (zH i.cc S.a S.b) else (S,false)):=by unfold zi;simp only[hk,Int.reduceEq,aaG,aas,aar]
  rw[e];exact zaA s2 B hk (G.r (by rw[hk];rfl)).1 (G.r (by rw[hk];rfl)).2
 ·have e:zi p lim world S c i=(vj S {c with pt:=ve p c.f i.l},true):=by unfold zi;simp only[hk,Int.reduceEq,aaG,aas,aar]
  rw[e];exact zaB s2 B hk hcl hc hL hf
 ·have e:zi p lim world S c i=Yh p S c i:=by unfold zi;simp only[hk,Int.reduceEq,aaG,aas,aar]
  rw[e];exact zaC s2 B hk hcl hc hL hf
 ·have e:zi p lim world S c i=(S,true):=by unfold zi;simp only[hk,Int.reduceEq,aaG,aar]
  rw[e];exact zaD s2 B hk
 ·have e:zi p lim world S c i=(ye lim (yH {S with flags:=false} 4 i.sub 0) i.sub.toNat,true):=by unfold zi;simp only[hk,Int.reduceEq,aaG,aas,aar]
  rw[e];exact zaE s2 B hk (G.call hk).1
 ·have e:zi p lim world S c i=kK S c:=by unfold zi;simp only[hk,Int.reduceEq,aaG,aas,aar]
  rw[e];exact zaF s2 B hk hcl hc hn1
 ·have e:zi p lim world S c i=yK lim S c i:=by unfold zi;simp only[hk,Int.reduceEq,aaN,aaG,aas,aar]
  rw[e];exact zaG s2 B hk hcl hc hF (G.frame (.inl hk)).1 (G.frame (.inl hk)).2
 ·have e:zi p lim world S c i=yK lim S c i:=by unfold zi;simp only[hk,Int.reduceEq,aaY,aaG,aas,aar]
  rw[e];exact zaH s2 B hk hcl hc hF (G.frame (.inr hk)).1 (G.frame (.inr hk)).2
 ·have e:zi p lim world S c i=(xt {wS S 1 (qj world S.used) with used:=S.used+1} 0 (wB (qj world S.used)),true):=by unfold zi;simp only[hk,Int.reduceEq,aaG,aas,aar]
  rw[e];exact zaI s2 B hk hwl
 ·have e:zi p lim world S c i=(if (zj S 0).k=1 then (wS S 2 (zj S 0).n,true) else (S,false)):=by unfold zi;simp only[hk,Int.reduceEq,aaG,aas,aar]
  rw[e];exact zaJ s2 B hk
end
structure Ft (p:Pg) (c:Fr):Prop where
 qX:wH c.qX
 size:0<=c.size/\c.size<=65536
 KC:vb c.KC
 at_:∃f,p.funcs[c.f]? = some f/\0<=c.pt/\c.pt<=f.code.length
structure YF (p:Pg) (lim n:Int) (S:St):Prop where
 n0:0<=n
 hl:S.jb.length=16
 hv:∀r,vb (zj S r)
 va:vb S.a
 Fz:vb S.b
 fr:∀c,c∈S.calls->Ft p c
 l0:0<=lim
 l1:lim<4294967296
 s0 : -(65536*n)<=S.stack
 s1:S.stack<=lim
 lk:(S.lk.length:Int)<=n
 ev:(S.ev.length:Int)<=n
 cs:(S.calls.length:Int)<=n+1
 used:0<=S.used/\S.used<=n
 mem:i5 S.mem
 gl:∀z,z∈S.gl->wH z
 p8:S.gl.length=p.globals.length
theorem zh2{o:Option V}(h:∀v,o=some v->vb v):vb (o.getD v0):=by
 cases o with
 |none=>exact nk
 |some v=>exact h v rfl
section
variable {p:Pg}{lim n:Int}{S:St}{c:Fr}{i:xY}{ini:List Fr}
theorem YF.up(I:YF p lim n S):YF p lim (n+1) S :=
 ⟨by have:=I.n0;omega,I.hl,I.hv,I.va,I.Fz,I.fr,I.l0,I.l1,by have:=I.s0;omega,I.s1,by have:=I.lk;omega,by have:=I.ev;omega,by have:=I.cs;omega,⟨I.used.1,by have:=I.used.2;omega⟩,I.mem,I.gl,I.p8⟩
theorem YF.set(I:YF p lim n S){v:V}(r:Int)(hv:vb v):YF p lim n (xt S r v):=by
 refine⟨I.n0,by unfold xt;rw[<- I.hl];exact abd ..,λr'=>?_,I.va,I.Fz,I.fr,I.l0,I.l1,I.s0,I.s1,I.lk,I.ev,I.cs,I.used,I.mem,I.gl,I.p8⟩;unfold zj xt;unfold EM;split
 ·exact nk
 ·show vb ((S.jb.set r.toNat v).getD r'.toNat v0);rw[aaF,acI];split
  ·split
   ·exact hv
   ·exact nk
  ·have:=I.hv r';unfold zj EM at this;rw[aae (by assumption),aaF]at this;exact this
theorem YF.res(I:YF p lim n S){o:Option V}(r:Int)(h:∀v,o=some v->vb v):YF p lim n (xV S r o).1:=I.set r (zh2 h)
theorem YF.top(I:YF p lim n S)(hne:S.calls≠[])(h:Ft p c):YF p lim n (vj S c):=by
 have hpos:0<S.calls.length:=List.length_pos_iff.2 hne;refine⟨I.n0,I.hl,I.hv,I.va,I.Fz,λd hd=>?_,I.l0,I.l1,I.s0,I.s1,I.lk,I.ev,?_,I.used,I.mem,I.gl,I.p8⟩
 ·rcases aa2.1 hd with q|q
  ·exact I.fr d (List.dropLast_subset _ q)
  ·simp only[abp]at q;subst q;exact h
 ·show((S.calls.dropLast++[c]).length:Int)<=n+1;have:=I.cs;simp only[acb,List.length_dropLast,List.length_singleton];omega
theorem YF.mX(I:YF p lim n S)(k a b:Int):YF p lim (n+1) (yH S k a b) :=
 ⟨I.up.n0,I.hl,I.hv,I.va,I.Fz,I.fr,I.l0,I.l1,I.up.s0,I.s1,by show((S.lk++[(k,a,b)]).length:Int)<=n+1;have:=I.lk;simp;omega,I.up.ev,I.up.cs,I.up.used,I.mem,I.gl,I.p8⟩
theorem YF.event(I:YF p lim n S)(k a:Int):YF p lim (n+1) (wS S k a) :=
 ⟨I.up.n0,I.hl,I.hv,I.va,I.Fz,I.fr,I.l0,I.l1,I.up.s0,I.s1,I.up.lk,by show((S.ev++[(k,a)]).length:Int)<=n+1;have:=I.ev;simp;omega,I.up.cs,I.up.used,I.mem,I.gl,I.p8⟩
theorem YF.grow(I:YF p lim n S){k:Int}(h:0<=k):YF p lim n (zY lim S k).1:=by
 unfold zY;split
 ·exact⟨I.n0,I.hl,I.hv,I.va,I.Fz,I.fr,I.l0,I.l1,I.s0,I.s1,I.lk,I.ev,I.cs,I.used,I.mem,I.gl,I.p8⟩
 ·exact⟨I.n0,I.hl,I.hv,I.va,I.Fz,I.fr,I.l0,I.l1,by have:=I.s0;show _<=S.stack+k;omega,by show S.stack+k<=lim;omega,I.lk,I.ev,I.cs,I.used,I.mem,I.gl,I.p8⟩
theorem aK(lim:Int)(S:St)(k:Int):(zY lim S k).1.calls=S.calls/\(zY lim S k).1.mem=S.mem:=by unfold zY;split <;> exact⟨rfl,rfl⟩
theorem YF.enter(I:YF p lim n S){f:Nat}{g:Fn}(hf:p.funcs[f]? = some g)(hcs:(S.calls.length:Int)<=n):YF p lim n (ye lim S f):=by
 have G:=I.grow (k:=8) (by decide);unfold ye;split
 ·refine⟨G.n0,G.hl,G.hv,G.va,G.Fz,λd hd=>?_,G.l0,G.l1,G.s0,G.s1,G.lk,G.ev,?_,G.used,G.mem,G.gl,G.p8⟩
  ·rcases aa2.1 hd with q|q
   ·exact G.fr d q
   ·simp only[abp]at q;subst q;exact⟨XY,⟨acu 0,by show(0:Int)<=65536;decide⟩,nk,g,hf,acu 0,Int.natCast_nonneg _⟩
  ·show(((zY lim S 8).1.calls++[_]).length:Int)<=n+1;rw[(aK lim S 8).1];simp only[acb,List.length_singleton];omega
 ·exact G
theorem YF.access(I:YF p lim n S)(i:xY):YF p lim (n+1) (yb S i).1:=by
 unfold yb;split
 ·exact I.up
 ·rename_i q hq;split
  ·split
   ·split
    ·exact I.mX 2 q.b q.n
    ·rename_i M hM;have L:=I.mX 2 q.b q.n;exact⟨L.n0,L.hl,L.hv,L.va,L.Fz,L.fr,L.l0,L.l1,L.s0,L.s1,L.lk,L.ev,L.cs,L.used,LY I.mem (I.hv i.r) hM,L.gl,L.p8⟩
   ·exact(I.mX 2 q.b q.n).res i.r λv e=>P1 I.mem e
  ·exact I.up
theorem YF.div(I:YF p lim n S){m:V}(hm:vb m):YF p lim (n+1) (qF S m).1:=by
 unfold qF;split
 ·have L:=I.mX 3 (zj S 0).n m.n;have h1:∀o,∀v,zH o (zj S 0) m=some v->vb v:=λo v e=>eC (I.hv 0) hm e;split
  ·split
   ·exact(L.res 0 (h1 14)).res 2 (h1 15)
   ·exact L.res 0 (h1 14)
  ·exact L
 ·exact I.up
theorem YF.ret(I:YF p lim n S)(c:Fr):YF p lim (n+1) (kK S c).1:=by
 have D:∀(k e:Int),YF p lim (n+1) {S with flags:=false,stack:=S.stack-8,calls:=S.calls.dropLast,kind:=k,exit:=e}:=λk e=>by
  refine⟨I.up.n0,I.hl,I.hv,I.va,I.Fz,λd hd=>I.fr d (List.dropLast_subset _ hd),I.l0,I.l1,by have:=I.s0;show _<=S.stack-8;omega,by have:=I.s1;show S.stack-8<=lim;omega,I.up.lk,I.up.ev,?_,I.up.used,I.mem,I.gl,I.p8⟩;show((S.calls.dropLast).length:Int)<=_;have:=I.cs;rw[List.length_dropLast];omega
 unfold kK;split
 ·exact I.up
 ·split
  ·exact D S.kind S.exit
  ·rename_i h2
   have e:S.calls.dropLast=[]:=by
    cases h:S.calls.dropLast with
    |nil=>rfl
    |cons a l=>exact absurd h (λq=>h2 (by rw[q];simp))
   split
   ·have:=D 1 (zj S 0).n;rw[e]at this;exact this
   ·have:=D S.kind S.exit;rw[e]at this;exact this
theorem YF.frame(I:YF p lim n S)(hne:S.calls≠[])(hc:Ft p c){i:xY}(k0:0<=i.k)(k1:i.k<=65536):YF p lim (n+1) (yK lim S c i).1:=by
 unfold yK;split
 ·split
  ·exact I.up
  ·refine YF.top (c:={c with qX:=0}) ?_ hne ⟨XY,hc.size,hc.KC,hc.at_⟩;refine YF.set ?_ 4 hc.KC;have hs:=hc.size;refine⟨I.up.n0,I.hl,I.hv,I.va,I.Fz,I.fr,I.l0,I.l1,by have:=I.s0;show _<=S.stack-c.size;omega,by have:=I.s1;show S.stack-c.size<=lim;omega,I.up.lk,I.up.ev,I.up.cs,I.up.used,P0 I.mem,I.gl,I.p8⟩
 ·split
  ·exact I.up
  ·have G:=I.up.grow k0;have ha:=aN i.k I.mem;split
   ·refine YF.top (c:={c with qX:=(yJ S.mem i.k).2.1,size:=i.k,KC:=zj S 4}) ?_ (by show(zY lim S i.k).1.calls≠[];rw[(aK lim S i.k).1];exact hne) ⟨ha.2,⟨k0,k1⟩,I.hv 4,hc.at_⟩;refine YF.set ?_ 4 (Im ha.2);exact⟨G.n0,G.hl,G.hv,G.va,G.Fz,G.fr,G.l0,G.l1,G.s0,G.s1,G.lk,G.ev,G.cs,G.used,ha.1,G.gl,G.p8⟩
   ·exact G
theorem H2:∀(xs:List xY) (l k z m:Int),0<=k->m=k+xs.length->0<=z->z<=m->0<=Yt xs l k z/\Yt xs l k z<=m
 |[],l,k,z,m,_,_,h0,h1=>⟨h0,h1⟩
 |x::xs,l,k,z,m,hk,hm,h0,h1=>by
  have hm:m=k+((xs.length+1:Nat):Int):=hm;refine H2 xs l (k+1) _ m (by omega) (by omega) ?_ ?_
  ·split <;> omega
  ·split <;> omega
theorem Ft.y7(h:Ft p c)(l:Int):Ft p {c with pt:=ve p c.f l}:=by
 obtain⟨f,hf,_,_⟩:=h.at_;refine⟨h.qX,h.size,h.KC,f,hf,?_⟩;have e:ve p c.f l=Yt f.code l 0 0:=by unfold ve;rw[hf]
 show 0<=ve p c.f l/\ve p c.f l<=f.code.length;rw[e];exact H2 f.code l 0 0 _ (by decide) (by omega) (by decide) (Int.natCast_nonneg _)
theorem YF.jcc(I:YF p lim n S)(hne:S.calls≠[])(hc:Ft p c)(i:xY):YF p lim (n+1) (Yh p S c i).1:=by
 unfold Yh;split
 ·exact I.up
 ·rename_i v hv;split
  ·show YF p lim (n+1) (if v.n=0 then _ else _);split
   ·exact I.mX 1 v.n 0
   ·exact(I.mX 1 v.n 0).top hne (hc.y7 i.l)
  ·exact I.up
theorem YF.flag(I:YF p lim n S)(f:Bool){a b:V}(ha:vb a)(hb:vb b):YF p lim n {S with flags:=f,a:=a,b:=b} :=
 ⟨I.n0,I.hl,I.hv,ha,hb,I.fr,I.l0,I.l1,I.s0,I.s1,I.lk,I.ev,I.cs,I.used,I.mem,I.gl,I.p8⟩
theorem za8(I:YF p lim n S)(world:List Int)(hne:S.calls≠[])(hc:Ft p c)(hcs:(S.calls.length:Int)<=n+1)(G:gE p i):YF p lim (n+1) (zi p lim world S c i).1:=by
 have hd:i.op=1\/i.op=2\/i.op=3\/i.op=4\/i.op=5\/i.op=6\/i.op=7\/i.op=8\/i.op=9\/i.op=10\/i.op=11\/i.op=12\/i.op=13\/i.op=14\/i.op=15\/i.op=16\/i.op=17\/i.op=18\/i.op=19\/i.op=20\/i.op=21\/i.op=22\/i.op=23\/i.op=24\/i.op=25\/i.op=26:=by have:=G.lo;have:=G.hi;omega
 rcases hd with hk|hk|hk|hk|hk|hk|hk|hk|hk|hk|hk|hk|hk|hk|hk|hk|hk|hk|hk|hk|hk|hk|hk|hk|hk|hk
 ·have e:zi p lim world S c i=(xt S i.r (zj S i.m),true):=by unfold zi;simp only[hk,Int.reduceEq,aaN,aaY,aaG,aas,aar]
  rw[e];exact I.up.set _ (I.hv _)
 ·have e:zi p lim world S c i=(xt S i.r (wB i.k),true):=by unfold zi;simp only[hk,Int.reduceEq,aaN,aaY,aaG,aas,aar]
  rw[e];exact I.up.set _ (bP _)
 ·have e:zi p lim world S c i=yb S i:=by unfold zi;simp only[hk,Int.reduceEq,aaN,aaY,aaG,aas,aar]
  rw[e];exact I.access i
 ·have e:zi p lim world S c i=yb S i:=by unfold zi;simp only[hk,Int.reduceEq,aaN,aaY,aaG,aas,aar]
  rw[e];exact I.access i
 ·have e:zi p lim world S c i=xV S i.r (zH 11 (zj S i.m) (wB i.k)):=by unfold zi;simp only[hk,Int.reduceEq,aaN,aaY,aaG,aas,aar]
  rw[e];exact I.up.res _ (λv e=>eC (I.hv _) (bP _) e)
 ·have e:zi p lim world S c i=(xt S i.r (iQ (S.gl.getD i.sub.toNat 0) i.k),true):=by unfold zi;simp only[hk,Int.reduceEq,aaN,aaY,aaG,aas,aar]
  rw[e];refine I.up.set _ (Im ?_);have s0:=G.glo hk;rw[aaF,aac (by rw[I.p8];omega)];exact I.gl _ (List.getElem_mem _)
 ·have e:zi p lim world S c i=xV S i.r (zH i.sub (zj S i.r) (zj S i.m)):=by unfold zi;simp only[hk,Int.reduceEq,aaN,aaY,aaG,aas,aar]
  rw[e];exact I.up.res _ (λv e=>eC (I.hv _) (I.hv _) e)
 ·have e:zi p lim world S c i=xV S i.r (zH i.sub (zj S i.r) (wB i.k)):=by unfold zi;simp only[hk,Int.reduceEq,aaN,aaY,aaG,aas,aar]
  rw[e];exact I.up.res _ (λv e=>eC (I.hv _) (bP _) e)
 ·have e:zi p lim world S c i=xV S i.r (bO i.sub (zj S i.r)):=by unfold zi;simp only[hk,Int.reduceEq,aaN,aaY,aaG,aas,aar]
  rw[e];exact I.up.res _ (λv e=>zdH e)
 ·have e:zi p lim world S c i=xV S i.r (bO i.sub (zj S i.m)):=by unfold zi;simp only[hk,Int.reduceEq,aaN,aaY,aaG,aas,aar]
  rw[e];exact I.up.res _ (λv e=>zdH e)
 ·have e:zi p lim world S c i=xV S i.r (zH i.sub (zj S i.r) (wB i.k)):=by unfold zi;simp only[hk,Int.reduceEq,aaN,aaY,aaG,aas,aar]
  rw[e];exact I.up.res _ (λv e=>eC (I.hv _) (bP _) e)
 ·have e:zi p lim world S c i=(if (zj S 1).k=1 then xV S i.r (zH i.sub (zj S i.r) (wB (kN (· &&& ·) (zj S 1).n 63))) else (S,false)):=by unfold zi;simp only[hk,Int.reduceEq,aaN,aaY,aaG,aas,aar]
  rw[e];split
  ·exact I.up.res _ (λv e=>eC (I.hv _) (bP _) e)
  ·exact I.up
 ·have e:zi p lim world S c i=(xt S 2 (Zs (zj S 0)),decide ((zj S 0).k=1)):=by unfold zi;simp only[hk,Int.reduceEq,aaN,aaY,aaG,aas,aar]
  rw[e];exact I.up.set _ (bP _)
 ·have e:zi p lim world S c i=qF S (zj S i.m):=by unfold zi;simp only[hk,Int.reduceEq,aaN,aaY,aaG,aas,aar]
  rw[e];exact I.div (I.hv _)
 ·have e:zi p lim world S c i=({S with flags:=true,a:=zj S i.r,b:=zj S i.m},true):=by unfold zi;simp only[hk,Int.reduceEq,aaN,aaY,aaG,aas,aar]
  rw[e];exact I.up.flag true (I.hv _) (I.hv _)
 ·have e:zi p lim world S c i=({S with flags:=true,a:=zj S i.r,b:=wB i.k},true):=by unfold zi;simp only[hk,Int.reduceEq,aaN,aaY,aaG,aas,aar]
  rw[e];exact I.up.flag true (I.hv _) (bP _)
 ·have e:zi p lim world S c i=(if S.flags=true then xV S i.r (zH i.cc S.a S.b) else (S,false)):=by unfold zi;simp only[hk,Int.reduceEq,aaN,aaY,aaG,aas,aar]
  rw[e];split
  ·exact I.up.res _ (λv e=>eC I.va I.Fz e)
  ·exact I.up
 ·have e:zi p lim world S c i=(vj S {c with pt:=ve p c.f i.l},true):=by unfold zi;simp only[hk,Int.reduceEq,aaN,aaY,aaG,aas,aar]
  rw[e];exact I.up.top hne (hc.y7 _)
 ·have e:zi p lim world S c i=Yh p S c i:=by unfold zi;simp only[hk,Int.reduceEq,aaN,aaY,aaG,aas,aar]
  rw[e];exact I.jcc hne hc i
 ·have e:zi p lim world S c i=(S,true):=by unfold zi;simp only[hk,Int.reduceEq,aaN,aaY,aaG,aas,aar]
  rw[e];exact I.up
 ·have e:zi p lim world S c i=(ye lim (yH {S with flags:=false} 4 i.sub 0) i.sub.toNat,true):=by unfold zi;simp only[hk,Int.reduceEq,aaN,aaY,aaG,aas,aar]
  rw[e];obtain⟨g,hg⟩:∃g,p.funcs[i.sub.toNat]? = some g:=⟨_,aac (by have:=G.call hk;omega)⟩;exact((I.flag false I.va I.Fz).mX 4 i.sub 0).enter hg hcs
 ·have e:zi p lim world S c i=kK S c:=by unfold zi;simp only[hk,Int.reduceEq,aaN,aaY,aaG,aas,aar]
  rw[e];exact I.ret c
 ·have e:zi p lim world S c i=yK lim S c i:=by unfold zi;simp only[hk,Int.reduceEq,aaN,aaY,aaG,aas,aar]
  rw[e];exact I.frame hne hc (G.frame (.inl hk)).1 (G.frame (.inl hk)).2
 ·have e:zi p lim world S c i=yK lim S c i:=by unfold zi;simp only[hk,Int.reduceEq,aaN,aaY,aaG,aas,aar]
  rw[e];exact I.frame hne hc (G.frame (.inr hk)).1 (G.frame (.inr hk)).2
 ·have e:zi p lim world S c i=(xt {wS S 1 (qj world S.used) with used:=S.used+1} 0 (wB (qj world S.used)),true):=by unfold zi;simp only[hk,Int.reduceEq,aaN,aaY,aaG,aas,aar]
  rw[e];have E:=I.event 1 (qj world S.used);exact YF.set (S:={wS S 1 (qj world S.used) with used:=S.used+1}) ⟨E.n0,E.hl,E.hv,E.va,E.Fz,E.fr,E.l0,E.l1,E.s0,E.s1,E.lk,E.ev,E.cs,⟨by have:=I.used;show 0<=S.used+1;omega,by have:=I.used;show S.used+1<=n+1;omega⟩,E.mem,E.gl,E.p8⟩ 0 (bP _)
 ·have e:zi p lim world S c i=(if (zj S 0).k=1 then (wS S 2 (zj S 0).n,true) else (S,false)):=by unfold zi;simp only[hk,Int.reduceEq,aaN,aaY,aaG,aas,aar]
  rw[e];split
  ·exact I.event 2 _
  ·exact I.up
theorem KN(S:St)(c:Fr):(vj S c).calls≠[]:=by unfold vj;simp
theorem OF{world:List Int}(hne:S.calls≠[])(G:gE p i)(h1:(zi p lim world S c i).2=true)(h2:(zi p lim world S c i).1.kind=0):(zi p lim world S c i).1.calls≠[]:=by
 have hd:i.op=1\/i.op=2\/i.op=3\/i.op=4\/i.op=5\/i.op=6\/i.op=7\/i.op=8\/i.op=9\/i.op=10\/i.op=11\/i.op=12\/i.op=13\/i.op=14\/i.op=15\/i.op=16\/i.op=17\/i.op=18\/i.op=19\/i.op=20\/i.op=21\/i.op=22\/i.op=23\/i.op=24\/i.op=25\/i.op=26:=by have:=G.lo;have:=G.hi;omega
 rcases hd with hk|hk|hk|hk|hk|hk|hk|hk|hk|hk|hk|hk|hk|hk|hk|hk|hk|hk|hk|hk|hk|hk|hk|hk|hk|hk
 ·have e:zi p lim world S c i=(xt S i.r (zj S i.m),true):=by unfold zi;simp only[hk,Int.reduceEq,aaN,aaY,aaG,aas,aar]
  rw[e];exact hne
 ·have e:zi p lim world S c i=(xt S i.r (wB i.k),true):=by unfold zi;simp only[hk,Int.reduceEq,aaN,aaY,aaG,aas,aar]
  rw[e];exact hne
 ·have e:zi p lim world S c i=yb S i:=by unfold zi;simp only[hk,Int.reduceEq,aaN,aaY,aaG,aas,aar]
  rw[e];rw[(Kh S i).2.1];exact hne
 ·have e:zi p lim world S c i=yb S i:=by unfold zi;simp only[hk,Int.reduceEq,aaN,aaY,aaG,aas,aar]
  rw[e];rw[(Kh S i).2.1];exact hne
 ·have e:zi p lim world S c i=xV S i.r (zH 11 (zj S i.m) (wB i.k)):=by unfold zi;simp only[hk,Int.reduceEq,aaN,aaY,aaG,aas,aar]
  rw[e];exact hne
 ·have e:zi p lim world S c i=(xt S i.r (iQ (S.gl.getD i.sub.toNat 0) i.k),true):=by unfold zi;simp only[hk,Int.reduceEq,aaN,aaY,aaG,aas,aar]
  rw[e];exact hne
 ·have e:zi p lim world S c i=xV S i.r (zH i.sub (zj S i.r) (zj S i.m)):=by unfold zi;simp only[hk,Int.reduceEq,aaN,aaY,aaG,aas,aar]
  rw[e];exact hne
 ·have e:zi p lim world S c i=xV S i.r (zH i.sub (zj S i.r) (wB i.k)):=by unfold zi;simp only[hk,Int.reduceEq,aaN,aaY,aaG,aas,aar]
  rw[e];exact hne
 ·have e:zi p lim world S c i=xV S i.r (bO i.sub (zj S i.r)):=by unfold zi;simp only[hk,Int.reduceEq,aaN,aaY,aaG,aas,aar]
  rw[e];exact hne
 ·have e:zi p lim world S c i=xV S i.r (bO i.sub (zj S i.m)):=by unfold zi;simp only[hk,Int.reduceEq,aaN,aaY,aaG,aas,aar]
  rw[e];exact hne
 ·have e:zi p lim world S c i=xV S i.r (zH i.sub (zj S i.r) (wB i.k)):=by unfold zi;simp only[hk,Int.reduceEq,aaN,aaY,aaG,aas,aar]
  rw[e];exact hne
 ·have e:zi p lim world S c i=(if (zj S 1).k=1 then xV S i.r (zH i.sub (zj S i.r) (wB (kN (· &&& ·) (zj S 1).n 63))) else (S,false)):=by unfold zi;simp only[hk,Int.reduceEq,aaN,aaY,aaG,aas,aar]
  rw[e];split <;> exact hne
 ·have e:zi p lim world S c i=(xt S 2 (Zs (zj S 0)),decide ((zj S 0).k=1)):=by unfold zi;simp only[hk,Int.reduceEq,aaN,aaY,aaG,aas,aar]
  rw[e];exact hne
 ·have e:zi p lim world S c i=qF S (zj S i.m):=by unfold zi;simp only[hk,Int.reduceEq,aaN,aaY,aaG,aas,aar]
  rw[e];rw[(Hl S _).2.1];exact hne
 ·have e:zi p lim world S c i=({S with flags:=true,a:=zj S i.r,b:=zj S i.m},true):=by unfold zi;simp only[hk,Int.reduceEq,aaN,aaY,aaG,aas,aar]
  rw[e];exact hne
 ·have e:zi p lim world S c i=({S with flags:=true,a:=zj S i.r,b:=wB i.k},true):=by unfold zi;simp only[hk,Int.reduceEq,aaN,aaY,aaG,aas,aar]
  rw[e];exact hne
 ·have e:zi p lim world S c i=(if S.flags=true then xV S i.r (zH i.cc S.a S.b) else (S,false)):=by unfold zi;simp only[hk,Int.reduceEq,aaN,aaY,aaG,aas,aar]
  rw[e];split <;> exact hne
 ·have e:zi p lim world S c i=(vj S {c with pt:=ve p c.f i.l},true):=by unfold zi;simp only[hk,Int.reduceEq,aaN,aaY,aaG,aas,aar]
  rw[e];exact KN S _
 ·have e:zi p lim world S c i=Yh p S c i:=by unfold zi;simp only[hk,Int.reduceEq,aaN,aaY,aaG,aas,aar]
  rw[e];unfold Yh;split
  ·exact hne
  ·split
   ·show(if _=0 then _ else _:St).calls≠[];split
    ·exact hne
    ·exact KN _ _
   ·exact hne
 ·have e:zi p lim world S c i=(S,true):=by unfold zi;simp only[hk,Int.reduceEq,aaN,aaY,aaG,aas,aar]
  rw[e];exact hne
 ·have e:zi p lim world S c i=(ye lim (yH {S with flags:=false} 4 i.sub 0) i.sub.toNat,true):=by unfold zi;simp only[hk,Int.reduceEq,aaN,aaY,aaG,aas,aar]
  rw[e];unfold ye;split
  ·simp
  ·rw[(aK lim _ 8).1];exact hne
 ·have e:zi p lim world S c i=kK S c:=by unfold zi;simp only[hk,Int.reduceEq,aaN,aaY,aaG,aas,aar]
  rw[e];rw[e]at h1 h2;unfold kK at h1 h2 ⊢;by_cases a:c.qX≠0
  ·rw[aai a]at h1;cases h1
  ·rw[aae a]at h1 h2 ⊢;by_cases b:S.calls.dropLast≠[]
   ·rw[aai b];exact b
   ·rw[aae b]at h1 h2 ⊢;by_cases d:(zj S 0).k=1
    ·rw[aai d]at h2;cases h2
    ·rw[aae d]at h1;cases h1
 ·have e:zi p lim world S c i=yK lim S c i:=by unfold zi;simp only[hk,Int.reduceEq,aaN,aaY,aaG,aas,aar]
  rw[e];unfold yK;rw[aae (by omega)];split
  ·exact hne
  ·split
   ·exact KN _ _
   ·rw[(aK lim S _).1];exact hne
 ·have e:zi p lim world S c i=yK lim S c i:=by unfold zi;simp only[hk,Int.reduceEq,aaN,aaY,aaG,aas,aar]
  rw[e];unfold yK;rw[aai hk];split
  ·exact hne
  ·exact KN _ _
 ·have e:zi p lim world S c i=(xt {wS S 1 (qj world S.used) with used:=S.used+1} 0 (wB (qj world S.used)),true):=by unfold zi;simp only[hk,Int.reduceEq,aaN,aaY,aaG,aas,aar]
  rw[e];exact hne
 ·have e:zi p lim world S c i=(if (zj S 0).k=1 then (wS S 2 (zj S 0).n,true) else (S,false)):=by unfold zi;simp only[hk,Int.reduceEq,aaN,aaY,aaG,aas,aar]
  rw[e];split <;> exact hne
theorem EN(lim:Int)(S:St)(k:Int):(zY lim S k).1.gl=S.gl/\(zY lim S k).1.steps=S.steps:=by unfold zY;split <;> exact⟨rfl,rfl⟩
theorem C2(S:St)(i:xY):(yb S i).1.gl=S.gl/\(yb S i).1.steps=S.steps:=by
 unfold yb;split
 ·exact⟨rfl,rfl⟩
 ·split
  ·split
   ·split <;> exact⟨rfl,rfl⟩
   ·exact⟨rfl,rfl⟩
  ·exact⟨rfl,rfl⟩
theorem zej(S:St)(m:V):(qF S m).1.gl=S.gl/\(qF S m).1.steps=S.steps:=by
 unfold qF;split
 ·split
  ·split <;> exact⟨rfl,rfl⟩
  ·exact⟨rfl,rfl⟩
 ·exact⟨rfl,rfl⟩
theorem zfa(S:St)(c:Fr):(kK S c).1.gl=S.gl/\(kK S c).1.steps=S.steps:=by
 unfold kK;split
 ·exact⟨rfl,rfl⟩
 ·split
  ·exact⟨rfl,rfl⟩
  ·split <;> exact⟨rfl,rfl⟩
theorem HC(lim:Int)(S:St)(c:Fr)(i:xY):(yK lim S c i).1.gl=S.gl/\(yK lim S c i).1.steps=S.steps:=by
 unfold yK;split
 ·split <;> exact⟨rfl,rfl⟩
 ·split
  ·exact⟨rfl,rfl⟩
  ·split
   ·exact EN lim S i.k
   ·exact EN lim S i.k
theorem zeA(p:Pg)(S:St)(c:Fr)(i:xY):(Yh p S c i).1.gl=S.gl/\(Yh p S c i).1.steps=S.steps:=by
 unfold Yh;split
 ·exact⟨rfl,rfl⟩
 ·split
  ·show(if _=0 then _ else _:St).gl=_/\(if _=0 then _ else _:St).steps=_;split <;> exact⟨rfl,rfl⟩
  ·exact⟨rfl,rfl⟩
theorem mz(lim:Int)(S:St)(f:Nat):(ye lim S f).gl=S.gl/\(ye lim S f).steps=S.steps:=by
 unfold ye;split <;> exact EN lim S 8
theorem OE(lim:Int)(world:List Int)(S:St)(c:Fr)(G:gE p i):(zi p lim world S c i).1.gl=S.gl/\(zi p lim world S c i).1.steps=S.steps:=by
 have hd:i.op=1\/i.op=2\/i.op=3\/i.op=4\/i.op=5\/i.op=6\/i.op=7\/i.op=8\/i.op=9\/i.op=10\/i.op=11\/i.op=12\/i.op=13\/i.op=14\/i.op=15\/i.op=16\/i.op=17\/i.op=18\/i.op=19\/i.op=20\/i.op=21\/i.op=22\/i.op=23\/i.op=24\/i.op=25\/i.op=26:=by have:=G.lo;have:=G.hi;omega
 rcases hd with hk|hk|hk|hk|hk|hk|hk|hk|hk|hk|hk|hk|hk|hk|hk|hk|hk|hk|hk|hk|hk|hk|hk|hk|hk|hk
 ·have e:zi p lim world S c i=(xt S i.r (zj S i.m),true):=by unfold zi;simp only[hk,Int.reduceEq,aaN,aaY,aaG,aas,aar]
  rw[e];exact⟨rfl,rfl⟩
 ·have e:zi p lim world S c i=(xt S i.r (wB i.k),true):=by unfold zi;simp only[hk,Int.reduceEq,aaN,aaY,aaG,aas,aar]
  rw[e];exact⟨rfl,rfl⟩
 ·have e:zi p lim world S c i=yb S i:=by unfold zi;simp only[hk,Int.reduceEq,aaN,aaY,aaG,aas,aar]
  rw[e];exact C2 S i
 ·have e:zi p lim world S c i=yb S i:=by unfold zi;simp only[hk,Int.reduceEq,aaN,aaY,aaG,aas,aar]
  rw[e];exact C2 S i
 ·have e:zi p lim world S c i=xV S i.r (zH 11 (zj S i.m) (wB i.k)):=by unfold zi;simp only[hk,Int.reduceEq,aaN,aaY,aaG,aas,aar]
  rw[e];exact⟨rfl,rfl⟩
 ·have e:zi p lim world S c i=(xt S i.r (iQ (S.gl.getD i.sub.toNat 0) i.k),true):=by unfold zi;simp only[hk,Int.reduceEq,aaN,aaY,aaG,aas,aar]
  rw[e];exact⟨rfl,rfl⟩
 ·have e:zi p lim world S c i=xV S i.r (zH i.sub (zj S i.r) (zj S i.m)):=by unfold zi;simp only[hk,Int.reduceEq,aaN,aaY,aaG,aas,aar]
  rw[e];exact⟨rfl,rfl⟩
 ·have e:zi p lim world S c i=xV S i.r (zH i.sub (zj S i.r) (wB i.k)):=by unfold zi;simp only[hk,Int.reduceEq,aaN,aaY,aaG,aas,aar]
  rw[e];exact⟨rfl,rfl⟩
 ·have e:zi p lim world S c i=xV S i.r (bO i.sub (zj S i.r)):=by unfold zi;simp only[hk,Int.reduceEq,aaN,aaY,aaG,aas,aar]
  rw[e];exact⟨rfl,rfl⟩
 ·have e:zi p lim world S c i=xV S i.r (bO i.sub (zj S i.m)):=by unfold zi;simp only[hk,Int.reduceEq,aaN,aaY,aaG,aas,aar]
  rw[e];exact⟨rfl,rfl⟩
 ·have e:zi p lim world S c i=xV S i.r (zH i.sub (zj S i.r) (wB i.k)):=by unfold zi;simp only[hk,Int.reduceEq,aaN,aaY,aaG,aas,aar]
  rw[e];exact⟨rfl,rfl⟩
 ·have e:zi p lim world S c i=(if (zj S 1).k=1 then xV S i.r (zH i.sub (zj S i.r) (wB (kN (· &&& ·) (zj S 1).n 63))) else (S,false)):=by unfold zi;simp only[hk,Int.reduceEq,aaN,aaY,aaG,aas,aar]
  rw[e];split <;> exact⟨rfl,rfl⟩
 ·have e:zi p lim world S c i=(xt S 2 (Zs (zj S 0)),decide ((zj S 0).k=1)):=by unfold zi;simp only[hk,Int.reduceEq,aaN,aaY,aaG,aas,aar]
  rw[e];exact⟨rfl,rfl⟩
 ·have e:zi p lim world S c i=qF S (zj S i.m):=by unfold zi;simp only[hk,Int.reduceEq,aaN,aaY,aaG,aas,aar]
  rw[e];exact zej S _
 ·have e:zi p lim world S c i=({S with flags:=true,a:=zj S i.r,b:=zj S i.m},true):=by unfold zi;simp only[hk,Int.reduceEq,aaN,aaY,aaG,aas,aar]
  rw[e];exact⟨rfl,rfl⟩
 ·have e:zi p lim world S c i=({S with flags:=true,a:=zj S i.r,b:=wB i.k},true):=by unfold zi;simp only[hk,Int.reduceEq,aaN,aaY,aaG,aas,aar]
  rw[e];exact⟨rfl,rfl⟩
 ·have e:zi p lim world S c i=(if S.flags=true then xV S i.r (zH i.cc S.a S.b) else (S,false)):=by unfold zi;simp only[hk,Int.reduceEq,aaN,aaY,aaG,aas,aar]
  rw[e];split <;> exact⟨rfl,rfl⟩
 ·have e:zi p lim world S c i=(vj S {c with pt:=ve p c.f i.l},true):=by unfold zi;simp only[hk,Int.reduceEq,aaN,aaY,aaG,aas,aar]
  rw[e];exact⟨rfl,rfl⟩
 ·have e:zi p lim world S c i=Yh p S c i:=by unfold zi;simp only[hk,Int.reduceEq,aaN,aaY,aaG,aas,aar]
  rw[e];exact zeA p S c i
 ·have e:zi p lim world S c i=(S,true):=by unfold zi;simp only[hk,Int.reduceEq,aaN,aaY,aaG,aas,aar]
  rw[e];exact⟨rfl,rfl⟩
 ·have e:zi p lim world S c i=(ye lim (yH {S with flags:=false} 4 i.sub 0) i.sub.toNat,true):=by unfold zi;simp only[hk,Int.reduceEq,aaN,aaY,aaG,aas,aar]
  rw[e];exact mz lim _ _
 ·have e:zi p lim world S c i=kK S c:=by unfold zi;simp only[hk,Int.reduceEq,aaN,aaY,aaG,aas,aar]
  rw[e];exact zfa S c
 ·have e:zi p lim world S c i=yK lim S c i:=by unfold zi;simp only[hk,Int.reduceEq,aaN,aaY,aaG,aas,aar]
  rw[e];exact HC lim S c i
 ·have e:zi p lim world S c i=yK lim S c i:=by unfold zi;simp only[hk,Int.reduceEq,aaN,aaY,aaG,aas,aar]
  rw[e];exact HC lim S c i
 ·have e:zi p lim world S c i=(xt {wS S 1 (qj world S.used) with used:=S.used+1} 0 (wB (qj world S.used)),true):=by unfold zi;simp only[hk,Int.reduceEq,aaN,aaY,aaG,aas,aar]
  rw[e];exact⟨rfl,rfl⟩
 ·have e:zi p lim world S c i=(if (zj S 0).k=1 then (wS S 2 (zj S 0).n,true) else (S,false)):=by unfold zi;simp only[hk,Int.reduceEq,aaN,aaY,aaG,aas,aar]
  rw[e];split <;> exact⟨rfl,rfl⟩
end
structure IA (p:Pg):Prop where
 main:∃f,p.funcs[p.main.toNat]? = some f
 zde:0<=p.main
 few:∀f,f∈p.funcs->f.code.length<=100000
 ins:∀f,f∈p.funcs->∀x,x∈f.code->gE p x
 gl:p.globals.length<=200
 glz:∀n,n∈p.globals->0<=n/\n<=65536
 par:0<=p.params/\p.params<=6
 fl:p.funcs.length<=100
theorem BG{gl:List Int}:∀(xs:List xY) (m:List (Int×aaa)) (b:Bool) (r:List (Int×aaa)×Bool),Ze gl xs m b=some r->∀x,x∈xs->Xw gl x=true
 |[],m,b,r,h,x,hx=>by cases hx
 |y::ys,m,b,r,h,x,hx=>by
  unfold Ze at h;by_cases hy:Xw gl y=false
  ·rw[aai hy]at h;cases h
  ·rw[aae hy]at h;have hy:Xw gl y=true:=by simpa using hy
   rcases abm.1 hx with rfl|hx
   ·exact hy
   ·split at h
    ·split at h
     ·cases h
     ·exact BG ys _ _ r h x hx
    ·exact BG ys _ _ r h x hx
theorem rZ{p:Pg}(h:Yx p=true):IA p:=by
 unfold Yx at h;simp only[aah,aaM]at h;obtain⟨h1,h2,h3⟩:=h;unfold qO at h1;simp only[aah,aaz,aaL]at h1;obtain⟨a1,a2,a3,a4,a5,a6⟩:=h1
 have fn:∀f,f∈p.funcs->f.code.length<=100000 /\ ∀x,x∈f.code->gE p x:=λf hf=>by
  have h4:=h3 f hf;unfold AN at h4;simp only[aah,aaz,aaL]at h4;obtain⟨b1,b2⟩:=h4;refine⟨by omega,λx hx=>?_⟩;unfold m3 at b2;split at b2
  ·cases b2
  ·rename_i r hr;simp only[aah,aaM]at b2;exact zb0 (BG _ _ _ _ hr x hx) (b2.1 x hx)
 refine⟨⟨_,aac (by omega)⟩,by omega,λf hf=>(fn f hf).1,λf hf=>(fn f hf).2,by omega,λn hn=>?_,by omega,by omega⟩;have:=h2 n hn;simp only[aah,aaz,aaL]at this;omega
section
variable {p:Pg}{lim fuel:Int}{world:List Int}{lab:Bool}{S:St}{c:Fr}{ini:List Fr}{f:Fn}{i:xY}
theorem ng(hc:S.calls=ini++[c])(hf:p.funcs[c.f]? = some f):aT p lim world lab fuel S=if c.pt=f.code.length then {S with kind:=3} else match f.code[c.pt.toNat]? with
  |none=>{S with kind:=3}
  |some i=>if i.op=20/\lab=false then vj S {c with pt:=c.pt+1} else if S.steps=fuel then {S with kind:=2} else
   kH (zi p lim world {vj S {c with pt:=c.pt+1} with steps:=S.steps+1} {c with pt:=c.pt+1} i):=by
 have e:Y6 p c.f=f.code:=by unfold Y6;rw[hf]
 unfold aT;have hl:S.calls.getLast? = some c:=by rw[hc,acv]
 rw[hl];simp only[e];rfl
theorem PX(n:Nat)(T:St):Yz p lim world lab fuel (n+1) T=dW p lim world lab fuel (Yz p lim world lab fuel n T):=by rw[mY];rfl
def Y8(p:Pg)(fuel:Int)(S:St):Nat:=((fuel-S.steps)*100002).toNat+match S.calls.getLast? with
 |none=>0
 |some c=>((Y6 p c.f).length-c.pt).toNat
theorem PU(g:IA p)(c:Fr):(Y6 p c.f).length<=100000:=by
 unfold Y6;split
 ·exact aaX _
 ·rename_i f hf;exact g.few f (aaA hf)
theorem zc7{n:Int}{r:St×Bool}(I:YF p lim n r.1):YF p lim n (kH r):=by
 unfold kH;split
 ·exact I
 ·exact⟨I.n0,I.hl,I.hv,I.va,I.Fz,I.fr,I.l0,I.l1,I.s0,I.s1,I.lk,I.ev,I.cs,I.used,I.mem,I.gl,I.p8⟩
theorem YF.kind{n:Int}(I:YF p lim n S)(k:Int):YF p lim n {S with kind:=k}:=⟨I.n0,I.hl,I.hv,I.va,I.Fz,I.fr,I.l0,I.l1,I.s0,I.s1,I.lk,I.ev,I.cs,I.used,I.mem,I.gl,I.p8⟩
theorem YF.stp{n:Int}(I:YF p lim n S)(k:Int):YF p lim n {S with steps:=k}:=⟨I.n0,I.hl,I.hv,I.va,I.Fz,I.fr,I.l0,I.l1,I.s0,I.s1,I.lk,I.ev,I.cs,I.used,I.mem,I.gl,I.p8⟩
theorem mR(h:Ft p c)(hf:p.funcs[c.f]? = some f)(hlt:c.pt<f.code.length):Ft p {c with pt:=c.pt+1}:=by
 obtain⟨f',hf',h0,h1⟩:=h.at_;rw[hf]at hf';cases hf';exact⟨h.qX,h.size,h.KC,f,hf,by show 0<=c.pt+1;omega,by show c.pt+1<=f.code.length;omega⟩
theorem YF.bounds{n:Int}(I:YF p lim n S)(hn:n<=100000000):rH lim S :=
 ⟨I.hl,I.hv,⟨I.l0,I.l1,by have:=I.s0;omega,by have:=I.s1;have:=I.l1;omega⟩,by have:=I.lk;omega,by have:=I.ev;omega,by have:=I.cs;omega,⟨I.mem.1,I.mem.2.1⟩,⟨I.used.1,by have:=I.used.2;omega⟩⟩
theorem Ft.b(h:Ft p c):Iv c:=⟨h.qX.2,h.size⟩
end
section
variable {lo:yE}{h:za}{b mb wb:Nat}{p:Pg}{wn lv gl:aaa}{world:List Int}{lim fuel:Int}{lab:Bool}
theorem dJ{L:List HP}{cl:aaa}{S:St}{c:Fr}{ini:List Fr}(s:Sat lo h (w7 134 7 cl (S.calls.map yX)::L))(hc:S.calls=ini++[c]):∃q cp,cl=.slice (some ⟨q,0,none⟩) (ini.length+1) cp:=by
 rcases Xp s with⟨_,e,_⟩|⟨q,cp,cs,e,_⟩
 ·rw[hc]at e;simp at e
 ·exact⟨q,cp,by rw[e,hc];simp⟩
theorem LQ{X:List HP}{S:St}{ev lk cl:aaa}{K:za->Prop}(k:Int)(s:Sat lo h (pt b (xH p lv mb wb S ev lk gl cl lim)::X))(hk:∀h',Sat lo h' (pt b (xH p lv mb wb {S with kind:=k} ev lk gl cl lim)::X)->K h'):opt (xw h b 7 [pm k]) K:=by
 refine z9 s (by simp[ug]) rfl λh3 s3=>?_;rw[zfd]at s3;exact hk h3 s3
structure Loop (p:Pg) (lim:Int) (world:List Int) (lab:Bool) (fuel:Int) (T S:St):Prop where
 I:YF p lim S.steps S
 ne:S.kind=0->S.calls≠[]
 st:S.steps<=fuel
 run:∃n,S=Yz p lim world lab fuel n T
theorem Loop.next{T S S':St}(L:Loop p lim world lab fuel T S)(hk:S.kind=0)(e:aT p lim world lab fuel S=S')(I:YF p lim S'.steps S')(ne:S'.kind=0->S'.calls≠[])(st:S'.steps<=fuel):Loop p lim world lab fuel T S':=by
 obtain⟨n,hn⟩:=L.run;exact⟨I,ne,st,n+1,by rw[PX,<- hn];unfold dW;rw[aai hk,e]⟩
theorem Oa(g:IA p){n:Int}{S:St}(I:YF p lim n S):Y8 p fuel S<=((fuel-S.steps)*100002).toNat+100000:=by
 unfold Y8;cases e:S.calls.getLast? with
 |none=>simp only;omega
 |some d=>
  simp only;have h1:=PU g d;obtain⟨_,_,h2,_⟩:=(I.fr d (List.mem_of_getLast? e)).at_;omega
theorem zfn{S:St}{ev lk cl:aaa}{q cp b8:Nat}{c:Fr}{ini:List Fr}{i:xY}{f:Fn}{R:aaa->za->Prop}{J:List aaa->za->Prop}{vs:List aaa}(s:Sat lo h (pt b8 (.cells i.row 50)::Da p b mb wb wn world lim lv gl S ev lk cl))(hcl:cl=.slice (some ⟨q,0,none⟩) (ini.length+1) cp)(hc:S.calls=ini++[c])(hil:ini.length<4611686018427387900)(hwl:world.length<4611686018427387904)(hg:Rd lo (zl · gl S.gl))(hL:Rd lo (JF p lv))(hf:p.funcs[c.f]? = some f)(G:gE p i)(F:Ft p {c with pt:=c.pt+1})(I:YF p lim S.steps S)(hs:S.steps<=100000000)(hw:IntKind.wrap .i64 (c.pt+1)=c.pt+1)
  (k2:S.steps=fuel->∀h',BS lo p b mb wb wn world lim lv gl {S with kind:=2} h'->R (Zh []) h')
  (kj:¬S.steps=fuel->∀h',BS lo p b mb wb wn world lim lv gl (kH (zi p lim world {vj S {c with pt:=c.pt+1} with steps:=S.steps+1} {c with pt:=c.pt+1} i)) h'->J [] h') :
  tW (xG b) (pm fuel) R (.pointer (some ⟨q,ini.length*7,none⟩)) (pi b8) J vs h:=by
 have g8:=s.get;have gm:=(s.p 1).get;unfold xH at gm;have hst:=I.n0;unfold tW xG;by_cases hfu:S.steps=fuel
 ·simp only[EE,Nat.reduceAdd,zo,Yf,kx,mJ,Gx,gm,zdt,hfu];refine LQ 2 (s.p 1) λh2 s2=>?_;simp only[KD];exact k2 hfu h2 ⟨ev,lk,cl,(s2.p 1).drop⟩
 ·have hw1:IntKind.wrap .i64 (S.steps+1)=S.steps+1:=Go.Mem.vF (by omega) (by omega)
  have tc:∀d,(vj S d).calls=ini++[d]:=λd=>by
   show S.calls.dropLast++[d]=_;rw[hc,abq]
  simp only[EE,Nat.reduceAdd,zo,Yf,mJ,Gz,gm,zdt,hfu,hw1];refine z9 (s.p 1) (by simp[ug]) rfl λh2 s2=>?_;rw[zhb]at s2;have s2':=s2;rw[hc]at s2';obtain⟨cs,gq,wq,ltq,lq,kf,kp,kb,kz,kr⟩:=kD (s2'.p 4) hcl;clear s2';simp only[EE,zo,Jt,gq,kp,hw];refine N4 hcl hc (s2.p 4) _ λh3 s3=>?_;have g8:=(s3.p 2).get;simp only[EE,Nat.reduceAdd,zN,xx,g8];have B:rH lim {vj S {c with pt:=c.pt+1} with steps:=S.steps+1}:=(((I.top (by rw[hc];simp) F).stp (S.steps+1))).bounds hs;obtain⟨lo1,l1,s4,fr⟩:=(s3.f [1,3,4,0,5,6,7]).call (L2:=Da p b mb wb wn world lim lv gl {vj S {c with pt:=c.pt+1} with steps:=S.steps+1} ev lk cl);refine dM (zfm (i:=i) s4 B F.b hcl (tc _) hil hwl (hg.mono l1) (by have:=I.p8;exact this) (hL.mono l1) hf G) ?_;rintro v h5 ⟨rfl,ev',lk',cl',s5⟩;have s6:=fr _ _ s5;cases hok:(zi p lim world {vj S {c with pt:=c.pt+1} with steps:=S.steps+1} {c with pt:=c.pt+1} i).2 with
  |true=>
   simp only[EE];refine kj hfu h5 ?_;unfold kH;rw[aai hok];exact⟨ev',lk',cl',(s6.p 7).drop⟩
  |false=>
   simp only[EE,Yf,kx,Gy];refine LQ 3 s6 λh7 s7=>?_;simp only[];refine kj hfu h7 ?_;unfold kH;rw[aae (by rw[hok];simp)];exact⟨ev',lk',cl',(s7.p 7).drop⟩
theorem zeF(hp:Rd lo (wR · p))(g:IA p)(hwl:world.length<4611686018427387904){gls:List Int}(hg:Rd lo (zl · gl gls))(hL:Rd lo (JF p lv))(hf1:fuel<=100000000){T S0:St}(L0:Loop p lim world lab fuel T S0)(hg0:S0.gl=gls)(x0:BS lo p b mb wb wn world lim lv gl S0 h){R:aaa->za->Prop}
  (k:∀h' S,Loop p lim world lab fuel T S->S.kind≠0->BS lo p b mb wb wn world lim lv gl S h'->R (Zh []) h') :
  LP (oq (xG b) (λ_ h4=>Ai.rv [] h4 R) R (.bool lab) (pm fuel)) [] h:=by
 refine qQ (λm vs h'=>vs=[] /\ ∃S,m=Y8 p fuel S/\Loop p lim world lab fuel T S/\S.gl=gls/\BS lo p b mb wb wn world lim lv gl S h') (Y8 p fuel S0) ⟨rfl,S0,rfl,L0,hg0,x0⟩ ?_;rintro m vs h1 ⟨rfl,S,rfl,L,hgs,x⟩;have x':=x;obtain⟨ev,lk,cl,s⟩:=x;have gm:=s.get;unfold xH at gm;unfold oq xG;by_cases hk:S.kind=0
 ·rcases acq S.calls with e|⟨ini,c,hc⟩
  ·exact absurd e (L.ne hk)
  rw[acr]at hc;obtain⟨q,cp,hcl⟩:=dJ (s.p 3) hc;have cm:c∈S.calls:=by rw[hc];simp
  have F:=L.I.fr c cm;obtain⟨f,hf,p0,p1⟩:=F.at_;have fm:=aaA hf;have fl:=g.few f fm;have G:=g.ins f fm;obtain⟨pc,hpc⟩:∃pc:Nat,c.pt=pc:=⟨c.pt.toNat,by omega⟩;have s':=s;unfold Da at s';rw[hc]at s';obtain⟨cs,gq,wq,ltq,lq,kf,kp,kb,kz,kr⟩:=kD (s'.p 3) hcl;clear s';have hst:=L.I.n0;have hsf:=L.st
  have hil:ini.length<4611686018427387900:=by
   have:=L.I.cs;rw[hc]at this;simp at this;omega
  have w2:IntKind.wrap .i64 (((ini.length+1:Nat):Int)-1)=(ini.length:Nat):=by rw[show(((ini.length+1:Nat):Int)-1)=(ini.length:Nat) by omega];exact Go.Mem.vF (by omega) (by omega)
  have i0:(0:Int)<=ini.length:=by omega
  have i1:(ini.length:Int)<((ini.length+1:Nat):Int):=by omega
  have P:=hp.at s;have F2:=P.fns f fm;obtain⟨bf,ofs,cf,tf,hif,hbf,hgf,hlf,htf,hkf⟩:=Ws P.funcs (i:=c.f) (r:=f.row) (by rw[aau,hf];rfl) rfl;have k1:=hkf 1 (by decide);have k1:cf[ofs+1]? = some f.cv:=k1;have hlc:=kP F2.code 3;have fvn:=P.funcs.kY;have cvn:=F2.code.kY;simp only[EE,↓xg,zo,En,vZ,Yd,Ht,Yf,mE,AE,Jt,yZ,kx,uB,zex,EZ,GB,gm,zg6,hk,Ot,zhS,hcl,w2,i0,i1,aaw,gq,kf,kp,hif,hgf,k1,hlc,cvn];have ro:=ng (p:=p) (lim:=lim) (fuel:=fuel) (world:=world) (lab:=lab) hc hf;by_cases he:c.pt=(f.code.length:Int)
  ·simp only[EE,Yf,kx,Gv,he];refine LQ 3 s λh2 s2=>?_;simp only[KD];rw[aai he]at ro;exact k h2 _ (L.next hk ro (L.I.kind 3) (λq=>by cases q) L.st) (by show(3:Int)≠0;decide) ⟨ev,lk,cl,s2⟩
  rw[aae he]at ro;have hlt:pc<f.code.length:=by omega
  obtain⟨i,hi⟩:∃i,f.code[pc]? = some i:=⟨_,aac hlt⟩;rw[hpc,aaw,hi]at ro;simp only at ro;rw[<- hpc]at ro;have Gi:=G i (aaA hi);obtain⟨bi,oi,ci,ti,ha,hbi,hgi,hle,htk,_⟩:=Z2 F2.code (i:=pc) (r:=i.row) (by rw[aau,hi];rfl) rfl;rw[<- hpc]at ha;have hw:IntKind.wrap .i64 (c.pt+1)=c.pt+1:=Go.Mem.vF (by omega) (by have:=F2.ru;omega);have FN:=mR F hf (by omega);simp only[EE,Value.cells,zN,zo,xx,G3,Jt,GA,he,gq,kp,ha,hgi,hle,htk];refine w8 s λb8 h2 s2=>?_;simp only[EE,Nat.reduceAdd,G1];refine z9 s2 (by simp) rfl λh3 s3=>?_;have g8:=s3.get;have gm:=(s3.p 1).get;unfold xH at gm;have s3':=s3;unfold Da at s3';rw[hc]at s3';clear gq kf kp kb kz kr;obtain⟨cs,gq,wq,ltq,lq,kf,kp,kb,kz,kr⟩:=kD (s3'.p 4) hcl;clear s3'
  have lf:Y8 p fuel S=((fuel-S.steps)*100002).toNat+(f.code.length-c.pt).toNat:=by
   unfold Y8 Y6;rw[hc,acv];simp only[hf]
  have tc:∀d,(vj S d).calls=ini++[d]:=λd=>by
   show S.calls.dropLast++[d]=_;rw[hc,abq]
  by_cases hlab:i.op=20/\lab=false
  ·rw[aai hlab]at ro;obtain⟨h20,rfl⟩:=hlab;simp only[EE,zb,Nat.reduceAdd,zo,Jt,zf,Gw,l5,g8,h20,gq,kp,hw];refine N4 hcl hc (s3.p 4) _ λh4 s4=>?_;simp only[EE];have X:=L.next hk ro (L.I.top (L.ne hk) FN) (λ_=>KN _ _) L.st;refine⟨Y8 p fuel (vj S {c with pt:=c.pt+1}),?_,_,rfl,X,hgs,ev,lk,cl,s4.k [2,3,4,0,5,6,7]⟩
   have e:Y8 p fuel (vj S {c with pt:=c.pt+1})=((fuel-S.steps)*100002).toNat+(f.code.length-(c.pt+1)).toNat:=by
    unfold Y8 Y6;rw[tc,acv];simp only[hf];rfl
   omega
  rw[aae hlab]at ro;have hne:=L.ne hk
  have tl:=zfn (i:=i) (vs:=[]) (fuel:=fuel) (R:=R) (J:=λ_ h13=>∃m,m<Y8 p fuel S /\ ∃S,m=Y8 p fuel S/\Loop p lim world lab fuel T S/\S.gl=gls/\BS lo p b mb wb wn world lim lv gl S h13) s3 hcl hc hil hwl (by rw[hgs];exact hg) hL hf Gi FN L.I (by omega) hw
   (λhfu h5 x5=>by
    rw[aai hfu]at ro;exact k h5 _ (L.next hk ro (L.I.kind 2) (λq=>by cases q) L.st) (by show(2:Int)≠0;decide) x5)
   (λhfu h5 x5=>by
    rw[aae hfu]at ro;have I1:=(L.I.top hne FN).stp (S.steps+1);have I2:=za8 (i:=i) I1 world (KN _ _) FN (by have:=L.I.cs;show((vj S _).calls.length:Int)<=_;rw[tc];rw[hc]at this;simp at this ⊢;omega) Gi;have sg:=OE lim world {vj S {c with pt:=c.pt+1} with steps:=S.steps+1} {c with pt:=c.pt+1} Gi
    have es:(kH (zi p lim world {vj S {c with pt:=c.pt+1} with steps:=S.steps+1} {c with pt:=c.pt+1} i)).steps=S.steps+1:=by
     unfold kH;split <;> exact sg.2
    have eg:(kH (zi p lim world {vj S {c with pt:=c.pt+1} with steps:=S.steps+1} {c with pt:=c.pt+1} i)).gl=gls:=by
     rw[<- hgs];unfold kH;split <;> exact sg.1
    have X:=L.next hk ro (by rw[es];exact zc7 I2) (λq=>by
     unfold kH at q ⊢;split at q
     ·rename_i ok;rw[aai ok];exact OF (KN _ _) Gi ok q
     ·cases q) (by rw[es];omega)
    refine⟨_,?_,_,rfl,X,eg,x5⟩;have l2:=Oa (fuel:=fuel) g X.I;rw[es]at l2;omega)
  by_cases h20:i.op=20
  ·have hlt:lab=true:=by
    cases lab with
    |true=>rfl
    |false=>exact absurd ⟨h20,rfl⟩ hlab
   subst hlt;simp only[EE,zb,Nat.reduceAdd,zo,zf,l5,g8,h20];exact tl
  ·simp only[EE,zb,Nat.reduceAdd,zo,zf,l5,g8,h20];exact tl
 ·simp only[EE,KD,zo,Yf,kx,gm,zg6,hk];exact k h1 S L hk x'
end
end Go.As
