import Derived.Test.YtpjjmindjodknaaGreatTJ
set_option linter.unusedVariables false
set_option linter.unusedSimpArgs false
set_option maxRecDepth 100000
namespace Go.Ai
noncomputable section
variable {P:Program}
theorem OR{α β:Type}{x:Sem α}{f:α->Sem β}{a:α}(h:z9 P x=some a):z9 P (x >>= f)=z9 P (f a):=by
 induction x with
 |pure b=>simp only[z9,aab]at h;subst h;rfl
 |program k ih=>exact ih P h
 |_=>cases h
def Vw:Nat->List (Int×aaa)->List KT
 |_,[]=>[]
 |n,(k,v)::l=>(.int .i64 k,v,n)::Vw (n+1) l
def JN(l:List (Int×aaa)):vr := .map (Vw 0 l) l.length
def bU:List (Int×aaa)->Int->Option Nat
 |[],_=>none
 |(a,_)::l,k=>if a=k then some 0 else (bU l k).map (· + 1)
def KE:List (Int×aaa)->Int->Option aaa
 |[],_=>none
 |(a,v)::l,k=>if a=k then some v else KE l k
def Qb:List (Int×aaa)->Int->aaa->List (Int×aaa)
 |[],k,v=>[(k,v)]
 |(a,w)::l,k,v=>if a=k then (a,v)::l else (a,w)::Qb l k v
theorem bN:∀(l:List (Int×aaa)) (k k':Int) (v:aaa),KE (Qb l k v) k'=if k=k' then some v else KE l k'
 |[],k,k',v=>rfl
 |(a,w)::l,k,k',v=>by
  unfold Qb;by_cases h:a=k
  ·rw[aai h];subst h;unfold KE;by_cases h2:a=k'
   ·rw[aai h2,aai h2]
   ·rw[aaf h2,aaf h2,aaf h2]
  ·rw[aaf h];unfold KE;rw[bN l];by_cases h2:a=k'
   ·rw[aai h2,aai h2,aaf (by omega)]
   ·rw[aaf h2,aaf h2]
theorem AM:∀(n:Nat) (l:List (Int×aaa)),((Vw n l).all λe=>flat e.1)=true
 |_,[]=>rfl
 |n,(k,v)::l=>by show(true&&(Vw (n+1) l).all λe=>flat e.1)=true;rw[AM];rfl
theorem DK(kind:IntKind)(k:Int):∀(l:List (Int×aaa)) (n i:Nat),Instr.findNow (.int kind) (.int .i64 k) ((Vw n l).map λe=>iL e.1) i=some ((bU l k).map λj=>(i+j,undef))
 |[],n,i=>rfl
 |(a,v)::l,n,i=>by
  show(match Instr.sameNow (.int kind) (.int .i64 k) (.int .i64 a) with
   |some true=>some (some (i,undef))
   |some false=>Instr.findNow (.int kind) (.int .i64 k) ((Vw (n+1) l).map λe=>iL e.1) (i+1)
   |none=>none)=some ((if a=k then some 0 else (bU l k).map (· + 1)).map λj=>(i+j,undef))
  have e:Instr.sameNow (.int kind) (.int .i64 k) (.int .i64 a)=some (k == a):=rfl;rw[e];by_cases h:a=k
  ·rw[aai h,h,aay];rfl
  ·rw[aaf h,beq_eq_false_iff_ne.2 (λq=>h q.symm)];simp only;rw[DK kind k l];cases bU l k with
   |none=>rfl
   |some j=>simp only[abw,aab,aae,and_true];omega
theorem Tp{kt:TypeId}{kind:IntKind}(hk:z9 P (underlying kt)=some (.int kind))(k:Int)(n:Nat)(l:List (Int×aaa)):Af P kt (.int .i64 k) (Vw n l)=some (bU l k):=by
 have e:z9 P (Instr.findKey kt (.int .i64 k) ((Vw n l).map λe=>iL e.1))=some ((bU l k).map λj=>(0+j,undef)):=by
  unfold Instr.findKey;rw[OR hk,DK kind k l n 0];rfl
 unfold Af;rw[AM,e];cases bU l k with
 |none=>rfl
 |some j=>simp only[abw,abt];rfl
theorem NO{kt:TypeId}{kind:IntKind}(hk:z9 P (underlying kt)=some (.int kind))(b:Bool)(k:Int):z9 P (Instr.checkKey b 10000 kt (.int .i64 k))=some ():=by
 show z9 P (underlying kt >>= _)=_;rw[OR hk];rfl
theorem Fh:∀{l:List (Int×aaa)} {k:Int} {n:Nat},(bU l k=none->KE l k=none) /\ ∀j,bU l k=some j->∃v,KE l k=some v/\(Vw n l)[j]? = some (.int .i64 k,v,n+j)
 |[],k,n=>⟨λ_=>rfl,λj h=>by cases h⟩
 |(a,v)::l,k,n=>by
  obtain⟨i1,i2⟩:=Fh (l:=l) (k:=k) (n:=n+1);unfold bU KE;by_cases h:a=k
  ·rw[aai h,aai h];refine⟨λq=>(by cases q),λj q=>?_⟩;cases q;exact⟨v,rfl,by rw[h];rfl⟩
  ·rw[aaf h,aaf h];cases hi:bU l k with
   |none=>exact⟨λ_=>i1 hi,λj q=>by cases q⟩
   |some m=>
    refine⟨λq=>(by cases q),λj q=>?_⟩;simp only[abw,aab]at q;subst q;obtain⟨w,h1,h2⟩:=i2 m hi;exact⟨w,h1,by show(Vw (n+1) l)[m]? = _;rw[h2,show n+1+m=n+(m+1) by omega]⟩
theorem Oe:∀{l:List (Int×aaa)} {k:Int} {n:Nat} (v:aaa),(bU l k=none->Vw n (Qb l k v)=Vw n l++[(.int .i64 k,v,n+l.length)]/\(Qb l k v).length=l.length+1) /\ ∀j,bU l k=some j->Vw n (Qb l k v)=(Vw n l).set j (.int .i64 k,v,n+j)/\(Qb l k v).length=l.length
 |[],k,n,v=>⟨λ_=>⟨rfl,rfl⟩,λj h=>by cases h⟩
 |(a,w)::l,k,n,v=>by
  obtain⟨i1,i2⟩:=Oe (l:=l) (k:=k) (n:=n+1) v;unfold bU Qb;by_cases h:a=k
  ·rw[aai h,aai h];refine⟨λq=>(by cases q),λj q=>?_⟩;cases q;rw[h];exact⟨rfl,rfl⟩
  ·rw[aaf h,aaf h];cases hi:bU l k with
   |none=>
    obtain⟨e1,e2⟩:=i1 hi;refine⟨λ_=>⟨?_,?_⟩,λj q=>by cases q⟩
    ·show(_,w,n)::Vw (n+1) (Qb l k v)=_;rw[e1,show n+1+l.length=n+(l.length+1) by omega];rfl
    ·show(Qb l k v).length+1=_;rw[e2];rfl
   |some m=>
    obtain⟨e1,e2⟩:=i2 m hi;refine⟨λq=>(by cases q),λj q=>?_⟩;simp only[abw,aab]at q;subst q;refine⟨?_,?_⟩
    ·show(_,w,n)::Vw (n+1) (Qb l k v)=_;rw[e1,show n+1+m=n+(m+1) by omega];rfl
    ·show(Qb l k v).length+1=_;rw[e2];rfl
section
variable {t kt et:TypeId}{kind:IntKind}{z:aaa}{h:za}{b:Nat}{l:List (Int×aaa)}
theorem Ir(ht:z9 P (underlying t)=some (.map kt et))(hk:z9 P (underlying kt)=some (.int kind))(hz:Y7 P et=some z)(g:h.get b=some (JN l))(k:Int)(ok:Bool) :
  Wg P t (.map (some b)) (.int .i64 k) ok h=some (match KE l k with
   |some v=>cond ok (.tuple #[v,.bool true]) v
   |none=>cond ok (.tuple #[z,.bool false]) z):=by
 have em:pr h (.map (some b))=some (Vw 0 l):=by unfold pr;simp only[g];rfl
 unfold Wg;rw[ht,em];simp only[NO hk,Tp hk];obtain⟨i1,i2⟩:=Fh (l:=l) (k:=k) (n:=0);cases hi:bU l k with
 |none=>simp only[i1 hi,hz]
 |some j=>
  obtain⟨v,h1,h2⟩:=i2 j hi;simp only[h1,h2]
theorem I8(ht:z9 P (underlying t)=some (.map kt et))(hk:z9 P (underlying kt)=some (.int kind))(g:h.get b=some (JN l))(w:h.ro<=b)(k:Int)(v:aaa) :
  jG P t (.map (some b)) (.int .i64 k) v h=some (h.set b (some (JN (Qb l k v)))):=by
 unfold jG;simp only[ht,g,JN,NO hk,Tp hk,Nat.ble_eq_true_of_le w,aav];obtain⟨i1,i2⟩:=Oe (l:=l) (k:=k) (n:=0) v;obtain⟨_,i4⟩:=Fh (l:=l) (k:=k) (n:=0);cases hi:bU l k with
 |none=>
  obtain⟨e1,e2⟩:=i1 hi;simp only[e1,e2,abt]
 |some j=>
  obtain⟨e1,e2⟩:=i2 j hi;obtain⟨v',_,h2⟩:=i4 j hi;have sb:Instr.sameBits 10000 (.int .i64 k) (.int .i64 k)=true:=by show((IntKind.i64 == .i64)&&(k == k))=true;simp
  simp only[h2,sb,aav,e1,e2]
end
end
end Go.Ai
namespace Go.As
open Go.Ai Go.Proofs Go.Mem Go.Rm
def bJ(k:Int):Bool:=decide (k=IntKind.wrap .i64 (IntKind.wrap .i32 k))
def Cq(op:Int):Bool:=decide (op=1\/op=3\/op=5\/op=7\/op=10\/op=2\/op=6\/op=8\/op=9\/op=11\/op=12\/op=17\/op=4\/op=15\/op=16)
def gz(op:Int):Bool:=decide (op=1\/op=3\/op=5\/op=7\/op=10\/op=4\/op=15\/op=14)
def Ke(op:Int):Bool:=decide (op=1\/op=3\/op=5\/op=7\/op=10\/op=2\/op=6\/op=8\/op=9\/op=11\/op=12\/op=17)
def qH(op:Int):Bool:=decide (op=3\/op=4\/op=5\/op=1)
def X0(i:zC):Bool := !(Cq i.op&&(decide (i.r<0)||(decide (16<=i.r)||(Ke i.op&&decide (i.r=4)))))&&(!gz i.op||(decide (0<=i.m)&&(decide (i.m<16)&&(!decide (i.m=4)||qH i.op))))
def Wl(n:Int):Bool:=decide (21<=n)&&decide (n<=26)
def kp(s:Int):Bool:=decide (s=11\/s=12\/s=13\/s=16\/s=17\/s=18)
def yA(gl:List Int)(i:zC):Bool :=
 if i.op=3\/i.op=4 then decide (i.sub=1\/i.sub=4\/i.sub=8)&&bJ i.k
 else if i.op=5\/i.op=16 then bJ i.k
 else if i.op=6 then decide (0<=i.sub)&&(decide (i.sub<gl.length)&&(decide (0<=i.k)&&decide (i.k<=gl.getD i.sub.toNat 0)))
 else if i.op=7 then kp i.sub
 else if i.op=8 then kp i.sub&&bJ i.k
 else if i.op=9 then decide (i.sub=1\/i.sub=2)
 else if i.op=10 then decide (i.sub=3\/i.sub=4)
 else if i.op=11 then decide (i.sub=19\/i.sub=20)&&(decide (0<=i.k)&&decide (i.k<=63))
 else if i.op=12 then decide (i.sub=19\/i.sub=20)
 else if i.op=17\/i.op=19 then Wl i.cc
 else if i.op=20 then decide (0<=i.l)&&decide (i.l<=10000000)
 else if i.op=23\/i.op=24 then decide (0<=i.k)&&decide (i.k<=65536)
 else true
def kH(gl:List Int)(i:zC):Bool:=decide (1<=i.op)&&(decide (i.op<=26)&&(X0 i&&yA gl i))
def hasB(m:List (Int×aaa))(l:Int):Bool:=match KE m l with
 |some (.bool b)=>b
 |_=>false
def ZK(gl:List Int):List zC->List (Int×aaa)->Bool->Option (List (Int×aaa)×Bool)
 |[],m,some?=>some (m,some?)
 |x::xs,m,some?=>if kH gl x=false then none else if x.op=20 then (if hasB m x.l=true then none else ZK gl xs (Qb m x.l (.bool true)) some?) else ZK gl xs m true
def UU(n:Nat)(m:List (Int×aaa))(x:zC):Bool := !(decide (x.op=18\/x.op=19) && !hasB m x.l) && !(decide (x.op=21)&&(decide (x.sub<0)||decide ((n:Int)<=x.sub)))
def Br(n:Nat)(code:List zC):Option (List (Int×aaa)×Bool)->Bool
 |none=>false
 |some r=>code.all (UU n r.1)&&r.2
def DM(p:Pg)(f:Fn):Bool := !decide (100000<(f.code.length:Int))&&Br p.funcs.length f.code (ZK p.globals f.code [] false)
def ka(p:Pg):Bool := !decide (p.main<0)&&(!decide ((p.funcs.length:Int)<=p.main)&&(!decide ((100:Int)<p.funcs.length)&&(!decide ((200:Int)<p.globals.length)&&(!decide (p.params<0) && !decide (6<p.params)))))
def Zl(p:Pg):Bool:=ka p&&(p.globals.all (λn => !decide (n<0) && !decide (65536<n))&&p.funcs.all (DM p))
open Go.Rtl (zK zE Old yz xw)
theorem qS{u v w:aaa}{h:za}{R:aaa->za->Prop}(ha:zS u=false)(hb:zS v=false)(hc:zS w=false):rv [u,v,w] h R=R (.tuple #[u,v,w]) h:=by
 apply propext;simp only[rv,yi,ha,hb,hc,aaw,vB,true_and]
theorem Pu(a b c:Bool):ak (.tuple #[.bool a,.bool b,.bool c]) 0=some (.bool a):=rfl
theorem Pv(a b c:Bool):ak (.tuple #[.bool a,.bool b,.bool c]) 1=some (.bool b):=rfl
theorem Pw(a b c:Bool):ak (.tuple #[.bool a,.bool b,.bool c]) 2=some (.bool c):=rfl
theorem JI(k:Int)(h:za):vt pu 72 [pm k] h (.bool (bJ k)):=by
 apply yz;apply O8;unfold Se bJ;by_cases hk:k=IntKind.wrap .i64 (IntKind.wrap .i32 k)
 ·simp only[EE,iN,pU];simp[xw]
 ·simp only[EE,iN,pU];simp[xw]
theorem zbl(n:Int)(h:za):DC pu 88 [pm n] h (λv h1=>(∃a,v=.tuple #[pm a,.bool (Wl n)])/\h1=h):=by
 apply O2;unfold R4;by_cases h21:n=21
 ·subst h21;simp only[EE,↓BK,W9];exact⟨_,rfl⟩
 by_cases h22:n=22
 ·subst h22;simp only[EE,↓BK,Int.reduceEq,Ut,W9];exact⟨_,rfl⟩
 by_cases h23:n=23
 ·subst h23;simp only[EE,↓BK,Int.reduceEq,Kg,Ut,W9];exact⟨_,rfl⟩
 by_cases h24:n=24
 ·subst h24;simp only[EE,↓BK,Int.reduceEq,gO,aP,Kg,Ut,W9];exact⟨_,rfl⟩
 by_cases h25:n=25
 ·subst h25;simp only[EE,↓BK,Int.reduceEq,sA,gO,aP,Kg,Ut,W9];exact⟨_,rfl⟩
 by_cases h26:n=26
 ·subst h26;simp only[EE,↓BK,Int.reduceEq,aP,Kg,Ut,W9];exact⟨_,rfl⟩
 simp only[EE,↓BK,sA,gO,aP,Kg,Ut,W9,h21,h22,h23,h24,h25,h26];have e:Wl n=false:=by unfold Wl;simp;omega
 rw[e];exact⟨_,rfl⟩
theorem AG(n:Int)(h:za):vt pu 74 [pm n] h (.bool (Wl n)):=by
 apply yz;apply BZ;unfold sJ;refine Kd (zbl n _) ?_;rintro v h1 ⟨⟨a,rfl⟩,rfl⟩;simp only[EE];rfl
theorem HI(n:Int)(h:za):vt pu 73 [pm n] h (.bool (kp n)):=by
 apply yz;apply R9;unfold zcA;by_cases h11:n=11
 ·subst h11;simp only[EE,nth,↓BK,Qi];rfl
 by_cases h12:n=12
 ·subst h12;simp only[EE,nth,↓BK,Int.reduceEq,K7,Qi];rfl
 by_cases h13:n=13
 ·subst h13;simp only[EE,nth,↓BK,Int.reduceEq,cK,K7,Qi];rfl
 by_cases h16:n=16
 ·subst h16;simp only[EE,nth,↓BK,Int.reduceEq,hH,cK,K7,Qi];rfl
 by_cases h17:n=17
 ·subst h17;simp only[EE,nth,↓BK,Int.reduceEq,pO,hH,cK,K7,Qi];rfl
 by_cases h18:n=18
 ·subst h18;simp only[EE,nth,↓BK,Int.reduceEq,pO,hH,cK,K7,Qi];rfl
 simp only[EE,nth,↓BK,pO,hH,cK,K7,Qi,h11,h12,h13,h16,h17,h18];have e:kp n=false:=by unfold kp;simp;omega
 rw[e];rfl
theorem zbI(x:zC)(h:za):vt pu 87 [x.val] h (.tuple #[.bool (Cq x.op),.bool (gz x.op),.bool (Ke x.op)]):=by
 apply dF rfl;apply Lq;unfold Nv;obtain⟨op,r,m,sub,cc,l,k⟩:=x;by_cases h1:op=1
 ·subst h1;simp only[EE,nth,↓nw,Value.cells,↓BK,zu,zg,zc,vF,vG,qS];rfl
 by_cases h3:op=3
 ·subst h3;simp only[EE,nth,↓nw,Value.cells,↓BK,Int.reduceEq,zu,zg,zc,uU,vF,vG,qS];rfl
 by_cases h5:op=5
 ·subst h5;simp only[EE,nth,↓nw,Value.cells,↓BK,Int.reduceEq,zu,zg,zc,qk,uU,vF,vG,qS];rfl
 by_cases h7:op=7
 ·subst h7;simp only[EE,nth,↓nw,Value.cells,↓BK,Int.reduceEq,zu,zg,zc,qy,qk,uU,vF,vG,qS];rfl
 by_cases h10:op=10
 ·subst h10;simp only[EE,nth,↓nw,Value.cells,↓BK,Int.reduceEq,zu,zg,zc,qy,qk,uU,vF,vG,qS];rfl
 by_cases h2:op=2
 ·subst h2;simp only[EE,nth,↓nw,Value.cells,↓BK,Int.reduceEq,zu,zg,zc,qy,qk,uU,qz,qA,vF,vG,qS];rfl
 by_cases h6:op=6
 ·subst h6;simp only[EE,nth,↓nw,Value.cells,↓BK,Int.reduceEq,zu,zg,zc,qy,qk,uU,kO,qz,qA,vF,vG,qS];rfl
 by_cases h8:op=8
 ·subst h8;simp only[EE,nth,↓nw,Value.cells,↓BK,Int.reduceEq,zu,zg,zc,qy,qk,uU,jM,kO,qz,qA,vF,vG,qS];rfl
 by_cases h9:op=9
 ·subst h9;simp only[EE,nth,↓nw,Value.cells,↓BK,Int.reduceEq,zu,zg,zc,qy,qk,uU,ZL,jM,kO,qz,qA,vF,vG,qS];rfl
 by_cases h11:op=11
 ·subst h11;simp only[EE,nth,↓nw,Value.cells,↓BK,Int.reduceEq,zu,zg,zc,qy,qk,uU,YD,ZL,jM,kO,qz,qA,vF,vG,qS];rfl
 by_cases h12:op=12
 ·subst h12;simp only[EE,nth,↓nw,Value.cells,↓BK,Int.reduceEq,zu,zg,zc,qy,qk,uU,XO,YD,ZL,jM,kO,qz,qA,vF,vG,qS];rfl
 by_cases h17:op=17
 ·subst h17;simp only[EE,nth,↓nw,Value.cells,↓BK,Int.reduceEq,zu,zg,zc,qy,qk,uU,XO,YD,ZL,jM,kO,qz,qA,vF,vG,qS];rfl
 by_cases h4:op=4
 ·subst h4;simp only[EE,nth,↓nw,Value.cells,↓BK,Int.reduceEq,zu,zg,zc,qy,qk,uU,XO,YD,ZL,jM,kO,WC,WD,qz,qA,vF,vG,qS];rfl
 by_cases h15:op=15
 ·subst h15;simp only[EE,nth,↓nw,Value.cells,↓BK,Int.reduceEq,zu,zg,zc,qy,qk,uU,XO,YD,ZL,jM,kO,WC,WD,qz,qA,vF,vG,qS];rfl
 by_cases h16:op=16
 ·subst h16;simp only[EE,nth,↓nw,Value.cells,↓BK,Int.reduceEq,zu,zg,zc,qy,qk,uU,XO,YD,ZL,jM,kO,Jr,WC,WD,qz,qA,vF,vG,qS];rfl
 by_cases h14:op=14
 ·subst h14;simp only[EE,nth,↓nw,Value.cells,↓BK,Int.reduceEq,zu,zg,zc,qy,qk,uU,XO,YD,ZL,jM,kO,lY,Jr,WC,WD,qz,qA,vF,vG,qS];rfl
 simp only[EE,nth,↓nw,Value.cells,↓BK,zu,zg,zc,qy,qk,uU,XO,YD,ZL,jM,kO,lY,Jr,WC,WD,qz,qA,vF,vG,qS,h1,h3,h5,h7,h10,h2,h6,h8,h9,h11,h12,h17,h4,h15,h16,h14];have e1:Cq op=false:=by unfold Cq;simp;omega
 have e2:gz op=false:=by unfold gz;simp;omega
 have e3:Ke op=false:=by unfold Ke;simp;omega
 rw[e1,e2,e3];rfl
theorem zgH{x:zC}{H:za}{b1:Nat}{B:Bool}{vs:List aaa}(g:H.get b1=some (.cells x.row 42))(hB:B=(decide (0<=x.m)&&(decide (x.m<16)&&(!decide (x.m=4)||qH x.op)))):yG (pi b1) (xw B) vs H:=by
 obtain⟨op,r,m,sub,cc,l,k⟩:=x;simp only at hB g;by_cases o3:op=3
 ·subst o3;by_cases m0:0<=m
  ·by_cases m1:m<16
   ·by_cases m4:m=4
    ·simp only[EE,Int.reduceLT,Int.reduceLE,zu,zg,zc,z7,xx,xz,xA,xB,xC,xD,xE,xF,xG,yW,yG,g,m4];rw[hB];simp[xw,m4,qH]
    ·simp only[EE,zu,zg,zc,z7,xx,xz,xA,xB,xC,xD,xE,xF,xG,yW,yG,g,m0,m1,m4];rw[hB];simp[xw,m0,m1,m4,qH]
   ·simp only[EE,zu,zg,zc,z7,xx,xz,xA,xB,xC,xD,xE,xF,xG,yW,yG,g,m0,m1];rw[hB];simp[xw,m0,m1,qH]
  ·simp only[EE,zu,zg,zc,z7,xx,xz,xA,xB,xC,xD,xE,xF,xG,yW,yG,g,m0];rw[hB];simp[xw,m0,qH]
 by_cases o4:op=4
 ·subst o4;by_cases m0:0<=m
  ·by_cases m1:m<16
   ·by_cases m4:m=4
    ·simp only[EE,seval,zu,zg,zc,z7,xx,xz,xA,xB,xC,xD,xE,xF,xG,yW,yG,g,m4];rw[hB];simp[xw,m4,qH]
    ·simp only[EE,Int.reduceEq,zu,zg,zc,z7,xx,xz,xA,xB,xC,xD,xE,xF,xG,yW,yG,g,m0,m1,m4];rw[hB];simp[xw,m0,m1,m4,qH]
   ·simp only[EE,Int.reduceEq,zu,zg,zc,z7,xx,xz,xA,xB,xC,xD,xE,xF,xG,yW,yG,g,m0,m1];rw[hB];simp[xw,m0,m1,qH]
  ·simp only[EE,Int.reduceEq,zu,zg,zc,z7,xx,xz,xA,xB,xC,xD,xE,xF,xG,yW,yG,g,m0];rw[hB];simp[xw,m0,qH]
 by_cases o5:op=5
 ·subst o5;by_cases m0:0<=m
  ·by_cases m1:m<16
   ·by_cases m4:m=4
    ·simp only[EE,seval,zu,zg,zc,z7,xx,xz,xA,xB,xC,xD,xE,xF,xG,yW,yG,g,m4];rw[hB];simp[xw,m4,qH]
    ·simp only[EE,Int.reduceEq,zu,zg,zc,z7,xx,xz,xA,xB,xC,xD,xE,xF,xG,yW,yG,g,m0,m1,m4];rw[hB];simp[xw,m0,m1,m4,qH]
   ·simp only[EE,Int.reduceEq,zu,zg,zc,z7,xx,xz,xA,xB,xC,xD,xE,xF,xG,yW,yG,g,m0,m1];rw[hB];simp[xw,m0,m1,qH]
  ·simp only[EE,Int.reduceEq,zu,zg,zc,z7,xx,xz,xA,xB,xC,xD,xE,xF,xG,yW,yG,g,m0];rw[hB];simp[xw,m0,qH]
 by_cases o1:op=1
 ·subst o1;by_cases m0:0<=m
  ·by_cases m1:m<16
   ·by_cases m4:m=4
    ·simp only[EE,seval,zu,zg,zc,z7,xx,xz,xA,xB,xC,xD,xE,xF,xG,yW,yG,g,m4];rw[hB];simp[xw,m4,qH]
    ·simp only[EE,Int.reduceEq,zu,zg,zc,z7,xx,xz,xA,xB,xC,xD,xE,xF,xG,yW,yG,g,m0,m1,m4];rw[hB];simp[xw,m0,m1,m4,qH]
   ·simp only[EE,Int.reduceEq,zu,zg,zc,z7,xx,xz,xA,xB,xC,xD,xE,xF,xG,yW,yG,g,m0,m1];rw[hB];simp[xw,m0,m1,qH]
  ·simp only[EE,Int.reduceEq,zu,zg,zc,z7,xx,xz,xA,xB,xC,xD,xE,xF,xG,yW,yG,g,m0];rw[hB];simp[xw,m0,qH]
 have ef:qH op=false:=by unfold qH;simp[o3,o4,o5,o1]
 by_cases m0:0<=m
 ·by_cases m1:m<16
  ·by_cases m4:m=4
   ·simp only[EE,Int.reduceLT,Int.reduceLE,zu,zg,zc,z7,xx,xz,xA,xB,xC,xD,xE,xF,xG,yW,yG,g,m4,o3,o4,o5,o1];rw[hB];simp[xw,m4,ef]
   ·simp only[EE,zu,zg,zc,z7,xx,xz,xA,xB,xC,xD,xE,xF,xG,yW,yG,g,m0,m1,m4,o3,o4,o5,o1];rw[hB];simp[xw,m0,m1,m4,ef]
  ·simp only[EE,zu,zg,zc,z7,xx,xz,xA,xB,xC,xD,xE,xF,xG,yW,yG,g,m0,m1,o3,o4,o5,o1];rw[hB];simp[xw,m0,m1,ef]
 ·simp only[EE,zu,zg,zc,z7,xx,xz,xA,xB,xC,xD,xE,xF,xG,yW,yG,g,m0,o3,o4,o5,o1];rw[hB];simp[xw,m0,ef]
theorem zfE{x:zC}{H:za}{b1:Nat}{B:Bool}{bad:Bool}{t10:Bool}(g:H.get b1=some (.cells x.row 42))(hb:(t10&&bad)=false)(hB:B=(!gz x.op||(decide (0<=x.m)&&(decide (x.m<16)&&(!decide (x.m=4)||qH x.op)))))(v:aaa)(hv:t10=true->v=.bool bad)(h0:t10=false->True):qK (.bool t10) (xw B) (.bool (gz x.op)) (pi b1) v H:=by
 have fin:∀vs,yG (pi b1) (xw B) vs H\/gz x.op=false:=λvs=>by
  cases hm:gz x.op with
  |false=>exact .inr rfl
  |true=>exact .inl (zgH g (by rw[hB,hm];rfl))
 cases t10 with
 |false=>
  cases hm:gz x.op with
  |false=>simp only[EE,qK];rw[hB,hm];rfl
  |true=>simp only[EE,nth,qK];rcases fin [.bool false] with q|q;exact q;rw[hm]at q;cases q
 |true=>
  have hbad:bad=false:=by simpa using hb
  subst hbad;rw[hv rfl];cases hm:gz x.op with
  |false=>simp only[EE,qK];rw[hB,hm];rfl
  |true=>simp only[EE,nth,qK];rcases fin [.bool false] with q|q;exact q;rw[hm]at q;cases q
theorem Mj(x:zC)(h:za):vt pu 71 [x.val] h (.bool (X0 x)):=by
 apply yz;generalize h.lock=L;apply B5;unfold sU;simp only[EE,↓nw,Value.cells,Nat.reduceAdd,qQ,wK];refine X2 (zbI x _) ?_;have g:(L.push (.cells x.row 42)).get L.next=some (.cells x.row 42):=wt;generalize L.push (.cells x.row 42)=H at g ⊢;obtain⟨op,r,m,sub,cc,l,k⟩:=x;simp only at g ⊢;cases hr:Cq op with
 |false=>
  have hB:X0 ⟨op,r,m,sub,cc,l,k⟩=(!gz op||(decide (0<=m)&&(decide (m<16)&&(!decide (m=4)||qH op)))):=by unfold X0;simp only[hr,Bool.false_and,ab7,abu]
  simp only[EE,jv,jw,jx,jy,jz,jA,jB,jC,Pu,Pv,Pw];exact zfE (x:=⟨op,r,m,sub,cc,l,k⟩) (t10:=false) (bad:=false) g rfl hB _ (λq=>by cases q) (λ_=>trivial)
 |true=>
  have bad:∀{v},v=.bool true->X0 ⟨op,r,m,sub,cc,l,k⟩=false->qK (.bool true) (xw (X0 ⟨op,r,m,sub,cc,l,k⟩)) (.bool (gz op)) (pi L.next) v H:=by
   rintro v rfl hf;rw[hf];simp only[EE,qK];rfl
  have good:∀{v},v=.bool false->(decide (r<0)||(decide (16<=r)||(Ke op&&decide (r=4))))=false->qK (.bool true) (xw (X0 ⟨op,r,m,sub,cc,l,k⟩)) (.bool (gz op)) (pi L.next) v H:=by
   rintro v rfl hf;have hB:X0 ⟨op,r,m,sub,cc,l,k⟩=(!gz op||(decide (0<=m)&&(decide (m<16)&&(!decide (m=4)||qH op)))):=by unfold X0;simp only[hr,hf,Bool.and_false,ab7,abu]
   exact zfE (x:=⟨op,r,m,sub,cc,l,k⟩) (t10:=true) (bad:=false) g rfl hB _ (λ_=>rfl) (λq=>by cases q)
  by_cases r0:r<0
  ·simp only[EE,zu,zg,zJ,jv,jw,jx,jy,jz,jA,jB,jC,g,Pu,Pv,Pw,r0];exact bad rfl (by unfold X0;simp[hr,r0])
  by_cases r1:r ≥ 16
  ·simp only[EE,zu,zg,zJ,jv,jw,jx,jy,jz,jA,jB,jC,g,Pu,Pv,Pw,r0,r1];exact bad rfl (by have r1:16<=r:=r1;unfold X0;simp[hr,r1])
  have r1':¬16<=r:=r1;cases hw:Ke op with
  |false=>
   simp only[EE,zu,zg,zJ,jv,jw,jx,jy,jz,jA,jB,jC,g,Pu,Pv,Pw,r0,r1];exact good rfl (by simp[r0,r1',hw])
  |true=>
   by_cases r4:r=4
   ·subst r4;simp only[EE,zu,zg,zJ,jv,jw,jx,jy,jz,jA,jB,jC,g,Pu,Pv,Pw,r0,r1];exact bad rfl (by unfold X0;simp[hr,hw])
   ·simp only[EE,zu,zg,zJ,jv,jw,jx,jy,jz,jA,jB,jC,g,Pu,Pv,Pw,r0,r1,r4];exact good rfl (by simp[r0,r1',r4])
theorem qI{h:za}{sv:aaa}{zs:List Int}(S:zK h sv zs)(r:TypeId)(h':za):zB pu .len [22] r [sv] h'=some (pm zs.length,h'):=by
 rcases S with⟨rfl,rfl⟩|⟨b,off,cp,rfl,_⟩
 ·simp only[Fm,abk]
 ·simp only[Fm]
theorem ZO{h:za}{sv:aaa}{zs:List Int}(S:zK h sv zs){i:Nat}{z:Int}(hz:zs[i]? = some z):∃b o c t,vf pu 22 sv (pm i)=some (.pointer (some ⟨b,o,none⟩))/\b<h.next/\h.get b=some (.cells c t)/\c[o]? = some (pm z):=by
 have hi:i<zs.length:=by
  rcases aaN i zs.length with q|q
  ·exact q
  ·rw[aat q]at hz;cases hz
 rcases S with⟨rfl,rfl⟩|⟨b,off,cp,rfl,hc⟩
 ·cases hz
 ·obtain⟨c,t,hb,hg,hat⟩:=hc (by intro e;subst e;cases hz);have h0:(0:Int)<=i:=by omega
  have h1:(i:Int)<(zs.length:Int):=by omega
  exact⟨b,off+i,c,t,by simp only[Wv,h0,h1,abM,and_self,abR,aa6],hb,hg,hat i z hz⟩
section
variable {gl:List Int}{gv:aaa}{H:za}{b:Nat}{B:Bool}{vs:List aaa}{x:zC}
theorem zgA{r m sub cc l k:Int}(g:H.get b=some (.cells (zC.row ⟨3,r,m,sub,cc,l,k⟩) 42))(S:zK H gv gl)(hB:B=yA gl ⟨3,r,m,sub,cc,l,k⟩):zo (pi b) (xw B) gv vs H:=by
 by_cases s1:sub=1
 ·subst s1;simp only[EE,nth,↓BK,zu,yU,zg,zc,zn,zw,kS,kV,k8,ja,jb,ke,zI,zo,g];refine X2 (JI k _) ?_;simp only[EE];rw[hB];simp[xw,yA]
 by_cases s4:sub=4
 ·subst s4;simp only[EE,nth,↓BK,zu,yU,zg,zc,zn,zw,kS,kV,k8,ja,jb,ke,zI,zo,g,s1];refine X2 (JI k _) ?_;simp only[EE];rw[hB];simp[xw,yA,s1]
 by_cases s8:sub=8
 ·subst s8;simp only[EE,nth,↓BK,zu,yU,zg,zc,zn,zw,kS,kV,k8,ja,jb,ke,zI,zo,g,s1,s4];refine X2 (JI k _) ?_;simp only[EE];rw[hB];simp[xw,yA,s1,s4]
 simp only[EE,nth,↓BK,zu,zg,zc,zn,kS,kV,k8,ja,jb,ke,zI,zo,g,s1,s4,s8];rw[hB];simp[xw,yA,s1,s4,s8]
theorem zgB{r m sub cc l k:Int}(g:H.get b=some (.cells (zC.row ⟨4,r,m,sub,cc,l,k⟩) 42))(S:zK H gv gl)(hB:B=yA gl ⟨4,r,m,sub,cc,l,k⟩):zo (pi b) (xw B) gv vs H:=by
 by_cases s1:sub=1
 ·subst s1;simp only[EE,nth,↓BK,Int.reduceEq,zu,yU,zg,zc,zn,zw,kS,kV,k8,ja,jb,ke,zI,zo,g];refine X2 (JI k _) ?_;simp only[EE];rw[hB];simp[xw,yA]
 by_cases s4:sub=4
 ·subst s4;simp only[EE,nth,↓BK,Int.reduceEq,zu,yU,zg,zc,zn,zw,kS,kV,k8,ja,jb,ke,zI,zo,g,s1];refine X2 (JI k _) ?_;simp only[EE];rw[hB];simp[xw,yA,s1]
 by_cases s8:sub=8
 ·subst s8;simp only[EE,nth,↓BK,Int.reduceEq,zu,yU,zg,zc,zn,zw,kS,kV,k8,ja,jb,ke,zI,zo,g,s1,s4];refine X2 (JI k _) ?_;simp only[EE];rw[hB];simp[xw,yA,s1,s4]
 simp only[EE,nth,↓BK,Int.reduceEq,zu,zg,zc,zn,kS,kV,k8,ja,jb,ke,zI,zo,g,s1,s4,s8];rw[hB];simp[xw,yA,s1,s4,s8]
theorem zgC{r m sub cc l k:Int}(g:H.get b=some (.cells (zC.row ⟨5,r,m,sub,cc,l,k⟩) 42))(S:zK H gv gl)(hB:B=yA gl ⟨5,r,m,sub,cc,l,k⟩):zo (pi b) (xw B) gv vs H:=by
 simp only[EE,nth,↓BK,Int.reduceEq,zu,yU,zg,zc,zw,K5,zR,zI,zo,g];refine X2 (JI k _) ?_;simp only[EE];rw[hB];simp[xw,yA]
theorem zfy{r m sub cc l k:Int}(g:H.get b=some (.cells (zC.row ⟨16,r,m,sub,cc,l,k⟩) 42))(S:zK H gv gl)(hB:B=yA gl ⟨16,r,m,sub,cc,l,k⟩):zo (pi b) (xw B) gv vs H:=by
 simp only[EE,nth,↓BK,Int.reduceEq,zu,yU,zg,zc,zw,K5,zR,zI,zo,g];refine X2 (JI k _) ?_;simp only[EE];rw[hB];simp[xw,yA]
theorem zgD{r m sub cc l k:Int}(g:H.get b=some (.cells (zC.row ⟨6,r,m,sub,cc,l,k⟩) 42))(S:zK H gv gl)(hB:B=yA gl ⟨6,r,m,sub,cc,l,k⟩):zo (pi b) (xw B) gv vs H:=by
 have nl:=S.ai;have hl:=qI S 3;by_cases s0:0<=sub
 ·by_cases s1:sub<(gl.length:Int)
  ·by_cases k0:0<=k
   ·obtain⟨z,hz⟩:∃z,gl[sub.toNat]? = some z:=⟨_,aag (by omega)⟩;obtain⟨bb,oo,c,t,ha,hbb,hgt,hat⟩:=ZO S hz;rw[acd s0]at ha;have hd:gl.getD sub.toNat 0=z:=by rw[abe,hz];rfl
    by_cases k1:k<=z
    ·simp only[EE,nth,↓BK,Int.reduceEq,zu,yU,zg,zc,zn,zw,Xy,Xz,XA,XB,Yy,Yz,YA,YB,YC,zT,zR,zI,zo,g,nl,hl,s0,s1,k0,ha,hgt,hat,k1];rw[hB];simp only[yA,hd];simp[xw,s0,s1,k0,k1]
    ·simp only[EE,nth,↓BK,Int.reduceEq,zu,yU,zg,zc,zn,zw,Xy,Xz,XA,XB,Yy,Yz,YA,YB,YC,zT,zR,zI,zo,g,nl,hl,s0,s1,k0,ha,hgt,hat,k1];rw[hB];simp only[yA,hd];simp[xw,s0,s1,k0,k1]
   ·simp only[EE,nth,↓BK,Int.reduceEq,zu,yU,zg,zc,zn,zw,Xy,Xz,XA,XB,Yy,Yz,YA,YB,YC,zT,zR,zI,zo,g,nl,hl,s0,s1,k0];rw[hB];simp[xw,yA,s0,s1,k0]
  ·simp only[EE,nth,↓BK,Int.reduceEq,zu,zg,zc,zn,Xy,Xz,XA,XB,Yy,Yz,YA,YB,YC,zT,zR,zI,zo,g,nl,hl,s0,s1];rw[hB];simp[xw,yA,s0,s1]
 ·simp only[EE,nth,↓BK,Int.reduceEq,zu,zg,zc,zn,Xy,Xz,XA,XB,Yy,Yz,YA,YB,YC,zT,zR,zI,zo,g,s0];rw[hB];simp[xw,yA,s0]
theorem zgE{r m sub cc l k:Int}(g:H.get b=some (.cells (zC.row ⟨7,r,m,sub,cc,l,k⟩) 42))(S:zK H gv gl)(hB:B=yA gl ⟨7,r,m,sub,cc,l,k⟩):zo (pi b) (xw B) gv vs H:=by
 simp only[EE,nth,↓BK,Int.reduceEq,zu,zg,zc,zn,gP,ya,zT,zR,zI,zo,g];refine X2 (HI sub _) ?_;simp only[EE];rw[hB];simp[xw,yA]
theorem zgF{r m sub cc l k:Int}(g:H.get b=some (.cells (zC.row ⟨8,r,m,sub,cc,l,k⟩) 42))(S:zK H gv gl)(hB:B=yA gl ⟨8,r,m,sub,cc,l,k⟩):zo (pi b) (xw B) gv vs H:=by
 simp only[EE,nth,↓BK,Int.reduceEq,zu,zg,zc,zn,yg,ya,zT,zR,zI,zo,g];refine X2 (HI sub _) ?_;cases ha:kp sub with
 |false=>
  simp only[EE,K1,K3];rw[hB];simp[xw,yA,ha]
 |true=>
  simp only[EE,zu,yU,zw,K1,K3,g];refine X2 (JI k _) ?_;simp only[EE];rw[hB];simp[xw,yA,ha]
theorem zgG{r m sub cc l k:Int}(g:H.get b=some (.cells (zC.row ⟨9,r,m,sub,cc,l,k⟩) 42))(S:zK H gv gl)(hB:B=yA gl ⟨9,r,m,sub,cc,l,k⟩):zo (pi b) (xw B) gv vs H:=by
 by_cases s1:sub=1
 ·subst s1;simp only[EE,nth,↓BK,Int.reduceEq,zu,zg,zc,zn,VZ,V6,yj,yg,ya,zT,zR,zI,zo,g];rw[hB];simp[xw,yA]
 by_cases s2:sub=2
 ·subst s2;simp only[EE,nth,↓BK,Int.reduceEq,zu,zg,zc,zn,VZ,V6,yj,yg,ya,zT,zR,zI,zo,g,s1];rw[hB];simp[xw,yA,s1]
 simp only[EE,nth,↓BK,Int.reduceEq,zu,zg,zc,zn,VZ,V6,yj,yg,ya,zT,zR,zI,zo,g,s1,s2];rw[hB];simp[xw,yA,s1,s2]
theorem zfv{r m sub cc l k:Int}(g:H.get b=some (.cells (zC.row ⟨10,r,m,sub,cc,l,k⟩) 42))(S:zK H gv gl)(hB:B=yA gl ⟨10,r,m,sub,cc,l,k⟩):zo (pi b) (xw B) gv vs H:=by
 by_cases s3:sub=3
 ·subst s3;simp only[EE,nth,↓BK,Int.reduceEq,zu,zg,zc,zn,V0,V5,yB,yj,yg,ya,zT,zR,zI,zo,g];rw[hB];simp[xw,yA]
 by_cases s4:sub=4
 ·subst s4;simp only[EE,nth,↓BK,Int.reduceEq,zu,zg,zc,zn,V0,V5,yB,yj,yg,ya,zT,zR,zI,zo,g,s3];rw[hB];simp[xw,yA,s3]
 simp only[EE,nth,↓BK,Int.reduceEq,zu,zg,zc,zn,V0,V5,yB,yj,yg,ya,zT,zR,zI,zo,g,s3,s4];rw[hB];simp[xw,yA,s3,s4]
theorem zfx{r m sub cc l k:Int}(g:H.get b=some (.cells (zC.row ⟨12,r,m,sub,cc,l,k⟩) 42))(S:zK H gv gl)(hB:B=yA gl ⟨12,r,m,sub,cc,l,k⟩):zo (pi b) (xw B) gv vs H:=by
 by_cases s19:sub=19
 ·subst s19;simp only[EE,nth,↓BK,Int.reduceEq,zu,zg,zc,zn,V1,V4,vj,yZ,yB,yj,yg,ya,zT,zR,zI,zo,g];rw[hB];simp[xw,yA]
 by_cases s20:sub=20
 ·subst s20;simp only[EE,nth,↓BK,Int.reduceEq,zu,zg,zc,zn,V1,V4,vj,yZ,yB,yj,yg,ya,zT,zR,zI,zo,g,s19];rw[hB];simp[xw,yA,s19]
 simp only[EE,nth,↓BK,Int.reduceEq,zu,zg,zc,zn,V1,V4,vj,yZ,yB,yj,yg,ya,zT,zR,zI,zo,g,s19,s20];rw[hB];simp[xw,yA,s19,s20]
theorem zfw{r m sub cc l k:Int}(g:H.get b=some (.cells (zC.row ⟨11,r,m,sub,cc,l,k⟩) 42))(S:zK H gv gl)(hB:B=yA gl ⟨11,r,m,sub,cc,l,k⟩):zo (pi b) (xw B) gv vs H:=by
 by_cases s19:sub=19
 ·subst s19;by_cases k0:0<=k
  ·by_cases k1:k<=63
   ·simp only[EE,nth,↓BK,Int.reduceEq,zu,yU,zg,zc,zn,zw,kT,kU,kW,kX,kY,k9,yZ,yB,yj,yg,ya,zT,zR,zI,zo,g,k0,k1];rw[hB];simp[xw,yA,k0,k1]
   ·simp only[EE,nth,↓BK,Int.reduceEq,zu,yU,zg,zc,zn,zw,kT,kU,kW,kX,kY,k9,yZ,yB,yj,yg,ya,zT,zR,zI,zo,g,k0,k1];rw[hB];simp[xw,yA,k0,k1]
  ·simp only[EE,nth,↓BK,Int.reduceEq,zu,yU,zg,zc,zn,zw,kT,kU,kW,kX,kY,k9,yZ,yB,yj,yg,ya,zT,zR,zI,zo,g,k0];rw[hB];simp[xw,yA,k0]
 by_cases s20:sub=20
 ·subst s20;by_cases k0:0<=k
  ·by_cases k1:k<=63
   ·simp only[EE,nth,↓BK,Int.reduceEq,zu,yU,zg,zc,zn,zw,kT,kU,kW,kX,kY,k9,yZ,yB,yj,yg,ya,zT,zR,zI,zo,g,s19,k0,k1];rw[hB];simp[xw,yA,s19,k0,k1]
   ·simp only[EE,nth,↓BK,Int.reduceEq,zu,yU,zg,zc,zn,zw,kT,kU,kW,kX,kY,k9,yZ,yB,yj,yg,ya,zT,zR,zI,zo,g,s19,k0,k1];rw[hB];simp[xw,yA,s19,k0,k1]
  ·simp only[EE,nth,↓BK,Int.reduceEq,zu,yU,zg,zc,zn,zw,kT,kU,kW,kX,kY,k9,yZ,yB,yj,yg,ya,zT,zR,zI,zo,g,s19,k0];rw[hB];simp[xw,yA,s19,k0]
 simp only[EE,nth,↓BK,Int.reduceEq,zu,zg,zc,zn,kT,kU,kW,kX,kY,k9,yZ,yB,yj,yg,ya,zT,zR,zI,zo,g,s19,s20];rw[hB];simp[xw,yA,s19,s20]
theorem zfz{r m sub cc l k:Int}(g:H.get b=some (.cells (zC.row ⟨17,r,m,sub,cc,l,k⟩) 42))(S:zK H gv gl)(hB:B=yA gl ⟨17,r,m,sub,cc,l,k⟩):zo (pi b) (xw B) gv vs H:=by
 simp only[EE,nth,↓BK,Int.reduceEq,zu,zg,zc,QI,K4,uc,vj,yZ,yB,yj,yg,ya,zT,zR,zI,zo,g];refine X2 (AG cc _) ?_;simp only[EE];rw[hB];simp[xw,yA]
theorem zfA{r m sub cc l k:Int}(g:H.get b=some (.cells (zC.row ⟨19,r,m,sub,cc,l,k⟩) 42))(S:zK H gv gl)(hB:B=yA gl ⟨19,r,m,sub,cc,l,k⟩):zo (pi b) (xw B) gv vs H:=by
 simp only[EE,nth,↓BK,Int.reduceEq,zu,zg,zc,QI,K4,uc,vj,yZ,yB,yj,yg,ya,zT,zR,zI,zo,g];refine X2 (AG cc _) ?_;simp only[EE];rw[hB];simp[xw,yA]
theorem zfB{r m sub cc l k:Int}(g:H.get b=some (.cells (zC.row ⟨20,r,m,sub,cc,l,k⟩) 42))(S:zK H gv gl)(hB:B=yA gl ⟨20,r,m,sub,cc,l,k⟩):zo (pi b) (xw B) gv vs H:=by
 by_cases k0:0<=l
 ·by_cases k1:l<=10000000
  ·simp only[EE,nth,↓BK,Int.reduceEq,zu,zg,zc,xK,V2,V3,qd,uc,vj,yZ,yB,yj,yg,ya,zT,zR,zI,zo,g,k0,k1];rw[hB];simp[xw,yA,k0,k1]
  ·simp only[EE,nth,↓BK,Int.reduceEq,zu,zg,zc,xK,V2,V3,qd,uc,vj,yZ,yB,yj,yg,ya,zT,zR,zI,zo,g,k0,k1];rw[hB];simp[xw,yA,k0,k1]
 ·simp only[EE,nth,↓BK,Int.reduceEq,zu,zg,zc,xK,V2,V3,qd,uc,vj,yZ,yB,yj,yg,ya,zT,zR,zI,zo,g,k0];rw[hB];simp[xw,yA,k0]
theorem zfC{r m sub cc l k:Int}(g:H.get b=some (.cells (zC.row ⟨23,r,m,sub,cc,l,k⟩) 42))(S:zK H gv gl)(hB:B=yA gl ⟨23,r,m,sub,cc,l,k⟩):zo (pi b) (xw B) gv vs H:=by
 by_cases k0:0<=k
 ·by_cases k1:k<=65536
  ·simp only[EE,nth,↓BK,Int.reduceEq,zu,yU,zg,zc,zw,Zp,Zq,kZ,qd,uc,vj,yZ,yB,yj,yg,ya,zT,zR,zI,zo,g,k0,k1];rw[hB];simp[xw,yA,k0,k1]
  ·simp only[EE,nth,↓BK,Int.reduceEq,zu,yU,zg,zc,zw,Zp,Zq,kZ,qd,uc,vj,yZ,yB,yj,yg,ya,zT,zR,zI,zo,g,k0,k1];rw[hB];simp[xw,yA,k0,k1]
 ·simp only[EE,nth,↓BK,Int.reduceEq,zu,yU,zg,zc,zw,Zp,Zq,kZ,qd,uc,vj,yZ,yB,yj,yg,ya,zT,zR,zI,zo,g,k0];rw[hB];simp[xw,yA,k0]
theorem zfD{r m sub cc l k:Int}(g:H.get b=some (.cells (zC.row ⟨24,r,m,sub,cc,l,k⟩) 42))(S:zK H gv gl)(hB:B=yA gl ⟨24,r,m,sub,cc,l,k⟩):zo (pi b) (xw B) gv vs H:=by
 by_cases k0:0<=k
 ·by_cases k1:k<=65536
  ·simp only[EE,nth,↓BK,Int.reduceEq,zu,yU,zg,zc,zw,Zp,Zq,kZ,qd,uc,vj,yZ,yB,yj,yg,ya,zT,zR,zI,zo,g,k0,k1];rw[hB];simp[xw,yA,k0,k1]
  ·simp only[EE,nth,↓BK,Int.reduceEq,zu,yU,zg,zc,zw,Zp,Zq,kZ,qd,uc,vj,yZ,yB,yj,yg,ya,zT,zR,zI,zo,g,k0,k1];rw[hB];simp[xw,yA,k0,k1]
 ·simp only[EE,nth,↓BK,Int.reduceEq,zu,yU,zg,zc,zw,Zp,Zq,kZ,qd,uc,vj,yZ,yB,yj,yg,ya,zT,zR,zI,zo,g,k0];rw[hB];simp[xw,yA,k0]
theorem zdS(g:H.get b=some (.cells x.row 42))(S:zK H gv gl)(hB:B=yA gl x):zo (pi b) (xw B) gv vs H:=by
 obtain⟨op,r,m,sub,cc,l,k⟩:=x;by_cases o3:op=3
 ·subst o3;exact zgA g S hB
 by_cases o4:op=4
 ·subst o4;exact zgB g S hB
 by_cases o5:op=5
 ·subst o5;exact zgC g S hB
 by_cases o16:op=16
 ·subst o16;exact zfy g S hB
 by_cases o6:op=6
 ·subst o6;exact zgD g S hB
 by_cases o7:op=7
 ·subst o7;exact zgE g S hB
 by_cases o8:op=8
 ·subst o8;exact zgF g S hB
 by_cases o9:op=9
 ·subst o9;exact zgG g S hB
 by_cases o10:op=10
 ·subst o10;exact zfv g S hB
 by_cases o11:op=11
 ·subst o11;exact zfw g S hB
 by_cases o12:op=12
 ·subst o12;exact zfx g S hB
 by_cases o17:op=17
 ·subst o17;exact zfz g S hB
 by_cases o19:op=19
 ·subst o19;exact zfA g S hB
 by_cases o20:op=20
 ·subst o20;exact zfB g S hB
 by_cases o23:op=23
 ·subst o23;exact zfC g S hB
 by_cases o24:op=24
 ·subst o24;exact zfD g S hB
 simp only[EE,nth,↓BK,zu,zg,zc,kZ,qd,uc,vj,yZ,yB,yj,yg,ya,zT,zR,zI,zo,g,o3,o4,o5,o16,o6,o7,o8,o9,o10,o11,o12,o17,o19,o20,o23,o24];rw[hB];simp[xw,yA,o3,o4,o5,o16,o6,o7,o8,o9,o10,o11,o12,o17,o19,o20,o23,o24]
theorem mR(S:zK H gv gl):vt pu 34 [x.val,gv] H (.bool (kH gl x)):=by
 apply yz;replace S:=S.lock;generalize H.lock=L at S;apply Eu;unfold CB;have nl:=S.ai;simp only[EE,↓nw,Value.cells,zu,zg,zc];have S2:=S.old (Old.push L (.cells x.row 42));have g:(L.push (.cells x.row 42)).get L.next=some (.cells x.row 42):=wt;generalize L.push (.cells x.row 42)=G at g S2 ⊢;obtain⟨op,r,m,sub,cc,l,k⟩:=x;simp only at g ⊢;by_cases o1:op<1
 ·have e:kH gl ⟨op,r,m,sub,cc,l,k⟩=false:=by have q:¬1<=op:=by omega
                                             unfold kH;simp[q]
  simp only[EE,X8,V7,V8,o1];rw[e];rfl
 by_cases o2:op>26
 ·have e:kH gl ⟨op,r,m,sub,cc,l,k⟩=false:=by have q:¬op<=26:=by omega
                                             unfold kH;simp[q]
  simp only[EE,zu,zg,zc,X8,V7,V8,g,o1,o2];rw[e];rfl
 simp only[EE,Nat.reduceAdd,qQ,zu,zg,wK,zc,V7,V8,g,o1,o2];refine X2 (Mj ⟨op,r,m,sub,cc,l,k⟩ G) ?_
 have e:kH gl ⟨op,r,m,sub,cc,l,k⟩=(X0 ⟨op,r,m,sub,cc,l,k⟩&&yA gl ⟨op,r,m,sub,cc,l,k⟩):=by
  have q1:1<=op:=by omega
  have q2:op<=26:=by omega
  unfold kH;simp only[q1,q2,decide_true,abu]
 cases hr:X0 ⟨op,r,m,sub,cc,l,k⟩ with
 |false=>
  simp only[EE,X8];rw[e,hr];rfl
 |true=>
  simp only[EE,X8];exact zdS (x:=⟨op,r,m,sub,cc,l,k⟩) g S2 (by rw[e,hr];rfl)
end
open Go.Rtl (inc LH YI Uk JD get_some)
section
variable {h:za}{sv:aaa}{rows:List (List aaa)}
theorem uD(S:zE h sv 7 rows){i:Nat}{r:List aaa}(hr:rows[i]? = some r)(hn:r.length=7):∃b o c t,vf pu 48 sv (pm i)=some (.pointer (some ⟨b,o,none⟩))/\b<h.next/\h.get b=some (.cells c t)/\o+7<=c.length/\(c.drop o).take 7=r /\ ∀k,k<7->c[o+k]? = r[k]?:=by
 obtain⟨b,o,c,t,⟨off,cp,rfl,rfl⟩,hi,hb,hg,hl,ht,hk⟩:=S.spot hr hn;have h1:0<=(i:Int)/\(i:Int)<(rows.length:Int):=by omega
 exact⟨b,off+i*7,c,t,by simp only[QQ,h1,aa6,and_self,abM],hb,hg,hl,ht,hk⟩
theorem VU(S:zE h sv 2 rows){i:Nat}{r:List aaa}(hr:rows[i]? = some r)(hn:r.length=2):∃b o c t,vf pu 23 sv (pm i)=some (.pointer (some ⟨b,o,none⟩))/\b<h.next/\h.get b=some (.cells c t)/\o+2<=c.length/\(c.drop o).take 2=r /\ ∀k,k<2->c[o+k]? = r[k]?:=by
 obtain⟨b,o,c,t,⟨off,cp,rfl,rfl⟩,hi,hb,hg,hl,ht,hk⟩:=S.spot hr hn;have h1:0<=(i:Int)/\(i:Int)<(rows.length:Int):=by omega
 exact⟨b,off+i*2,c,t,by simp only[QP,h1,aa6,and_self,abM],hb,hg,hl,ht,hk⟩
theorem vw{l:List zC}{n:Nat}(S:zE h sv n (l.map zC.row))(r:TypeId)(h':za):zB pu .len [48] r [sv] h'=some (pm l.length,h'):=by
 rcases S with⟨rfl,e⟩|⟨b,off,cp,rfl,_⟩
 ·have:l=[]:=by simpa using e
  subst this;simp only[Xw,abk]
 ·simp only[Xw,aau]
theorem jO{l:List Fn}{n:Nat}(S:zE h sv n (l.map Fn.row))(r:TypeId)(h':za):zB pu .len [23] r [sv] h'=some (pm l.length,h'):=by
 rcases S with⟨rfl,e⟩|⟨b,off,cp,rfl,_⟩
 ·have:l=[]:=by simpa using e
  subst this;simp only[Xv,abk]
 ·simp only[Xv,aau]
end
theorem mk1(h:za):(qg h).1=.map (some h.next):=rfl
theorem mk2(h:za):(qg h).2=h.push (JN []):=rfl
theorem kt3:z9 pu (underlying 3)=some (.int .i64):=by kernel_rfl
theorem ktB:z9 pu (underlying 115)=some (.map 3 4):=by kernel_rfl
theorem zrB:Y7 pu 4=some (.bool false):=by kernel_rfl
def Av(m:List (Int×aaa)):Prop := ∀k v,KE m k=some v->v=.bool true
theorem zfQ{h:za}{b:Nat}{m:List (Int×aaa)}(hb:Av m)(g:h.get b=some (JN m))(k:Int):Wg pu 115 (.map (some b)) (pm k) false h=some (.bool (hasB m k)):=by
 rw[Ir ktB kt3 zrB g k false];unfold hasB;cases e:KE m k with
 |none=>rfl
 |some v=>rw[hb k v e];rfl
theorem Py{m:List (Int×aaa)}(hb:Av m)(k:Int):Av (Qb m k (.bool true)):=by
 intro k' v e;rw[bN]at e;by_cases q:k=k'
 ·rw[aai q]at e;exact(abl e).symm
 ·rw[aaf q]at e;exact hb k' v e
theorem lG(gl:List Int):∀(xs ys:List zC) (m:List (Int×aaa)) (s:Bool),ZK gl (xs++ys) m s=(ZK gl xs m s).bind λr=>ZK gl ys r.1 r.2
 |[],ys,m,s=>rfl
 |x::xs,ys,m,s=>by
  show(if kH gl x=false then none else if x.op=20 then (if hasB m x.l=true then none else ZK gl (xs++ys) _ s) else ZK gl (xs++ys) m true)=Option.bind (if kH gl x=false then none else if x.op=20 then (if hasB m x.l=true then none else ZK gl xs _ s) else ZK gl xs m true) _;rw[lG gl xs,lG gl xs]
  repeat' split
  all_goals rfl
theorem JY(gl:List Int):∀(xs:List zC) (m:List (Int×aaa)) (s:Bool) {r:List (Int×aaa)×Bool},Av m->ZK gl xs m s=some r->Av r.1
 |[],m,s,r,hb,e=>by cases e;exact hb
 |x::xs,m,s,r,hb,e=>by
  have e:(if kH gl x=false then none else if x.op=20 then (if hasB m x.l=true then none else ZK gl xs _ s) else ZK gl xs m true)=some r:=e;split at e
  ·cases e
  split at e
  ·split at e
   ·cases e
   ·exact JY gl xs _ _ (Py hb _) e
  ·exact JY gl xs _ _ hb e
section
variable {h:za}{p:Pg}{f:Fn}
theorem Mi(P:kR h p)(hf:f∈p.funcs):vt pu 46 [p.val,f.val] h (.bool (DM p f)):=by
 apply yz;replace P:=P.lock;generalize h.lock=L at P;apply YZ;intro wf;apply B0;unfold sS;have F:=P.fns f hf;have s0:Sat (.of L) L []:=Sat.self wf.2;have RP:Rd (.of L) (kR · p):=Rd.of (yT.jH L) P λh' o=>P.old o;have gvn:=P.globals.ai;have fvn:=P.funcs.ai;have cvn:=F.code.ai;have cvc:=F.code.N0;have gvc:=P.globals.N0;have fvc:=P.funcs.N0;have cl:=λH=>vw F.code 3 H;have fl:=λH=>jO P.funcs 3 H;simp only[EE,Value.cells];refine qc s0 λb2 h2 s2=>?_;simp only[];refine qc s2 λb3 h4 s4=>?_;have g3:=s4.get;simp only[EE,zu,Zk,um,cvn,g3,cl];by_cases c1:(f.code.length:Int)>100000
 ·simp only[EE,c1];have:DM p f=false:=by unfold DM;simp[show(100000:Int)<f.code.length from c1]
  rw[this];rfl
 have c1':¬(100000:Int)<f.code.length:=c1;have hB:DM p f=Br p.funcs.length f.code (ZK p.globals f.code [] false):=by unfold DM;rw[aaY c1'];rfl
 simp only[EE,zu,Zk,um,eD,c1];have sm:=s4.push (JN []);have gm3:=(sm.p 1).get;simp only[EE,nth,↓zq,mk2,gm3,cvn,cl];generalize hmb:h4.next=mb at sm gm3 ⊢;generalize h4.push (JN [])=h5 at sm gm3 ⊢
 have bad:∀n m s,ZK p.globals (f.code.take n) m s=none->ZK p.globals f.code m s=none:=λn m s e=>by
  rw[<- abn n f.code,lG,e];rfl
 refine qo (λn vs h'=>∃(i:Nat) (m:List (Int×aaa)) (more:Bool) (v0:aaa),i<=f.code.length/\n=f.code.length-i/\vs=[v0,.bool more,pm (i:Nat)]/\ZK p.globals (f.code.take i) [] false=some (m,more)/\Sat (.of L) h' [pt mb (JN m),pt b3 (.cells f.row 50),pt b2 (.cells p.row 25)])
  f.code.length ⟨0,[],false,.bool false,aaP _,rfl,rfl,rfl,sm⟩ ?_
 rintro n vs h' ⟨i,m,more,v0,hi,rfl,rfl,hscan,s⟩;unfold ij;by_cases hc:(i:Int)<(f.code.length:Int)
 ·obtain⟨x,hx,hxm⟩:=get_some (l:=f.code) (k:=i) (by omega);have F2:=(RP.at s).fns f hf;obtain⟨bi,oi,ci,ti,ha,hbi,hgi,hle,htk,_⟩:=uD F2.code (i:=i) (r:=x.row) (by rw[aaH,hx];rfl) rfl;have et:f.code.take (i+1)=f.code.take i++[x]:=by rw[abd,hx];rfl
  have hsn:=lG p.globals (f.code.take i) [x] [] false;rw[<- et,hscan]at hsn;have hsn:ZK p.globals (f.code.take (i+1)) [] false=if kH p.globals x=false then none else if x.op=20 then (if hasB m x.l=true then none else some (Qb m x.l (.bool true),more)) else some (m,true):=hsn;have no:ZK p.globals (f.code.take (i+1)) [] false=none->DM p f=false:=λe=>by rw[hB,bad _ _ _ e];rfl
  simp only[EE,nth,Value.cells,↓zq,qQ,wK,uw,ig,hc,ha,hgi,hle,htk];refine qc s λb8 h6 s6=>?_;simp only[EE,Nat.reduceAdd,yI];refine yf s6 (by simp) rfl λh7 s7=>?_;have g8:=s7.get;have g2:=(s7.p 3).get;simp only[EE,zp,Nat.reduceAdd,qQ,zu,ua,wK,wy,g8,g2];refine aq (by simp only[yi,gvn,aaw];rfl) (mR (x:=x) (RP.at s7).globals) ?_;cases hI:kH p.globals x with
  |false=>
   simp only[EE];rw[no (by rw[hsn,aai hI])];rfl
  |true=>
   rw[aaf (by rw[hI];simp)]at hsn;simp only[EE,zp,Nat.reduceAdd,zu,zg,zc,ie,g8];by_cases o20:x.op=20
   ·rw[aai o20]at hsn;have lk:=zfQ (JY p.globals _ _ _ (λk v e=>by cases e) hscan) (s7.p 1).get x.l;simp only[EE,zp,Nat.reduceAdd,zu,zg,xK,ic,g8,o20,mk1,hmb,lk];cases hl:hasB m x.l with
    |true=>
     simp only[EE];rw[no (by rw[hsn,aai hl])];rfl
    |false=>
     rw[aaf (by rw[hl];simp)]at hsn;have up:=I8 (v := .bool true) ktB kt3 (s7.p 1).get (s7.p 1).wr x.l;simp only[EE,nth,zp,Nat.reduceAdd,zu,zg,xK,ib,Jm,g8,mk1,hmb,up,inc (show i<4611686018427387904 by have:=F.LV;omega)];exact⟨f.code.length-(i+1),by omega,i+1,_,_,_,by omega,rfl,rfl,hsn,((s7.p 1).set _).k [0,2,3]⟩
   ·rw[aaf o20]at hsn;simp only[EE,nth,Jm,o20,inc (show i<4611686018427387904 by have:=F.LV;omega)];exact⟨f.code.length-(i+1),by omega,i+1,_,_,_,by omega,rfl,rfl,hsn,s7.k [1,2,3]⟩
 ·have hi9:i=f.code.length:=by omega
  subst hi9;rw[abv]at hscan;rw[hscan]at hB;have hB:DM p f=(f.code.all (UU p.funcs.length m)&&more):=hB;have g3:=(s.p 1).get;simp only[EE,nth,hc];simp only[EE,nth,↓zq,zu,Zk,um,eC,g3,cvn,cl];have hbm:=JY p.globals _ _ _ (λk v e=>by cases e) hscan
  refine qo (λn vs h'=>∃(i:Nat) (v0:aaa),i<=f.code.length/\n=f.code.length-i/\vs=[v0,pm (i:Nat)]/\(∀k,k<i->LH f.code (UU p.funcs.length m) k=true)/\Sat (.of L) h' [pt mb (JN m),pt b3 (.cells f.row 50),pt b2 (.cells p.row 25)])
   f.code.length ⟨0,v0,aaP _,rfl,rfl,λk hk=>by omega,s⟩ ?_
  rintro n vs h' ⟨i,v0,hi,rfl,rfl,hall,s⟩;unfold eA;by_cases hc:(i:Int)<(f.code.length:Int)
  ·obtain⟨x,hx,hxm⟩:=get_some (l:=f.code) (k:=i) (by omega);have F2:=(RP.at s).fns f hf;obtain⟨bi,oi,ci,ti,ha,hbi,hgi,hle,htk,_⟩:=uD F2.code (i:=i) (r:=x.row) (by rw[aaH,hx];rfl) rfl;have no:UU p.funcs.length m x=false->DM p f=false:=λe=>by rw[hB,Uk hx e];rfl
   have go:UU p.funcs.length m x=true->∀k,k<i+1->LH f.code (UU p.funcs.length m) k=true:=λe k hk=>by
    by_cases q:k=i
    ·subst q;rw[JD hx];exact e
    ·exact hall k (by omega)
   have hin:=inc (show i<4611686018427387904 by have:=F.LV;omega);simp only[EE,nth,Value.cells,↓zq,qQ,wK,uw,ey,hc,ha,hgi,hle,htk];refine qc s λb10 h6 s6=>?_;simp only[EE,Nat.reduceAdd,yI];refine yf s6 (by simp) rfl λh7 s7=>?_;have FQ:=s7.get;have g2:=(s7.p 3).get;have lk:=zfQ hbm (s7.p 1).get x.l
   have fin:(∀v,UU p.funcs.length m x=true->∃m1,m1<f.code.length-i /\ ∃(i':Nat) (v0:aaa),i'<=f.code.length/\m1=f.code.length-i' /\ [v,pm ((i+1:Nat):Int)]=[v0,Value.int .i64 (i':Nat)]/\(∀k,k<i'->LH f.code (UU p.funcs.length m) k=true)/\Sat (.of L) h7 [pt mb (JN m),pt b3 (.cells f.row 50),pt b2 (.cells p.row 25)]) :=
    λv e=>⟨f.code.length-(i+1),by omega,i+1,v,by omega,rfl,rfl,go e,s7.k [1,2,3]⟩
   by_cases o18:x.op=18
   ·have hh:UU p.funcs.length m x=hasB m x.l:=(by unfold UU;simp[o18]);simp only[EE,↓zq,zp,Nat.reduceAdd,zu,zg,zc,xK,jo,jq,jr,jt,ju,FQ,o18,mk1,hmb,lk];cases hl:hasB m x.l with
    |false=>simp only[EE];rw[no (by rw[hh,hl])];rfl
    |true=>
     simp only[EE,nth,zp,Nat.reduceAdd,Int.reduceEq,zu,zg,zc,Zw,Zx,Zy,jk,jl,jm,jn,Y0,FQ,o18,hin];exact fin _ (by rw[hh,hl])
   by_cases o19:x.op=19
   ·have hh:UU p.funcs.length m x=hasB m x.l:=(by unfold UU;simp[o19]);simp only[EE,↓zq,zp,Nat.reduceAdd,Int.reduceEq,zu,zg,zc,xK,jo,jq,jr,jt,ju,FQ,o19,mk1,hmb,lk];cases hl:hasB m x.l with
    |false=>simp only[EE];rw[no (by rw[hh,hl])];rfl
    |true=>
     simp only[EE,nth,zp,Nat.reduceAdd,Int.reduceEq,zu,zg,zc,Zw,Zx,Zy,jk,jl,jm,jn,Y0,FQ,o19,hin];exact fin _ (by rw[hh,hl])
   by_cases o21:x.op=21
   ·by_cases s0:x.sub<0
    ·simp only[EE,↓zq,zp,Nat.reduceAdd,Int.reduceEq,zu,zg,zc,zn,Zw,Zx,Zy,jk,jl,jm,jn,jo,jq,jr,jt,ju,FQ,o21,s0];rw[no (by unfold UU;simp[o21,s0])];rfl
    by_cases s1:x.sub ≥ (p.funcs.length:Int)
    ·simp only[EE,↓zq,zp,Nat.reduceAdd,Int.reduceEq,zu,qW,zg,w8,zc,zn,Zw,Zx,Zy,jk,jl,jm,jn,jo,jq,jr,jt,ju,FQ,g2,fvn,fl,o21,s0,s1];rw[no (by have s1:(p.funcs.length:Int)<=x.sub:=s1;unfold UU;simp[o21,s1])];rfl
    simp only[EE,nth,↓zq,zp,Nat.reduceAdd,Int.reduceEq,zu,qW,zg,w8,zc,zn,Zw,Zx,Zy,jk,jl,jm,jn,jo,jq,jr,jt,ju,Y0,FQ,g2,fvn,fl,o21,s0,s1,hin];exact fin _ (by have s1:¬(p.funcs.length:Int)<=x.sub:=s1;unfold UU;simp[o21,s0,s1])
   simp only[EE,nth,↓zq,zp,Nat.reduceAdd,zu,zg,zc,Zw,Zx,Zy,jk,jl,jm,jn,jo,jq,jr,jt,ju,Y0,FQ,o18,o19,o21,hin];exact fin _ (by unfold UU;simp[o18,o19,o21])
  ·have hi9:i=f.code.length:=by omega
   subst hi9;simp only[EE,nth,hc];rw[hB,YI hall];simp[xw]
end
def Fb(n:Int):Bool := !decide (n<0) && !decide (65536<n)
section
variable {p:Pg}
theorem zgy{lo:yT}{H:za}{b1:Nat}{vs:List aaa}(RP:Rd lo (kR · p))(s:Sat lo H [pt b1 (.cells p.row 25)]){B:Bool}(hB:B=p.funcs.all (DM p)):lN (pi b1) (xw B) vs H:=by
 have P:=RP.at s;have g1:=s.get;have fvn:=P.funcs.ai;have fl:=λh'=>jO P.funcs 3 h';unfold lN;simp only[EE,↓zq,zu,qW,w8,g1,fvn,fl]
 refine qo (λn vs h'=>∃(i:Nat) (v0:aaa),i<=p.funcs.length/\n=p.funcs.length-i/\vs=[v0,pm (i:Nat)]/\(∀k,k<i->LH p.funcs (DM p) k=true)/\Sat lo h' [pt b1 (.cells p.row 25)])
  p.funcs.length ⟨0,nth vs 0,aaP _,rfl,rfl,λk hk=>by omega,s⟩ ?_
 rintro n vs h' ⟨i,v0,hi,rfl,rfl,hall,s⟩;unfold Ge;by_cases hc:(i:Int)<(p.funcs.length:Int)
 ·obtain⟨f,hf,hfm⟩:=get_some (l:=p.funcs) (k:=i) (by omega);obtain⟨bi,oi,ci,ti,ha,hbi,hgi,hle,htk,_⟩:=VU (RP.at s).funcs (i:=i) (r:=f.row) (by rw[aaH,hf];rfl) rfl;have cvn:=(P.fns f hfm).code.ai;have cvc:=(P.fns f hfm).code.N0;have gvn:=P.globals.ai;simp only[EE,nth,Value.cells,↓zq,qQ,ZR,Vu,Gc,hc,ha,hgi,hle,htk];refine qc s λb6 h6 s6=>?_;simp only[EE,Nat.reduceAdd,Vt];refine yf s6 (by simp) (by simp[cvc];rfl) λh7 s7=>?_;have g6:=s7.get;have g1:=(s7.p 1).get;simp only[EE,zp,Nat.reduceAdd,qQ,Wf,ZR,g6,g1];refine aq (by simp only[yi];rfl) (Mi (RP.at s7) hfm) ?_;cases hF:DM p f with
  |false=>
   simp only[EE,sB];rw[hB,Uk hf hF];rfl
  |true=>
   simp only[EE,nth,sB,Gd,inc (show i<4611686018427387904 by have:=P.zbi;omega)]
   exact⟨p.funcs.length-(i+1),by omega,i+1,_,by omega,rfl,rfl,λk hk=>(by
    by_cases q:k=i
    ·subst q;rw[JD hf];exact hF
    ·exact hall k (by omega)),s7.k [1]⟩
 ·have hi9:i=p.funcs.length:=by omega
  subst hi9;simp only[EE,nth,hc];rw[hB,YI hall];rfl
theorem zgz{lo:yT}{H:za}{b1:Nat}{vs:List aaa}(RP:Rd lo (kR · p))(s:Sat lo H [pt b1 (.cells p.row 25)]){B:Bool}(hB:B=(p.globals.all Fb&&p.funcs.all (DM p))):lO (pi b1) (xw B) vs H:=by
 have P:=RP.at s;have g1:=s.get;have gvn:=P.globals.ai;have gl:=λh'=>qI P.globals 3 h';unfold lO;simp only[EE,↓zq,zu,ua,wy,g1,gvn,gl]
 refine qo (λn vs h'=>∃(i:Nat) (v0:aaa),i<=p.globals.length/\n=p.globals.length-i/\vs=[v0,pm (i:Nat)]/\(∀k,k<i->LH p.globals Fb k=true)/\Sat lo h' [pt b1 (.cells p.row 25)])
  p.globals.length ⟨0,nth vs 0,aaP _,rfl,rfl,λk hk=>by omega,s⟩ ?_
 rintro n vs h' ⟨i,v0,hi,rfl,rfl,hall,s⟩;unfold Gb;by_cases hc:(i:Int)<(p.globals.length:Int)
 ·obtain⟨z,hz,hzm⟩:=get_some (l:=p.globals) (k:=i) (by omega);obtain⟨bi,oi,ci,ti,ha,hbi,hgi,hat⟩:=ZO (RP.at s).globals hz;have no:Fb z=false->B=false:=λe=>by rw[hB,Uk hz e];rfl
  by_cases z0:z<0
  ·simp only[EE,nth,↓zq,zu,zg,gQ,gR,gS,hc,ha,hgi,hat,z0];rw[no (by unfold Fb;simp[z0])];rfl
  by_cases z1:z>65536
  ·simp only[EE,nth,↓zq,zu,zg,gQ,gR,gS,hc,ha,hgi,hat,z0,z1];rw[no (by have z1:65536<z:=z1;unfold Fb;simp[z1])];rfl
  simp only[EE,nth,↓zq,zu,zg,gQ,gR,gS,Ga,hc,ha,hgi,hat,z0,z1,inc (show i<4611686018427387904 by have:=P.Tx;omega)]
  exact⟨p.globals.length-(i+1),by omega,i+1,_,by omega,rfl,rfl,λk hk=>(by
   by_cases q:k=i
   ·subst q;rw[JD hz];have z1:¬65536<z:=z1;unfold Fb;simp[z0,z1]
   ·exact hall k (by omega)),s⟩
 ·have hi9:i=p.globals.length:=by omega
  subst hi9;simp only[EE,nth,hc];exact zgy RP s (by rw[hB,YI hall];rfl)
theorem zdT{h:za}(P:kR h p):vt pu 23 [p.val] h (.bool (Zl p)):=by
 apply yz;replace P:=P.lock;generalize h.lock=L at P;apply YZ;intro wf;apply O3;unfold R6;have s0:Sat (.of L) L []:=Sat.self wf.2;have RP:Rd (.of L) (kR · p):=Rd.of (yT.jH L) P λh' o=>P.old o;have gvn:=P.globals.ai;have fvn:=P.funcs.ai;have fl:=λh'=>jO P.funcs 3 h';have gl:=λh'=>qI P.globals 3 h';simp only[EE,Value.cells];refine qc s0 λb1 h2 s2=>?_;have g1:=s2.get;have no:ka p=false->Zl p=false:=λe=>by unfold Zl;rw[e];rfl
 by_cases c1:p.main<0
 ·simp only[EE,zu,zg,uz,XC,XD,XE,XF,XG,XH,XI,XJ,XK,XL,XM,g1,c1];rw[no (by unfold ka;simp[c1])];rfl
 by_cases c2:p.main ≥ (p.funcs.length:Int)
 ·simp only[EE,zu,qW,zg,w8,uz,XC,XD,XE,XF,XG,XH,XI,XJ,XK,XL,XM,g1,fvn,fl,c1,c2];rw[no (by have c2:(p.funcs.length:Int)<=p.main:=c2;unfold ka;simp[c2])];rfl
 by_cases c3:(p.funcs.length:Int)>100
 ·simp only[EE,zu,qW,zg,w8,uz,XC,XD,XE,XF,XG,XH,XI,XJ,XK,XL,XM,g1,fvn,fl,c1,c2,c3];rw[no (by have c3:(100:Int)<p.funcs.length:=c3;unfold ka;simp[c3])];rfl
 by_cases c4:(p.globals.length:Int)>200
 ·simp only[EE,zu,ua,qW,zg,wy,w8,uz,XC,XD,XE,XF,XG,XH,XI,XJ,XK,XL,XM,g1,fvn,fl,gvn,gl,c1,c2,c3,c4];rw[no (by have c4:(200:Int)<p.globals.length:=c4;unfold ka;simp[c4])];rfl
 by_cases c5:p.params<0
 ·simp only[EE,zu,ua,qW,zg,wy,w8,uz,kg,XC,XD,XE,XF,XG,XH,XI,XJ,XK,XL,XM,g1,fvn,fl,gvn,gl,c1,c2,c3,c4,c5];rw[no (by unfold ka;simp[c5])];rfl
 by_cases c6:p.params>6
 ·simp only[EE,zu,ua,qW,zg,wy,w8,uz,kg,XC,XD,XE,XF,XG,XH,XI,XJ,XK,XL,XM,g1,fvn,fl,gvn,gl,c1,c2,c3,c4,c5,c6];rw[no (by have c6:6<p.params:=c6;unfold ka;simp[c6])];rfl
 simp only[EE,zu,ua,qW,zg,wy,w8,uz,kg,XC,XD,XE,XF,XG,XH,XI,XJ,XK,XL,XM,g1,fvn,fl,gvn,gl,c1,c2,c3,c4,c5,c6];refine zgz RP s2 ?_
 have hs:ka p=true:=by
  have c2:¬(p.funcs.length:Int)<=p.main:=c2;have c3:¬(100:Int)<p.funcs.length:=c3;have c4:¬(200:Int)<p.globals.length:=c4;have c6:¬6<p.params:=c6;unfold ka;simp[c1,c2,c3,c4,c5,c6]
 unfold Zl;rw[hs];rfl
end
end Go.As
namespace Go.Ar
open Go.Ai Go.Proofs
open Go.Rtl (zK zE Old yz xw)
open Go.Rm (dF)
open Go.As (zC Cq gz Ke qH kp Wl)
def zQ(k:Int):Bool:=decide (-2147483648<=k)&&decide (k<=2147483647)
theorem YQ(k:Int)(h:za):vt pu 37 [pm k] h (.bool (zQ k)):=by
 apply yz;apply Lv;unfold NA;by_cases a:k ≥ -2147483648
 ·by_cases b:k<=2147483647
  ·simp only[EE,Int.reduceNeg,dm,a,b];simp[xw,zQ];omega
  ·simp only[EE,Int.reduceNeg,dm,a,b];simp[xw,zQ];omega
 ·simp only[EE,Int.reduceNeg,dm,a];simp[xw,zQ];omega
theorem zff(k:Int)(h:za):vt pu 56 [pm k] h (.bool (Wl k)):=by
 apply yz;apply Sc;unfold zcB;by_cases a:k ≥ 21
 ·by_cases b:k<=26
  ·simp only[EE,pP,a,b];simp[xw,Wl];omega
  ·simp only[EE,pP,a,b];simp[xw,Wl];omega
 ·simp only[EE,pP,a];simp[xw,Wl];omega
theorem HI(n:Int)(h:za):vt pu 55 [pm n] h (.bool (kp n)):=by
 apply yz;apply O6;unfold Sb;by_cases h11:n=11
 ·subst h11;simp only[EE,Ve,Vf,Vg,Vh,Vi];rfl
 by_cases h12:n=12
 ·subst h12;simp only[EE,Int.reduceEq,Ve,Vf,Vg,Vh,Vi];rfl
 by_cases h13:n=13
 ·subst h13;simp only[EE,Int.reduceEq,Ve,Vf,Vg,Vh,Vi];rfl
 by_cases h16:n=16
 ·subst h16;simp only[EE,Int.reduceEq,Ve,Vf,Vg,Vh,Vi];rfl
 by_cases h17:n=17
 ·subst h17;simp only[EE,Int.reduceEq,Ve,Vf,Vg,Vh,Vi];rfl
 by_cases h18:n=18
 ·subst h18;simp only[EE,Int.reduceEq,Ve,Vf,Vg,Vh,Vi];rfl
 simp only[EE,Ve,Vf,Vg,Vh,Vi,h11,h12,h13,h16,h17,h18];have e:kp n=false:=by unfold kp;simp;omega
 rw[e];rfl
theorem cC(x:zC)(h:za):vt pu 54 [x.val] h (.bool (Ke x.op)):=by
 apply yz;apply Hy;unfold Hx;obtain⟨op,r,m,sub,cc,l,k⟩:=x;by_cases h1:op=1
 ·subst h1;simp only[EE,nth,↓nw,Value.cells,↓BK,zu,zg,zc,uj];rfl
 by_cases h2:op=2
 ·subst h2;simp only[EE,nth,↓nw,Value.cells,↓BK,Int.reduceEq,zu,zg,zc,uW,uj];rfl
 by_cases h3:op=3
 ·subst h3;simp only[EE,nth,↓nw,Value.cells,↓BK,Int.reduceEq,zu,zg,zc,q8,uW,uj];rfl
 by_cases h5:op=5
 ·subst h5;simp only[EE,nth,↓nw,Value.cells,↓BK,Int.reduceEq,zu,zg,zc,kA,q8,uW,uj];rfl
 by_cases h6:op=6
 ·subst h6;simp only[EE,nth,↓nw,Value.cells,↓BK,Int.reduceEq,zu,zg,zc,jE,kA,q8,uW,uj];rfl
 by_cases h7:op=7
 ·subst h7;simp only[EE,nth,↓nw,Value.cells,↓BK,Int.reduceEq,zu,zg,zc,ZA,jE,kA,q8,uW,uj];rfl
 by_cases h8:op=8
 ·subst h8;simp only[EE,nth,↓nw,Value.cells,↓BK,Int.reduceEq,zu,zg,zc,Yo,ZA,jE,kA,q8,uW,uj];rfl
 by_cases h9:op=9
 ·subst h9;simp only[EE,nth,↓nw,Value.cells,↓BK,Int.reduceEq,zu,zg,zc,Xs,Yo,ZA,jE,kA,q8,uW,uj];rfl
 by_cases h10:op=10
 ·subst h10;simp only[EE,nth,↓nw,Value.cells,↓BK,Int.reduceEq,zu,zg,zc,WJ,Xs,Yo,ZA,jE,kA,q8,uW,uj];rfl
 by_cases h11:op=11
 ·subst h11;simp only[EE,nth,↓nw,Value.cells,↓BK,Int.reduceEq,zu,zg,zc,UD,WJ,Xs,Yo,ZA,jE,kA,q8,uW,uj];rfl
 by_cases h12:op=12
 ·subst h12;simp only[EE,nth,↓nw,Value.cells,↓BK,Int.reduceEq,zu,zg,zc,Jv,UD,WJ,Xs,Yo,ZA,jE,kA,q8,uW,uj];rfl
 by_cases h17:op=17
 ·subst h17;simp only[EE,nth,↓nw,Value.cells,↓BK,Int.reduceEq,zu,zg,zc,Jv,UD,WJ,Xs,Yo,ZA,jE,kA,q8,uW,uj];rfl
 simp only[EE,nth,↓nw,Value.cells,↓BK,zu,zg,zc,Jv,UD,WJ,Xs,Yo,ZA,jE,kA,q8,uW,uj,h1,h2,h3,h5,h6,h7,h8,h9,h10,h11,h12,h17];have e:Ke op=false:=by unfold Ke;simp;omega
 rw[e];rfl
theorem zbJ(x:zC)(h:za):vt pu 53 [x.val] h (.tuple #[.bool (Cq x.op),.bool (gz x.op)]):=by
 apply dF rfl;apply Lr;unfold Nw;obtain⟨op,r,m,sub,cc,l,k⟩:=x;simp only[EE,↓nw,Value.cells,Nat.reduceAdd,qQ,wK];refine X2 (cC ⟨op,r,m,sub,cc,l,k⟩ _) ?_;by_cases h1:op=1
 ·subst h1;simp only[EE,nth,↓BK,zu,zg,zc,uo,uq,ur,vH,vI,vJ,vK,vL,vM,show Ke 1=true from rfl];rfl
 by_cases h3:op=3
 ·subst h3;simp only[EE,nth,↓BK,Int.reduceEq,zu,zg,zc,uV,uo,uq,ur,vH,vI,vJ,vK,vL,vM,show Ke 3=true from rfl];rfl
 by_cases h5:op=5
 ·subst h5;simp only[EE,nth,↓BK,Int.reduceEq,zu,zg,zc,qB,ql,uV,uo,uq,ur,vH,vI,vJ,vK,vL,vM,show Ke 5=true from rfl];rfl
 by_cases h7:op=7
 ·subst h7;simp only[EE,nth,↓BK,Int.reduceEq,zu,zg,zc,qV,qB,ql,uV,uo,uq,ur,vH,vI,vJ,vK,vL,vM,show Ke 7=true from rfl];rfl
 by_cases h10:op=10
 ·subst h10;simp only[EE,nth,↓BK,Int.reduceEq,zu,zg,zc,km,qV,qB,ql,uV,uo,uq,ur,vH,vI,vJ,vK,vL,vM,show Ke 10=true from rfl];rfl
 by_cases h2:op=2
 ·subst h2;simp only[EE,nth,↓BK,Int.reduceEq,zu,zg,zc,kP,km,qV,qB,ql,uV,uo,uq,ur,vH,vI,vJ,vK,vL,vM,show Ke 2=true from rfl];rfl
 by_cases h6:op=6
 ·subst h6;simp only[EE,nth,↓BK,Int.reduceEq,zu,zg,zc,kP,km,qV,qB,ql,uV,uo,uq,ur,vH,vI,vJ,vK,vL,vM,show Ke 6=true from rfl];rfl
 by_cases h8:op=8
 ·subst h8;simp only[EE,nth,↓BK,Int.reduceEq,zu,zg,zc,kP,km,qV,qB,ql,uV,uo,uq,ur,vH,vI,vJ,vK,vL,vM,show Ke 8=true from rfl];rfl
 by_cases h9:op=9
 ·subst h9;simp only[EE,nth,↓BK,Int.reduceEq,zu,zg,zc,kP,km,qV,qB,ql,uV,uo,uq,ur,vH,vI,vJ,vK,vL,vM,show Ke 9=true from rfl];rfl
 by_cases h11:op=11
 ·subst h11;simp only[EE,nth,↓BK,Int.reduceEq,zu,zg,zc,kP,km,qV,qB,ql,uV,uo,uq,ur,vH,vI,vJ,vK,vL,vM,show Ke 11=true from rfl];rfl
 by_cases h12:op=12
 ·subst h12;simp only[EE,nth,↓BK,Int.reduceEq,zu,zg,zc,kP,km,qV,qB,ql,uV,uo,uq,ur,vH,vI,vJ,vK,vL,vM,show Ke 12=true from rfl];rfl
 by_cases h17:op=17
 ·subst h17;simp only[EE,nth,↓BK,Int.reduceEq,zu,zg,zc,kP,km,qV,qB,ql,uV,uo,uq,ur,vH,vI,vJ,vK,vL,vM,show Ke 17=true from rfl];rfl
 by_cases h4:op=4
 ·subst h4;simp only[EE,nth,↓BK,Int.reduceEq,zu,zg,zc,ql,uV,uo,uq,ur,vH,vI,vJ,vK,vL,vM,show Ke 4=false from rfl];rfl
 by_cases h15:op=15
 ·subst h15;simp only[EE,nth,↓BK,Int.reduceEq,zu,zg,zc,kP,km,qV,qB,ql,uV,uo,uq,ur,vH,vI,vJ,vK,vL,vM,show Ke 15=false from rfl];rfl
 by_cases h16:op=16
 ·subst h16;simp only[EE,nth,↓BK,Int.reduceEq,zu,zg,zc,kP,km,qV,qB,ql,uV,uo,uq,ur,vH,vI,vJ,vK,vL,vM,show Ke 16=false from rfl];rfl
 by_cases h14:op=14
 ·subst h14;simp only[EE,nth,↓BK,Int.reduceEq,zu,zg,zc,kP,km,qV,qB,ql,uV,uo,uq,ur,vH,vI,vJ,vK,vL,vM,show Ke 14=false from rfl];rfl
 have e3:Ke op=false:=by unfold Ke;simp;omega
 simp only[EE,nth,↓BK,zu,zg,zc,kP,km,qV,qB,ql,uV,uo,uq,ur,vH,vI,vJ,vK,vL,vM,e3,h1,h3,h5,h7,h10,h4,h15,h16,h14];have e1:Cq op=false:=by unfold Cq;simp;omega
 have e2:gz op=false:=by unfold gz;simp;omega
 rw[e1,e2];rfl
def tailD(i:zC):Bool :=
 if i.op=3\/i.op=4 then decide (i.sub=1\/i.sub=4\/i.sub=8)&&zQ i.k
 else if i.op=5\/i.op=16 then zQ i.k
 else if i.op=7 then kp i.sub
 else if i.op=8 then kp i.sub&&zQ i.k
 else if i.op=9 then decide (i.sub=1\/i.sub=2)
 else if i.op=10 then decide (i.sub=3\/i.sub=4)
 else if i.op=11 then decide (i.sub=19\/i.sub=20)&&(decide (0<=i.k)&&decide (i.k<=63))
 else if i.op=12 then decide (i.sub=19\/i.sub=20)
 else if i.op=17 then Wl i.cc
 else if i.op=19 then Wl i.cc&&(decide (0<=i.l)&&decide (i.l<=10000000))
 else if i.op=18\/i.op=20 then decide (0<=i.l)&&decide (i.l<=10000000)
 else if i.op=23\/i.op=24 then decide (0<=i.k)&&decide (i.k<=65536)
 else true
section
variable {H:za}{b:Nat}{B:Bool}{vs:List aaa}{x:zC}
theorem zgs{r m sub cc l k:Int}(g:H.get b=some (.cells (zC.row ⟨3,r,m,sub,cc,l,k⟩) 42))(hB:B=tailD ⟨3,r,m,sub,cc,l,k⟩):zv (pi b) (xw B) vs H:=by
 by_cases s1:sub=1
 ·subst s1;simp only[EE,nth,↓BK,zu,yU,zg,zc,zn,zw,Zr,Zs,Zt,Zu,Zv,jc,zP,zv,g];refine X2 (YQ k _) ?_;simp only[EE];rw[hB];simp[xw,tailD]
 by_cases s4:sub=4
 ·subst s4;simp only[EE,nth,↓BK,zu,yU,zg,zc,zn,zw,Zr,Zs,Zt,Zu,Zv,jc,zP,zv,g,s1];refine X2 (YQ k _) ?_;simp only[EE];rw[hB];simp[xw,tailD,s1]
 by_cases s8:sub=8
 ·subst s8;simp only[EE,nth,↓BK,zu,yU,zg,zc,zn,zw,Zr,Zs,Zt,Zu,Zv,jc,zP,zv,g,s1,s4];refine X2 (YQ k _) ?_;simp only[EE];rw[hB];simp[xw,tailD,s1,s4]
 simp only[EE,nth,↓BK,zu,zg,zc,zn,Zr,Zs,Zt,Zu,Zv,jc,zP,zv,g,s1,s4,s8];rw[hB];simp[xw,tailD,s1,s4,s8]
theorem zgt{r m sub cc l k:Int}(g:H.get b=some (.cells (zC.row ⟨4,r,m,sub,cc,l,k⟩) 42))(hB:B=tailD ⟨4,r,m,sub,cc,l,k⟩):zv (pi b) (xw B) vs H:=by
 by_cases s1:sub=1
 ·subst s1;simp only[EE,nth,↓BK,Int.reduceEq,zu,yU,zg,zc,zn,zw,Zr,Zs,Zt,Zu,Zv,jc,zP,zv,g];refine X2 (YQ k _) ?_;simp only[EE];rw[hB];simp[xw,tailD]
 by_cases s4:sub=4
 ·subst s4;simp only[EE,nth,↓BK,Int.reduceEq,zu,yU,zg,zc,zn,zw,Zr,Zs,Zt,Zu,Zv,jc,zP,zv,g,s1];refine X2 (YQ k _) ?_;simp only[EE];rw[hB];simp[xw,tailD,s1]
 by_cases s8:sub=8
 ·subst s8;simp only[EE,nth,↓BK,Int.reduceEq,zu,yU,zg,zc,zn,zw,Zr,Zs,Zt,Zu,Zv,jc,zP,zv,g,s1,s4];refine X2 (YQ k _) ?_;simp only[EE];rw[hB];simp[xw,tailD,s1,s4]
 simp only[EE,nth,↓BK,Int.reduceEq,zu,zg,zc,zn,Zr,Zs,Zt,Zu,Zv,jc,zP,zv,g,s1,s4,s8];rw[hB];simp[xw,tailD,s1,s4,s8]
theorem zgu{r m sub cc l k:Int}(g:H.get b=some (.cells (zC.row ⟨5,r,m,sub,cc,l,k⟩) 42))(hB:B=tailD ⟨5,r,m,sub,cc,l,k⟩):zv (pi b) (xw B) vs H:=by
 simp only[EE,nth,↓BK,Int.reduceEq,zu,yU,zg,zc,zw,aT,zZ,zP,zv,g];refine X2 (YQ k _) ?_;simp only[EE];rw[hB];simp[xw,tailD]
theorem zfk{r m sub cc l k:Int}(g:H.get b=some (.cells (zC.row ⟨16,r,m,sub,cc,l,k⟩) 42))(hB:B=tailD ⟨16,r,m,sub,cc,l,k⟩):zv (pi b) (xw B) vs H:=by
 simp only[EE,nth,↓BK,Int.reduceEq,zu,yU,zg,zc,zw,aT,zZ,zP,zv,g];refine X2 (YQ k _) ?_;simp only[EE];rw[hB];simp[xw,tailD]
theorem zgv{r m sub cc l k:Int}(g:H.get b=some (.cells (zC.row ⟨7,r,m,sub,cc,l,k⟩) 42))(hB:B=tailD ⟨7,r,m,sub,cc,l,k⟩):zv (pi b) (xw B) vs H:=by
 simp only[EE,nth,↓BK,Int.reduceEq,zu,zg,zc,zn,oH,ye,zZ,zP,zv,g];refine X2 (HI sub _) ?_;simp only[EE];rw[hB];simp[xw,tailD]
theorem zgw{r m sub cc l k:Int}(g:H.get b=some (.cells (zC.row ⟨8,r,m,sub,cc,l,k⟩) 42))(hB:B=tailD ⟨8,r,m,sub,cc,l,k⟩):zv (pi b) (xw B) vs H:=by
 simp only[EE,nth,↓BK,Int.reduceEq,zu,zg,zc,zn,yh,ye,zZ,zP,zv,g];refine X2 (HI sub _) ?_;cases ha:kp sub with
 |false=>
  simp only[EE,fG,fH];rw[hB];simp[xw,tailD,ha]
 |true=>
  simp only[EE,zu,yU,zw,fG,fH,g];refine X2 (YQ k _) ?_;simp only[EE];rw[hB];simp[xw,tailD,ha]
theorem zgx{r m sub cc l k:Int}(g:H.get b=some (.cells (zC.row ⟨9,r,m,sub,cc,l,k⟩) 42))(hB:B=tailD ⟨9,r,m,sub,cc,l,k⟩):zv (pi b) (xw B) vs H:=by
 by_cases s1:sub=1
 ·subst s1;simp only[EE,nth,↓BK,Int.reduceEq,zu,zg,zc,zn,Jk,Qm,yp,yh,ye,zZ,zP,zv,g];rw[hB];simp[xw,tailD]
 by_cases s2:sub=2
 ·subst s2;simp only[EE,nth,↓BK,Int.reduceEq,zu,zg,zc,zn,Jk,Qm,yp,yh,ye,zZ,zP,zv,g,s1];rw[hB];simp[xw,tailD,s1]
 simp only[EE,nth,↓BK,Int.reduceEq,zu,zg,zc,zn,Jk,Qm,yp,yh,ye,zZ,zP,zv,g,s1,s2];rw[hB];simp[xw,tailD,s1,s2]
theorem zfh{r m sub cc l k:Int}(g:H.get b=some (.cells (zC.row ⟨10,r,m,sub,cc,l,k⟩) 42))(hB:B=tailD ⟨10,r,m,sub,cc,l,k⟩):zv (pi b) (xw B) vs H:=by
 by_cases s3:sub=3
 ·subst s3;simp only[EE,nth,↓BK,Int.reduceEq,zu,zg,zc,zn,Jl,Ql,yC,yp,yh,ye,zZ,zP,zv,g];rw[hB];simp[xw,tailD]
 by_cases s4:sub=4
 ·subst s4;simp only[EE,nth,↓BK,Int.reduceEq,zu,zg,zc,zn,Jl,Ql,yC,yp,yh,ye,zZ,zP,zv,g,s3];rw[hB];simp[xw,tailD,s3]
 simp only[EE,nth,↓BK,Int.reduceEq,zu,zg,zc,zn,Jl,Ql,yC,yp,yh,ye,zZ,zP,zv,g,s3,s4];rw[hB];simp[xw,tailD,s3,s4]
theorem zfj{r m sub cc l k:Int}(g:H.get b=some (.cells (zC.row ⟨12,r,m,sub,cc,l,k⟩) 42))(hB:B=tailD ⟨12,r,m,sub,cc,l,k⟩):zv (pi b) (xw B) vs H:=by
 by_cases s19:sub=19
 ·subst s19;simp only[EE,nth,↓BK,Int.reduceEq,zu,zg,zc,zn,Qj,Qk,wF,yV,yC,yp,yh,ye,zZ,zP,zv,g];rw[hB];simp[xw,tailD]
 by_cases s20:sub=20
 ·subst s20;simp only[EE,nth,↓BK,Int.reduceEq,zu,zg,zc,zn,Qj,Qk,wF,yV,yC,yp,yh,ye,zZ,zP,zv,g,s19];rw[hB];simp[xw,tailD,s19]
 simp only[EE,nth,↓BK,Int.reduceEq,zu,zg,zc,zn,Qj,Qk,wF,yV,yC,yp,yh,ye,zZ,zP,zv,g,s19,s20];rw[hB];simp[xw,tailD,s19,s20]
theorem zfi{r m sub cc l k:Int}(g:H.get b=some (.cells (zC.row ⟨11,r,m,sub,cc,l,k⟩) 42))(hB:B=tailD ⟨11,r,m,sub,cc,l,k⟩):zv (pi b) (xw B) vs H:=by
 by_cases s19:sub=19
 ·subst s19;by_cases k0:0<=k
  ·by_cases k1:k<=63
   ·simp only[EE,nth,↓BK,Int.reduceEq,zu,yU,zg,zc,zn,zw,j3,j4,j5,j6,j7,j9,yV,yC,yp,yh,ye,zZ,zP,zv,g,k0,k1];rw[hB];simp[xw,tailD,k0,k1]
   ·simp only[EE,nth,↓BK,Int.reduceEq,zu,yU,zg,zc,zn,zw,j3,j4,j5,j6,j7,j9,yV,yC,yp,yh,ye,zZ,zP,zv,g,k0,k1];rw[hB];simp[xw,tailD,k0,k1]
  ·simp only[EE,nth,↓BK,Int.reduceEq,zu,yU,zg,zc,zn,zw,j3,j4,j5,j6,j7,j9,yV,yC,yp,yh,ye,zZ,zP,zv,g,k0];rw[hB];simp[xw,tailD,k0]
 by_cases s20:sub=20
 ·subst s20;by_cases k0:0<=k
  ·by_cases k1:k<=63
   ·simp only[EE,nth,↓BK,Int.reduceEq,zu,yU,zg,zc,zn,zw,j3,j4,j5,j6,j7,j9,yV,yC,yp,yh,ye,zZ,zP,zv,g,s19,k0,k1];rw[hB];simp[xw,tailD,s19,k0,k1]
   ·simp only[EE,nth,↓BK,Int.reduceEq,zu,yU,zg,zc,zn,zw,j3,j4,j5,j6,j7,j9,yV,yC,yp,yh,ye,zZ,zP,zv,g,s19,k0,k1];rw[hB];simp[xw,tailD,s19,k0,k1]
  ·simp only[EE,nth,↓BK,Int.reduceEq,zu,yU,zg,zc,zn,zw,j3,j4,j5,j6,j7,j9,yV,yC,yp,yh,ye,zZ,zP,zv,g,s19,k0];rw[hB];simp[xw,tailD,s19,k0]
 simp only[EE,nth,↓BK,Int.reduceEq,zu,zg,zc,zn,j3,j4,j5,j6,j7,j9,yV,yC,yp,yh,ye,zZ,zP,zv,g,s19,s20];rw[hB];simp[xw,tailD,s19,s20]
theorem zfl{r m sub cc l k:Int}(g:H.get b=some (.cells (zC.row ⟨17,r,m,sub,cc,l,k⟩) 42))(hB:B=tailD ⟨17,r,m,sub,cc,l,k⟩):zv (pi b) (xw B) vs H:=by
 simp only[EE,nth,↓BK,Int.reduceEq,zu,zg,zc,QI,oG,vE,wF,yV,yC,yp,yh,ye,zZ,zP,zv,g];refine X2 (zff cc _) ?_;simp only[EE];rw[hB];simp[xw,tailD]
theorem zfn{r m sub cc l k:Int}(g:H.get b=some (.cells (zC.row ⟨19,r,m,sub,cc,l,k⟩) 42))(hB:B=tailD ⟨19,r,m,sub,cc,l,k⟩):zv (pi b) (xw B) vs H:=by
 simp only[EE,nth,↓BK,Int.reduceEq,zu,zg,zc,QI,vU,vE,wF,yV,yC,yp,yh,ye,zZ,zP,zv,g];refine X2 (zff cc _) ?_;cases ha:Wl cc with
 |false=>
  simp only[EE,Vj,Vk,Vl,Vm];rw[hB];simp[xw,tailD,ha]
 |true=>
  by_cases k0:0<=l
  ·by_cases k1:l<=10000000
   ·simp only[EE,zu,zg,xK,Vj,Vk,Vl,Vm,g,k0,k1];rw[hB];simp[xw,tailD,ha,k0,k1]
   ·simp only[EE,zu,zg,xK,Vj,Vk,Vl,Vm,g,k0,k1];rw[hB];simp[xw,tailD,ha,k0,k1]
  ·simp only[EE,zu,zg,xK,Vj,Vk,Vl,Vm,g,k0];rw[hB];simp[xw,tailD,ha,k0]
theorem zfm{r m sub cc l k:Int}(g:H.get b=some (.cells (zC.row ⟨18,r,m,sub,cc,l,k⟩) 42))(hB:B=tailD ⟨18,r,m,sub,cc,l,k⟩):zv (pi b) (xw B) vs H:=by
 by_cases k0:0<=l
 ·by_cases k1:l<=10000000
  ·simp only[EE,nth,↓BK,Int.reduceEq,zu,zg,zc,xK,Yi,Yl,ui,vU,vE,wF,yV,yC,yp,yh,ye,zZ,zP,zv,g,k0,k1];rw[hB];simp[xw,tailD,k0,k1]
  ·simp only[EE,nth,↓BK,Int.reduceEq,zu,zg,zc,xK,Yi,Yl,ui,vU,vE,wF,yV,yC,yp,yh,ye,zZ,zP,zv,g,k0,k1];rw[hB];simp[xw,tailD,k0,k1]
 ·simp only[EE,nth,↓BK,Int.reduceEq,zu,zg,zc,xK,Yi,Yl,ui,vU,vE,wF,yV,yC,yp,yh,ye,zZ,zP,zv,g,k0];rw[hB];simp[xw,tailD,k0]
theorem zfo{r m sub cc l k:Int}(g:H.get b=some (.cells (zC.row ⟨20,r,m,sub,cc,l,k⟩) 42))(hB:B=tailD ⟨20,r,m,sub,cc,l,k⟩):zv (pi b) (xw B) vs H:=by
 by_cases k0:0<=l
 ·by_cases k1:l<=10000000
  ·simp only[EE,nth,↓BK,Int.reduceEq,zu,zg,zc,xK,Yi,Yl,ui,vU,vE,wF,yV,yC,yp,yh,ye,zZ,zP,zv,g,k0,k1];rw[hB];simp[xw,tailD,k0,k1]
  ·simp only[EE,nth,↓BK,Int.reduceEq,zu,zg,zc,xK,Yi,Yl,ui,vU,vE,wF,yV,yC,yp,yh,ye,zZ,zP,zv,g,k0,k1];rw[hB];simp[xw,tailD,k0,k1]
 ·simp only[EE,nth,↓BK,Int.reduceEq,zu,zg,zc,xK,Yi,Yl,ui,vU,vE,wF,yV,yC,yp,yh,ye,zZ,zP,zv,g,k0];rw[hB];simp[xw,tailD,k0]
theorem zfp{r m sub cc l k:Int}(g:H.get b=some (.cells (zC.row ⟨23,r,m,sub,cc,l,k⟩) 42))(hB:B=tailD ⟨23,r,m,sub,cc,l,k⟩):zv (pi b) (xw B) vs H:=by
 by_cases k0:0<=k
 ·by_cases k1:k<=65536
  ·simp only[EE,nth,↓BK,Int.reduceEq,zu,yU,zg,zc,zw,Yj,Yk,j8,ui,vU,vE,wF,yV,yC,yp,yh,ye,zZ,zP,zv,g,k0,k1];rw[hB];simp[xw,tailD,k0,k1]
  ·simp only[EE,nth,↓BK,Int.reduceEq,zu,yU,zg,zc,zw,Yj,Yk,j8,ui,vU,vE,wF,yV,yC,yp,yh,ye,zZ,zP,zv,g,k0,k1];rw[hB];simp[xw,tailD,k0,k1]
 ·simp only[EE,nth,↓BK,Int.reduceEq,zu,yU,zg,zc,zw,Yj,Yk,j8,ui,vU,vE,wF,yV,yC,yp,yh,ye,zZ,zP,zv,g,k0];rw[hB];simp[xw,tailD,k0]
theorem zfq{r m sub cc l k:Int}(g:H.get b=some (.cells (zC.row ⟨24,r,m,sub,cc,l,k⟩) 42))(hB:B=tailD ⟨24,r,m,sub,cc,l,k⟩):zv (pi b) (xw B) vs H:=by
 by_cases k0:0<=k
 ·by_cases k1:k<=65536
  ·simp only[EE,nth,↓BK,Int.reduceEq,zu,yU,zg,zc,zw,Yj,Yk,j8,ui,vU,vE,wF,yV,yC,yp,yh,ye,zZ,zP,zv,g,k0,k1];rw[hB];simp[xw,tailD,k0,k1]
  ·simp only[EE,nth,↓BK,Int.reduceEq,zu,yU,zg,zc,zw,Yj,Yk,j8,ui,vU,vE,wF,yV,yC,yp,yh,ye,zZ,zP,zv,g,k0,k1];rw[hB];simp[xw,tailD,k0,k1]
 ·simp only[EE,nth,↓BK,Int.reduceEq,zu,yU,zg,zc,zw,Yj,Yk,j8,ui,vU,vE,wF,yV,yC,yp,yh,ye,zZ,zP,zv,g,k0];rw[hB];simp[xw,tailD,k0]
theorem mL(g:H.get b=some (.cells x.row 42))(hB:B=tailD x):zv (pi b) (xw B) vs H:=by
 obtain⟨op,r,m,sub,cc,l,k⟩:=x;by_cases o3:op=3
 ·subst o3;exact zgs g hB
 by_cases o4:op=4
 ·subst o4;exact zgt g hB
 by_cases o5:op=5
 ·subst o5;exact zgu g hB
 by_cases o16:op=16
 ·subst o16;exact zfk g hB
 by_cases o7:op=7
 ·subst o7;exact zgv g hB
 by_cases o8:op=8
 ·subst o8;exact zgw g hB
 by_cases o9:op=9
 ·subst o9;exact zgx g hB
 by_cases o10:op=10
 ·subst o10;exact zfh g hB
 by_cases o11:op=11
 ·subst o11;exact zfi g hB
 by_cases o12:op=12
 ·subst o12;exact zfj g hB
 by_cases o17:op=17
 ·subst o17;exact zfl g hB
 by_cases o19:op=19
 ·subst o19;exact zfn g hB
 by_cases o18:op=18
 ·subst o18;exact zfm g hB
 by_cases o20:op=20
 ·subst o20;exact zfo g hB
 by_cases o23:op=23
 ·subst o23;exact zfp g hB
 by_cases o24:op=24
 ·subst o24;exact zfq g hB
 simp only[EE,nth,↓BK,zu,zg,zc,j8,ui,vU,vE,wF,yV,yC,yp,yh,ye,zZ,zP,zv,g,o3,o4,o5,o16,o7,o8,o9,o10,o11,o12,o17,o19,o18,o20,o23,o24];rw[hB];simp[xw,tailD,o3,o4,o5,o16,o7,o8,o9,o10,o11,o12,o17,o19,o18,o20,o23,o24]
end
def Um(x:zC):Bool := !(Cq x.op&&(decide (x.r<0)||decide (15<x.r)))
def U8(x:zC):Bool := !(gz x.op&&(decide (x.m<0)||decide (15<x.m)))
def cy(x:zC):Bool := !(Ke x.op&&decide (x.r=4))
def pI(x:zC):Bool := !(gz x.op&&(decide (x.m=4) && !qH x.op))
def yn(x:zC):Bool := !decide (x.op<1)&&(!decide (26<x.op)&&(Um x&&(U8 x&&(cy x&&(pI x&&tailD x)))))
section
variable {H:za}{b:Nat}{B:Bool}{vs:List aaa}{x:zC}
theorem pw{mb:Bool}(hm:gz x.op=mb)(g:H.get b=some (.cells x.row 42))(hB:B=(pI x&&tailD x)):jd (.bool mb) (pi b) (xw B) vs H:=by
 cases mb with
 |false=>
  simp only[EE,Za,Zb,Zc,Zd,Ze,Zf,Zg,Zh,Zi,jd];exact mL g (by rw[hB];simp[pI,hm])
 |true=>
  by_cases m4:x.m=4
  ·by_cases o3:x.op=3
   ·simp only[EE,zu,zg,zc,z7,Za,Zb,Zc,Zd,Ze,Zf,Zg,Zh,Zi,jd,g,m4,o3];exact mL g (by rw[hB];simp[pI,qH,o3])
   by_cases o4:x.op=4
   ·simp only[EE,Int.reduceEq,zu,zg,zc,z7,Za,Zb,Zc,Zd,Ze,Zf,Zg,Zh,Zi,jd,g,m4,o4];exact mL g (by rw[hB];simp[pI,qH,o4])
   by_cases o5:x.op=5
   ·simp only[EE,Int.reduceEq,zu,zg,zc,z7,Za,Zb,Zc,Zd,Ze,Zf,Zg,Zh,Zi,jd,g,m4,o5];exact mL g (by rw[hB];simp[pI,qH,o5])
   by_cases o1:x.op=1
   ·simp only[EE,Int.reduceEq,zu,zg,zc,z7,Za,Zb,Zc,Zd,Ze,Zf,Zg,Zh,Zi,jd,g,m4,o1];exact mL g (by rw[hB];simp[pI,qH,o1])
   simp only[EE,zu,zg,zc,z7,Za,Zb,Zc,Zd,Ze,Zf,Zg,Zh,Zi,jd,g,m4,o3,o4,o5,o1];have e:qH x.op=false:=by unfold qH;simp[o3,o4,o5,o1]
   rw[hB];simp[xw,pI,hm,m4,e]
  ·simp only[EE,zu,zg,z7,Za,Zb,Zc,Zd,Ze,Zf,Zg,Zh,Zi,jd,g,m4];exact mL g (by rw[hB];simp[pI,m4])
theorem ra:vt pu 27 [x.val] H (.bool (yn x)):=by
 apply yz;generalize H.lock=L;apply Gs;unfold Gr;simp only[EE,↓nw,Value.cells,Nat.reduceAdd,qQ,wK];have g:(L.push (.cells x.row 42)).get L.next=some (.cells x.row 42):=wt;generalize L.push (.cells x.row 42)=G at g ⊢;generalize L.next=b at g ⊢;simp only[];refine X2 (zbJ x _) ?_;by_cases c1:x.op<1
 ·simp only[EE,zu,zg,zc,wj,wm,wq,uF,uG,uH,uI,uJ,uK,uL,uM,uN,uO,uP,uQ,uR,uS,uT,g,c1];simp[xw,yn,c1]
 by_cases c2:x.op>26
 ·simp only[EE,zu,zg,zc,wj,wm,wq,uF,uG,uH,uI,uJ,uK,uL,uM,uN,uO,uP,uQ,uR,uS,uT,g,c1,c2];have c2':26<x.op:=c2;simp[xw,yn,c2']
 have c2':¬26<x.op:=c2;cases hr:Cq x.op with
 |false=>
  cases hm:gz x.op with
  |false=>
   simp only[EE,Nat.reduceAdd,qQ,zu,zg,wK,zc,uF,uG,uH,uI,uJ,uK,uL,uM,uN,uO,uP,uQ,uR,uS,uT,g,c1,c2];refine X2 (cC x _) ?_;cases hw:Ke x.op with
   |false=>
    simp only[EE,wj,wm,wq];refine pw (x:=x) (B:=yn x) hm g ?_;simp[yn,Um,U8,cy,c1,c2',hr,hm,hw]
   |true=>
    by_cases r4:x.r=4
    ·simp only[EE,zu,zg,zJ,wj,wm,wq,g,r4];simp[xw,yn,Um,U8,cy,hw,r4]
    ·simp only[EE,zu,zg,zJ,wj,wm,wq,g,r4];refine pw (x:=x) (B:=yn x) hm g ?_;simp[yn,Um,U8,cy,c1,c2',hr,hm,hw,r4]
  |true=>
   by_cases m0:x.m<0
   ·simp only[EE,zu,zg,zc,z7,wj,wm,wq,uF,uG,uH,uI,uJ,uK,uL,uM,uN,uO,uP,uQ,uR,uS,uT,g,c1,c2,m0];simp[xw,yn,Um,U8,hm,m0]
   by_cases m1:x.m>15
   ·simp only[EE,zu,zg,zc,z7,wj,wm,wq,uF,uG,uH,uI,uJ,uK,uL,uM,uN,uO,uP,uQ,uR,uS,uT,g,c1,c2,m0,m1];have m1':15<x.m:=m1;simp[xw,yn,Um,U8,hm,m1']
   have m1':¬15<x.m:=m1;simp only[EE,Nat.reduceAdd,qQ,zu,zg,wK,zc,z7,uF,uG,uH,uI,uJ,uK,uL,uM,uN,uO,uP,uQ,uR,uS,uT,g,c1,c2,m0,m1];refine X2 (cC x _) ?_;cases hw:Ke x.op with
   |false=>
    simp only[EE,wj,wm,wq];refine pw (x:=x) (B:=yn x) hm g ?_;simp[yn,Um,U8,cy,c1,c2',hr,hm,m0,m1',hw]
   |true=>
    by_cases r4:x.r=4
    ·simp only[EE,zu,zg,zJ,wj,wm,wq,g,r4];simp[xw,yn,Um,U8,cy,hw,r4]
    ·simp only[EE,zu,zg,zJ,wj,wm,wq,g,r4];refine pw (x:=x) (B:=yn x) hm g ?_;simp[yn,Um,U8,cy,c1,c2',hr,hm,m0,m1',hw,r4]
 |true=>
  by_cases r0:x.r<0
  ·simp only[EE,zu,zg,zc,zJ,wj,wm,wq,uF,uG,uH,uI,uJ,uK,uL,uM,uN,uO,uP,uQ,uR,uS,uT,g,c1,c2,r0];simp[xw,yn,Um,hr,r0]
  by_cases r1:x.r>15
  ·simp only[EE,zu,zg,zc,zJ,wj,wm,wq,uF,uG,uH,uI,uJ,uK,uL,uM,uN,uO,uP,uQ,uR,uS,uT,g,c1,c2,r0,r1];have r1':15<x.r:=r1;simp[xw,yn,Um,hr,r1']
  have r1':¬15<x.r:=r1;cases hm:gz x.op with
  |false=>
   simp only[EE,Nat.reduceAdd,qQ,zu,zg,wK,zc,zJ,uF,uG,uH,uI,uJ,uK,uL,uM,uN,uO,uP,uQ,uR,uS,uT,g,c1,c2,r0,r1];refine X2 (cC x _) ?_;cases hw:Ke x.op with
   |false=>
    simp only[EE,wj,wm,wq];refine pw (x:=x) (B:=yn x) hm g ?_;simp[yn,Um,U8,cy,c1,c2',hr,r0,r1',hm,hw]
   |true=>
    by_cases r4:x.r=4
    ·simp only[EE,zu,zg,zJ,wj,wm,wq,g,r4];simp[xw,yn,Um,U8,cy,hw,r4]
    ·simp only[EE,zu,zg,zJ,wj,wm,wq,g,r4];refine pw (x:=x) (B:=yn x) hm g ?_;simp[yn,Um,U8,cy,c1,c2',hr,r0,r1',hm,hw,r4]
  |true=>
   by_cases m0:x.m<0
   ·simp only[EE,zu,zg,zc,zJ,z7,wj,wm,wq,uF,uG,uH,uI,uJ,uK,uL,uM,uN,uO,uP,uQ,uR,uS,uT,g,c1,c2,r0,r1,m0];simp[xw,yn,Um,U8,hm,m0]
   by_cases m1:x.m>15
   ·simp only[EE,zu,zg,zc,zJ,z7,wj,wm,wq,uF,uG,uH,uI,uJ,uK,uL,uM,uN,uO,uP,uQ,uR,uS,uT,g,c1,c2,r0,r1,m0,m1];have m1':15<x.m:=m1;simp[xw,yn,Um,U8,hm,m1']
   have m1':¬15<x.m:=m1;simp only[EE,Nat.reduceAdd,qQ,zu,zg,wK,zc,zJ,z7,uF,uG,uH,uI,uJ,uK,uL,uM,uN,uO,uP,uQ,uR,uS,uT,g,c1,c2,r0,r1,m0,m1];refine X2 (cC x _) ?_;cases hw:Ke x.op with
   |false=>
    simp only[EE,wj,wm,wq];refine pw (x:=x) (B:=yn x) hm g ?_;simp[yn,Um,U8,cy,c1,c2',hr,r0,r1',hm,m0,m1',hw]
   |true=>
    by_cases r4:x.r=4
    ·simp only[EE,zu,zg,zJ,wj,wm,wq,g,r4];simp[xw,yn,Um,U8,cy,hw,r4]
    ·simp only[EE,zu,zg,zJ,wj,wm,wq,g,r4];refine pw (x:=x) (B:=yn x) hm g ?_;simp[yn,Um,U8,cy,c1,c2',hr,r0,r1',hm,m0,m1',hw,r4]
end
open Go.Rtl (inc)
open Go.Rm (Rd Rd.of Rd.at isO)
open Go.As (W8 uD vw)
def wE:List zC->Int->Nat->Int
 |[],_,_ => -1
 |x::xs,l,n=>if x.op=20/\x.l=l then (n:Nat) else wE xs l (n+1)
theorem JR{h:za}{f:Go.As.Fn}(F:W8 h f)(l:Int):vt pu 28 [f.val,pm l] h (pm (wE f.code l 0)):=by
 apply dF rfl;replace F:=F.lock;generalize h.lock=L at F;apply YZ;intro wf;apply Lj;unfold M3;have s0:Sat (.of L) L []:=Sat.self wf.2;have RF:Rd (.of L) (W8 · f):=Rd.of (yT.jH L) F λh' o=>F.old o;have cn:=F.code.ai;have cc:=F.code.N0;simp only[EE,Value.cells,↓zq];refine qc s0 λb2 h2 s2=>?_;have g2:=s2.get;simp only[];have F2:=RF.at s2;have cl:=vw F2.code 3;refine qo (λm vs h'=>∃i:Nat,i<=f.code.length/\m=f.code.length-i/\vs=[pm 0,pm (i:Nat)]/\h'=h2/\wE f.code l 0=wE (f.code.drop i) l i) f.code.length ⟨0,aaP _,rfl,rfl,rfl,rfl⟩ ?_;rintro m vs h' ⟨i,hi,rfl,rfl,rfl,he⟩;unfold CC;by_cases hc:(i:Int)<(f.code.length:Int)
 ·obtain⟨x,hx⟩:∃x,f.code[i]? = some x:=⟨_,aag (by omega)⟩
  have hd:f.code.drop i=x::f.code.drop (i+1):=by
   rw[abH (by omega)];rw[aag (by omega)]at hx;rw[abl hx]
  rw[hd]at he;obtain⟨bi,oi,ci,ti,ha,hbi,hgi,hle,htk,hki⟩:=uD F2.code (i:=i) (r:=x.row) (by rw[aaH,hx];rfl) rfl;have q0:=hki 0 (by decide);have q0:ci[oi]? = some (pm x.op):=q0;have q5:=hki 5 (by decide);have q5:ci[oi+5]? = some (pm x.l):=q5;have hin:=inc (show i<4611686018427387904 by have:=F.LV;omega);by_cases e1:x.op=20
  ·by_cases e2:x.l=l
   ·simp only[EE,nth,↓zq,zu,zg,Zk,zc,xK,um,cE,cF,cG,cH,cI,hc,g2,cn,cl,ha,hgi,q0,q5,e1,e2];show Value.int .i64 (i:Nat)=.int .i64 (wE f.code l 0);rw[he];unfold wE;rw[aai ⟨e1,e2⟩]
   ·simp only[EE,nth,↓zq,zu,zg,Zk,zc,xK,um,cE,cF,cG,cH,cI,lP,hc,g2,cn,cl,ha,hgi,q0,q5,e1,e2,hin];refine⟨f.code.length-(i+1),by omega,i+1,by omega,rfl,rfl,?_⟩;rw[he]
    conv=>lhs;unfold wE
    rw[aaf (λq=>e2 q.2)]
  ·simp only[EE,nth,↓zq,zu,zg,Zk,zc,um,cE,cF,cG,cH,cI,lP,hc,g2,cn,cl,ha,hgi,q0,e1,hin];refine⟨f.code.length-(i+1),by omega,i+1,by omega,rfl,rfl,?_⟩;rw[he]
   conv=>lhs;unfold wE
   rw[aaf (λq=>e1 q.1)]
 ·have e:i=f.code.length:=by omega
  subst e;simp only[EE,nth,Int.reduceNeg,zu,Zk,um,hc,g2,cn,cl];show Value.int .i64 (-1)=.int .i64 (wE f.code l 0);rw[he,List.drop_length];rfl
open Go.Rtl (LH YI Uk JD get_some)
open Go.As (Pg kR VU ZO jO qI Fb)
def U6(l:List zC):Bool:=l.any λx => !decide (x.op=20)
def ZJ(code:List zC)(n:Nat)(x:zC):Bool := !(decide (x.op=20) && !decide (wE code x.l 0=(n:Int))) && !(decide (x.op=18\/x.op=19)&&decide (wE code x.l 0<0))
def YW(p:Pg)(x:zC):Bool := !(decide (x.op=21)&&(decide (x.sub<0)||decide ((p.funcs.length:Int)<=x.sub))) && !(decide (x.op=6)&&(decide (x.sub<0)||(decide ((p.globals.length:Int)<=x.sub)||(decide (x.k<0)||decide (p.globals.getD x.sub.toNat 0<x.k)))))
def vy(p:Pg)(code:List zC)(n:Nat)(x:zC):Bool:=yn x&&(ZJ code n x&&YW p x)
def PU(p:Pg)(code:List zC)(n:Nat):Bool:=match code[n]? with
 |none=>true
 |some x=>vy p code n x
def bE(p:Pg)(code:List zC):Bool:=(List.range code.length).all (PU p code)
def dO(p:Pg)(f:Go.As.Fn):Bool:=bE p f.code&&(U6 f.code && !decide (100000<(f.code.length:Int)))
def YV(p:Pg):Bool:=Go.As.ka p&&(p.globals.all Fb&&p.funcs.all (dO p))
theorem HY{p:Pg}{code:List zC}{n:Nat}{x:zC}(hx:code[n]? = some x)(h:vy p code n x=false):bE p code=false:=by
 have hn:n<code.length:=by
  rcases aaN n code.length with q|q
  ·exact q
  ·rw[aat q]at hx;cases hx
 unfold bE;rw[List.all_eq_false];exact⟨n,by simpa using hn,by unfold PU;rw[hx];simp[h]⟩
theorem DE{p:Pg}{code:List zC}(h:∀n x,n<code.length->code[n]? = some x->vy p code n x=true):bE p code=true:=by
 unfold bE;rw[aaB];intro n hn;have hn:n<code.length:=by simpa using hn
 unfold PU;rw[aag hn];exact h n _ hn (aag hn)
section
variable {p:Pg}{f:Go.As.Fn}{lo:yT}{H:za}{b1 b5:Nat}{R:aaa->za->Prop}{J:List aaa->za->Prop}
theorem zdL(RP:Rd lo (kR · p))(hfm:f∈p.funcs)(s:Sat lo H [pt b5 (.cells f.row 50),pt b1 (.cells p.row 25)])(v:aaa)
  (kb:bE p f.code=false->∀h,R (.bool false) h)
  (k:∀h v,bE p f.code=true->Sat lo h [pt b5 (.cells f.row 50),pt b1 (.cells p.row 25)]->J [v,.bool (U6 f.code)] h) :
  LP (fD (pi b5) J R (pi b1)) [v,.bool false,pm 0] H:=by
 refine qo (λn vs h'=>∃(i:Nat) (v0:aaa),i<=f.code.length/\n=f.code.length-i/\vs=[v0,.bool (U6 (f.code.take i)),pm (i:Nat)]/\(∀m x,m<i->f.code[m]? = some x->vy p f.code m x=true)/\Sat lo h' [pt b5 (.cells f.row 50),pt b1 (.cells p.row 25)]) f.code.length ⟨0,v,aaP _,rfl,rfl,λm x hm=>by omega,s⟩ ?_;rintro n vs h' ⟨i,v0,hi,rfl,rfl,hall,s⟩;have P:=RP.at s;have F:=P.fns f hfm;have g5:=s.get;have cn:=F.code.ai;have cc:=F.code.N0;have cl:=λh'=>vw F.code 3 h';have gvn:=P.globals.ai;have fvn:=P.funcs.ai;have gl:=λh'=>qI P.globals 3 h';have fl:=λh'=>jO P.funcs 3 h';unfold fD;by_cases hc:(i:Int)<(f.code.length:Int)
 ·obtain⟨x,hx,hxm⟩:=get_some (l:=f.code) (k:=i) (by omega);obtain⟨bi,oi,ci,ti,ha,hbi,hgi,hle,htk,hki⟩:=uD F.code (i:=i) (r:=x.row) (by rw[aaH,hx];rfl) rfl;have et:f.code.take (i+1)=f.code.take i++[x]:=by rw[abd,hx];rfl
  have hsn:U6 (f.code.take (i+1))=(U6 (f.code.take i) || !decide (x.op=20)):=by rw[et];simp[U6]
  have hin:=inc (show i<4611686018427387904 by have:=F.LV;omega);have no:vy p f.code i x=false->∀h,R (.bool false) h:=λe=>kb (HY hx e)
  have go:vy p f.code i x=true->∀m y,m<i+1->f.code[m]? = some y->vy p f.code m y=true:=λe m y hm hy=>by
   by_cases q:m=i
   ·subst q;rw[hx]at hy;cases hy;exact e
   ·exact hall m y (by omega) hy
  simp only[EE,nth,Value.cells,↓zq,qQ,zu,wK,Zk,uw,um,sL,hc,g5,cn,cl,ha,hgi,hle,htk];refine qc s λb8 h2 s2=>?_;simp only[EE,Nat.reduceAdd,yI];refine yf s2 (by simp) rfl λh3 s3=>?_;have g8:=s3.get;have g5:=(s3.p 1).get;have g1:=(s3.p 2).get;have st:=s3.drop
  have go2:vy p f.code i x=true->∀(w:aaa) (sb:Bool),sb=(U6 (f.code.take i) || !decide (x.op=20))->∃m,m<f.code.length-i /\ ∃(i':Nat) (v0:aaa),i'<=f.code.length/\m=f.code.length-i' /\ [w,Value.bool sb,pm ((i+1:Nat):Int)]=[v0,.bool (U6 (f.code.take i')),pm (i':Nat)]/\(∀m x,m<i'->f.code[m]? = some x->vy p f.code m x=true)/\Sat lo h3 [pt b5 (.cells f.row 50),pt b1 (.cells p.row 25)]:=λe w sb hsb=>
   ⟨f.code.length-(i+1),by omega,i+1,w,by omega,rfl,by rw[hsn,hsb],go e,st⟩
  cases hsb:U6 (f.code.take i) with
  |true=>
   rw[hsb]at go2;simp only[EE,nth,zp,Nat.reduceAdd,qQ,wK,zc,fB,fC,g8];refine X2 (ra (x:=x)) ?_;cases hR:yn x with
   |false=>
    simp only[EE,xt];exact no (by simp[vy,hR]) _
   |true=>
    by_cases o20:x.op=20
    ·simp only[EE,zp,Nat.reduceAdd,qQ,zu,zg,ZR,zc,xK,xX,xY,xZ,xt,g8,g5,o20];refine aq (by simp only[yi];rfl) (JR ((RP.at s3).fns f hfm) x.l) ?_;by_cases e1:wE f.code x.l 0=(i:Int)
     ·simp only[EE,nth,zp,Nat.reduceAdd,Int.reduceEq,zu,zg,zc,vC,vD,wM,wN,wO,wP,wQ,wR,wS,wT,wU,wV,wW,wX,wY,wZ,xP,xQ,xR,xS,xU,xV,xW,yO,yP,xh,xi,xj,xk,xo,xp,xq,xr,qx,g8,hin,o20,e1];exact go2 (by simp[vy,ZJ,YW,hR,o20,e1]) _ _ (by simp)
     ·simp only[EE,nth,yO,yP,xh,xi,xj,xk,xo,xp,xq,xr,e1];exact no (by simp[vy,ZJ,YW,hR,o20,e1]) _
    by_cases o18:x.op=18
    ·simp only[EE,zp,Nat.reduceAdd,Int.reduceEq,qQ,zu,zg,ZR,zc,xK,xh,xi,xj,xk,xo,xp,xq,xr,xX,xY,xZ,xt,g8,g5,o18];refine aq (by simp only[yi];rfl) (JR ((RP.at s3).fns f hfm) x.l) ?_;by_cases e1:wE f.code x.l 0<0
     ·simp only[EE,yO,yP,e1];exact no (by simp[vy,ZJ,YW,hR,o18,e1]) _
     ·simp only[EE,nth,zp,Nat.reduceAdd,Int.reduceEq,zu,zg,zc,vC,vD,wM,wN,wO,wP,wQ,wR,wS,wT,wU,wV,wW,wX,wY,wZ,xP,xQ,xR,xS,xU,xV,xW,yO,yP,qx,g8,hin,o18,e1];exact go2 (by simp[vy,ZJ,YW,hR,o18,e1]) _ _ (by simp)
    by_cases o19:x.op=19
    ·simp only[EE,zp,Nat.reduceAdd,Int.reduceEq,qQ,zu,zg,ZR,zc,xK,xh,xi,xj,xk,xo,xp,xq,xr,xX,xY,xZ,xt,g8,g5,o19];refine aq (by simp only[yi];rfl) (JR ((RP.at s3).fns f hfm) x.l) ?_;by_cases e1:wE f.code x.l 0<0
     ·simp only[EE,yO,yP,e1];exact no (by simp[vy,ZJ,YW,hR,o19,e1]) _
     ·simp only[EE,nth,zp,Nat.reduceAdd,Int.reduceEq,zu,zg,zc,vC,vD,wM,wN,wO,wP,wQ,wR,wS,wT,wU,wV,wW,wX,wY,wZ,xP,xQ,xR,xS,xU,xV,xW,yO,yP,qx,g8,hin,o19,e1];exact go2 (by simp[vy,ZJ,YW,hR,o19,e1]) _ _ (by simp)
    by_cases o21:x.op=21
    ·by_cases e1:x.sub<0
     ·simp only[EE,zp,Nat.reduceAdd,Int.reduceEq,zu,zg,zc,zn,xP,xQ,xR,xS,xU,xV,xW,yO,yP,xh,xi,xj,xk,xo,xp,xq,xr,xX,xY,xZ,xt,g8,o21,e1];exact no (by simp[vy,ZJ,YW,hR,o21,e1]) _
     by_cases e2:x.sub ≥ (p.funcs.length:Int)
     ·simp only[EE,zp,Nat.reduceAdd,Int.reduceEq,zu,qW,zg,w8,zc,zn,xP,xQ,xR,xS,xU,xV,xW,yO,yP,xh,xi,xj,xk,xo,xp,xq,xr,xX,xY,xZ,xt,g8,g1,fvn,fl,o21,e1,e2];have e2:(p.funcs.length:Int)<=x.sub:=e2;exact no (by simp[vy,ZJ,YW,hR,o21,e2]) _
     simp only[EE,nth,zp,Nat.reduceAdd,Int.reduceEq,zu,qW,zg,w8,zc,zn,vC,vD,wM,wN,wO,wP,wQ,wR,wS,wT,wU,wV,wW,wX,wY,wZ,xP,xQ,xR,xS,xU,xV,xW,yO,yP,xh,xi,xj,xk,xo,xp,xq,xr,xX,xY,xZ,xt,qx,g8,g1,fvn,fl,hin,o21,e1,e2];have e2:¬(p.funcs.length:Int)<=x.sub:=e2;exact go2 (by simp[vy,ZJ,YW,hR,o21,e1,e2]) _ _ (by simp)
    by_cases o6:x.op=6
    ·by_cases e1:x.sub<0
     ·simp only[EE,zp,Nat.reduceAdd,Int.reduceEq,zu,zg,zc,zn,vC,vD,wM,wN,wO,wP,wQ,wR,wS,wT,wU,wV,wW,wX,wY,wZ,xP,xQ,xR,xS,xU,xV,xW,yO,yP,xh,xi,xj,xk,xo,xp,xq,xr,xX,xY,xZ,xt,g8,o6,e1];exact no (by simp[vy,ZJ,YW,hR,o6,e1]) _
     by_cases e2:x.sub ≥ (p.globals.length:Int)
     ·simp only[EE,zp,Nat.reduceAdd,Int.reduceEq,zu,ua,zg,wy,zc,zn,vC,vD,wM,wN,wO,wP,wQ,wR,wS,wT,wU,wV,wW,wX,wY,wZ,xP,xQ,xR,xS,xU,xV,xW,yO,yP,xh,xi,xj,xk,xo,xp,xq,xr,xX,xY,xZ,xt,g8,g1,gvn,gl,o6,e1,e2];have e2:(p.globals.length:Int)<=x.sub:=e2;exact no (by simp[vy,ZJ,YW,hR,o6,e2]) _
     by_cases e3:x.k<0
     ·simp only[EE,zp,Nat.reduceAdd,Int.reduceEq,zu,yU,ua,zg,wy,zc,zn,zw,vC,vD,wM,wN,wO,wP,wQ,wR,wS,wT,wU,wV,wW,wX,wY,wZ,xP,xQ,xR,xS,xU,xV,xW,yO,yP,xh,xi,xj,xk,xo,xp,xq,xr,xX,xY,xZ,xt,g8,g1,gvn,gl,o6,e1,e2,e3];exact no (by simp[vy,ZJ,YW,hR,o6,e3]) _
     obtain⟨z,hz,hzm⟩:=get_some (l:=p.globals) (k:=x.sub.toNat) (by omega);obtain⟨bz,oz,cz,tz,haz,hbz,hgz,hatz⟩:=ZO (RP.at s3).globals hz;rw[acd (by omega)]at haz;have hd:p.globals.getD x.sub.toNat 0=z:=by rw[abe,hz];rfl
     by_cases e4:x.k>z
     ·simp only[EE,zp,Nat.reduceAdd,Int.reduceEq,zu,yU,ua,zg,wy,zc,zn,zw,vC,vD,wM,wN,wO,wP,wQ,wR,wS,wT,wU,wV,wW,wX,wY,wZ,xP,xQ,xR,xS,xU,xV,xW,yO,yP,xh,xi,xj,xk,xo,xp,xq,xr,xX,xY,xZ,xt,g8,g1,gvn,gl,o6,e1,e2,e3,haz,hgz,hatz,e4];have e4:z<x.k:=e4;exact no (by simp only[vy,ZJ,YW,hd];simp[hR,o6,e4]) _
     simp only[EE,nth,zp,Nat.reduceAdd,Int.reduceEq,zu,yU,ua,zg,wy,zc,zn,zw,vC,vD,wM,wN,wO,wP,wQ,wR,wS,wT,wU,wV,wW,wX,wY,wZ,xP,xQ,xR,xS,xU,xV,xW,yO,yP,xh,xi,xj,xk,xo,xp,xq,xr,xX,xY,xZ,xt,qx,g8,g1,gvn,gl,hin,o6,e1,e2,e3,haz,hgz,hatz,e4];have e4:¬z<x.k:=e4;have e2:¬(p.globals.length:Int)<=x.sub:=e2;exact go2 (by simp only[vy,ZJ,YW,hd];simp[hR,o6,e1,e2,e3,e4]) _ _ (by simp)
    simp only[EE,nth,zp,Nat.reduceAdd,zu,zg,zc,vC,vD,wM,wN,wO,wP,wQ,wR,wS,wT,wU,wV,wW,wX,wY,wZ,xP,xQ,xR,xS,xU,xV,xW,yO,yP,xh,xi,xj,xk,xo,xp,xq,xr,xX,xY,xZ,xt,qx,g8,hin,o20,o18,o19,o21,o6];exact go2 (by simp[vy,ZJ,YW,hR,o20,o18,o19,o21,o6]) _ _ (by simp)
  |false=>
   rw[hsb]at go2;simp only[EE,nth,zp,Nat.reduceAdd,qQ,zu,zg,wK,zc,fB,fC,g8];refine X2 (ra (x:=x)) ?_;cases hR:yn x with
   |false=>
    simp only[EE,xt];exact no (by simp[vy,hR]) _
   |true=>
    by_cases o20:x.op=20
    ·simp only[EE,zp,Nat.reduceAdd,qQ,zu,zg,ZR,zc,xK,xX,xY,xZ,xt,g8,g5,o20];refine aq (by simp only[yi];rfl) (JR ((RP.at s3).fns f hfm) x.l) ?_;by_cases e1:wE f.code x.l 0=(i:Int)
     ·simp only[EE,nth,zp,Nat.reduceAdd,Int.reduceEq,zu,zg,zc,vC,vD,wM,wN,wO,wP,wQ,wR,wS,wT,wU,wV,wW,wX,wY,wZ,xP,xQ,xR,xS,xU,xV,xW,yO,yP,xh,xi,xj,xk,xo,xp,xq,xr,qx,g8,hin,o20,e1];exact go2 (by simp[vy,ZJ,YW,hR,o20,e1]) _ _ (by simp[o20])
     ·simp only[EE,nth,yO,yP,xh,xi,xj,xk,xo,xp,xq,xr,e1];exact no (by simp[vy,ZJ,YW,hR,o20,e1]) _
    by_cases o18:x.op=18
    ·simp only[EE,zp,Nat.reduceAdd,Int.reduceEq,qQ,zu,zg,ZR,zc,xK,xh,xi,xj,xk,xo,xp,xq,xr,xX,xY,xZ,xt,g8,g5,o18];refine aq (by simp only[yi];rfl) (JR ((RP.at s3).fns f hfm) x.l) ?_;by_cases e1:wE f.code x.l 0<0
     ·simp only[EE,yO,yP,e1];exact no (by simp[vy,ZJ,YW,hR,o18,e1]) _
     ·simp only[EE,nth,zp,Nat.reduceAdd,Int.reduceEq,zu,zg,zc,vC,vD,wM,wN,wO,wP,wQ,wR,wS,wT,wU,wV,wW,wX,wY,wZ,xP,xQ,xR,xS,xU,xV,xW,yO,yP,qx,g8,hin,o18,e1];exact go2 (by simp[vy,ZJ,YW,hR,o18,e1]) _ _ (by simp[o18])
    by_cases o19:x.op=19
    ·simp only[EE,zp,Nat.reduceAdd,Int.reduceEq,qQ,zu,zg,ZR,zc,xK,xh,xi,xj,xk,xo,xp,xq,xr,xX,xY,xZ,xt,g8,g5,o19];refine aq (by simp only[yi];rfl) (JR ((RP.at s3).fns f hfm) x.l) ?_;by_cases e1:wE f.code x.l 0<0
     ·simp only[EE,yO,yP,e1];exact no (by simp[vy,ZJ,YW,hR,o19,e1]) _
     ·simp only[EE,nth,zp,Nat.reduceAdd,Int.reduceEq,zu,zg,zc,vC,vD,wM,wN,wO,wP,wQ,wR,wS,wT,wU,wV,wW,wX,wY,wZ,xP,xQ,xR,xS,xU,xV,xW,yO,yP,qx,g8,hin,o19,e1];exact go2 (by simp[vy,ZJ,YW,hR,o19,e1]) _ _ (by simp[o19])
    by_cases o21:x.op=21
    ·by_cases e1:x.sub<0
     ·simp only[EE,zp,Nat.reduceAdd,Int.reduceEq,zu,zg,zc,zn,xP,xQ,xR,xS,xU,xV,xW,yO,yP,xh,xi,xj,xk,xo,xp,xq,xr,xX,xY,xZ,xt,g8,o21,e1];exact no (by simp[vy,ZJ,YW,hR,o21,e1]) _
     by_cases e2:x.sub ≥ (p.funcs.length:Int)
     ·simp only[EE,zp,Nat.reduceAdd,Int.reduceEq,zu,qW,zg,w8,zc,zn,xP,xQ,xR,xS,xU,xV,xW,yO,yP,xh,xi,xj,xk,xo,xp,xq,xr,xX,xY,xZ,xt,g8,g1,fvn,fl,o21,e1,e2];have e2:(p.funcs.length:Int)<=x.sub:=e2;exact no (by simp[vy,ZJ,YW,hR,o21,e2]) _
     simp only[EE,nth,zp,Nat.reduceAdd,Int.reduceEq,zu,qW,zg,w8,zc,zn,vC,vD,wM,wN,wO,wP,wQ,wR,wS,wT,wU,wV,wW,wX,wY,wZ,xP,xQ,xR,xS,xU,xV,xW,yO,yP,xh,xi,xj,xk,xo,xp,xq,xr,xX,xY,xZ,xt,qx,g8,g1,fvn,fl,hin,o21,e1,e2];have e2:¬(p.funcs.length:Int)<=x.sub:=e2;exact go2 (by simp[vy,ZJ,YW,hR,o21,e1,e2]) _ _ (by simp[o21])
    by_cases o6:x.op=6
    ·by_cases e1:x.sub<0
     ·simp only[EE,zp,Nat.reduceAdd,Int.reduceEq,zu,zg,zc,zn,vC,vD,wM,wN,wO,wP,wQ,wR,wS,wT,wU,wV,wW,wX,wY,wZ,xP,xQ,xR,xS,xU,xV,xW,yO,yP,xh,xi,xj,xk,xo,xp,xq,xr,xX,xY,xZ,xt,g8,o6,e1];exact no (by simp[vy,ZJ,YW,hR,o6,e1]) _
     by_cases e2:x.sub ≥ (p.globals.length:Int)
     ·simp only[EE,zp,Nat.reduceAdd,Int.reduceEq,zu,ua,zg,wy,zc,zn,vC,vD,wM,wN,wO,wP,wQ,wR,wS,wT,wU,wV,wW,wX,wY,wZ,xP,xQ,xR,xS,xU,xV,xW,yO,yP,xh,xi,xj,xk,xo,xp,xq,xr,xX,xY,xZ,xt,g8,g1,gvn,gl,o6,e1,e2];have e2:(p.globals.length:Int)<=x.sub:=e2;exact no (by simp[vy,ZJ,YW,hR,o6,e2]) _
     by_cases e3:x.k<0
     ·simp only[EE,zp,Nat.reduceAdd,Int.reduceEq,zu,yU,ua,zg,wy,zc,zn,zw,vC,vD,wM,wN,wO,wP,wQ,wR,wS,wT,wU,wV,wW,wX,wY,wZ,xP,xQ,xR,xS,xU,xV,xW,yO,yP,xh,xi,xj,xk,xo,xp,xq,xr,xX,xY,xZ,xt,g8,g1,gvn,gl,o6,e1,e2,e3];exact no (by simp[vy,ZJ,YW,hR,o6,e3]) _
     obtain⟨z,hz,hzm⟩:=get_some (l:=p.globals) (k:=x.sub.toNat) (by omega);obtain⟨bz,oz,cz,tz,haz,hbz,hgz,hatz⟩:=ZO (RP.at s3).globals hz;rw[acd (by omega)]at haz;have hd:p.globals.getD x.sub.toNat 0=z:=by rw[abe,hz];rfl
     by_cases e4:x.k>z
     ·simp only[EE,zp,Nat.reduceAdd,Int.reduceEq,zu,yU,ua,zg,wy,zc,zn,zw,vC,vD,wM,wN,wO,wP,wQ,wR,wS,wT,wU,wV,wW,wX,wY,wZ,xP,xQ,xR,xS,xU,xV,xW,yO,yP,xh,xi,xj,xk,xo,xp,xq,xr,xX,xY,xZ,xt,g8,g1,gvn,gl,o6,e1,e2,e3,haz,hgz,hatz,e4];have e4:z<x.k:=e4;exact no (by simp only[vy,ZJ,YW,hd];simp[hR,o6,e4]) _
     simp only[EE,nth,zp,Nat.reduceAdd,Int.reduceEq,zu,yU,ua,zg,wy,zc,zn,zw,vC,vD,wM,wN,wO,wP,wQ,wR,wS,wT,wU,wV,wW,wX,wY,wZ,xP,xQ,xR,xS,xU,xV,xW,yO,yP,xh,xi,xj,xk,xo,xp,xq,xr,xX,xY,xZ,xt,qx,g8,g1,gvn,gl,hin,o6,e1,e2,e3,haz,hgz,hatz,e4];have e4:¬z<x.k:=e4;have e2:¬(p.globals.length:Int)<=x.sub:=e2;exact go2 (by simp only[vy,ZJ,YW,hd];simp[hR,o6,e1,e2,e3,e4]) _ _ (by simp[o6])
    simp only[EE,nth,zp,Nat.reduceAdd,zu,zg,zc,vC,vD,wM,wN,wO,wP,wQ,wR,wS,wT,wU,wV,wW,wX,wY,wZ,xP,xQ,xR,xS,xU,xV,xW,yO,yP,xh,xi,xj,xk,xo,xp,xq,xr,xX,xY,xZ,xt,qx,g8,hin,o20,o18,o19,o21,o6];exact go2 (by simp[vy,ZJ,YW,hR,o20,o18,o19,o21,o6]) _ _ (by simp[o20])
 ·have e:i=f.code.length:=by omega
  subst e;rw[abv];simp only[EE,nth,zu,Zk,um,hc,g5,cn,cl];exact k h' v0 (DE λn x hn hx=>hall n x hn hx) s
end
open Go.As (ka)
section
variable {p:Pg}{lo:yT}{H:za}{b1:Nat}
theorem zbn(RP:Rd lo (kR · p))(s:Sat lo H [pt b1 (.cells p.row 25)]){B:Bool}(hB:B=p.funcs.all (dO p))(v:aaa):LP (fE (pi b1) (λvs76 h77=>xw B (.bool true) h77) (xw B)) [v,pm 0] H:=by
 refine qo (λn vs h'=>∃(i:Nat) (v0:aaa),i<=p.funcs.length/\n=p.funcs.length-i/\vs=[v0,pm (i:Nat)]/\(∀k,k<i->LH p.funcs (dO p) k=true)/\Sat lo h' [pt b1 (.cells p.row 25)])
  p.funcs.length ⟨0,v,aaP _,rfl,rfl,λk hk=>by omega,s⟩ ?_
 rintro n vs h' ⟨i,v0,hi,rfl,rfl,hall,s⟩;have P:=RP.at s;have g1:=s.get;have fvn:=P.funcs.ai;have fl:=λh'=>jO P.funcs 3 h';unfold fE;by_cases hc:(i:Int)<(p.funcs.length:Int)
 ·obtain⟨f,hf,hfm⟩:=get_some (l:=p.funcs) (k:=i) (by omega);obtain⟨bi,oi,ci,ti,ha,hbi,hgi,hle,htk,_⟩:=VU P.funcs (i:=i) (r:=f.row) (by rw[aaH,hf];rfl) rfl;have cvn:=(P.fns f hfm).code.ai;have cvc:=(P.fns f hfm).code.N0;have cl:=λh'=>vw (P.fns f hfm).code 3 h';have hin:=inc (show i<4611686018427387904 by have:=P.zbi;omega);have no:dO p f=false->B=false:=λe=>by rw[hB,Uk hf e]
  simp only[EE,nth,Value.cells,↓zq,qQ,zu,qW,ZR,Vu,w8,sN,hc,g1,fvn,fl,ha,hgi,hle,htk];refine qc s λb5 h2 s2=>?_;simp only[EE,Nat.reduceAdd,Vt];refine yf s2 (by simp) (by simp[cvc];rfl) λh3 s3=>?_;simp only[nth,↓zq];refine zdL RP hfm s3 _ (λe h=>?_) (λh4 w hgood s4=>?_)
  ·show Value.bool false=.bool B;rw[no (by unfold dO;rw[e];rfl)]
  ·have g5:=s4.get;unfold sM;cases hs:U6 f.code with
   |false=>
    simp only[EE,nth,Jh,Ji,Jj];rw[no (by unfold dO;simp[hs])];rfl
   |true=>
    by_cases c1:(f.code.length:Int)>100000
    ·simp only[EE,nth,zu,Zk,um,Jh,Ji,Jj,g5,cvn,cl,c1];rw[no (by have c1:100000<(f.code.length:Int):=c1;unfold dO;simp[c1])];rfl
    ·simp only[EE,nth,zu,Zk,um,Jh,Ji,Jj,sO,g5,cvn,cl,c1,hin]
     exact⟨p.funcs.length-(i+1),by omega,i+1,_,by omega,rfl,rfl,λk hk=>(by
      by_cases q:k=i
      ·subst q;rw[JD hf];have c1:¬100000<(f.code.length:Int):=c1;unfold dO;simp[hgood,hs,c1]
      ·exact hall k (by omega)),s4.k [1]⟩
 ·have hi9:i=p.funcs.length:=by omega
  subst hi9;simp only[EE,nth,zu,qW,w8,hc,g1,fvn,fl];rw[hB,YI hall];rfl
theorem zbp(RP:Rd lo (kR · p))(s:Sat lo H [pt b1 (.cells p.row 25)]){B:Bool}(hB:B=(p.globals.all Fb&&p.funcs.all (dO p))){vs:List aaa}:fF (pi b1) (xw B) vs H:=by
 unfold fF;simp only[↓zq]
 refine qo (λn vs h'=>∃(i:Nat) (v0:aaa),i<=p.globals.length/\n=p.globals.length-i/\vs=[v0,pm (i:Nat)]/\(∀k,k<i->LH p.globals Fb k=true)/\Sat lo h' [pt b1 (.cells p.row 25)])
  p.globals.length ⟨0,nth vs 0,aaP _,rfl,rfl,λk hk=>by omega,s⟩ ?_
 rintro n vs h' ⟨i,v0,hi,rfl,rfl,hall,s⟩;have P:=RP.at s;have g1:=s.get;have gvn:=P.globals.ai;have gl:=λh'=>qI P.globals 3 h';unfold CK;by_cases hc:(i:Int)<(p.globals.length:Int)
 ·obtain⟨z,hz,hzm⟩:=get_some (l:=p.globals) (k:=i) (by omega);obtain⟨bi,oi,ci,ti,ha,hbi,hgi,hat⟩:=ZO P.globals hz;have no:Fb z=false->B=false:=λe=>by rw[hB,Uk hz e];rfl
  have hin:=inc (show i<4611686018427387904 by have:=P.Tx;omega);by_cases z0:z<0
  ·simp only[EE,nth,↓zq,zu,ua,zg,wy,cL,cM,cN,cO,cP,hc,g1,gvn,gl,ha,hgi,hat,z0];rw[no (by unfold Fb;simp[z0])];rfl
  by_cases z1:z>65536
  ·simp only[EE,nth,↓zq,zu,ua,zg,wy,cL,cM,cN,cO,cP,hc,g1,gvn,gl,ha,hgi,hat,z0,z1];rw[no (by have z1:65536<z:=z1;unfold Fb;simp[z1])];rfl
  simp only[EE,nth,↓zq,zu,ua,zg,wy,cL,cM,cN,cO,cP,CJ,hc,g1,gvn,gl,ha,hgi,hat,z0,z1,hin]
  exact⟨p.globals.length-(i+1),by omega,i+1,_,by omega,rfl,rfl,λk hk=>(by
   by_cases q:k=i
   ·subst q;rw[JD hz];have z1:¬65536<z:=z1;unfold Fb;simp[z0,z1]
   ·exact hall k (by omega)),s⟩
 ·have hi9:i=p.globals.length:=by omega
  subst hi9;simp only[EE,nth,↓zq,zu,ua,wy,hc,g1,gvn,gl];refine zbn (B:=B) RP s ?_ _;rw[hB,YI hall];rfl
theorem dw{h:za}(P:kR h p):vt pu 11 [p.val] h (.bool (YV p)):=by
 apply yz;replace P:=P.lock;generalize h.lock=L at P;apply YZ;intro wf;apply Lm;unfold M8;have s0:Sat (.of L) L []:=Sat.self wf.2;have RP:Rd (.of L) (kR · p):=Rd.of (yT.jH L) P λh' o=>P.old o;have gvn:=P.globals.ai;have fvn:=P.funcs.ai;have gvc:=P.globals.N0;have fvc:=P.funcs.N0;have fl:=λh'=>jO P.funcs 3 h';have gl:=λh'=>qI P.globals 3 h';simp only[EE,Value.cells];refine qc s0 λb1 h2 s2=>?_;have g1:=s2.get;have no:ka p=false->YV p=false:=λe=>by unfold YV;rw[e];rfl
 by_cases c4:(p.globals.length:Int)>200
 ·simp only[EE,zu,ua,wy,Z7,Z8,Z9,Ya,Yb,Yc,Yd,Ye,Yf,Yg,Yh,g1,gvn,gl,c4];rw[no (by have c4:(200:Int)<p.globals.length:=c4;unfold ka;simp[c4])];rfl
 by_cases c3:(p.funcs.length:Int)>100
 ·simp only[EE,zu,ua,qW,wy,w8,Z7,Z8,Z9,Ya,Yb,Yc,Yd,Ye,Yf,Yg,Yh,g1,fvn,fl,gvn,gl,c4,c3];rw[no (by have c3:(100:Int)<p.funcs.length:=c3;unfold ka;simp[c3])];rfl
 by_cases c1:p.main<0
 ·simp only[EE,zu,ua,qW,zg,wy,w8,uz,Z7,Z8,Z9,Ya,Yb,Yc,Yd,Ye,Yf,Yg,Yh,g1,fvn,fl,gvn,gl,c4,c3,c1];rw[no (by unfold ka;simp[c1])];rfl
 by_cases c2:p.main ≥ (p.funcs.length:Int)
 ·simp only[EE,zu,ua,qW,zg,wy,w8,uz,Z7,Z8,Z9,Ya,Yb,Yc,Yd,Ye,Yf,Yg,Yh,g1,fvn,fl,gvn,gl,c4,c3,c1,c2];rw[no (by have c2:(p.funcs.length:Int)<=p.main:=c2;unfold ka;simp[c2])];rfl
 by_cases c5:p.params<0
 ·simp only[EE,zu,ua,qW,zg,wy,w8,uz,kg,Z7,Z8,Z9,Ya,Yb,Yc,Yd,Ye,Yf,Yg,Yh,g1,fvn,fl,gvn,gl,c4,c3,c1,c2,c5];rw[no (by unfold ka;simp[c5])];rfl
 by_cases c6:p.params>6
 ·simp only[EE,zu,ua,qW,zg,wy,w8,uz,kg,Z7,Z8,Z9,Ya,Yb,Yc,Yd,Ye,Yf,Yg,Yh,g1,fvn,fl,gvn,gl,c4,c3,c1,c2,c5,c6];rw[no (by have c6:6<p.params:=c6;unfold ka;simp[c6])];rfl
 simp only[EE,zu,ua,qW,zg,wy,w8,uz,kg,Z7,Z8,Z9,Ya,Yb,Yc,Yd,Ye,Yf,Yg,Yh,g1,fvn,fl,gvn,gl,c4,c3,c1,c2,c5,c6];refine zbp RP s2 ?_
 have hs:ka p=true:=by
  have c2:¬(p.funcs.length:Int)<=p.main:=c2;have c3:¬(100:Int)<p.funcs.length:=c3;have c4:¬(200:Int)<p.globals.length:=c4;have c6:¬6<p.params:=c6;unfold ka;simp[c1,c2,c3,c4,c5,c6]
 unfold YV;rw[hs];rfl
end
open Go.As (Zl DM kH UU Br ZK hasB bJ X0 yA)
theorem vX(k:Int):bJ k=zQ k:=by
 unfold bJ zQ;rw[aca];simp only[aaF,aad,IntKind.wrap,IntKind.bits,IntKind.signed];simp;omega
theorem Fc(m:List (Int×aaa))(a l:Int):hasB (Qb m a (.bool true)) l=(decide (a=l)||hasB m l):=by
 unfold hasB;rw[bN];by_cases h:a=l
 ·rw[aai h];simp[h]
 ·rw[aaf h];simp[h]
def Zm(l:Int)(x:zC):Bool:=decide (x.op=20/\x.l=l)
def jJ:List zC->List (Int×aaa)->Bool
 |[],_=>true
 |x::xs,m=>if x.op=20 then !hasB m x.l&&jJ xs (Qb m x.l (.bool true)) else jJ xs m
def Ae:List zC->List (Int×aaa)->List (Int×aaa)
 |[],m=>m
 |x::xs,m=>if x.op=20 then Ae xs (Qb m x.l (.bool true)) else Ae xs m
theorem FI(gl:List Int):∀(xs:List zC) (m:List (Int×aaa)) (b:Bool),ZK gl xs m b=if (xs.all (kH gl)&&jJ xs m)=true then some (Ae xs m,b||U6 xs) else none
 |[],m,b=>by simp[ZK,jJ,Ae,U6]
 |x::xs,m,b=>by
  unfold ZK jJ Ae;by_cases h1:kH gl x=false
  ·rw[aai h1];simp[h1]
  have h1':kH gl x=true:=by simpa using h1
  rw[aaf h1];by_cases h2:x.op=20
  ·rw[aai h2,aai h2,aai h2];by_cases h3:hasB m x.l=true
   ·rw[aai h3];simp[h3]
   ·have h3':hasB m x.l=false:=(by simpa using h3);rw[aaf h3,FI gl xs];simp[h1',h3',U6,h2]
  ·rw[aaf h2,aaf h2,aaf h2,FI gl xs];simp[h1',U6,h2]
theorem has_add:∀(xs:List zC) (m:List (Int×aaa)) (l:Int),hasB (Ae xs m) l=(hasB m l||xs.any (Zm l))
 |[],m,l=>by simp[Ae]
 |x::xs,m,l=>by
  unfold Ae;by_cases h:x.op=20
  ·rw[aai h,has_add xs,Fc];simp[Zm,h,Bool.or_assoc,Bool.or_comm,Bool.or_left_comm]
  ·rw[aaf h,has_add xs];simp[Zm,h]
theorem AJ:∀(xs:List zC) (m:List (Int×aaa)),jJ xs m=true ↔ ∀(n:Nat) x,xs[n]? = some x->x.op=20->hasB m x.l=false /\ ∀(j:Nat) y,j<n->xs[j]? = some y->Zm x.l y=false
 |[],m=>by simp[jJ]
 |x::xs,m=>by
  unfold jJ;have ih:=λm'=>AJ xs m';by_cases h:x.op=20
  ·rw[aai h,aad,ih]
   constructor
   ·rintro⟨h1,h2⟩ n y hy ho;cases n with
    |zero=>simp only[aaA,aab]at hy;subst hy;exact⟨by simpa using h1,λj z hj=>by omega⟩
    |succ n=>
     simp only[aaU]at hy;obtain⟨a,b⟩:=h2 n y hy ho;rw[Fc]at a;simp only[abc,aan]at a;refine⟨a.2,λj z hj hz=>?_⟩;cases j with
     |zero=>simp only[aaA,aab]at hz;subst hz;simp[Zm,h,a.1]
     |succ j=>simp only[aaU]at hz;exact b j z (by omega) hz
   ·intro H;refine⟨by have:=(H 0 x rfl h).1;simp[this],λn y hy ho=>?_⟩;obtain⟨a,b⟩:=H (n+1) y (by simpa using hy) ho;rw[Fc];have c:=b 0 x (by omega) rfl;refine⟨?_,λj z hj hz=>b (j+1) z (by omega) (by simpa using hz)⟩;have c:¬x.l=y.l:=by simpa [Zm,h] using c
    simp[a,c]
  ·rw[aaf h,ih]
   constructor
   ·intro H n y hy ho;cases n with
    |zero=>simp only[aaA,aab]at hy;subst hy;exact absurd ho h
    |succ n=>
     simp only[aaU]at hy;obtain⟨a,b⟩:=H n y hy ho;refine⟨a,λj z hj hz=>?_⟩;cases j with
     |zero=>simp only[aaA,aab]at hz;subst hz;simp[Zm,h]
     |succ j=>simp only[aaU]at hz;exact b j z (by omega) hz
   ·intro H n y hy ho;obtain⟨a,b⟩:=H (n+1) y (by simpa using hy) ho;exact⟨a,λj z hj hz=>b (j+1) z (by omega) (by simpa using hz)⟩
theorem bI:∀(xs:List zC) (l:Int) (k:Nat),(wE xs l k = -1/\xs.any (Zm l)=false) \/ ∃j:Nat,wE xs l k=((k+j:Nat):Int)/\(∃x,xs[j]? = some x/\Zm l x=true) /\ ∀(i:Nat) y,i<j->xs[i]? = some y->Zm l y=false
 |[],l,k => .inl ⟨rfl,rfl⟩
 |x::xs,l,k=>by
  unfold wE;by_cases h:x.op=20/\x.l=l
  ·rw[aai h];exact .inr ⟨0,rfl,⟨x,rfl,by unfold Zm;exact aa0 h⟩,λi y hi=>by omega⟩
  ·rw[aaf h];have hx:Zm l x=false:=by unfold Zm;exact aaY h
   rcases bI xs l (k+1) with⟨a,b⟩|⟨j,a,⟨y,hy,hl⟩,b⟩
   ·exact .inl ⟨a,by simp[hx,b]⟩
   ·refine .inr ⟨j+1,by rw[a];omega,⟨y,by simpa using hy,hl⟩,λi z hi hz=>?_⟩;cases i with
    |zero=>simp only[aaA,aab]at hz;subst hz;exact hx
    |succ i=>exact b i z (by omega) (by simpa using hz)
theorem AR{code:List zC}{n:Nat}{x:zC}(hx:code[n]? = some x)(h:x.op=20):(wE code x.l 0=(n:Int)) ↔ ∀(j:Nat) y,j<n->code[j]? = some y->Zm x.l y=false:=by
 have hl:Zm x.l x=true:=by simp[Zm,h]
 rcases bI code x.l 0 with⟨a,b⟩|⟨j,a,⟨y,hy,hyl⟩,b⟩
 ·rw[List.any_eq_false]at b;exact absurd hl (b x (aaz hx))
 ·rw[a]
  constructor
  ·intro q;have:j=n:=by omega
   subst this;exact b
  ·intro q;rcases Nat.lt_trichotomy j n with c|c|c
   ·have:=q j y c hy;rw[this]at hyl;cases hyl
   ·omega
   ·have:=b n x c hx;rw[this]at hl;cases hl
theorem mO(code:List zC)(l:Int):(wE code l 0<0) ↔ code.any (Zm l)=false:=by
 rcases bI code l 0 with⟨a,b⟩|⟨j,a,⟨y,hy,hyl⟩,b⟩
 ·rw[a,b];simp
 ·rw[a];have:code.any (Zm l)=true:=List.any_eq_true.2 ⟨y,aaz hy,hyl⟩;rw[this]
  constructor
  ·intro q;omega
  ·intro q;cases q
theorem zfX{op:Int}(h:Ke op=true):Cq op=true:=by
 unfold Ke at h;unfold Cq;simp only[aaF]at h ⊢;omega
theorem zcb(x:zC):X0 x=(Um x&&(U8 x&&(cy x&&pI x))):=by
 unfold X0 Um U8 cy pI;have hw := @zfX x.op;generalize Cq x.op=R at hw ⊢;generalize Ke x.op=W at hw ⊢;generalize gz x.op=M;generalize qH x.op=F;rw[aca];cases R <;> cases W <;> cases M <;> cases F <;> simp at hw ⊢ <;> omega
def Zn(x:zC):Bool := !decide (x.op=18\/x.op=19)||(decide (0<=x.l)&&decide (x.l<=10000000))
def VA(gl:List Int)(x:zC):Bool := !(decide (x.op=6)&&(decide (x.sub<0)||(decide ((gl.length:Int)<=x.sub)||(decide (x.k<0)||decide (gl.getD x.sub.toNat 0<x.k)))))
theorem zco(gl:List Int)(x:zC):(yA gl x&&Zn x)=(tailD x&&VA gl x):=by
 obtain⟨op,r,m,sub,cc,l,k⟩:=x;by_cases o3:op=3
 ·subst o3;simp[yA,tailD,Zn,VA,vX]
 by_cases o4:op=4
 ·subst o4;simp[yA,tailD,Zn,VA,vX]
 by_cases o5:op=5
 ·subst o5;simp[yA,tailD,Zn,VA,vX]
 by_cases o16:op=16
 ·subst o16;simp[yA,tailD,Zn,VA,vX]
 by_cases o7:op=7
 ·subst o7;simp[yA,tailD,Zn,VA,vX]
 by_cases o8:op=8
 ·subst o8;simp[yA,tailD,Zn,VA,vX]
 by_cases o9:op=9
 ·subst o9;simp[yA,tailD,Zn,VA,vX]
 by_cases o10:op=10
 ·subst o10;simp[yA,tailD,Zn,VA,vX]
 by_cases o11:op=11
 ·subst o11;simp[yA,tailD,Zn,VA,vX]
 by_cases o12:op=12
 ·subst o12;simp[yA,tailD,Zn,VA,vX]
 by_cases o17:op=17
 ·subst o17;simp[yA,tailD,Zn,VA,vX]
 by_cases o19:op=19
 ·subst o19;simp[yA,tailD,Zn,VA,vX]
 by_cases o18:op=18
 ·subst o18;simp[yA,tailD,Zn,VA,vX]
 by_cases o20:op=20
 ·subst o20;simp[yA,tailD,Zn,VA,vX]
 by_cases o23:op=23
 ·subst o23;simp[yA,tailD,Zn,VA,vX]
 by_cases o24:op=24
 ·subst o24;simp[yA,tailD,Zn,VA,vX]
 by_cases o6:op=6
 ·subst o6;rw[aca];simp[yA,tailD,Zn,VA]
 simp[yA,tailD,Zn,VA,o3,o4,o5,o16,o7,o8,o9,o10,o11,o12,o17,o19,o18,o20,o23,o24,o6]
theorem Tz(gl:List Int)(x:zC):(kH gl x&&Zn x)=(yn x&&VA gl x):=by
 have t:=zco gl x;unfold kH yn;rw[zcb];have a:decide (1<=x.op) = !decide (x.op<1):=by rw[aca];simp
 have b:decide (x.op<=26) = !decide (26<x.op):=by rw[aca];simp
 rw[a,b];generalize yA gl x=T at t ⊢;generalize Zn x=J at t ⊢;generalize tailD x=D at t ⊢;generalize VA gl x=L at t ⊢;generalize decide (x.op<1)=U;generalize decide (26<x.op)=V;cases Um x <;> cases U8 x <;> cases cy x <;> cases pI x <;> cases U <;> cases V <;> simp;exact t
theorem OI(p:Pg)(x:zC):YW p x=(!(decide (x.op=21)&&(decide (x.sub<0)||decide ((p.funcs.length:Int)<=x.sub)))&&VA p.globals x):=rfl
theorem Be{gl:List Int}{x:zC}:(kH gl x=true/\Zn x=true) ↔ (yn x=true/\VA gl x=true):=by
 have:=Tz gl x;rw[<- aad,<- aad,this]
theorem PZ{gl:List Int}{y:zC}{l:Int}(h:kH gl y=true)(hl:Zm l y=true):0<=l/\l<=10000000:=by
 unfold Zm at hl;have hl:=aa9 hl;unfold kH at h;simp only[aad]at h;obtain⟨_,_,_,h⟩:=h;unfold yA at h;simp[hl.1,hl.2]at h;exact h
theorem zba(p:Pg)(code:List zC):(code.all (kH p.globals)&&jJ code []&&code.all (UU p.funcs.length (Ae code [])))=bE p code:=by
 rw[aca];simp only[aad,aaB];have hany:∀l,hasB (Ae code []) l=code.any (Zm l):=λl=>by rw[has_add];rfl
 constructor
 ·rintro⟨⟨h1,h2⟩,h3⟩;refine DE λn x hn hx=>?_;have hm:=aaz hx;have i:=h1 x hm;have hp:=h3 x hm;unfold UU at hp;rw[hany]at hp;simp only[aad,aaq]at hp;obtain⟨p1,p2⟩:=hp
  have jp:(x.op=18\/x.op=19)->code.any (Zm x.l)=true:=λq=>by
   rw[aa0 q]at p1;simpa using p1
  have j:Zn x=true:=by
   unfold Zn;by_cases q:x.op=18\/x.op=19
   ·obtain⟨y,hy,hyl⟩:=List.any_eq_true.1 (jp q);have:=PZ (h1 y hy) hyl;simp[this]
   ·simp[q]
  obtain⟨d,le⟩:=Be.1 ⟨i,j⟩;unfold vy;rw[d,OI,le,acp,abu]
  have lb:ZJ code n x=true:=by
   unfold ZJ
   have a:(decide (x.op=20) && !decide (wE code x.l 0=(n:Int)))=false:=by
    by_cases q:x.op=20
    ·have:=((AJ code []).1 h2 n x hx q).2;rw[aa0 ((AR hx q).2 this)];simp
    ·simp[q]
   have b:(decide (x.op=18\/x.op=19)&&decide (wE code x.l 0<0))=false:=by
    by_cases q:x.op=18\/x.op=19
    ·have e:¬wE code x.l 0<0:=λz=>by rw[mO,jp q]at z;cases z
     rw[aaY e];simp
    ·simp[q]
   rw[a,b];rfl
  rw[lb,p2];rfl
 ·intro h
  have H:∀n x,code[n]? = some x->vy p code n x=true:=λn x hx=>by
   rcases hq:vy p code n x with _|_
   ·rw[HY hx hq]at h;cases h
   ·rfl
  have G:∀n x,code[n]? = some x->kH p.globals x=true/\ZJ code n x=true/\(decide (x.op=21)&&(decide (x.sub<0)||decide ((p.funcs.length:Int)<=x.sub)))=false:=λn x hx=>by
   have:=H n x hx;unfold vy at this;rw[OI]at this;simp only[aad,aaq]at this;obtain⟨a,b,c,d⟩:=this;exact⟨(Be.2 ⟨a,d⟩).1,b,c⟩
  refine⟨⟨λx hx=>?_,(AJ code []).2 λn x hx q=>⟨rfl,?_⟩⟩,λx hx=>?_⟩
  ·obtain⟨n,hn,rfl⟩:=List.getElem_of_mem hx;exact(G n _ (aag hn)).1
  ·have:=(G n x hx).2.1;unfold ZJ at this;simp only[aad,aaq]at this;have a:=this.1;rw[aa0 q]at a;have a:wE code x.l 0=(n:Int):=by simpa using a
   exact(AR hx q).1 a
  ·obtain⟨n,hn,rfl⟩:=List.getElem_of_mem hx;obtain⟨_,lb,c⟩:=G n _ (aag hn);unfold UU;rw[hany,c,ab7,acp];unfold ZJ at lb;simp only[aad,aaq]at lb;have b:=lb.2;by_cases q:code[n].op=18\/code[n].op=19
   ·rw[aa0 q]at b;have b:¬wE code code[n].l 0<0:=by simpa using b
    have e:code.any (Zm code[n].l)=true:=by
     rcases hq:code.any (Zm code[n].l) with _|_
     ·exact absurd ((mO _ _).2 hq) b
     ·rfl
    rw[e];simp
   ·rw[aaY q];rfl
theorem zft(p:Pg)(f:Go.As.Fn):dO p f=DM p f:=by
 unfold dO DM;rw[FI,<- zba];by_cases h:(f.code.all (kH p.globals)&&jJ f.code [])=true
 ·rw[aai h,h];simp only[Br,abu,acx];cases f.code.all (UU p.funcs.length (Ae f.code [])) <;> cases U6 f.code <;> simp
 ·rw[aaf h];have h:(f.code.all (kH p.globals)&&jJ f.code [])=false:=by simpa using h
  rw[h];simp[Br]
theorem Yr(p:Pg):YV p=Zl p:=by
 unfold YV Zl
 have e:p.funcs.all (dO p)=p.funcs.all (DM p):=by
  congr 1
  exact funext λf=>zft p f
 rw[e];rfl
end Go.Ar
namespace Go.En
open Go.Ai Go.Proofs
open Go.As (zC Pg)
abbrev u8(n:Int):Int:=IntKind.wrap .u8 n
def yX(n:Nat)(v:Int):List Int:=(List.range n).map λi=>u8 (v.fdiv (2^(8*i)))
def zj(base a b:Int):Int:=base+(if 8<=a then 4 else 0)+(if 8<=b then 1 else 0)
def zW(a b:Int):Int:=192+a%8*8+b%8
def WY(a m:Int):List Int:=if m%8=4 then [128+a%8*8+m%8,36] else [128+a%8*8+m%8]
def uB(a m k:Int):List Int:=WY a m++yX 4 k
def vd(cc:Int):Int:=if cc=21 then 4 else if cc=22 then 5 else if cc=23 then 12 else if cc=26 then 13 else if cc=24 then 14 else 15
def kp(s:Int):Int:=if s=11 then 1 else if s=12 then 41 else if s=16 then 33 else if s=17 then 9 else 49
def ZQ(s:Int):Int:=if s=11 then 0 else if s=17 then 1 else if s=16 then 4 else if s=12 then 5 else 6
def kF(s:Int):Int:=if s=20 then 7 else 4
def ze(x:zC)(d:Int):List Int :=
 if x.op=1 then [zj 72 x.m x.r,137,zW x.m x.r]
 else if x.op=2 then (if Go.Ar.zQ x.k=true then [zj 72 0 x.r,199,zW 0 x.r]++yX 4 x.k else [zj 72 0 x.r,184+x.r%8]++yX 8 x.k)
 else if x.op=3 then (if x.sub=8 then [zj 72 x.r x.m,139]++uB x.r x.m x.k else if x.sub=4 then [zj 72 x.r x.m,99]++uB x.r x.m x.k else [zj 72 x.r x.m,15,190]++uB x.r x.m x.k)
 else if x.op=4 then (if x.sub=8 then [zj 72 x.r x.m,137]++uB x.r x.m x.k else if x.sub=4 then [zj 64 x.r x.m,137]++uB x.r x.m x.k else [zj 64 x.r x.m,136]++uB x.r x.m x.k)
 else if x.op=5 then [zj 72 x.r x.m,141]++uB x.r x.m x.k
 else if x.op=6 then [zj 72 x.r 0,141,5+x.r%8*8]++yX 4 d
 else if x.op=7 then (if x.sub=13 then [zj 72 x.r x.m,15,175,zW x.r x.m] else [zj 72 x.m x.r,kp x.sub,zW x.m x.r])
 else if x.op=8 then (if x.sub=13 then [zj 72 x.r x.r,105,zW x.r x.r]++yX 4 x.k else [zj 72 0 x.r,129,zW (ZQ x.sub) x.r]++yX 4 x.k)
 else if x.op=9 then [zj 72 0 x.r,247,zW (if x.sub=2 then 2 else 3) x.r]
 else if x.op=10 then (if x.sub=3 then [zj 72 x.r x.m,15,190,zW x.r x.m] else [zj 72 x.r x.m,99,zW x.r x.m])
 else if x.op=11 then [zj 72 0 x.r,193,zW (kF x.sub) x.r,u8 x.k]
 else if x.op=12 then [zj 72 0 x.r,211,zW (kF x.sub) x.r]
 else if x.op=13 then [72,153]
 else if x.op=14 then [zj 72 0 x.m,247,zW 7 x.m]
 else if x.op=15 then [zj 72 x.m x.r,57,zW x.m x.r]
 else if x.op=16 then [zj 72 0 x.r,129,zW 7 x.r]++yX 4 x.k
 else if x.op=17 then [zj 64 0 x.r,15,144+vd x.cc,zW 0 x.r,zj 72 x.r x.r,15,182,zW x.r x.r]
 else if x.op=18 then 233::yX 4 d
 else if x.op=19 then [15,128+vd x.cc]++yX 4 d
 else if x.op=21 then 232::yX 4 d
 else if x.op=22 then [195]
 else if x.op=23 then [72,129,236]++yX 4 x.k
 else if x.op=24 then [72,129,196]++yX 4 x.k
 else if x.op=25 then [72,237]
 else if x.op=26 then [72,239]
 else []
def qJ(x:zC):Nat:=(ze x 0).length
theorem xb(n:Nat)(v:Int):(yX n v).length=n:=by unfold yX;simp
theorem zbu{c:Prop}[Decidable c]{a b a' b':List Int}(h1:a.length=a'.length)(h2:b.length=b'.length):(if c then a else b).length=(if c then a' else b').length:=by
 split
 ·exact h1
 ·exact h2
theorem zcn(x:zC)(d:Int):(ze x d).length=qJ x:=by
 unfold qJ ze
 repeat' with_reducible apply zbu
 all_goals simp only[xb,aa3,aao]
open Go.Ar (wE mO AR)
def vi:List zC->Nat
 |[]=>0
 |x::xs=>qJ x+vi xs
def qG:List Go.As.Fn->Nat->List Nat
 |[],_=>[]
 |f::fs,n=>n::qG fs (n+vi f.code)
def wx:List Go.As.Fn->Nat
 |[]=>0
 |f::fs=>vi f.code+wx fs
def vh:List Int->Int->List Int
 |[],_=>[]
 |g::gs,a=>a::vh gs (a+(g+31)/16*16)
def bV:List zC->Nat->List (Int×aaa)->List (Int×aaa)
 |[],_,m=>m
 |x::xs,n,m=>bV xs (n+qJ x) (if x.op=20 then Qb m x.l (.int .i64 (n:Nat)) else m)
theorem dH:∀xs ys:List zC,vi (xs++ys)=vi xs+vi ys
 |[],ys=>by rw[abA];show _=0+_;omega
 |x::xs,ys=>by
  show qJ x+vi (xs++ys)=qJ x+vi xs+vi ys;rw[dH xs ys];omega
theorem BU:∀(fs:List Go.As.Fn) (n:Nat),(qG fs n).length=fs.length
 |[],n=>rfl
 |f::fs,n=>by show(qG fs _).length+1=fs.length+1;rw[BU fs]
theorem Em:∀(fs:List Go.As.Fn) (n i:Nat),i<fs.length->(qG fs n)[i]? = some (n+wx (fs.take i))
 |[],n,i,h=>by cases h
 |f::fs,n,0,h=>rfl
 |f::fs,n,i+1,h=>by
  show(qG fs (n+vi f.code))[i]? = some (n+(vi f.code+wx (fs.take i)));rw[Em fs _ i (by simpa using h)]
  congr 1;omega
theorem Up:∀(gs:List Int) (a:Int),(vh gs a).length=gs.length
 |[],a=>rfl
 |g::gs,a=>by show(vh gs _).length+1=gs.length+1;rw[Up gs]
theorem TI{k:Int}:∀(xs:List zC) (n:Nat) (m:List (Int×aaa)),(∀x,x∈xs->x.op=20->¬x.l=k)->KE (bV xs n m) k=KE m k
 |[],n,m,h=>rfl
 |x::xs,n,m,h=>by
  show KE (bV xs _ _) k=_;rw[TI xs _ _ λy hy=>h y (aaC _ hy)];by_cases e:x.op=20
  ·rw[aai e,bN,aaf (h x aak e)]
  ·rw[aaf e]
theorem TH{k:Int}{x:zC}(e:x.op=20)(ek:x.l=k):∀(ys zs:List zC) (n:Nat) (m:List (Int×aaa)),(∀z,z∈zs->z.op=20->¬z.l=k)->KE (bV (ys++x::zs) n m) k=some (.int .i64 ((n+vi ys:Nat):Int))
 |[],zs,n,m,h=>by
  show KE (bV zs _ _) k=_;rw[TI zs _ _ h,aai e,bN,aai ek];rfl
 |y::ys,zs,n,m,h=>by
  show KE (bV (ys++x::zs) _ _) k=_;rw[TH e ek ys zs _ _ h];show _=some (Value.int .i64 ((n+(qJ y+vi ys):Nat):Int));rw[abI]
def pe(gl:List Int)(st:List Nat)(code:List zC)(o:Nat)(x:zC):Int :=
 if x.op=18\/x.op=19 then ((o+vi (code.take (wE code x.l 0).toNat):Nat):Int)
 else if x.op=21 then ((st[x.sub.toNat]?.getD 0:Nat):Int)
 else if x.op=6 then gl[x.sub.toNat]?.getD 0+x.k
 else 0
def L4(gl:List Int)(st:List Nat)(code:List zC)(o n:Nat)(x:zC):Int :=
 if x.op=18\/x.op=19\/x.op=21\/x.op=6 then pe gl st code o x-((n+qJ x:Nat):Int) else 0
def Wk(gl:List Int)(st:List Nat)(code:List zC)(o:Nat):List zC->Nat->List Int
 |[],_=>[]
 |x::xs,n=>ze x (L4 gl st code o n x)++Wk gl st code o xs (n+qJ x)
def eK(gl:List Int)(st:List Nat):List Go.As.Fn->Nat->List Int
 |[],_=>[]
 |f::fs,n=>Wk gl st f.code n f.code n++eK gl st fs (n+vi f.code)
theorem mH(gl:List Int)(st:List Nat)(code:List zC)(o:Nat):∀(xs:List zC) (n:Nat),(Wk gl st code o xs n).length=vi xs
 |[],n=>rfl
 |x::xs,n=>by
  show(ze x _++Wk gl st code o xs _).length=qJ x+vi xs;rw[aao,zcn,mH]
theorem mI(gl:List Int)(st:List Nat):∀(fs:List Go.As.Fn) (n:Nat),(eK gl st fs n).length=wx fs
 |[],n=>rfl
 |f::fs,n=>by
  show(Wk gl st f.code n f.code n++eK gl st fs _).length=vi f.code+wx fs;rw[aao,mH,mI]
def gh(p:Pg):List Int:=eK (vh p.globals 16777216) (qG p.funcs 0) p.funcs 0
open Go.As (Zl)
open Go.Ar (bI Zm YV Yr)
def KD(x:zC):Prop:=x.op=18\/x.op=19\/x.op=21\/x.op=6
theorem Aw{x:zC}(h:¬KD x)(d:Int):ze x d=ze x 0:=by
 unfold KD at h;have h18:¬x.op=18:=λe=>h (.inl e);have h19:¬x.op=19:=λe=>h (.inr (.inl e));have h21:¬x.op=21:=λe=>h (.inr (.inr (.inl e)));have h6:¬x.op=6:=λe=>h (.inr (.inr (.inr e)));unfold ze;simp only[aaf h18,aaf h19,aaf h21,aaf h6]
theorem Pz{x:zC}(h:KD x)(d:Int):4<=qJ x/\ze x d=(ze x 0).take (qJ x-4)++yX 4 d:=by
 unfold KD at h;unfold qJ;rcases h with h|h|h|h <;> (unfold ze;simp[h,yX,List.range,List.range.loop])
theorem DU{code:List zC}(u:∀(j:Nat) y,code[j]? = some y->y.op=20->wE code y.l 0=(j:Int)){l:Int}(h:¬wE code l 0<0)(n:Nat)(m:List (Int×aaa)) :
  KE (bV code n m) l=some (.int .i64 ((n+vi (code.take (wE code l 0).toNat):Nat):Int)):=by
 rcases bI code l 0 with⟨a,b⟩|⟨j,a,⟨y,hy,hyl⟩,b⟩
 ·omega
 ·have hl:y.op=20/\y.l=l:=by simpa [Zm] using hyl
  have e:(wE code l 0).toNat=j:=by rw[a];simp
  rw[e];have hj:j<code.length:=(aaZ.1 hy).1
  have hd:code=code.take j++y::code.drop (j+1):=by
   have:=abH hj;rw[aag hj]at hy;rw[abl hy]at this;rw[<- this,abn]
  conv=>lhs;rw[hd]
  refine TH hl.1 hl.2 _ _ n m λz hz hz20 hzl=>?_;obtain⟨i,hi⟩:=ab9 hz;rw[aaR]at hi;have:=u _ z hi hz20;rw[hzl,a]at this;omega
theorem zby{p:Pg}(h:Zl p=true){f:Go.As.Fn}(fm:f∈p.funcs):(∀(j:Nat) y,f.code[j]? = some y->y.op=20->wE f.code y.l 0=(j:Int)) /\ ∀x,x∈f.code->x.op=18\/x.op=19->¬wE f.code x.l 0<0:=by
 rw[<- Yr]at h;unfold YV at h;simp only[aad,aaB]at h;have h:=h.2.2 f fm;unfold Go.Ar.dO at h;simp only[aad]at h;have h1:=h.1;unfold Go.Ar.bE at h1;rw[aaB]at h1
 have at_:∀(n:Nat) x,f.code[n]? = some x->Go.Ar.vy p f.code n x=true:=λn x hx=>by
  have hn:=(aaZ.1 hx).1;have:=h1 n (by simpa using hn);unfold Go.Ar.PU at this;rw[hx]at this;exact this
 refine⟨λj y hy hl=>?_,λx hx o=>?_⟩
 ·have e:=at_ j y hy;unfold Go.Ar.vy Go.Ar.ZJ at e;simp only[aad,aaq]at e;have e2:=e.2.1.1;rw[aa0 hl]at e2;simpa using e2
 ·obtain⟨n,hn⟩:=ab9 hx;have d:=at_ n x hn;unfold Go.Ar.vy Go.Ar.ZJ at d;simp only[aad,aaq]at d;obtain⟨_,d4⟩:=d.2.1;rw[aa0 o]at d4;simpa using d4
theorem zdY{c:Prop}[Decidable c]{a b:List Int}{n:Nat}(h1:a.length<=n)(h2:b.length<=n):(if c then a else b).length<=n:=by
 split
 ·exact h1
 ·exact h2
theorem IJ(a m:Int):(WY a m).length<=2:=by
 unfold WY;split
 ·exact aaj _
 ·exact abz _
theorem size_le(x:zC):qJ x<=10:=by
 unfold qJ ze
 repeat' with_reducible apply zdY
 all_goals have:=IJ x.r x.m
 all_goals simp only[uB,xb,aa3,aao,abk]at *
 all_goals omega
theorem I0:∀xs:List zC,vi xs<=10*xs.length
 |[]=>aaj _
 |x::xs=>by
  have:=size_le x;have:=I0 xs;show qJ x+vi xs<=10*(xs.length+1);omega
theorem MN(xs:List zC)(x:zC):vi (xs++[x])=vi xs+qJ x:=by
 rw[dH];rfl
theorem BT(f:Go.As.Fn):∀fs:List Go.As.Fn,wx (fs++[f])=wx fs+vi f.code
 |[]=>by show vi f.code+0=0+vi f.code;omega
 |g::fs=>by
  show vi g.code+wx (fs++[f])=vi g.code+wx fs+vi f.code;rw[BT f fs];omega
theorem pA(f:Go.As.Fn):∀(fs:List Go.As.Fn) (n:Nat),qG (fs++[f]) n=qG fs n++[n+wx fs]
 |[],n=>rfl
 |g::fs,n=>by
  show n::qG (fs++[f]) _=n::(qG fs _++[n+(vi g.code+wx fs)]);rw[pA f fs,abI]
theorem DT(x:zC):∀(xs:List zC) (n:Nat) (m:List (Int×aaa)),bV (xs++[x]) n m=if x.op=20 then Qb (bV xs n m) x.l (.int .i64 ((n+vi xs:Nat):Int)) else bV xs n m
 |[],n,m=>rfl
 |y::ys,n,m=>by
  show bV (ys++[x]) _ _=_;rw[DT x ys,abI];rfl
def Vx:List Int->Int->Int
 |[],a=>a
 |g::gs,a=>Vx gs (a+(g+31)/16*16)
theorem UT(g:Int):∀(gs:List Int) (a:Int),vh (gs++[g]) a=vh gs a++[Vx gs a]/\Vx (gs++[g]) a=Vx gs a+(g+31)/16*16
 |[],a=>⟨rfl,rfl⟩
 |k::gs,a=>by
  have:=UT g gs (a+(k+31)/16*16);exact⟨by show a::vh (gs++[g]) _=a::(vh gs _++[Vx gs _]);rw[this.1],this.2⟩
theorem bP:∀(gs:List Int) (a:Int),(∀g,g∈gs->0<=g/\g<=65536)->a<=Vx gs a/\Vx gs a<=a+65552*gs.length
 |[],a,h=>by show a<=a/\a<=a+65552*((0:Nat):Int);omega
 |g::gs,a,h=>by
  have hg:=h g aak;have:=bP gs (a+(g+31)/16*16) λx hx=>h x (aaC _ hx);show a<=Vx gs _/\Vx gs _<=a+65552*((gs.length+1:Nat):Int);omega
theorem AY:∀(gs:List Int) (a:Int) (i:Nat),i<gs.length->(vh gs a)[i]? = some (Vx (gs.take i) a)
 |[],a,i,h=>by cases h
 |g::gs,a,0,h=>rfl
 |g::gs,a,i+1,h=>by
  show(vh gs _)[i]? = some (Vx (gs.take i) _);exact AY gs _ i (by simpa using h)
theorem AB(gl:List Int)(st:List Nat)(code:List zC)(o:Nat)(x:zC):∀(xs:List zC) (n:Nat),Wk gl st code o (xs++[x]) n=Wk gl st code o xs n++ze x (L4 gl st code o (n+vi xs) x)
 |[],n=>by show ze x _++[]=[]++ze x _;rw[aa7];rfl
 |y::ys,n=>by
  show ze y _++Wk gl st code o (ys++[x]) _=ze y _++Wk gl st code o ys _++ze x (L4 gl st code o (n+(qJ y+vi ys)) x);rw[AB gl st code o x ys,abI,aa1]
theorem AD(gl:List Int)(st:List Nat)(f:Go.As.Fn):∀(fs:List Go.As.Fn) (n:Nat),eK gl st (fs++[f]) n=eK gl st fs n++Wk gl st f.code (n+wx fs) f.code (n+wx fs)
 |[],n=>by show Wk gl st f.code n f.code n++[]=[]++_;rw[aa7];rfl
 |g::fs,n=>by
  show Wk gl st g.code n g.code n++eK gl st (fs++[f]) _=Wk gl st g.code n g.code n++eK gl st fs _++Wk gl st f.code (n+(vi g.code+wx fs)) f.code (n+(vi g.code+wx fs));rw[AD gl st f fs,abI,aa1]
end Go.En
