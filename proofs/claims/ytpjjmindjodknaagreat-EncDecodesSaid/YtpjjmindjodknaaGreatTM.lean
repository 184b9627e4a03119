import Derived.Test.YtpjjmindjodknaaGreatTL
set_option linter.unusedVariables false
set_option linter.unusedSimpArgs false
set_option maxRecDepth 100000
namespace Go.Ed
open Go.Ai Go.Proofs
open Go.Rtl (zE zA Old inc yD xk)
open Go.Rm (zN xG Rd Rd.of Rd.at Rd.mono)
open Go.As (zF Pg)
open Go.Eb (yM yO zV eT vv)
open Go.En
theorem DO{h:za}{sv:aaa}{zs:List Int}(S:yM h sv zs){i:Nat}{z:Int}(hz:zs[i]? = some z):∃b o c t,xR Tryz.prog 29 sv (.int .i64 i)=some (.pointer (some ⟨b,o,none⟩))/\b<h.next/\h.get b=some (.cells c t)/\c[o]? = some (.int .u8 z):=by
 obtain⟨b,o,c,t,⟨off,cp,e1,e2⟩,hi,hb,hg,_,_,hk⟩:=zA.spot S (i:=i) (r:=yO z) (by rw[aaA,hz];rfl) rfl;refine⟨b,o,c,t,?_,hb,hg,by have:=hk 0 (by decide);exact this⟩;rw[e1,jS,aai (by omega),e2,abl]
abbrev ZX(bv:aaa)(s:RS):vl := .cells [bv,.int .i64 s.1,.bool s.2] 77
abbrev rp(b:Nat):aaa := .pointer (some ⟨b,0,none⟩)
structure Kw (lo:y4) (bv:aaa) (bs:List Int):Prop where
 rd:Rd lo (yM · bv bs)
 nb:zQ bv=false
 XT:bs.length<=1000000000
 byte:yH bs
theorem Kw.mono{lo lo':y4}{bv:aaa}{bs:List Int}(B:Kw lo bv bs)(l:lo.Le lo'):Kw lo' bv bs:=⟨B.rd.mono l,B.nb,B.XT,B.byte⟩
section
variable {lo:y4}{h:za}{L:List HP}{bv:aaa}{bs:List Int}{rb:Nat}{st:RS}
theorem Vj(B:Kw lo bv bs)(s:Sat lo h (pt rb (ZX bv st)::L)):DC Tryz.prog 64 [rp rb] h (λv h'=>v=.int .u8 (zw bs st).1/\Sat lo h' (pt rb (ZX bv (zw bs st).2)::L)):=by
 apply I9;unfold MZ;have g:=s.get;have S:=B.rd.at s;have ln:=λr h'=>zV S r h';have bn:=B.nb;have XT:=B.XT;obtain⟨k,bad⟩:=st;by_cases hc:bs.length<=k
 ·have hc':(k:Int) ≥ (bs.length:Int):=by omega
  have e:zw bs (k,bad)=(0,(k,true)):=by unfold zw;rw[aat hc]
  rw[e];simp only[EE,zv,YQ,zk,jH,Bz,eJ,yN,C6,g,ln,hc',bn];refine yj s (by simp) rfl λh1 s1=>?_;simp only[EE];exact s1
 ·have hc':¬(k:Int) ≥ (bs.length:Int):=by omega
  obtain⟨z,hz⟩:∃z,bs[k]? = some z:=⟨_,aaf (by omega)⟩;have e:zw bs (k,bad)=(z,(k+1,bad)):=by unfold zw;rw[hz]
  rw[e];have hin:=inc (show k<4611686018427387904 by omega);simp only[EE,zv,YQ,zk,V9,Bz,eJ,C7,g,ln,hc',bn,hin];refine yj s (by simp) rfl λh1 s1=>?_;have g1:=s1.get;have S1:=B.rd.at s1;obtain⟨b,o,c,t,a1,_,a2,a3⟩:=DO S1 hz;have hin2:IntKind.wrap .i64 (((k+1:Nat):Int)-1)=(k:Int):=by simp only[IntKind.wrap,IntKind.bits,IntKind.signed];simp;omega
  simp only[EE,zu,zv,YQ,zk,Xd,Bz,eJ,g1,hin2,a1,a2,a3];exact s1
theorem eW(bs:List Int)(B:yH bs):∀(n:Nat) (st:RS),(qK bs n st).1.length=n/\yH (qK bs n st).1
 |0,st=>⟨rfl,λx hx=>by cases hx⟩
 |n+1,st=>by
  obtain⟨h1,h2⟩:=eW bs B n st;refine⟨by show((qK bs n st).1++[_]).length=_;rw[aar,h1];rfl,?_⟩;intro x hx;rcases aaG.1 hx with hx|hx
  ·exact h2 x hx
  ·rw[aaq.1 hx];unfold zw;split
   ·rename_i v hv;exact B v (aax hv)
   ·exact⟨Int.le_refl 0,by show(0:Int)<256;decide⟩
theorem EL(B:Kw lo bv bs)(s:Sat lo h (pt rb (ZX bv st)::L)){n:Nat}(hn:n=4\/n=8):DC Tryz.prog 65 [rp rb,.int .i64 n] h (λv h'=>v=.int .i64 (if n=4 then wa bs st else WH bs st).1/\Sat lo h' (pt rb (ZX bv (if n=4 then wa bs st else WH bs st).2)::L)):=by
 apply C9;unfold C8;simp only[↓zt];refine qb (λm vs h'=>∃i:Nat,i<=n/\m=n-i/\vs=[.int .u64 (X3 (qK bs i st).1),.int .i64 i]/\Sat lo h' (pt rb (ZX bv (qK bs i st).2)::L)) n ⟨0,aaN _,rfl,rfl,s⟩ ?_;rintro m vs h1 ⟨i,hi,rfl,rfl,s1⟩;unfold nO;by_cases hc:(i:Int)<(n:Int)
 ·have e8:IntKind.wrap .i64 (8*(i:Int))=8*(i:Int):=by
   have:(i:Int)<8:=by rcases hn with rfl|rfl <;> omega
   simp only[IntKind.wrap,IntKind.bits,IntKind.signed];simp;omega
  have n8:¬(8*(i:Int))<0:=by omega
  have n9:(8*(i:Int)) ≥ 0:=by omega
  obtain⟨l1,l2⟩:=eW bs B.byte i st;obtain⟨v0,v1⟩:=ig _ l2;rw[l1]at v1;have hin:=inc (show i<4611686018427387904 by omega);simp only[EE,nth,↓zt,hc];refine QJ (Vj B s1) ?_;rintro v h2 ⟨rfl,s2⟩;have zb:0<=(zw bs (qK bs i st).2).1/\(zw bs (qK bs i st).2).1<256:=(eW bs B.byte (i+1) st).2 _ (aa5 _ (aaq.2 rfl));have om:=Iw (i:=i) (by rcases hn with rfl|rfl <;> omega) v0 v1 zb.1 zb.2
  have es:X3 (qK bs i st).1+(zw bs (qK bs i st).2).1*2^(8*i)=X3 (qK bs (i+1) st).1:=by
   show _=X3 ((qK bs i st).1++[_]);rw[mo,l1]
  rw[es]at om;simp only[EE,nth,D4,nM,nN,e8,n9,hin,om];exact⟨n-(i+1),by omega,i+1,by omega,rfl,rfl,s2⟩
 ·have:i=n:=by omega
  subst this;rcases hn with rfl|rfl
  ·simp only[EE,nth,cq,hc];refine⟨rfl,?_⟩;rw[aai rfl];exact⟨rfl,s1⟩
  ·simp only[EE,nth,cq,hc];refine⟨rfl,?_⟩;rw[aag (by decide)];exact⟨rfl,s1⟩
theorem hH(B:Kw lo bv bs)(s:Sat lo h (pt rb (ZX bv st)::L)):DC Tryz.prog 65 [rp rb,.int .i64 4] h (λv h'=>v=.int .i64 (wa bs st).1/\Sat lo h' (pt rb (ZX bv (wa bs st).2)::L)):=EL B s (n:=4) (.inl rfl)
theorem zap(B:Kw lo bv bs)(s:Sat lo h (pt rb (ZX bv st)::L)):DC Tryz.prog 65 [rp rb,.int .i64 8] h (λv h'=>v=.int .i64 (WH bs st).1/\Sat lo h' (pt rb (ZX bv (WH bs st).2)::L)):=EL B s (n:=8) (.inr rfl)
end
open Go.Rtl (vq gT)
open Go.Eb (tO i6)
def E9:List Int:=[11,12,16,17,18]
theorem Hx(op:Int)(h:za):wX Tryz.prog 96 [.int .u8 op] h (.int .i64 (qe op)):=by
 apply vq;apply Fo;unfold Ha;generalize h.lock=H;simp only[EE,↓zt,VR,BN];refine qb (λm vs h'=>∃j:Nat,j<=5/\m=5-j/\vs=[.int .i64 0,.int .i64 j]/\h'=H.push (.cells [.int .i64 11,.int .i64 12,.int .i64 16,.int .i64 17,.int .i64 18] 3) /\ ∀x,x∈E9.take j->¬kj x=op) 5 ⟨0,aaN _,rfl,rfl,rfl,λx hx=>by cases hx⟩ ?_;rintro m vs h1 ⟨j,hj,rfl,rfl,rfl,hno⟩;unfold sG;have nx:(H.push (.cells [.int .i64 11,.int .i64 12,.int .i64 16,.int .i64 17,.int .i64 18] 3)).get H.next=some (.cells [.int .i64 11,.int .i64 12,.int .i64 16,.int .i64 17,.int .i64 18] 3):=uz;generalize H.push (.cells [.int .i64 11,.int .i64 12,.int .i64 16,.int .i64 17,.int .i64 18] 3)=G at nx ⊢;generalize H.next=a at nx ⊢
 have step:∀(x:Int) (j:Nat),j<5->E9[j]? = some x->(∀x,x∈E9.take j->¬kj x=op)->¬kj x=op->∀y,y∈E9.take (j+1)->¬kj y=op:=λx j hj hx hno hne y hy=>by
  rw[abb,hx]at hy;rcases aaG.1 hy with hy|hy
  ·exact hno y hy
  ·rw[aaq.1 hy];exact hne
 have cs:([.int .i64 11,.int .i64 12,.int .i64 16,.int .i64 17,.int .i64 18]:List aaa)=E9.map λx=>Value.int .i64 x:=rfl;rw[cs]at nx;by_cases hc:(j:Int)<((5:Nat):Int)
 ·obtain⟨x,hx⟩:∃x,E9[j]? = some x:=⟨_,aaf (show j<5 by omega)⟩;have hc2:(E9.map λx=>Value.int .i64 x)[j]? = some (.int .i64 x):=by rw[aaA,hx];rfl
  have hix:xR Tryz.prog 22 (.slice (some ⟨a,0,none⟩) 5 7) (.int .i64 j)=some (.pointer (some ⟨a,j,none⟩)):=by
   rw[Ep,aai (by omega)];simp
  have hin:=inc (show j<4611686018427387904 by omega);simp only[EE,nth,↓zt,zv,zk,sE,nx,hc,hix,hc2];refine YL (tO x _) ?_;by_cases he:kj x=op
  ·have:qe op=x:=by
    rw[<- he];have:=aax hx;simp only[E9,aaP,abG,acA]at this;rcases this with rfl|rfl|rfl|rfl|rfl <;> decide
   simp only[EE,fJ,he];rw[this];rfl
  ·simp only[EE,nth,fJ,sF,he,hin];exact⟨5-(j+1),by omega,j+1,by omega,rfl,rfl,step x j (by omega) hx hno he⟩
 ·have:j=5:=by omega
  subst this;simp only[EE,nth,hc];have h1:=hno 11 (by decide);have h2:=hno 12 (by decide);have h3:=hno 16 (by decide);have h4:=hno 17 (by decide);have h5:=hno 18 (by decide)
  have:qe op=0:=by
   unfold qe;rw[aag (λe=>h1 (by rw[e];decide)),aag (λe=>h2 (by rw[e];decide)),aag (λe=>h3 (by rw[e];decide)),aag (λe=>h4 (by rw[e];decide)),aag (λe=>h5 (by rw[e];decide))]
  rw[this];rfl
def Pq:List Int:=[21,22,23,26,24,25]
theorem zo{c x:Int}(hx:x∈Pq)(he:vA x=c):K7 c=some x:=by
 rw[<- he];simp only[Pq,aaP,abG,acA]at hx;rcases hx with rfl|rfl|rfl|rfl|rfl|rfl <;> decide
theorem Lz{c:Int}(hno:∀x,x∈Pq->¬vA x=c):K7 c=none:=by
 unfold K7;have h1:=hno 21 (by decide);have h2:=hno 22 (by decide);have h3:=hno 23 (by decide);have h4:=hno 26 (by decide);have h5:=hno 24 (by decide);have h6:=hno 25 (by decide);rw[aag (λe=>h1 (by rw[e];decide)),aag (λe=>h2 (by rw[e];decide)),aag (λe=>h3 (by rw[e];decide)),aag (λe=>h4 (by rw[e];decide)),aag (λe=>h5 (by rw[e];decide)),aag (λe=>h6 (by rw[e];decide))]
section
variable {lo:y4}{h:za}{L:List HP}{bv:aaa}{bs:List Int}{rb:Nat}{st:RS}
theorem D3(c:Int)(s:Sat lo h (pt rb (ZX bv st)::L))(bn:zQ bv=false):DC Tryz.prog 66 [rp rb,.int .u8 c] h (λv h'=>v=.int .i64 (jR c st).1/\Sat lo h' (pt rb (ZX bv (jR c st).2)::L)):=by
 apply fK;unfold aN;simp only[EE,↓zt,aC,BN];have cs:([.int .i64 21,.int .i64 22,.int .i64 23,.int .i64 26,.int .i64 24,.int .i64 25]:List aaa)=Pq.map λx=>Value.int .i64 x:=rfl;rw[cs];have s1:=s.push (.cells (Pq.map λx=>Value.int .i64 x) 3);generalize h.push (.cells (Pq.map λx=>Value.int .i64 x) 3)=G at s1 ⊢;generalize h.next=a at s1 ⊢;refine qb (λm vs h'=>∃j:Nat,j<=6/\m=6-j/\vs=[.int .i64 0,.int .i64 j]/\h'=G /\ ∀x,x∈Pq.take j->¬vA x=c) 6 ⟨0,aaN _,rfl,rfl,rfl,λx hx=>by cases hx⟩ ?_;rintro m vs h1 ⟨j,hj,rfl,rfl,rfl,hno⟩;unfold Kf;have nx:=s1.get;by_cases hc:(j:Int)<((6:Nat):Int)
 ·obtain⟨x,hx⟩:∃x,Pq[j]? = some x:=⟨_,aaf (show j<6 by omega)⟩;have hm:=aax hx;have hc2:(Pq.map λx=>Value.int .i64 x)[j]? = some (.int .i64 x):=by rw[aaA,hx];rfl
  have hix:xR Tryz.prog 22 (.slice (some ⟨a,0,none⟩) 6 8) (.int .i64 j)=some (.pointer (some ⟨a,j,none⟩)):=by
   rw[Ep,aai (by omega)];simp
  have hin:=inc (show j<4611686018427387904 by omega)
  have hb:21<=x/\x<=26:=by
   simp only[Pq,aaP,abG,acA]at hm;omega
  simp only[EE,nth,↓zt,zv,zk,Kd,nx,hc,hix,hc2];refine YL (i6 hb.1 hb.2 _) ?_;by_cases he:vA x=c
  ·have e:jR c st=(x,st):=by unfold jR;rw[zo hm he]
   rw[e];simp only[EE,X9,he];exact s1.drop
  ·simp only[EE,nth,X9,Ke,he,hin];refine⟨6-(j+1),by omega,j+1,by omega,rfl,rfl,λy hy=>?_⟩;rw[abb,hx]at hy;rcases aaG.1 hy with hy|hy
   ·exact hno y hy
   ·rw[aaq.1 hy];exact he
 ·have:j=6:=by omega
  subst this;have e:jR c st=(0,zU true st):=by unfold jR;rw[Lz hno]
  rw[e];have s2:=s1.f [1,0];have g:=s2.get;simp only[EE,nth,jH,yN,Kg,hc];refine yj s2 (by simp) rfl λh1 s1=>?_;simp only[EE]
  have:ZX bv (zU true st)=.cells [bv,.int .i64 st.1,.bool true] 77:=by
   unfold zU;rw[Bool.or_true]
  rw[this];exact(s1.p 1).drop
end
abbrev Xo(o:lC):List aaa:=[.int .i64 o.reg,.int .i64 o.rm,.bool o.memory,.bool o.place,.int .i64 o.k]
def Jn(o:lC):aaa := .agg #[.int .i64 o.reg,.int .i64 o.rm,.bool o.memory,.bool o.place,.int .i64 o.k]
section
variable {lo:y4}{h:za}{L:List HP}{bv:aaa}{bs:List Int}{rb:Nat}{st:RS}
theorem Xm(B:yH bs)(st:RS):0<=(zw bs st).1/\(zw bs st).1<256:=(eW bs B 1 st).2 _ (aa5 _ (aaq.2 rfl))
theorem zai(z:Fin 256):IntKind.wrap .u8 ↑(BitVec.ofInt (IntKind.bits .u8) ((z.val:Nat):Int) &&& BitVec.ofInt (IntKind.bits .u8) 7).toNat=((z.val:Nat):Int)%8:=by
 revert z;decide +kernel
theorem zan(z:Fin 256):IntKind.wrap .u8 ↑(BitVec.ofInt (IntKind.bits .u8) (((z.val:Nat):Int).fdiv (2^min 3 (IntKind.bits .u8))) &&& BitVec.ofInt (IntKind.bits .u8) 7).toNat=((z.val:Nat):Int)/8%8:=by
 revert z;decide +kernel
theorem zcl(z:Fin 256):((z.val:Nat):Int).fdiv (2^min 6 (IntKind.bits .u8))=((z.val:Nat):Int)/64:=by
 revert z;decide +kernel
theorem TB(z:Fin 256):IntKind.wrap .u8 ↑(BitVec.ofInt (IntKind.bits .u8) ((z.val:Nat):Int) &&& BitVec.ofInt (IntKind.bits .u8) 4).toNat=if ((z.val:Nat):Int)/4%2=1 then 4 else 0:=by
 revert z;decide +kernel
theorem TA(z:Fin 256):IntKind.wrap .u8 ↑(BitVec.ofInt (IntKind.bits .u8) ((z.val:Nat):Int) &&& BitVec.ofInt (IntKind.bits .u8) 1).toNat=((z.val:Nat):Int)%2:=by
 revert z;decide +kernel
theorem W8{z:Int}(h0:0<=z)(h1:z<256):∃f:Fin 256,z=((f.val:Nat):Int):=⟨⟨z.toNat,by omega⟩,by show z=((z.toNat:Nat):Int);omega⟩
section
variable {z:Int}(h0:0<=z)(h1:z<256)
include h0 h1
theorem pM:IntKind.wrap .u8 ↑(BitVec.ofInt (IntKind.bits .u8) z &&& BitVec.ofInt (IntKind.bits .u8) 7).toNat=z%8:=by
 obtain⟨f,rfl⟩:=W8 h0 h1;exact zai f
theorem Gq:IntKind.wrap .u8 ↑(BitVec.ofInt (IntKind.bits .u8) (z.fdiv (2^min 3 (IntKind.bits .u8))) &&& BitVec.ofInt (IntKind.bits .u8) 7).toNat=z/8%8:=by
 obtain⟨f,rfl⟩:=W8 h0 h1;exact zan f
theorem zck:z.fdiv (2^min 6 (IntKind.bits .u8))=z/64:=by
 obtain⟨f,rfl⟩:=W8 h0 h1;exact zcl f
theorem NG:IntKind.wrap .u8 ↑(BitVec.ofInt (IntKind.bits .u8) z &&& BitVec.ofInt (IntKind.bits .u8) 4).toNat=if z/4%2=1 then 4 else 0:=by
 obtain⟨f,rfl⟩:=W8 h0 h1;exact TB f
theorem gG:IntKind.wrap .u8 ↑(BitVec.ofInt (IntKind.bits .u8) z &&& BitVec.ofInt (IntKind.bits .u8) 1).toNat=z%2:=by
 obtain⟨f,rfl⟩:=W8 h0 h1;exact TA f
end
theorem yA{z:Int}(h0:0<=z)(h1:z<1000000):IntKind.wrap .i64 z=z:=by
 simp only[IntKind.wrap,IntKind.bits,IntKind.signed];simp;omega
def UR(b:List Int)(ahead z reg rm:Int)(t:RS):lC×RS :=
 if z/64=3 then (⟨reg,rm,false,false,0⟩,t)
 else if z/64=2 then (⟨reg,rm,true,false,(wa b (ia b rm t)).1⟩,(wa b (ia b rm t)).2)
 else if z/64=0 then (⟨reg,rm,false,true,(wa b (zU (decide (¬z%8=5)||decide (ahead%2=1)) t)).1⟩,(wa b (zU (decide (¬z%8=5)||decide (ahead%2=1)) t)).2)
 else (⟨reg,rm,false,false,0⟩,zU true t)
theorem GB(b:List Int)(ahead:Int)(s:RS):ur b ahead s=UR b ahead (zw b s).1 (ql (zw b s).1 ahead) (jW (zw b s).1 ahead) (zw b s).2:=rfl
section
variable {b4 b6:Nat}{z ahead reg rm:Int}{c4:List aaa}{O:lC}{T:RS}{J:List aaa}
abbrev ON(lo:y4)(rb:Nat)(bv:aaa)(L:List HP)(O:lC)(T:RS)(v:aaa)(h':za):Prop:=v=Jn O/\Sat lo h' (pt rb (ZX bv T)::L)
theorem Q2(bv:aaa)(t:RS):ZX bv (zU true t)=.cells [bv,.int .i64 t.1,.bool true] 77:=by
 show vl.cells [bv,.int .i64 t.1,.bool (t.2||true)] _=_;rw[Bool.or_true]
theorem op3(B:Kw lo bv bs){mm pl:Bool}{K:List aaa->za->Prop}{vs:List aaa}
  (s:Sat lo h (pt b6 (.cells (Xo ⟨reg,rm,mm,pl,0⟩) 132)::pt rb (ZX bv st)::L))
  (k:∀h',Sat lo h' (pt b6 (.cells (Xo ⟨reg,rm,mm,pl,(wa bs st).1⟩) 132)::pt rb (ZX bv (wa bs st).2)::L)->K [] h'):Zv (rp rb) (rp b6) K vs h:=by
 unfold Zv;refine QJ (hH B (s.f [1,0])) ?_;rintro v h2 ⟨rfl,s2⟩;simp only[EE,FJ,UM];refine yj (s2.p 1) (by simp) rfl λh3 s3=>?_;exact k h3 s3
theorem zb9(B:Kw lo bv bs)(hz0:0<=z)(hz1:z<256)(ha0:0<=ahead)(ha1:ahead<256)(r0:0<=rm)(r1:rm<16)(l4:c4.length=5)
  (s:Sat lo h (pt b6 (.cells (Xo ⟨reg,rm,false,false,0⟩) 132)::pt rb (ZX bv st)::pt b4 (.cells c4 132)::L)) :
  V6 (.int .u8 z) (rp b6) (rp rb) (.int .u8 ahead) (rp b4) (ON lo rb bv L (UR bs ahead z reg rm st).1 (UR bs ahead z reg rm st).2) J h:=by
 have bn:=B.nb;have f6:=zck hz0 hz1;have f7:=pM hz0 hz1;have f1:=gG ha0 ha1;unfold V6
 have fin:∀{h':za} {o:lC} {t:RS},UR bs ahead z reg rm st=(o,t)->Sat lo h' (pt b6 (.cells (Xo o) 132)::pt rb (ZX bv t)::pt b4 (.cells c4 132)::L)->(opt (zd Tryz.prog 132 (rp b6) h') λt79=>opt (nb [t79] (ux Tryz.prog 132 (rp b4) t79 h')) λh71=>opt (zd Tryz.prog 132 (rp b4) h71) λr0=>rv [r0] h71 (ON lo rb bv L (UR bs ahead z reg rm st).1 (UR bs ahead z reg rm st).2)):=λ{h' o t} e s=>by
  obtain⟨v0,v1,v2,v3,v4,rfl⟩:∃v0 v1 v2 v3 v4,c4=[v0,v1,v2,v3,v4]:=by
   match c4,l4 with
   |[v0,v1,v2,v3,v4],_=>exact⟨v0,v1,v2,v3,v4,rfl⟩
  have g:=s.get;rw[e];unfold Xo at g;simp only[EE,Nat.reduceAdd,kH,gy,oF,g];refine yj (s.f [2,1,0]) (by simp) rfl λh1 s1=>?_;have g1:=s1.get;simp only[EE,zu,Nat.reduceAdd,kH,gy,g1];exact⟨rfl,(s1.f [0,2,1]).drop.drop⟩
 have:z/64=0\/z/64=1\/z/64=2\/z/64=3:=by omega
 unfold Xo at s;rcases this with e|e|e|e
 ·simp only[EE,↓zt,seval,jH,Ve,aT,V5,Xr,ZG,f6,e];refine yj s (by simp) rfl λh1 s1=>?_
  have go:∀{h2:za} {t:RS},t=zU (decide (¬z%8=5)||decide (ahead%2=1)) st->Sat lo h2 (pt rb (ZX bv t)::pt b6 (.cells (Xo ⟨reg,rm,false,true,0⟩) 132)::pt b4 (.cells c4 132)::L)->Zv (rp rb) (rp b6) (λ_ h22=>opt (zd Tryz.prog 132 (rp b6) h22) λt79=>opt (nb [t79] (ux Tryz.prog 132 (rp b4) t79 h22)) λh71=>opt (zd Tryz.prog 132 (rp b4) h71) λr0=>rv [r0] h71 (ON lo rb bv L (UR bs ahead z reg rm st).1 (UR bs ahead z reg rm st).2)) [] h2:=λ{h2 t} et s2=>by
   refine op3 B (s2.p 1) λh3 s3=>fin ?_ s3;unfold UR;rw[e,et];rfl
  unfold Zv at go;have g1:=(s1.p 1).get;have wr:=(s1.p 1);obtain⟨k,bad⟩:=st;have pW:ahead%2=0\/ahead%2=1:=by omega
  cases bad with
  |true=>
   simp only[EE,zv,ZH,jH,yN,Ys,Yt,Yu,Yv,ZF,g1];refine yj wr (by simp) rfl λh2 s2=>?_;simp only[];exact go (t:=(k,true)) (by simp[zU]) s2
  |false=>
   by_cases h5:z%8=5
   ·rcases pW with o1|o1
    ·simp only[EE,zv,ZH,jH,yN,Ys,Yt,Yu,Yv,ZF,g1,f7,h5,f1,o1];refine yj wr (by simp) rfl λh2 s2=>?_;simp only[];exact go (t:=(k,false)) (by simp[zU,h5,o1]) s2
    ·simp only[EE,Int.reduceEq,zv,ZH,jH,yN,Ys,Yt,Yu,Yv,ZF,g1,f7,h5,f1,o1];refine yj wr (by simp) rfl λh2 s2=>?_;simp only[];exact go (t:=(k,true)) (by simp[zU,h5,o1]) s2
   ·simp only[EE,zv,ZH,jH,yN,Ys,Yt,Yu,Yv,ZF,g1,f7,h5];refine yj wr (by simp) rfl λh2 s2=>?_;simp only[];exact go (t:=(k,true)) (by simp[zU,h5]) s2
 ·have g:=(s.p 1).get;simp only[EE,↓zt,seval,jH,yN,V5,Xr,ZG,f6,e];refine yj (s.p 1) (by simp) rfl λh1 s1=>?_;simp only[];refine fin (o:=⟨reg,rm,false,false,0⟩) (t:=zU true st) ?_ (by rw[Q2];exact s1.p 1);unfold UR;rw[e];rfl
 ·simp only[EE,↓zt,seval,jH,Vd,aU,Xr,ZG,f6,e];refine yj s (by simp) rfl λh1 s1=>?_
  have go:∀{h2:za} {t:RS} {vs:List aaa},t=ia bs rm st->Sat lo h2 (pt b6 (.cells (Xo ⟨reg,rm,true,false,0⟩) 132)::pt rb (ZX bv t)::pt b4 (.cells c4 132)::L)->Zv (rp rb) (rp b6) (λ_ h22=>opt (zd Tryz.prog 132 (rp b6) h22) λt79=>opt (nb [t79] (ux Tryz.prog 132 (rp b4) t79 h22)) λh71=>opt (zd Tryz.prog 132 (rp b4) h71) λr0=>rv [r0] h71 (ON lo rb bv L (UR bs ahead z reg rm st).1 (UR bs ahead z reg rm st).2)) vs h2:=λ{h2 t vs} et s2=>by
   refine op3 B s2 λh3 s3=>fin ?_ s3;unfold UR;rw[e,et];rfl
  have g1:=s1.get;have f8:=Go.Eb.iW r0 r1;by_cases h4:rm%8=4
  ·simp only[EE,zu,zv,zk,wH,g1,f8,h4];refine QJ (Vj B (s1.f [1,0])) ?_;rintro v h2 ⟨rfl,s2⟩;have es:ia bs rm st=zU (decide (¬(zw bs st).1=36)) (zw bs st).2:=by unfold ia;rw[aai h4]
   by_cases h36:(zw bs st).1=36
   ·simp only[EE,Wx,Wy,h36];exact go (by rw[es];simp[zU,h36]) (s2.p 1)
   ·simp only[EE,jH,yN,Wx,Wy,h36];refine yj s2 (by simp) rfl λh3 s3=>?_;exact go (t:=zU true (zw bs st).2) (by rw[es];simp[zU,h36]) (by rw[Q2];exact s3.p 1)
  ·simp only[EE,zu,zv,zk,wH,Wx,Wy,g1,f8,h4];exact go (by unfold ia;rw[aag h4]) s1
 ·simp only[EE,↓zt,Int.reduceLE,Int.reduceToNat,ZG,f6,e];refine fin ?_ s;unfold UR;rw[e];rfl
theorem zca(B:Kw lo bv bs)(hz0:0<=z)(hz1:z<256)(ha0:0<=ahead)(ha1:ahead<256)(l4:c4.length=5)
  (s:Sat lo h (pt b6 (.cells (Xo ⟨reg,z%8,false,false,0⟩) 132)::pt rb (ZX bv st)::pt b4 (.cells c4 132)::L)) :
  V7 (.int .u8 ahead) (rp b6) (.int .u8 z) (rp rb) (rp b4) (ON lo rb bv L (UR bs ahead z reg (jW z ahead) st).1 (UR bs ahead z reg (jW z ahead) st).2) J h:=by
 have f1:=gG ha0 ha1;have pW:ahead%2=0\/ahead%2=1:=by omega
 unfold V7;rcases pW with o1|o1
 ·simp only[EE,f1,o1];have e:jW z ahead=z%8:=by unfold jW;rw[aag (by omega)];omega
  rw[e];exact zb9 B hz0 hz1 ha0 ha1 (by omega) (by omega) l4 s
 ·have g:=s.get;have e:jW z ahead=z%8+8:=by unfold jW;rw[aai o1]
  have w:=yA (z:=z%8+8) (by omega) (by omega);simp only[EE,Int.reduceEq,zv,zk,V9,wH,dU,f1,o1,g,w];refine yj s (by simp) rfl λh1 s1=>?_;rw[e];exact zb9 (reg:=reg) (rm:=z%8+8) B hz0 hz1 ha0 ha1 (by omega) (by omega) l4 s1
theorem cO(B:Kw lo bv bs)(ha0:0<=ahead)(ha1:ahead<256)(s:Sat lo h (pt rb (ZX bv st)::L)):DC Tryz.prog 84 [rp rb,.int .u8 ahead] h (λv h'=>v=Jn (ur bs ahead st).1/\Sat lo h' (pt rb (ZX bv (ur bs ahead st).2)::L)):=by
 apply rM;unfold nP;rw[GB];simp only[EE,Value.cells,oJ];refine qt s λb4 h2 s2=>?_;refine QJ (Vj B (s2.f [1,0])) ?_;rintro v h3 ⟨rfl,s3⟩;obtain⟨z0,z1⟩:=Xm B.byte st;generalize (zw bs st).1=z at z0 z1 ⊢;generalize (zw bs st).2=st at s3 ⊢;have f1:=Gq z0 z1;have f2:=pM z0 z1;have w1:=yA (z:=z/8%8) (by omega) (by omega);have w2:=yA (z:=z%8) (by omega) (by omega);unfold aV;simp only[EE,Value.cells,Int.reduceLE,Int.reduceToNat,oJ,FM,qf,f1,f2,w1,w2];refine qt s3 λb6 h5 s5=>?_;simp only[EE,Nat.reduceAdd,oF];refine yj s5 (by simp) rfl λh6 s6=>?_;have f4:=NG ha0 ha1;by_cases h4:ahead/4%2=1
 ·have g:=s6.get;rw[aai h4]at f4;have e:ql z ahead=z/8%8+8:=by unfold ql;rw[aai h4]
  have w:=yA (z:=z/8%8+8) (by omega) (by omega);simp only[EE,zu,Nat.reduceAdd,Int.reduceEq,zv,zk,V9,xU,dS,f4,g,w];refine yj s6 (by simp[xK]) rfl λh7 s7=>?_;rw[e];exact zca (reg:=z/8%8+8) B z0 z1 ha0 ha1 rfl s7
 ·rw[aag h4]at f4;have e:ql z ahead=z/8%8:=by unfold ql;rw[aag h4];omega
  simp only[EE,f4];rw[e];exact zca (reg:=z/8%8) B z0 z1 ha0 ha1 rfl s6
end
end
abbrev QO(lo:y4)(rb:Nat)(bv:aaa)(L:List HP)(x:zF×RS)(v:aaa)(h':za):Prop:=v=x.1.val/\Sat lo h' (pt rb (ZX bv x.2)::L)
section
variable {lo:y4}{h:za}{L:List HP}{bv:aaa}{bs:List Int}{rb:Nat}{st:RS}{o:lC}{op second ahead:Int}{b b2:Nat}{c2:List aaa}
theorem qM(x:zF){R:aaa->za->Prop}(l2:c2.length=7)(s:Sat lo h (pt b2 (.cells c2 42)::L))(k:∀h',Sat lo h' L->R x.val h'):opt (AK h b2 0 x.row) λh1=>opt (zd Tryz.prog 42 (rp b2) h1) λr0=>rv [r0] h1 R:=by
 obtain⟨v0,v1,v2,v3,v4,v5,v6,rfl⟩:∃v0 v1 v2 v3 v4 v5 v6,c2=[v0,v1,v2,v3,v4,v5,v6]:=by
  match c2,l2 with
  |[v0,v1,v2,v3,v4,v5,v6],_=>exact⟨v0,v1,v2,v3,v4,v5,v6,rfl⟩
 refine yj s (by simp) rfl λh1 s1=>?_;have g1:=s1.get;simp only[EE,zu,Nat.reduceAdd,kH,uC,g1];exact k _ s1.drop
theorem fy(x:zF){R:aaa->za->Prop}(l2:c2.length=7)(s:Sat lo h (pt b (.cells x.row 42)::pt b2 (.cells c2 42)::L))(k:∀h',Sat lo h' L->R x.val h'):opt (zd Tryz.prog 42 (rp b) h) λt=>opt (nb [t] (ux Tryz.prog 42 (rp b2) t h)) λh1=>opt (zd Tryz.prog 42 (rp b2) h1) λr0=>rv [r0] h1 R:=by
 have g:=s.get;have:=qM (R:=R) x l2 (s.f [1,0]) (λh' s'=>k h' s'.drop);obtain⟨p,r,m,sub,cc,l,kk⟩:=x
 have e:zd Tryz.prog 42 (rp b) h=some (zF.val ⟨p,r,m,sub,cc,l,kk⟩):=by
  simp only[EE,Nat.reduceAdd,kH,uC,g]
 rw[e];simp only[EE,Nat.reduceAdd,xh];exact this
theorem Nk(bn:zQ bv=false)(s:Sat lo h (pt rb (ZX bv st)::L)):DC Tryz.prog 85 [rp rb,.int .u8 op,.int .u8 second,Jn o] h (QO lo rb bv L (uu op second o st)):=by
 apply Cw;unfold Cv Jn;simp only[EE,Value.cells,kJ];refine qt s λb7 h2 s2=>?_;simp only[EE,zv,xY,zk,xU,wH,UM];refine qt s2 λb8 h3 s3=>?_;have g7:=(s3.p 1).get;simp only[EE,Value.cells,kJ,aZ,g7];refine qt s3 λb9 h4 s4=>?_;simp only[EE,Nat.reduceAdd,xh];refine yj s4 (by simp) rfl λh5 s5=>?_;have fin:∀{h':za} (x:zF) (t:RS),uu op second o st=(x,t)->Sat lo h' (pt b9 (.cells x.row 42)::pt b8 (.cells [.int .i64 0,.int .i64 0,.int .i64 0,.int .i64 0,.int .i64 0,.int .i64 0,.int .i64 0] 42)::pt b7 (.cells (Xo o) 132)::pt rb (ZX bv t)::L)->_:=λ{h'} x t e s=>fy (R:=QO lo rb bv L (uu op second o st)) x rfl s (λh' s'=>by rw[e];exact⟨rfl,s'.drop⟩);unfold uu at fin ⊢;have g9:=s5.get;by_cases c1:op=139
 ·rw[aai c1]at fin ⊢;subst c1;simp only[EE,↓zt,V9,zq,jX];refine yj s5 (by simp[xK]) rfl λh6 s6=>?_;exact fin ⟨3,o.reg,o.rm,8,0,0,o.k⟩ st rfl s6
 rw[aag c1]at fin ⊢;by_cases c2:op=99
 ·rw[aai c2]at fin ⊢;subst c2;simp only[EE,↓zt,Int.reduceEq,V9,zq,ZZ,jX];refine yj s5 (by simp[xK]) rfl λh6 s6=>?_;exact fin ⟨3,o.reg,o.rm,4,0,0,o.k⟩ st rfl s6
 rw[aag c2]at fin ⊢;by_cases c3:op=15/\second=190
 ·rw[aai c3]at fin ⊢;obtain⟨c3,c4⟩:=c3;subst c3;subst c4;simp only[EE,↓zt,Int.reduceEq,V9,zq,YZ,Y0,Y3,ZZ,jX];refine yj s5 (by simp[xK]) rfl λh6 s6=>?_;exact fin ⟨3,o.reg,o.rm,1,0,0,o.k⟩ st rfl s6
 rw[aag c3]at fin ⊢;by_cases c4:op=137
 ·rw[aai c4]at fin ⊢;subst c4;simp only[EE,↓zt,Int.reduceEq,V9,zc,nn,WW,YZ,Y0,Y3,ZZ,jX];refine yj s5 (by simp[xK]) rfl λh6 s6=>?_;simp only[EE,V9,zq];refine yj s6 (by simp[xK]) rfl λh7 s7=>?_;exact fin ⟨4,o.reg,o.rm,8,0,0,o.k⟩ st rfl s7
 rw[aag c4]at fin ⊢;by_cases c5:op=141
 ·rw[aai c5]at fin ⊢;subst c5;simp only[EE,↓zt,Int.reduceEq,V9,zc,U8,WW,YZ,Y0,Y3,ZZ,jX];refine yj s5 (by simp[xK]) rfl λh6 s6=>?_;exact fin ⟨5,o.reg,o.rm,0,0,0,o.k⟩ st rfl s6
 rw[aag c5]at fin ⊢;have sf:=s5.f [3,0,1,2];have step:∀{h'},Sat lo h' (pt rb (.cells (zu [bv,.int .i64 st.1,.bool st.2] 2 [.bool true]) 77)::pt b9 (.cells (zF.row ⟨3,o.reg,o.rm,0,0,0,o.k⟩) 42)::pt b8 (.cells [.int .i64 0,.int .i64 0,.int .i64 0,.int .i64 0,.int .i64 0,.int .i64 0,.int .i64 0] 42)::pt b7 (.cells (Xo o) 132)::L)->_:=λ{h'} s6=>fin (h':=h') ⟨3,o.reg,o.rm,0,0,0,o.k⟩ (zU true st) rfl (by rw[Q2];exact s6.f [1,2,3,0]);by_cases c6:op=15
 ·have c7:¬second=190:=λe=>c3 ⟨c6,e⟩;subst c6;simp only[EE,↓zt,Int.reduceEq,jH,yN,U8,WW,YZ,Y0,Y3,ZZ,jX,c7];refine yj sf (by simp) rfl λh6 s6=>?_;exact step s6
 ·simp only[EE,↓zt,jH,yN,U8,WW,YZ,Y0,Y3,ZZ,jX,c1,c2,c4,c5,c6];refine yj sf (by simp) rfl λh6 s6=>?_;exact step s6
theorem zbG(r:Fin 16):IntKind.wrap .u8 ↑(BitVec.ofInt (IntKind.bits .u8) (IntKind.wrap .u8 (IntKind.wrap .u8 ((r.val:Nat):Int)*2^min 3 (IntKind.bits .u8))) ||| BitVec.ofInt (IntKind.bits .u8) 1).toNat=((r.val:Nat):Int)*8+1:=by
 revert r;decide +kernel
theorem zbF{r:Int}(h0:0<=r)(h1:r<16):IntKind.wrap .u8 ↑(BitVec.ofInt (IntKind.bits .u8) (IntKind.wrap .u8 (IntKind.wrap .u8 r*2^min 3 (IntKind.bits .u8))) ||| BitVec.ofInt (IntKind.bits .u8) 1).toNat=r*8+1:=by
 obtain⟨f,rfl⟩:∃f:Fin 16,r=((f.val:Nat):Int):=⟨⟨r.toNat,by omega⟩,by show r=((r.toNat:Nat):Int);omega⟩;exact zbG f
theorem PV(B:Kw lo bv bs)(r0:0<=o.reg)(r1:o.reg<16)(s:Sat lo h (pt rb (ZX bv st)::L)):DC Tryz.prog 114 [rp rb,Jn o] h (QO lo rb bv L (Wc bs o st)):=by
 have bn:=B.nb;apply Fs;unfold He Jn;simp only[EE,Value.cells,kJ];refine qt s λb3 h2 s2=>?_;simp only[];refine qt s2 λb4 h3 s3=>?_;refine QJ (hH B (s3.f [2,0,1])) ?_;rintro v h4 ⟨rfl,s4⟩;unfold Wc;simp only[];generalize (wa bs st).1=k;generalize (wa bs st).2=st at s4 ⊢;have s5:=s4.f [1,2,0];have g3:=(s5.p 1).get;simp only[↓zt];by_cases c1:o.reg=7
 ·rw[aai c1];simp only[EE,Nat.reduceAdd,zv,zk,xh,yE,xU,wH,sO,WL,g3,c1];exact qM ⟨16,o.rm,0,0,0,0,k⟩ rfl s5 λh' s'=>⟨rfl,s'.drop⟩
 rw[aag c1];by_cases c2:o.rm=4/\o.reg=5
 ·rw[aai c2];obtain⟨c2,c3⟩:=c2;simp only[EE,Nat.reduceAdd,Int.reduceEq,zv,zk,xh,UG,xU,wH,sN,Us,Ut,WL,g3,c2,c3];exact qM ⟨23,0,0,0,0,0,k⟩ rfl s5 λh' s'=>⟨rfl,s'.drop⟩
 rw[aag c2];by_cases c3:o.rm=4/\o.reg=0
 ·rw[aai c3];obtain⟨c3,c4⟩:=c3;simp only[EE,Nat.reduceAdd,Int.reduceEq,zv,zk,xh,UG,xU,wH,sM,JM,JN,Us,Ut,WL,g3,c3,c4];exact qM ⟨24,0,0,0,0,0,k⟩ rfl s5 λh' s'=>⟨rfl,s'.drop⟩
 rw[aag c3];have f1:=zbF r0 r1
 have rest:∀vs,bX (rp b3) (rp rb) (.int .i64 k) (rp b4) (QO lo rb bv L (⟨8,o.rm,0,qe (o.reg*8+1),0,0,k⟩,zU (decide (qe (o.reg*8+1)=0)) st)) vs h4:=λvs=>by
  unfold bX;simp only[EE,Int.reduceLE,Int.reduceToNat,zv,zk,cD,xU,g3,f1];refine YL (Hx (o.reg*8+1) _) ?_;have gr:=s4.get;obtain⟨kk,bad⟩:=st;cases bad with
  |true=>
   simp only[EE,zv,ZH,jH,yN,fM,bV,bW,gr];refine yj s4 (by simp) rfl λh5 s5=>?_;have g3:=(s5.p 2).get;simp only[EE,Nat.reduceAdd,zv,zk,xh,Ua,wH,g3];exact qM ⟨8,o.rm,0,qe (o.reg*8+1),0,0,k⟩ rfl (s5.f [1,0,2]) λh' s'=>⟨rfl,(s'.f [1,0]).drop⟩
  |false=>
   simp only[EE,zv,ZH,jH,yN,fM,bV,bW,gr];refine yj s4 (by simp) rfl λh5 s5=>?_;have g3:=(s5.p 2).get;simp only[EE,Nat.reduceAdd,zv,zk,xh,Ua,wH,g3];exact qM ⟨8,o.rm,0,qe (o.reg*8+1),0,0,k⟩ rfl (s5.f [1,0,2]) λh' s'=>⟨rfl,(s'.f [1,0]).drop⟩
 by_cases c4:o.rm=4
 ·have c5:¬o.reg=5:=λe=>c2 ⟨c4,e⟩;have c6:¬o.reg=0:=λe=>c3 ⟨c4,e⟩;have d4:decide (o.rm=4)=true:=aaY c4;simp only[EE,zv,zk,xU,wH,JM,JN,Us,Ut,WL,g3,c1,d4,c5,c6];exact rest _
 ·simp only[EE,zv,zk,xU,wH,JM,JN,Us,Ut,WL,g3,c1,c4];exact rest _
end
theorem zaa{lo:y4}{h:za}{L:List HP}{b:Nat}{o:vl}(s:Sat lo h (pt b o::L)):∃lo1,lo.Le lo1/\Sat lo1 (h.YD [b]) L /\ ∀h2 L',Sat lo1 h2 L'->Sat lo (h2.cT h [b]) (pt b o::L'):=by
 have hg:=s.get;have hlt:=s.lt;have hbs:=s.base;obtain⟨a,ha,d,w,s⟩:=s;have hab:a b=some o:=by rw[ha b,aai rfl]
 have hlo:lo.get b=none:=d b o hab;have han:∀x,¬x=b->a x=none:=λx hx=>by rw[ha x,aag hx]
 have uget:∀x,¬x=b->(lo.un a).get x=lo.get x:=λx hx=>y4.kq (han x hx);have hbs2:=s.base;refine⟨⟨λx=>if x=b then some none else lo.get x,lo.ro⟩,⟨rfl,λx y e=>?_⟩,s.to (λx hx e=>?_) ⟨hbs.ro,hbs.IG,λx y e=>?_⟩ rfl (aaj _) (λx hx e=>?_),λh2 L' s2=>?_⟩
 ·show(if x=b then some none else lo.get x)=some y;rw[aag (λq=>by rw[q,hlo]at e;cases e)];exact e
 ·have hx:¬x=b:=λq=>by rw[q,y4.uM hab]at e;cases e
  show(if x=b then some none else lo.get x)=none;rw[aag hx,<- uget x hx];exact e
 ·have e:(if x=b then some none else lo.get x)=some y:=e;rw[uP];by_cases hx:x=b
  ·subst hx;rw[aai rfl]at e;cases e;rw[aai (aaq.2 rfl)];exact⟨rfl,hlt⟩
  ·rw[aag hx]at e;rw[aag (λq=>hx (aaq.1 q))];exact hbs.get x y e
 ·have hx:¬x=b:=λq=>by rw[q,y4.uM hab]at e;cases e
  rw[uP,aag (λq=>hx (aaq.1 q))]
 ·have b2:=s2.base;have l2:b<h2.next:=(b2.get b none (by show(if b=b then some none else lo.get b)=_;rw[aai rfl])).2;refine⟨a,ha,d,w,s2.to (λx hx e=>?_) ⟨?_,?_,λx y e=>?_⟩ rfl (aaj _) (λx hx e=>?_)⟩
  ·have e:(if x=b then some none else lo.get x)=none:=e;by_cases q:x=b
   ·rw[aai q]at e;cases e
   ·rw[aag q]at e;rw[uget x q];exact e
  ·exact b2.ro
  ·exact b2.IG
  ·show(h2.cT h [b]).get x=y/\x<h2.next;rw[Zj];by_cases q:x=b
   ·subst q;rw[aai (aaq.2 rfl),hg];rw[y4.uM hab]at e;exact⟨abn e,l2⟩
   ·rw[aag (λq2=>q (aaq.1 q2))];rw[uget x q]at e;exact b2.get x y (by show(if x=b then some none else lo.get x)=_;rw[aag q];exact e)
  ·have e:(if x=b then some none else lo.get x)=none:=e;have q:¬x=b:=λq=>by rw[aai q]at e;cases e
   rw[Zj,aag (λq2=>q (aaq.1 q2))]
section
variable {lo:y4}{h:za}{L:List HP}{bv:aaa}{bs:List Int}{rb:Nat}{st:RS}{o:lC}{op second ahead:Int}{b b2:Nat}{c2:List aaa}
theorem OG{n:Nat}{q:vl}{K:aaa->za->Prop}(B:Kw lo bv bs)(s:Sat lo h (pt b q::pt rb (ZX bv st)::L))(k:∀h',Sat lo h' (pt b q::pt rb (ZX bv (wa bs st).2)::L)->K (.int .i64 (wa bs st).1) h'):Wa Tryz.prog 65 [rp rb,.int .i64 4] 4 [(1,.pointer (some ⟨b,n,none⟩))] h K:=by
 obtain⟨lo1,l,s1,back⟩:=zaa s;refine Ly (hid:=[b]) (by kernel_rfl) rfl (by simp[BG,Nat.testBit]) (hH (B.mono l) s1) ?_;rintro v h2 ⟨rfl,s2⟩;exact k _ (back h2 _ s2)
theorem Pa(B:Kw lo bv bs)(r0:0<=o.reg)(r1:o.reg<16)(s:Sat lo h (pt rb (ZX bv st)::L)):DC Tryz.prog 97 [rp rb,.int .u8 op,Jn o] h (QO lo rb bv L (singleR bs op o st)):=by
 have bn:=B.nb;apply Dn;unfold Dm Jn;simp only[EE,Value.cells,↓zt,kJ];refine qt s λb5 h2 s2=>?_;refine qt s2 λb6 h4 s4=>?_;have g5:=(s4.p 1).get;have gr:=(s4.p 2).get
 have bad:KW (rp rb) (rp b6) (QO lo rb bv L (YN,zU true st)) [] h4:=by
  unfold KW;simp only[EE,jH,yN];refine yj (s4.p 2) (by simp) rfl λh5 s5=>?_;simp only[EE,Nat.reduceAdd,xh,W7];exact qM YN rfl (s5.f [1,0,2]) λh' s'=>⟨rfl,by rw[Q2];exact(s'.f [1,0]).drop⟩
 unfold singleR;obtain⟨k,bd⟩:=st;by_cases c1:op=199
 ·rw[aai c1];subst c1
  have go:∀{h5:za} {q:Bool},Sat lo h5 (pt rb (ZX bv (k,q))::pt b6 (.cells [.int .i64 0,.int .i64 0,.int .i64 0,.int .i64 0,.int .i64 0,.int .i64 0,.int .i64 0] 42)::pt b5 (.cells (Xo o) 132)::L)->(k,q)=zU (decide (¬o.reg=0)) (k,bd) ->
    Wa Tryz.prog 65 [rp rb,.int .i64 4] 4 [(1,.pointer (some ⟨b5,1,none⟩))] h5 (cu (.int .i64 o.rm) (rp b6) (QO lo rb bv L (⟨2,o.rm,0,0,0,0,(wa bs (zU (decide (¬o.reg=0)) (k,bd))).1⟩,(wa bs (zU (decide (¬o.reg=0)) (k,bd))).2))):=λ{h5 q} s5 e=>by
   rw[<- e];refine OG B (s5.f [2,0,1]) λh6 s6=>?_;unfold cu;simp only[EE,Nat.reduceAdd,xh,yE];exact qM ⟨2,o.rm,0,0,0,0,(wa bs (k,q)).1⟩ rfl (s6.f [2,1,0]) λh' s'=>⟨rfl,(s'.f [1,0]).drop⟩
  cases bd with
  |true=>
   simp only[EE,zv,ZH,jH,yN,cw,cx,KV,qc,gr];refine yj (s4.p 2) (by simp) rfl λh5 s5=>?_;have g5:=(s5.p 2).get;simp only[EE,zv,zk,wH,g5];exact go (q:=true) s5 rfl
  |false=>
   simp only[EE,zv,zk,ZH,jH,xU,yN,cw,cx,KV,qc,g5,gr];refine yj (s4.p 2) (by simp) rfl λh5 s5=>?_;have g5:=(s5.p 2).get;simp only[EE,zv,zk,wH,g5];exact go (q := !decide (o.reg=0)) s5 (by simp[zU])
 rw[aag c1];by_cases c2:op=129
 ·rw[aai c2];subst c2;simp only[EE,Nat.reduceAdd,Int.reduceEq,kH,gy,iR,ki,qc,g5];refine QJ (PV B r0 r1 (s4.f [2,0,1])) ?_;rintro v h5 ⟨rfl,s5⟩;simp only[EE,Nat.reduceAdd,xh];exact qM _ rfl (s5.f [1,0,2]) λh' s'=>⟨rfl,(s'.f [1,0]).drop⟩
 rw[aag c2];by_cases c3:op=247
 ·subst c3;by_cases c4:o.reg=2
  ·rw[aai ⟨rfl,c4⟩];simp only[EE,↓zt,Nat.reduceAdd,Int.reduceEq,zv,zk,xh,iY,xU,wH,oh,W1,jl,ki,qc,g5,c4];exact qM ⟨9,o.rm,0,2,0,0,0⟩ rfl s4 λh' s'=>⟨rfl,s'.drop⟩
  rw[aag (λe=>c4 e.2)];by_cases c5:o.reg=3
  ·rw[aai ⟨rfl,c5⟩];simp only[EE,↓zt,Nat.reduceAdd,Int.reduceEq,zv,zk,xh,iY,xU,wH,og,QA,W1,jl,ki,qc,g5,c5];exact qM ⟨9,o.rm,0,1,0,0,0⟩ rfl s4 λh' s'=>⟨rfl,s'.drop⟩
  rw[aag (λe=>c5 e.2)];by_cases c6:o.reg=7
  ·rw[aai ⟨rfl,c6⟩];simp only[EE,↓zt,Nat.reduceAdd,Int.reduceEq,zv,zk,xh,tS,xU,wH,oe,cy,QA,W1,jl,ki,qc,g5,c6];exact qM ⟨14,0,o.rm,0,0,0,0⟩ rfl s4 λh' s'=>⟨rfl,s'.drop⟩
  rw[aag (λe=>c6 e.2),aag (by decide),aag (by decide)];simp only[EE,↓zt,Int.reduceEq,zv,zk,xU,cy,QA,W1,jl,ki,qc,g5,c4,c5,c6];exact bad
 rw[aag (λe=>c3 e.1),aag (λe=>c3 e.1),aag (λe=>c3 e.1)]
 have shift:∀J:List aaa->za->Prop,op=193\/op=211->KU (rp b5) h4 (rp rb) (.int .u8 op) (rp b6) (QO lo rb bv L (if op=193 then (⟨11,o.rm,0,if o.reg=7 then 20 else 19,0,0,(zw bs (zU (decide (¬o.reg=4 /\ ¬o.reg=7)) (k,bd))).1⟩,(zw bs (zU (decide (¬o.reg=4 /\ ¬o.reg=7)) (k,bd))).2)
   else (⟨12,o.rm,0,if o.reg=7 then 20 else 19,0,0,0⟩,zU (decide (¬o.reg=4 /\ ¬o.reg=7)) (k,bd)))) J:=λJ yk=>by
  unfold KU;simp only[EE,Value.cells,zv,zk,kJ,iX,wH,g5];refine qt s4 λb7 h5 s5=>?_;simp only[EE,Nat.reduceAdd,xh];refine yj s5 (by simp) rfl λh6 s6=>?_
  have tail:∀{h7:za} (sb:Int),sb=(if o.reg=7 then 20 else 19)->Sat lo h7 (pt b7 (.cells (zF.row ⟨12,o.rm,0,sb,0,0,0⟩) 42)::pt b6 (.cells [.int .i64 0,.int .i64 0,.int .i64 0,.int .i64 0,.int .i64 0,.int .i64 0,.int .i64 0] 42)::pt b5 (.cells (Xo o) 132)::pt rb (ZX bv (k,bd))::L) ->
    KT (rp rb) (rp b5) (.int .u8 op) (rp b7) (rp b6) (QO lo rb bv L (if op=193 then (⟨11,o.rm,0,if o.reg=7 then 20 else 19,0,0,(zw bs (zU (decide (¬o.reg=4 /\ ¬o.reg=7)) (k,bd))).1⟩,(zw bs (zU (decide (¬o.reg=4 /\ ¬o.reg=7)) (k,bd))).2)
   else (⟨12,o.rm,0,if o.reg=7 then 20 else 19,0,0,0⟩,zU (decide (¬o.reg=4 /\ ¬o.reg=7)) (k,bd)))) [] h7:=λ{h7} sb esb s7=>by
   rw[<- esb];unfold KT;have g5:=(s7.p 2).get;have gr:=(s7.p 3).get
   have go:∀{h8:za} {q:Bool},Sat lo h8 (pt rb (ZX bv (k,q))::pt b7 (.cells (zF.row ⟨12,o.rm,0,sb,0,0,0⟩) 42)::pt b6 (.cells [.int .i64 0,.int .i64 0,.int .i64 0,.int .i64 0,.int .i64 0,.int .i64 0,.int .i64 0] 42)::pt b5 (.cells (Xo o) 132)::L)->(k,q)=zU (decide (¬o.reg=4 /\ ¬o.reg=7)) (k,bd) ->
     opt (nb [.int .u8 op,.int .u8 193] (zK Tryz.prog .eql 5 (.tmp 80) (.const (.int .u8 193)) (.int .u8 op) (.int .u8 193))) λt80=>CD t80 (λj82=>zP Tryz.prog (.func (.func 64) #[] #[]) [rp rb] h8 (KR (rp b7) j82)) (λj82=>j82 [] h8) (λvs83 h84=>opt (zd Tryz.prog 42 (rp b7) h84) λt86=>opt (nb [t86] (ux Tryz.prog 42 (rp b6) t86 h84)) λh92=>opt (zd Tryz.prog 42 (rp b6) h92) λr0=>rv [r0] h92 (QO lo rb bv L (if op=193 then (⟨11,o.rm,0,sb,0,0,(zw bs (zU (decide (¬o.reg=4 /\ ¬o.reg=7)) (k,bd))).1⟩,(zw bs (zU (decide (¬o.reg=4 /\ ¬o.reg=7)) (k,bd))).2)
   else (⟨12,o.rm,0,sb,0,0,0⟩,zU (decide (¬o.reg=4 /\ ¬o.reg=7)) (k,bd))))):=λ{h8 q} s8 eq=>by
    rw[<- eq];rcases yk with rfl|rfl
    ·rw[aai rfl];simp only[EE];refine QJ (Vj B s8) ?_;rintro v h9 ⟨rfl,s9⟩;have nb:=Xm B.byte (k,q);have w:=yA nb.1 (by omega);simp only[EE,V9,qO,zc,KR,w];refine yj (s9.p 1) (by simp) rfl λh10 s10=>?_;simp only[EE,FJ,zL];refine yj s10 (by simp[xK]) rfl λh11 s11=>?_;exact fy ⟨11,o.rm,0,sb,0,0,(zw bs (k,q)).1⟩ rfl (s11.f [0,2,1]) λh' s'=>⟨rfl,(s'.f [1]).drop⟩
    ·rw[aag (by decide)];simp only[EE,Int.reduceEq];exact fy ⟨12,o.rm,0,sb,0,0,0⟩ rfl (s8.f [1,2,0]) λh' s'=>⟨rfl,(s'.f [1]).drop⟩
   cases bd with
   |true=>
    simp only[EE,zv,ZH,jH,yN,VH,VI,VJ,VL,gr];refine yj (s7.p 3) (by simp) rfl λh8 s8=>?_;exact go (q:=true) s8 rfl
   |false=>
    by_cases d4:o.reg=4
    ·simp only[EE,zv,zk,ZH,jH,xU,yN,VH,VI,VJ,VL,g5,gr,d4];refine yj (s7.p 3) (by simp) rfl λh8 s8=>?_;exact go (q:=false) s8 (by simp[zU,d4])
    ·simp only[EE,zv,zk,ZH,jH,xU,yN,VH,VI,VJ,VL,g5,gr,d4];refine yj (s7.p 3) (by simp) rfl λh8 s8=>?_;exact go (q := !decide (o.reg=7)) s8 (by simp[zU,d4])
  have g5:=(s6.p 2).get;by_cases d7:o.reg=7
  ·have e7:decide (o.reg=7)=true:=aaY d7;simp only[EE,zv,zk,V9,xU,zq,g5,e7];refine yj s6 (by simp[xK]) rfl λh7 s7=>?_;exact tail 20 (by rw[aai d7]) s7
  ·have e7:decide (o.reg=7)=false:=aaX d7;simp only[EE,zv,zk,xU,g5,e7];exact tail 19 (by rw[aag d7]) s6
 by_cases c4:op=193
 ·rw[aai c4];have:=λJ=>shift J (.inl c4);rw[aai c4]at this;subst c4;simp only[EE,nth,Int.reduceEq,VM,jl,ki,qc];exact this _
 rw[aag c4];by_cases c5:op=211
 ·rw[aai c5];have:=λJ=>shift J (.inr c5);rw[aag c4]at this;subst c5;simp only[EE,nth,Int.reduceEq,VM,jl,ki,qc];exact this _
 rw[aag c5];simp only[EE,nth,VM,jl,ki,qc,c1,c2,c3,c4,c5];exact bad
end
section
variable {lo:y4}{h:za}{L:List HP}{bv:aaa}{bs:List Int}{rb:Nat}{st:RS}{o:lC}{op second ahead:Int}{b b2:Nat}{c2:List aaa}
theorem zaw(B:Kw lo bv bs)(r0:0<=o.reg)(r1:o.reg<16)(s:Sat lo h (pt rb (ZX bv st)::L)):DC Tryz.prog 86 [rp rb,.int .u8 op,.int .u8 second,Jn o] h (QO lo rb bv L (qL bs op second o st)):=by
 have bn:=B.nb;apply La;unfold M0 Jn;simp only[EE,Value.cells,kJ];refine qt s λb7 h2 s2=>?_;refine qt s2 λb8 h4 s4=>?_;refine YL (Hx op _) ?_;have g7:=(s4.p 1).get;have gr:=(s4.p 2).get;unfold qL;by_cases c0:qe op=0
 ·rw[aag (λe=>e c0)];have goK:∀{K},qB (rp b7) (rp b8) K (.int .u8 op) (rp rb) (.int .u8 second) (.int .i64 0) h4->qB (rp b7) (rp b8) K (.int .u8 op) (rp rb) (.int .u8 second) (.int .i64 (qe op)) h4:=λx=>by rw[c0];exact x
  apply goK;by_cases c1:op=137
  ·rw[aai c1];subst c1;simp only[EE,↓zt,Nat.reduceAdd,zv,zk,xh,K1,xU,wH,tA,jM,qB,g7];exact qM ⟨1,o.rm,o.reg,0,0,0,0⟩ rfl s4 λh' s'=>⟨rfl,s'.drop⟩
  rw[aag c1];by_cases c2:op=99
  ·rw[aai c2];subst c2;simp only[EE,↓zt,Nat.reduceAdd,Int.reduceEq,zv,zk,xh,Xs,xU,wH,tu,Zw,jM,qB,g7];exact qM ⟨10,o.reg,o.rm,4,0,0,0⟩ rfl s4 λh' s'=>⟨rfl,s'.drop⟩
  rw[aag c2];by_cases c3:op=57
  ·rw[aai c3];subst c3;simp only[EE,↓zt,Nat.reduceAdd,Int.reduceEq,zv,zk,xh,K1,xU,wH,tt,Yb,Zw,jM,qB,g7];exact qM ⟨15,o.rm,o.reg,0,0,0,0⟩ rfl s4 λh' s'=>⟨rfl,s'.drop⟩
  rw[aag c3];by_cases c4:op=105
  ·rw[aai c4];subst c4;obtain⟨k,bd⟩:=st
   have go:∀{h5:za} {q:Bool},Sat lo h5 (pt rb (ZX bv (k,q))::pt b8 (.cells [.int .i64 0,.int .i64 0,.int .i64 0,.int .i64 0,.int .i64 0,.int .i64 0,.int .i64 0] 42)::pt b7 (.cells (Xo o) 132)::L)->(k,q)=zU (decide (¬o.reg=o.rm)) (k,bd) ->
     Wa Tryz.prog 65 [rp rb,.int .i64 4] 4 [(1,.pointer (some ⟨b7,0,none⟩))] h5 (nQ (.int .i64 o.reg) (rp b8) (QO lo rb bv L (⟨8,o.reg,0,13,0,0,(wa bs (zU (decide (¬o.reg=o.rm)) (k,bd))).1⟩,(wa bs (zU (decide (¬o.reg=o.rm)) (k,bd))).2))):=λ{h5 q} s5 e=>by
    rw[<- e];refine OG B (s5.f [2,0,1]) λh6 s6=>?_;unfold nQ;simp only[EE,Nat.reduceAdd,xh,Ua];exact qM ⟨8,o.reg,0,13,0,0,(wa bs (k,q)).1⟩ rfl (s6.f [2,1,0]) λh' s'=>⟨rfl,(s'.f [1,0]).drop⟩
   cases bd with
   |true=>
    simp only[EE,↓zt,Int.reduceEq,zv,ZH,jH,yN,nR,nS,nT,fV,Y7,Yb,Zw,jM,qB,gr];refine yj (s4.p 2) (by simp) rfl λh5 s5=>?_;have g7:=(s5.p 2).get;simp only[EE,zv,zk,xU,g7];exact go (q:=true) s5 rfl
   |false=>
    simp only[EE,↓zt,Int.reduceEq,zv,zk,ZH,jH,xU,wH,yN,nR,nS,nT,fV,Y7,Yb,Zw,jM,qB,g7,gr];refine yj (s4.p 2) (by simp) rfl λh5 s5=>?_;have g7:=(s5.p 2).get;simp only[EE,zv,zk,xU,g7];exact go (q := !decide (o.reg=o.rm)) s5 (by simp[zU])
  rw[aag c4];by_cases c5:op=15
  ·rw[aai c5];subst c5;by_cases e1:second=175
   ·rw[aai e1];subst e1;simp only[EE,↓zt,Nat.reduceAdd,Int.reduceEq,zv,zk,xh,Xs,xU,wH,De,dV,Uv,Y7,Yb,Zw,jM,qB,g7];exact qM ⟨7,o.reg,o.rm,13,0,0,0⟩ rfl s4 λh' s'=>⟨rfl,s'.drop⟩
   rw[aag e1];by_cases e2:second=190
   ·rw[aai e2];subst e2;simp only[EE,↓zt,Nat.reduceAdd,Int.reduceEq,zv,zk,xh,Xs,xU,wH,Dd,nU,dV,Uv,Y7,Yb,Zw,jM,qB,g7];exact qM ⟨10,o.reg,o.rm,3,0,0,0⟩ rfl s4 λh' s'=>⟨rfl,s'.drop⟩
   rw[aag e2];simp only[EE,↓zt,Int.reduceEq,jH,yN,nU,dV,tq,Uv,Y7,Yb,Zw,jM,qB,e1,e2];refine yj (s4.p 2) (by simp) rfl λh5 s5=>?_;simp only[EE,Nat.reduceAdd,xh,W7];exact qM YN rfl (s5.f [1,0,2]) λh' s'=>⟨rfl,by rw[Q2];exact(s'.f [1,0]).drop⟩
  rw[aag c5];simp only[EE,↓zt,Nat.reduceAdd,kH,gy,Uv,Y7,Yb,Zw,jM,tB,qB,g7,c1,c2,c3,c4,c5];refine QJ (Pa B r0 r1 (s4.f [2,0,1])) ?_;rintro v h5 ⟨rfl,s5⟩;simp only[EE,Nat.reduceAdd,xh];exact qM _ rfl (s5.f [1,0,2]) λh' s'=>⟨rfl,(s'.f [1,0]).drop⟩
 ·rw[aai c0];simp only[EE,Nat.reduceAdd,zv,zk,xh,Xs,xU,wH,Dc,qB,g7,c0];exact qM ⟨7,o.rm,o.reg,qe op,0,0,0⟩ rfl s4 λh' s'=>⟨rfl,s'.drop⟩
end
abbrev wU:List aaa:=[.int .i64 0,.int .i64 0,.int .i64 0,.int .i64 0,.int .i64 0,.int .i64 0,.int .i64 0]
section
variable {lo:y4}{h:za}{L:List HP}{bv:aaa}{bs:List Int}{rb:Nat}{st:RS}{op second ahead:Int}{b b2 b4:Nat}{c2:List aaa}
theorem OO(b:List Int)(ahead z reg rm:Int)(t:RS):(UR b ahead z reg rm t).1.reg=reg:=by
 unfold UR;split
 ·rfl
 ·split
  ·rfl
  ·split <;> rfl
theorem Rw(B:yH bs)(ahead:Int)(st:RS):0<=(ur bs ahead st).1.reg/\(ur bs ahead st).1.reg<16:=by
 rw[GB,OO];have:=Xm B st;unfold ql;split <;> omega
theorem NF(B:Kw lo bv bs)(a0:0<=ahead)(a1:ahead<256)(J:List aaa)
  (s:Sat lo h (pt rb (ZX bv st)::pt b4 (.cells wU 42)::L)) :
  gu (.int .u8 op) (rp rb) (.int .u8 ahead) (rp b4) (QO lo rb bv L (if op=15 then uE bs ahead op (zw bs st).1 (zw bs st).2 else uE bs ahead op 0 st)) J h:=by
 have bn:=B.nb
 have core:∀{h:za} {st:RS} {second:Int} {X:zF×RS},X=uE bs ahead op second st->Sat lo h (pt rb (ZX bv st)::pt b4 (.cells wU 42)::L) ->
   zP Tryz.prog (.func (.func 84) #[] #[]) [rp rb,.int .u8 ahead] h (gq (rp rb) (.int .u8 op) (rp b4) (QO lo rb bv L X) [.int .u8 second]):=λ{h st second X} eX s=>by
  refine QJ (cO B a0 a1 s) ?_;rintro v h1 ⟨rfl,s1⟩;obtain⟨r0,r1⟩:=Rw B.byte ahead st
  have eX:X=(if (ur bs ahead st).1.place=true then (⟨6,(ur bs ahead st).1.reg,0,0,0,0,(ur bs ahead st).1.k⟩,zU (decide (¬op=141)) (ur bs ahead st).2)
   else if (ur bs ahead st).1.memory=true then uu op second (ur bs ahead st).1 (ur bs ahead st).2
   else qL bs op second (ur bs ahead st).1 (ur bs ahead st).2):=eX
  generalize (ur bs ahead st).1=o at r0 r1 eX ⊢;generalize (ur bs ahead st).2=st at s1 eX ⊢;rw[eX];unfold gq;simp only[EE,Value.cells,oJ];refine qt s1 λb7 h2 s2=>?_;unfold Jn;simp only[EE,Nat.reduceAdd,oF];refine yj s2 (by simp) rfl λh3 s3=>?_;have s3:Sat lo h3 (pt b7 (.cells (Xo o) 132)::pt rb (ZX bv st)::pt b4 (.cells wU 42)::L):=s3;have g7:=s3.get;have gr:=(s3.p 1).get;by_cases hp:o.place=true
  ·rw[aai hp];obtain⟨k,bd⟩:=st;cases bd with
   |true=>
    simp only[EE,↓zt,zv,ZH,jH,Ve,yN,gi,gj,gk,Ux,g7,gr,hp];refine yj (s3.p 1) (by simp) rfl λh4 s4=>?_;have g7:=(s4.p 1).get;simp only[EE,Nat.reduceAdd,zv,xY,zk,xh,yE,xU,UM,g7];exact qM ⟨6,o.reg,0,0,0,0,o.k⟩ rfl (s4.f [2,0,1]) λh' s'=>⟨rfl,(s'.f [1]).drop⟩
   |false=>
    simp only[EE,↓zt,zv,ZH,jH,Ve,yN,gi,gj,gk,Ux,g7,gr,hp];refine yj (s3.p 1) (by simp) rfl λh4 s4=>?_;have g7:=(s4.p 1).get;have eq:(k,!decide (op=141))=zU (decide (¬op=141)) (k,false):=by simp[zU]
    rw[<- eq];simp only[EE,Nat.reduceAdd,zv,xY,zk,xh,yE,xU,UM,g7];exact qM ⟨6,o.reg,0,0,0,0,o.k⟩ rfl (s4.f [2,0,1]) λh' s'=>⟨rfl,(s'.f [1]).drop⟩
  rw[aag hp];have hp2:o.place=false:=by cases e:o.place with|true=>exact absurd e hp|false=>rfl
  by_cases hm:o.memory=true
  ·rw[aai hm]
   have e:zd Tryz.prog 132 (rp b7) h3=some (Jn o):=by
    unfold Jn;simp only[EE,Nat.reduceAdd,kH,gy,g7]
   simp only[EE,nth,↓zt,zv,ZH,Vd,Ve,tJ,gp,Ux,g7,hp2,hm,e];refine QJ (Nk bn (s3.f [1,0,2])) ?_;rintro v h5 ⟨rfl,s5⟩;simp only[EE,Nat.reduceAdd,xh];exact qM _ rfl (s5.f [2,0,1]) λh' s'=>⟨rfl,(s'.f [1]).drop⟩
  rw[aag hm];have hm2:o.memory=false:=by cases e:o.memory with|true=>exact absurd e hm|false=>rfl
  have e:zd Tryz.prog 132 (rp b7) h3=some (Jn o):=by
   unfold Jn;simp only[EE,Nat.reduceAdd,kH,gy,g7]
  simp only[EE,nth,↓zt,zv,ZH,Vd,Ve,gp,Ux,tK,g7,hp2,hm2,e];refine QJ (zaw B r0 r1 (s3.f [1,0,2])) ?_;rintro v h5 ⟨rfl,s5⟩;simp only[EE,Nat.reduceAdd,xh];exact qM _ rfl (s5.f [2,0,1]) λh' s'=>⟨rfl,(s'.f [1]).drop⟩
 unfold gu;by_cases c:op=15
 ·rw[aai c];have d:decide (op=15)=true:=aaY c;simp only[EE,d];refine QJ (Vj B s) ?_;rintro v h1 ⟨rfl,s1⟩;exact core rfl s1
 ·rw[aag c];simp only[EE,c];exact core rfl s
theorem zaR(B:Kw lo bv bs)(a0:0<=ahead)(a1:ahead<256)(s:Sat lo h (pt rb (ZX bv st)::L)):DC Tryz.prog 67 [rp rb,.int .u8 ahead] h (QO lo rb bv L (ZM bs ahead st)):=by
 have bn:=B.nb;apply Ld;unfold M6;simp only[EE,Value.cells,kJ];refine qt s λb4 h2 s2=>?_;refine QJ (Vj B (s2.f [1,0])) ?_;rintro v h3 ⟨rfl,s3⟩;have zb:=Xm B.byte st
 have eX:ZM bs ahead st=(let t:=zw bs st
  if 184<=t.1/\t.1<=191 then (⟨2,t.1-184+ahead%2*8,0,0,0,0,(WH bs (zU (decide (ahead/4%2=1)) t.2)).1⟩,(WH bs (zU (decide (ahead/4%2=1)) t.2)).2)
  else if t.1=153 then (⟨13,0,0,0,0,0,0⟩,zU (decide (¬ahead=72)) t.2)
  else if t.1=237 then (⟨25,0,0,0,0,0,0⟩,zU (decide (¬ahead=72)) t.2)
  else if t.1=239 then (⟨26,0,0,0,0,0,0⟩,zU (decide (¬ahead=72)) t.2)
  else if t.1=15 then uE bs ahead t.1 (zw bs t.2).1 (zw bs t.2).2
  else uE bs ahead t.1 0 t.2):=rfl
 rw[eX];simp only[];generalize (zw bs st).1=z at zb ⊢;generalize (zw bs st).2=st at s3 ⊢;obtain⟨z0,z1⟩:=zb;unfold tL;have f4:=NG a0 a1;have f1:=gG a0 a1;have g:=s3.get;by_cases c1:184<=z/\z<=191
 ·rw[aai c1];obtain⟨c1,c2⟩:=c1;have c1':z ≥ 184:=c1
  have w1:IntKind.wrap .u8 (z-184)=z-184:=by
   simp only[IntKind.wrap,IntKind.bits,IntKind.signed];simp;omega
  have w2:=yA (z:=z-184) (by omega) (by omega);have pW:ahead%2=0\/ahead%2=1:=by omega
  have w3:=yA (z:=ahead%2) (by omega) (by omega);have w4:=yA (z:=ahead%2*8) (by omega) (by omega);have w5:=yA (z:=z-184+ahead%2*8) (by omega) (by omega);obtain⟨k,bd⟩:=st
  have go:∀{h5:za} {q:Bool},Sat lo h5 (pt rb (ZX bv (k,q))::pt b4 (.cells wU 42)::L)->(k,q)=zU (decide (ahead/4%2=1)) (k,bd) ->
     zP Tryz.prog (.func (.func 65) #[] #[]) [rp rb,.int .i64 8] h5 (oj (.int .i64 (z-184+ahead%2*8)) (rp b4) (QO lo rb bv L (⟨2,z-184+ahead%2*8,0,0,0,0,(WH bs (zU (decide (ahead/4%2=1)) (k,bd))).1⟩,(WH bs (zU (decide (ahead/4%2=1)) (k,bd))).2))):=λ{h5 q} s5 e=>by
   rw[<- e];refine QJ (zap B s5) ?_;rintro v h6 ⟨rfl,s6⟩;unfold oj;simp only[EE,Nat.reduceAdd,xh,yE];exact qM ⟨2,z-184+ahead%2*8,0,0,0,0,(WH bs (k,q)).1⟩ rfl (s6.f [1,0]) λh' s'=>⟨rfl,s'⟩
  cases bd with
  |true=>
   simp only[EE,zv,ZH,jH,yN,dX,dY,dZ,ee,Y8,g,c1',c2];refine yj s3 (by simp) rfl λh4 s4=>?_;simp only[EE,qf,f1,w1,w2,w3,w4,w5];exact go (q:=true) s4 rfl
  |false=>
   by_cases q4:ahead/4%2=1
   ·rw[aai q4]at f4;simp only[EE,Int.reduceEq,zv,ZH,jH,yN,dX,dY,dZ,ee,Y8,g,c1',c2,f4];refine yj s3 (by simp) rfl λh4 s4=>?_;simp only[EE,qf,f1,w1,w2,w3,w4,w5];exact go (q:=true) s4 (by simp[zU,q4])
   ·rw[aag q4]at f4;simp only[EE,zv,ZH,jH,yN,dX,dY,dZ,ee,Y8,g,c1',c2,f4];refine yj s3 (by simp) rfl λh4 s4=>?_;simp only[EE,qf,f1,w1,w2,w3,w4,w5];exact go (q:=false) s4 (by simp[zU,q4])
 rw[aag c1]
 have into:∀{R:aaa->za->Prop},gx (.int .u8 z) (rp rb) (.int .u8 ahead) (rp b4) R [] h3->opt (nb [.int .u8 z,.int .u8 184] (zK Tryz.prog .geq 5 (.tmp 9) (.const (.int .u8 184)) (.int .u8 z) (.int .u8 184))) λt11=>GD t11 true (λk4=>k4 (.int .u8 z) h3) (Y8 t11 (rp rb) (.int .u8 ahead) (.int .u8 z) (rp b4) R) h3:=λ{R} x=>by
  by_cases d1:z ≥ 184
  ·have d2:¬z<=191:=λe=>c1 ⟨d1,e⟩;simp only[EE,Y8,d1,d2];exact x
  ·simp only[EE,Y8,d1];exact x
 refine into ?_;unfold gx
 have one:∀(n:Int) {R:aaa->za->Prop},(∀h4 q,(st.1,q)=zU (decide (¬ahead=72)) st->Sat lo h4 (pt rb (ZX bv (st.1,q))::pt b4 (.cells wU 42)::L)->BK (KX (.int .u8 z) (rp b4) h4 R) (fZ (rp b4) R))->∀J,gh (rp rb) h3 (.int .u8 ahead) (.int .u8 z) (rp b4) R J:=λn {R} k J=>by
  unfold gh;obtain⟨kk,bd⟩:=st;cases bd with
  |true=>
   simp only[EE,zv,ZH,yN,ga,g];unfold f9;simp only[EE,jH,yN];refine yj s3 (by simp) rfl λh4 s4=>?_;exact k h4 true rfl s4
  |false=>
   simp only[EE,zv,ZH,yN,ga,g];unfold f9;simp only[EE,jH,yN];refine yj s3 (by simp) rfl λh4 s4=>?_;exact k h4 (!decide (ahead=72)) (by simp[zU]) s4
 by_cases c2:z=153
 ·rw[aai c2];subst c2;simp only[EE,Uy,Uz];refine one 0 (λh4 q e s4=>?_) _;rw[<- e];simp only[EE,↓zt,Nat.reduceAdd,xh,vL,Dq,KX];exact qM ⟨13,0,0,0,0,0,0⟩ rfl (s4.f [1,0]) λh' s'=>⟨rfl,s'⟩
 rw[aag c2];by_cases c3:z=237
 ·rw[aai c3];subst c3;simp only[EE,Int.reduceEq,Uy,Uz];refine one 0 (λh4 q e s4=>?_) _;rw[<- e];simp only[EE,↓zt,Nat.reduceAdd,Int.reduceEq,xh,vL,Dp,oq,KX];exact qM ⟨25,0,0,0,0,0,0⟩ rfl (s4.f [1,0]) λh' s'=>⟨rfl,s'⟩
 rw[aag c3];by_cases c4:z=239
 ·rw[aai c4];subst c4;simp only[EE,Int.reduceEq,Uy,Uz];refine one 0 (λh4 q e s4=>?_) _;rw[<- e];simp only[EE,↓zt,Nat.reduceAdd,Int.reduceEq,xh,vL,oq,KX,fZ];exact qM ⟨26,0,0,0,0,0,0⟩ rfl (s4.f [1,0]) λh' s'=>⟨rfl,s'⟩
 rw[aag c4];simp only[EE,Uy,Uz,c2,c3,c4];exact NF B a0 a1 _ s3
end
open Go.Eb (qj xq vt wT GJ)
section
variable {lo:y4}{h:za}{L:List HP}{bv yv:aaa}{bs ys:List Int}{rb:Nat}{st:RS}{op second ahead:Int}{b b2 b4 b8:Nat}{c2:List aaa}
theorem E3(b:List Int)(z:Int):∀(ys:List Int) (st:RS),ZL b (ys++[z]) st=zU (decide (¬(zw b (ZL b ys st)).1=z)) (zw b (ZL b ys st)).2
 |[],st=>rfl
 |y::ys,st=>by
  show ZL b (ys++[z]) _=_;rw[E3 b z ys];rfl
theorem O8{n:Nat}{J:List aaa->za->Prop}(B:Kw lo bv bs)(hn:ys.length=n)(XT:ys.length<=100)(s:Sat lo h (qj yv ys::pt rb (ZX bv st)::L))(k:∀h',Sat lo h' (qj yv ys::pt rb (ZX bv (ZL bs ys st))::L)->J [] h') :
  LP (cm (.int .i64 n) J yv (rp rb)) [.int .i64 0] h:=by
 subst hn;have bn:=B.nb;refine qb (λm vs h'=>∃j:Nat,j<=ys.length/\m=ys.length-j/\vs=[.int .i64 j]/\Sat lo h' (qj yv ys::pt rb (ZX bv (ZL bs (ys.take j) st))::L)) ys.length ⟨0,aaN _,rfl,rfl,s⟩ ?_;rintro m vs h1 ⟨j,hj,rfl,rfl,s1⟩;unfold cm;by_cases hc:(j:Int)<(ys.length:Int)
 ·obtain⟨z,hz⟩:∃z,ys[j]? = some z:=⟨_,aaf (by omega)⟩;obtain⟨b,o,c,t,a1,_,a2,a3⟩:=DO (xq s1 aao) hz;have et:ys.take (j+1)=ys.take j++[z]:=by rw[abb,hz];rfl
  have hin:=inc (show j<4611686018427387904 by omega);simp only[EE,nth,↓zt,zv,Xd,nK,nL,hc,a1,a2,a3];refine QJ (Vj B (s1.f [1,0])) ?_;rintro v h2 ⟨rfl,s2⟩;have es:=E3 bs z (ys.take j) st;rw[<- et]at es;generalize (zw bs (ZL bs (ys.take j) st)).1=w at es ⊢;generalize (zw bs (ZL bs (ys.take j) st)).2=t2 at es s2 ⊢;have g:=s2.get;obtain⟨kk,bd⟩:=t2
  have fin:∀{h3 q},(kk,q)=ZL bs (ys.take (j+1)) st->Sat lo h3 (pt rb (ZX bv (kk,q))::qj yv ys::L)->(λvs' h'=>∃m,m<ys.length-j /\ ∃j:Nat,j<=ys.length/\m=ys.length-j/\vs'=[Value.int .i64 j]/\Sat lo h' (qj yv ys::pt rb (ZX bv (ZL bs (ys.take j) st))::L)) [.int .i64 (j+1:Nat)] h3:=λ{h3 q} e s3=>
   ⟨ys.length-(j+1),by omega,j+1,by omega,rfl,rfl,by rw[<- e];exact s3.f [1,0]⟩
  by_cases hw:w=z
  ·simp only[EE,zv,ZH,jH,yN,ch,cj,ck,hw,g];refine yj s2 (by simp) rfl λh3 s3=>?_;simp only[EE,nth,hin];exact fin (q:=bd) (by rw[es];simp[zU,hw]) s3
  ·simp only[EE,jH,yN,ch,cj,ck,hw];refine yj s2 (by simp) rfl λh3 s3=>?_;simp only[EE,nth,hin];exact fin (q:=true) (by rw[es];simp[zU,hw]) s3
 ·have:j=ys.length:=by omega
  subst this;rw[abv]at s1;simp only[EE,nth,hc];exact k _ s1
theorem Rv(b:List Int)(ahead z reg rm:Int)(t:RS):(UR b ahead z reg rm t).1.rm=rm:=by
 unfold UR;split
 ·rfl
 ·split
  ·rfl
  ·split <;> rfl
theorem zat(B:yH bs)(ahead:Int)(st:RS):0<=(ur bs ahead st).1.rm/\(ur bs ahead st).1.rm<16:=by
 rw[GB,Rv];have:=Xm B st;unfold jW;split <;> omega
theorem zci{b9 k:Nat}{bd:Bool}{o:lC}{cc:Int}(B:Kw lo bv bs)(r0:0<=o.rm)(r1:o.rm<16)(s:Sat lo h (pt b9 (.cells (Xo o) 132)::pt rb (ZX bv (k,bd))::pt b8 (.cells (zF.row ⟨17,0,0,0,cc,0,0⟩) 42)::pt b4 (.cells wU 42)::L)){t1 t2:Bool}{v2:aaa}(hv:t1=false->v2=.bool t2) :
  VG (.bool t1) (rp rb) (rp b9) (rp b8) (rp b4) (QO lo rb bv L (⟨17,o.rm,0,0,cc,0,0⟩,ZL bs [zj 72 o.rm o.rm,15,182,zX o.rm o.rm] (k,t1||t2))) v2 h:=by
 have bn:=B.nb;have g9:=s.get;unfold VG;cases t1 with
 |true=>
  simp only[EE,jH,yN];refine yj (s.p 1) (by simp) rfl λh1 s1=>?_;have s1:Sat lo h1 (pt rb (ZX bv (k,true))::pt b9 (.cells (Xo o) 132)::pt b8 (.cells (zF.row ⟨17,0,0,0,cc,0,0⟩) 42)::pt b4 (.cells wU 42)::L):=s1;have g9:=(s1.p 1).get;simp only[EE,zv,zk,V9,wH,z8,g9];refine yj (s1.p 2) (by simp) rfl λh2 s2=>?_;have s2:Sat lo h2 (pt b8 (.cells (zF.row ⟨17,o.rm,0,0,cc,0,0⟩) 42)::pt rb (ZX bv (k,true))::pt b9 (.cells (Xo o) 132)::pt b4 (.cells wU 42)::L):=s2;have s3:=wT s2 [15,182] 4 (by decide);have g8:(h2.push (.cells [.int .u8 15,.int .u8 182] 5)).get b8=some (.cells (zF.row ⟨17,o.rm,0,0,cc,0,0⟩) 42):=(s3.p 1).get;simp only[EE,zv,zk,vM,z8,g8];refine QJ (GJ (base:=72) (.inl rfl) (xq s3 aao) (by simp) r0 r1 r0 r1) ?_;rintro r h4 s4;have s5:=s3.join s4;have s5:Sat lo h4 (qj r [zj 72 o.rm o.rm,15,182,zX o.rm o.rm]::qj (.slice (some ⟨h2.next,0,none⟩) 2 4) [15,182]::pt b8 (.cells (zF.row ⟨17,o.rm,0,0,cc,0,0⟩) 42)::pt rb (ZX bv (k,true))::pt b9 (.cells (Xo o) 132)::pt b4 (.cells wU 42)::L):=s5;have s6:=s5.f [0,3,1,2,4,5];have ln:=λq h'=>zV (xq s6 aao) q h';have rn:=vt s5;unfold KN;simp only[EE,↓zt,Nat.reduceAdd,ln,rn];refine O8 B rfl (by simp) s6 λh5 s7=>?_;exact fy ⟨17,o.rm,0,0,cc,0,0⟩ rfl (s7.f [3,5,1,0,2,4]) λh' s'=>⟨rfl,(s'.f [1,2,3,0]).drop.drop.drop⟩
 |false=>
  obtain rfl:=hv rfl;simp only[EE,jH,yN];refine yj (s.p 1) (by simp) rfl λh1 s1=>?_;have s1:Sat lo h1 (pt rb (ZX bv (k,t2))::pt b9 (.cells (Xo o) 132)::pt b8 (.cells (zF.row ⟨17,0,0,0,cc,0,0⟩) 42)::pt b4 (.cells wU 42)::L):=s1;have g9:=(s1.p 1).get;simp only[EE,zv,zk,V9,wH,z8,g9];refine yj (s1.p 2) (by simp) rfl λh2 s2=>?_;have s2:Sat lo h2 (pt b8 (.cells (zF.row ⟨17,o.rm,0,0,cc,0,0⟩) 42)::pt rb (ZX bv (k,t2))::pt b9 (.cells (Xo o) 132)::pt b4 (.cells wU 42)::L):=s2;have s3:=wT s2 [15,182] 4 (by decide);have g8:(h2.push (.cells [.int .u8 15,.int .u8 182] 5)).get b8=some (.cells (zF.row ⟨17,o.rm,0,0,cc,0,0⟩) 42):=(s3.p 1).get;simp only[EE,zv,zk,vM,z8,g8];refine QJ (GJ (base:=72) (.inl rfl) (xq s3 aao) (by simp) r0 r1 r0 r1) ?_;rintro r h4 s4;have s5:=s3.join s4;have s5:Sat lo h4 (qj r [zj 72 o.rm o.rm,15,182,zX o.rm o.rm]::qj (.slice (some ⟨h2.next,0,none⟩) 2 4) [15,182]::pt b8 (.cells (zF.row ⟨17,o.rm,0,0,cc,0,0⟩) 42)::pt rb (ZX bv (k,t2))::pt b9 (.cells (Xo o) 132)::pt b4 (.cells wU 42)::L):=s5;have s6:=s5.f [0,3,1,2,4,5];have ln:=λq h'=>zV (xq s6 aao) q h';have rn:=vt s5;unfold KN;simp only[EE,↓zt,Nat.reduceAdd,ln,rn];refine O8 B rfl (by simp) s6 λh5 s7=>?_;exact fy ⟨17,o.rm,0,0,cc,0,0⟩ rfl (s7.f [3,5,1,0,2,4]) λh' s'=>⟨rfl,(s'.f [1,2,3,0]).drop.drop.drop⟩
theorem OC(B:Kw lo bv bs)(a0:0<=ahead)(a1:ahead<256)(s:Sat lo h (pt rb (ZX bv st)::L)):DC Tryz.prog 68 [rp rb,.int .u8 ahead] h (QO lo rb bv L (jC bs ahead st)):=by
 have bn:=B.nb;apply C5;unfold C4;simp only[EE,Value.cells,kJ];refine qt s λb4 h2 s2=>?_;refine QJ (Vj B (s2.f [1,0])) ?_;rintro v h3 ⟨rfl,s3⟩;have zb:=Xm B.byte st
 have eX:jC bs ahead st=(let t:=zw bs st
  if t.1=136\/t.1=137 then
   (⟨4,(ur bs ahead t.2).1.reg,(ur bs ahead t.2).1.rm,if t.1=136 then 1 else 4,0,0,(ur bs ahead t.2).1.k⟩,zU (!(ur bs ahead t.2).1.memory) (ur bs ahead t.2).2)
  else if t.1=15 then B9 bs ahead t.2
  else (YN,zU true t.2)):=rfl
 rw[eX];simp only[];generalize (zw bs st).1=z at zb ⊢;generalize (zw bs st).2=st at s3 ⊢;obtain⟨z0,z1⟩:=zb;by_cases c1:z=136\/z=137
 ·rw[aai c1]
  have into:∀{R:aaa->za->Prop},(∀J:List aaa->za->Prop,(λj10=>zP Tryz.prog (.func (.func 84) #[] #[]) [rp rb,.int .u8 ahead] h3 (cg (rp rb) (.int .u8 z) (rp b4) R)) J)->BK (Ya (.int .u8 z) h3 (rp rb) (.int .u8 ahead) (rp b4) R) (KP (rp rb) (rp b4) R):=λ{R} x=>by
   rcases c1 with rfl|rfl
   ·simp only[EE,nth,↓zt,XQ,Ya];exact x (λ_ _=>True)
   ·simp only[EE,nth,↓zt,Int.reduceEq,XQ,Ya];exact x (λ_ _=>True)
  refine into λJ=>?_;refine QJ (cO B a0 a1 s3) ?_;rintro v h4 ⟨rfl,s4⟩;generalize (ur bs ahead st).1=o;generalize (ur bs ahead st).2=st at s4 ⊢;unfold cg Jn;simp only[EE,Value.cells,oJ];refine qt s4 λb6 h5 s5=>?_;simp only[EE,Nat.reduceAdd,oF];refine yj s5 (by simp) rfl λh6 s6=>?_;have s6:Sat lo h6 (pt b6 (.cells (Xo o) 132)::pt rb (ZX bv st)::pt b4 (.cells wU 42)::L):=s6;have g6:=s6.get;have gr:=(s6.p 1).get;obtain⟨k,bd⟩:=st;cases bd with
  |true=>
   simp only[EE,zv,ZH,jH,yN,bZ,ca,gr];refine yj (s6.p 1) (by simp) rfl λh7 s7=>?_;have s7:Sat lo h7 (pt rb (ZX bv (k,true))::pt b6 (.cells (Xo o) 132)::pt b4 (.cells wU 42)::L):=s7;have e:(k,true)=zU (!o.memory) (k,true):=rfl;rw[<- e];have g6:=(s7.p 1).get;simp only[EE,Value.cells,zv,xY,zk,kJ,Kh,xU,wH,UM,g6];refine qt s7 λb7 h8 s8=>?_;simp only[EE,Nat.reduceAdd,xh];refine yj s8 (by simp) rfl λh9 s9=>?_;rcases c1 with rfl|rfl
   ·simp only[EE,V9,zq];refine yj s9 (by simp[xK]) rfl λh10 s10=>?_;exact fy ⟨4,o.reg,o.rm,1,0,0,o.k⟩ rfl (s10.f [0,3,1,2]) λh' s'=>⟨rfl,(s'.f [1,0]).drop⟩
   ·simp only[EE,Int.reduceEq];exact fy ⟨4,o.reg,o.rm,4,0,0,o.k⟩ rfl (s9.f [0,3,1,2]) λh' s'=>⟨rfl,(s'.f [1,0]).drop⟩
  |false=>
   simp only[EE,zv,ZH,jH,Vd,yN,bZ,ca,g6,gr];refine yj (s6.p 1) (by simp) rfl λh7 s7=>?_;have s7:Sat lo h7 (pt rb (ZX bv (k,!o.memory))::pt b6 (.cells (Xo o) 132)::pt b4 (.cells wU 42)::L):=s7;have e:(k,!o.memory)=zU (!o.memory) (k,false):=rfl;rw[<- e];have g6:=(s7.p 1).get;simp only[EE,Value.cells,zv,xY,zk,kJ,Kh,xU,wH,UM,g6];refine qt s7 λb7 h8 s8=>?_;simp only[EE,Nat.reduceAdd,xh];refine yj s8 (by simp) rfl λh9 s9=>?_;rcases c1 with rfl|rfl
   ·simp only[EE,V9,zq];refine yj s9 (by simp[xK]) rfl λh10 s10=>?_;exact fy ⟨4,o.reg,o.rm,1,0,0,o.k⟩ rfl (s10.f [0,3,1,2]) λh' s'=>⟨rfl,(s'.f [1,0]).drop⟩
   ·simp only[EE,Int.reduceEq];exact fy ⟨4,o.reg,o.rm,4,0,0,o.k⟩ rfl (s9.f [0,3,1,2]) λh' s'=>⟨rfl,(s'.f [1,0]).drop⟩
 rw[aag c1];have n1:¬z=136:=λe=>c1 (.inl e);have n2:¬z=137:=λe=>c1 (.inr e);by_cases c2:z=15
 ·rw[aai c2];subst c2;simp only[EE,nth,↓zt,Int.reduceEq,KO,XQ,Ya];refine QJ (Vj B s3) ?_;rintro v h4 ⟨rfl,s4⟩;unfold B9;simp only[];generalize (zw bs st).1=y;generalize (zw bs st).2=st at s4 ⊢;unfold iQ;simp only[EE];refine QJ (D3 (u8 (y-144)) s4 bn) ?_;rintro v h5 ⟨rfl,s5⟩;generalize (jR (u8 (y-144)) st).1=cc;generalize (jR (u8 (y-144)) st).2=st at s5 ⊢;unfold iP;simp only[EE,Value.cells,kJ,gF];refine qt s5 λb8 h6 s6=>?_;simp only[EE,Nat.reduceAdd,xh];refine yj s6 (by simp) rfl λh7 s7=>?_;refine QJ (cO B a0 a1 (s7.f [1,0])) ?_;rintro v h8 ⟨rfl,s8⟩;obtain⟨r0,r1⟩:=zat B.byte ahead st;generalize (ur bs ahead st).1=o at r0 r1 ⊢;generalize (ur bs ahead st).2=st at s8 ⊢;unfold iO Jn;simp only[EE,Value.cells,oJ];refine qt s8 λb9 h9 s9=>?_;simp only[EE,Nat.reduceAdd,oF];refine yj s9 (by simp) rfl λh10 s10=>?_;obtain⟨k,bd⟩:=st;have s10:Sat lo h10 (pt b9 (.cells (Xo o) 132)::pt rb (ZX bv (k,bd))::pt b8 (.cells (zF.row ⟨17,0,0,0,cc,0,0⟩) 42)::pt b4 (.cells wU 42)::L):=s10;have g9:=s10.get;have gr:=(s10.p 1).get
  have fin:∀{t1:Bool} {v2:aaa} (t2:Bool),(t1=false->v2=.bool t2)->(t1||t2)=(bd||(o.memory||o.place||decide (¬o.reg=0)))->VG (.bool t1) (rp rb) (rp b9) (rp b8) (rp b4) (QO lo rb bv L (⟨17,o.rm,0,0,cc,0,0⟩,ZL bs [zj 72 o.rm o.rm,15,182,zX o.rm o.rm] (zU (o.memory||o.place||decide (¬o.reg=0)) (k,bd)))) v2 h10:=λ{t1 v2} t2 hv e=>by
   have:=zci (cc:=cc) (t1:=t1) (t2:=t2) B r0 r1 s10 hv;rw[e]at this;exact this
  cases bd with
  |true=>
   simp only[EE,zv,ZH,yN,XN,XO,XP,gr];exact fin true (λe=>by cases e) (by simp)
  |false=>
   cases em:o.memory with
   |true=>
    simp only[EE,zv,ZH,Vd,yN,XN,XO,XP,g9,gr,em];rw[em]at fin;exact fin true (λe=>by cases e) (by simp)
   |false=>
    rw[em]at fin;cases ep:o.place with
    |true=>
     rw[ep]at fin;simp only[EE,zv,ZH,Vd,Ve,yN,XN,XO,XP,g9,gr,em,ep];exact fin true (λe=>by cases e) (by simp)
    |false=>
     rw[ep]at fin;simp only[EE,zv,zk,ZH,xU,Vd,Ve,yN,XN,XO,XP,g9,gr,em,ep];exact fin (!decide (o.reg=0)) (λ_=>rfl) (by simp)
 ·rw[aag c2];simp only[EE,nth,↓zt,jH,yN,KO,XQ,Ya,KP,n1,n2,c2];refine yj s3 (by simp) rfl λh5 s5=>?_;simp only[EE,Nat.reduceAdd,xh,W7];exact qM YN rfl (s5.f [1,0]) λh' s'=>⟨rfl,by rw[Q2];exact s'⟩
end
section
variable {lo:y4}{h:za}{L:List HP}{bv:aaa}{bs:List Int}{rb:Nat}{st:RS}{b b2:Nat}{c2:List aaa}
theorem zal(z:Fin 256):IntKind.wrap .u8 ↑(BitVec.ofInt (IntKind.bits .u8) ((z.val:Nat):Int) &&& ~~~ BitVec.ofInt (IntKind.bits .u8) 5).toNat=((z.val:Nat):Int)-((z.val:Nat):Int)%2-((z.val:Nat):Int)/4%2*4:=by
 revert z;decide +kernel
theorem zak{z:Int}(h0:0<=z)(h1:z<256):IntKind.wrap .u8 ↑(BitVec.ofInt (IntKind.bits .u8) z &&& ~~~ BitVec.ofInt (IntKind.bits .u8) 5).toNat=z-z%2-z/4%2*4:=by
 obtain⟨f,rfl⟩:=W8 h0 h1;exact zal f
theorem ZK(x:zF){w:aaa}{R:aaa->za->Prop}(hw:zQ w=false)(l2:c2.length=7)(s:Sat lo h (pt b2 (.cells c2 42)::L))(k:∀h',Sat lo h' L->R (xV [x.val,w]) h'):opt (AK h b2 0 x.row) λh1=>opt (zd Tryz.prog 42 (rp b2) h1) λr0=>rv [r0,w] h1 R:=by
 obtain⟨v0,v1,v2,v3,v4,v5,v6,rfl⟩:∃v0 v1 v2 v3 v4 v5 v6,c2=[v0,v1,v2,v3,v4,v5,v6]:=by
  match c2,l2 with
  |[v0,v1,v2,v3,v4,v5,v6],_=>exact⟨v0,v1,v2,v3,v4,v5,v6,rfl⟩
 refine yj s (by simp) rfl λh1 s1=>?_;have g1:=s1.get;simp only[EE,zu,Nat.reduceAdd,kH,uC,g1,hw];exact k _ s1.drop
theorem zbT(B:Kw lo bv bs)(s:Sat lo h (pt rb (ZX bv (0,false))::L)):DC Tryz.prog 32 [rp rb] h (λv h'=>v=xV [(xH bs).1.val,.bool (xH bs).2.1]/\Sat lo h' (pt rb (ZX bv (xH bs).2.2)::L)):=by
 have bn:=B.nb;apply MW;unfold Su;simp only[EE,Value.cells,kJ];refine qt s λb4 h2 s2=>?_;refine QJ (Vj B (s2.f [1,0])) ?_;rintro v h3 ⟨rfl,s3⟩;have zb:=Xm B.byte (0,false);unfold xH;simp only[];generalize (zw bs (0,false)).1=z at zb ⊢;generalize (zw bs (0,false)).2=st at s3 ⊢;obtain⟨z0,z1⟩:=zb;by_cases c1:z=233
 ·rw[aai c1];subst c1;simp only[EE,↓zt,XM];refine QJ (hH B s3) ?_;rintro v h4 ⟨rfl,s4⟩;simp only[EE,Nat.reduceAdd,xh,UG,Hg];exact ZK ⟨18,0,0,0,0,0,(wa bs st).1⟩ rfl rfl (s4.f [1,0]) λh' s'=>⟨rfl,s'⟩
 rw[aag c1];by_cases c2:z=232
 ·rw[aai c2];subst c2;simp only[EE,↓zt,Int.reduceEq,WX,XM];refine QJ (hH B s3) ?_;rintro v h4 ⟨rfl,s4⟩;simp only[EE,Nat.reduceAdd,xh,UG,Hh];exact ZK ⟨21,0,0,0,0,0,(wa bs st).1⟩ rfl rfl (s4.f [1,0]) λh' s'=>⟨rfl,s'⟩
 rw[aag c2];by_cases c3:z=15
 ·rw[aai c3];subst c3;simp only[EE,↓zt,Int.reduceEq,Uu,WX,XM];refine QJ (Vj B s3) ?_;rintro v h4 ⟨rfl,s4⟩;generalize (zw bs st).1=y;generalize (zw bs st).2=st at s4 ⊢;unfold Hk;simp only[EE];refine QJ (D3 (u8 (y-128)) s4 bn) ?_;rintro v h5 ⟨rfl,s5⟩;generalize (jR (u8 (y-128)) st).1=cc;generalize (jR (u8 (y-128)) st).2=st at s5 ⊢;unfold Hj;simp only[EE,Value.cells,kJ,gF];refine qt s5 λb5 h6 s6=>?_;simp only[EE,Nat.reduceAdd,xh];refine yj s6 (by simp) rfl λh7 s7=>?_;refine QJ (hH B (s7.f [1,0])) ?_;rintro v h8 ⟨rfl,s8⟩;unfold Hi;simp only[EE,FJ,zL];refine yj (s8.p 1) (by simp[xK]) rfl λh9 s9=>?_;have s9:Sat lo h9 (pt b5 (.cells (zF.row ⟨19,0,0,0,cc,0,(wa bs st).1⟩) 42)::pt rb (ZX bv (wa bs st).2)::pt b4 (.cells wU 42)::L):=s9;have g5:=s9.get
  have e:zd Tryz.prog 42 (rp b5) h9=some (zF.val ⟨19,0,0,0,cc,0,(wa bs st).1⟩):=by
   simp only[EE,Nat.reduceAdd,kH,uC,g5]
  simp only[EE,Nat.reduceAdd,xh,e];exact ZK ⟨19,0,0,0,cc,0,(wa bs st).1⟩ rfl rfl (s9.f [2,1,0]) λh' s'=>⟨rfl,(s'.f [1,0]).drop⟩
 rw[aag c3];by_cases c4:z=195
 ·rw[aai c4];subst c4;simp only[EE,↓zt,Nat.reduceAdd,Int.reduceEq,xh,vL,Hn,KM,Uu,WX,XM];exact ZK ⟨22,0,0,0,0,0,0⟩ rfl rfl (s3.f [1,0]) λh' s'=>⟨rfl,s'⟩
 rw[aag c4];have fm:=zak z0 z1;by_cases c5:z=72\/z=73\/z=76\/z=77
 ·rw[aai c5];have e72:z-z%2-z/4%2*4=72:=by rcases c5 with rfl|rfl|rfl|rfl <;> decide
  rw[e72]at fm;simp only[EE,↓zt,dR,KM,Uu,WX,XM,c1,c2,c3,c4,fm];refine QJ (zaR B z0 z1 s3) ?_;rintro v h4 ⟨rfl,s4⟩;generalize (ZM bs z st).1=x;generalize (ZM bs z st).2=st at s4 ⊢;obtain⟨op,r,m,sub,cc,l,k⟩:=x;simp only[EE,Value.cells,kJ,Hl];refine qt s4 λb6 h5 s5=>?_;simp only[EE,Nat.reduceAdd,xh];refine yj s5 (by simp) rfl λh6 s6=>?_;have s6:Sat lo h6 (pt b6 (.cells (zF.row ⟨op,r,m,sub,cc,l,k⟩) 42)::pt rb (ZX bv st)::pt b4 (.cells wU 42)::L):=s6;have g6:=s6.get;have hne:¬b4=b6:=(s6.f [2,0,1]).ne
  have e:zd Tryz.prog 42 (rp b6) h6=some (zF.val ⟨op,r,m,sub,cc,l,k⟩):=by
   simp only[EE,Nat.reduceAdd,kH,uC,g6]
  simp only[EE,Nat.reduceAdd,Nat.reduceLeDiff,acu,zv,zk,xh,zc,e,g6,oE,hne,acu,true_or];exact ZK ⟨op,r,m,sub,cc,l,k⟩ rfl rfl (s6.f [2,1,0]) λh' s'=>⟨rfl,(s'.f [1,0]).drop⟩
 rw[aag c5];have e72:¬z-z%2-z/4%2*4=72:=by omega
 by_cases c6:z=64\/z=65\/z=68\/z=69
 ·rw[aai c6];have e64:z-z%2-z/4%2*4=64:=by rcases c6 with rfl|rfl|rfl|rfl <;> decide
  rw[e64]at fm;simp only[EE,↓zt,Int.reduceEq,Hm,AZ,dR,KM,Uu,WX,XM,c1,c2,c3,c4,fm];refine QJ (OC B z0 z1 s3) ?_;rintro v h4 ⟨rfl,s4⟩;generalize (jC bs z st).1=x;generalize (jC bs z st).2=st at s4 ⊢;simp only[EE,Nat.reduceAdd,xh];exact ZK x rfl rfl (s4.f [1,0]) λh' s'=>⟨rfl,s'⟩
 rw[aag c6];have e64:¬z-z%2-z/4%2*4=64:=by omega
 simp only[EE,↓zt,jH,yN,AZ,dR,KM,Uu,WX,XM,CU,c1,c2,c3,c4,fm,e72,e64];refine yj s3 (by simp) rfl λh5 s5=>?_;simp only[EE,Nat.reduceAdd,xh,W7];exact ZK YN rfl rfl (s5.f [1,0]) λh' s'=>⟨rfl,by rw[Q2];exact s'⟩
end
open Go.As (Zf qw)
theorem NL{P:Program}{g:FuncId}{args:List aaa}{c:aaa}{h:za}{K:aaa->za->Prop}{v:aaa}(hc:xS P g=true)(hn:yi args=true)(hn2:yi (args++[c])=true)(q:wX P g (args++[c]) h v)(k:K v h):zP P (.func (.func g) #[] #[c]) args h K :=
 ⟨hn,by simpa using hn2,.inl ⟨hc,by simpa using q.dc.mono (by rintro v1 h1 ⟨rfl,rfl⟩;exact k)⟩⟩
theorem Tv{h:za}{b:Nat}{t:TypeId}{s to:Int}(g:h.get b=some (.cells [.int .i64 to] t)):wX Tryz.prog 70 [.int .i64 s,rp b] h (.bool (decide (s=to))):=by
 apply yD;apply IZ;unfold MK;have g2:h.lock.get b=some (.cells [.int .i64 to] t):=by rw[UO];exact g
 simp only[EE,zv,xY,g2];rfl
theorem pE{to:Int}:∀{st:List Int} {n j:Nat} {s:Int},(∀i,i<j->∀s,st[i]? = some s->¬s=to)->st[j]? = some s->s=to->pC st to n=some (n+j)
 |[],n,j,s,_,hs,_=>by cases hs
 |s0::ss,n,0,s,_,hs,e=>by
  have:s0=s:=by simpa using hs
  unfold pC;rw[aai (by rw[this];exact e)];rfl
 |s0::ss,n,j+1,s,hno,hs,e=>by
  unfold pC;rw[aag (hno 0 (by omega) s0 rfl),pE (n:=n+1) (j:=j) (λi hi s hs=>hno (i+1) (by omega) s (by simpa using hs)) (by simpa using hs) e]
  congr 1;omega
theorem pD{to:Int}:∀{st:List Int} {n:Nat},(∀i,i<st.length->∀s,st[i]? = some s->¬s=to)->pC st to n=none
 |[],n,_=>rfl
 |s0::ss,n,hno=>by
  unfold pC;rw[aag (hno 0 (by simp) s0 rfl)];exact pD λi hi s hs=>hno (i+1) (by simp;omega) s (by simpa using hs)
def BI(st:List Int)(to:Int):Int:=match pC st to 0 with
 |some n=>n
 |none => -1
theorem P6{h:za}{b:Nat}{t:TypeId}{to:Int}{sv:aaa}{st:List Int}(S:zE h sv st)(XT:st.length<=1000000)(g:h.get b=some (.cells [.int .i64 to] t)) :
  wX Tryz.prog 69 [sv,.func (.func 70) #[] #[rp b]] h (.int .i64 (BI st to)):=by
 apply vq;apply nh;unfold im;replace S:=S.lock;replace g:h.lock.get b=some (.cells [.int .i64 to] t):=by rw[UO];exact g
 generalize h.lock=H at S g;have sn:=S.QU;have ln:=λr h'=>qw S r h';simp only[EE,↓zt,sn,ln];refine qb (λm vs h'=>∃j:Nat,j<=st.length/\m=st.length-j/\vs=[.int .i64 0,.int .i64 j]/\h'=H /\ ∀i,i<j->∀s,st[i]? = some s->¬s=to) st.length ⟨0,aaN _,rfl,rfl,rfl,λi hi=>by omega⟩ ?_;rintro m vs h1 ⟨j,hj,rfl,rfl,rfl,hno⟩;unfold aM;by_cases hc:(j:Int)<(st.length:Int)
 ·obtain⟨x,hx⟩:∃x,st[j]? = some x:=⟨_,aaf (show j<st.length by omega)⟩;obtain⟨b',o,c,t',a1,_,a2,a3⟩:=Zf S hx;have hin:=inc (show j<4611686018427387904 by omega);simp only[EE,nth,↓zt,zv,zk,aK,hc,a1,a2,a3];refine NL (by kernel_rfl) rfl rfl (Tv (s:=x) g) ?_;by_cases he:x=to
  ·have:BI st to=j:=by
    unfold BI;rw[pE hno hx he,abz]
   simp only[EE,nth,he];rw[this];rfl
  ·simp only[EE,nth,aL,he,hin];refine⟨st.length-(j+1),by omega,j+1,by omega,rfl,rfl,λi hi s hs=>?_⟩;by_cases q:i<j
   ·exact hno i q s hs
   ·have:i=j:=(by omega);subst this;rw[hx]at hs;rw[<- abn hs];exact he
 ·have:j=st.length:=by omega
  subst this;simp only[EE,nth,Int.reduceNeg,hc]
  have:BI st to = -1:=by
   unfold BI;rw[pD hno]
  rw[this];rfl
open Go.Rtl (vU)
open Go.Rm (kM xr yP)
open Go.Eb (EU VQ)
abbrev lJ(cv sv gv:aaa)(mn pn:Int):aaa := .agg #[cv,sv,gv,.int .i64 mn,.int .i64 pn]
abbrev Vr(cv sv gv:aaa)(mn pn:Int):List aaa:=[cv,sv,gv,.int .i64 mn,.int .i64 pn]
structure MA (lo:y4) (cv sv gv:aaa) (code st gl:List Int):Prop where
 rc:Rd lo (yM · cv code)
 rs:Rd lo (zE · sv st)
 rg:Rd lo (zE · gv gl)
 cn:zQ cv=false
 sn:zQ sv=false
 gn:zQ gv=false
 cc:xj cv=true
 sc:xj sv=true
 gc:xj gv=true
 XT:code.length<=1000000000
 T4:st.length<=1000000
 F4:gl.length<=1000
 gb:∀g,g∈gl->0<=g/\g<=65536
section
variable {lo:y4}{h:za}{L:List HP}{cv sv gv:aaa}{code st gl:List Int}{mn pn:Int}{x:zF}{behind:Int}
abbrev Bk(lo:y4)(L:List HP)(g:Option zF)(v:aaa)(h':za):Prop:=Sat lo h' L /\ ∃(y:zF) (ok:Bool),v=xV [y.val,.bool ok]/\(match g with
 |some i=>ok=true/\y=i
 |none=>ok=false)
theorem gY{to:Int}:∀{az gl:List Int} {n j:Nat} {a g:Int},(∀i,i<j->∀a g,az[i]? = some a->gl[i]? = some g->¬(a<=to/\to-a<=g))->az[j]? = some a->gl[j]? = some g->a<=to/\to-a<=g->UQ az gl n to=some (n+j,to-a)
 |[],_,n,j,a,g,_,hs,_,_=>by cases hs
 |_::_,[],n,j,a,g,_,_,hs,_=>by cases hs
 |a0::az,g0::gl,n,0,a,g,_,ha,hg,e=>by
  have e1:a0=a:=by simpa using ha
  have e2:g0=g:=by simpa using hg
  unfold UQ;rw[aai (by rw[e1,e2];exact e),e1];rfl
 |a0::az,g0::gl,n,j+1,a,g,hno,ha,hg,e=>by
  unfold UQ;rw[aag (hno 0 (by omega) a0 g0 rfl rfl),gY (n:=n+1) (j:=j) (λi hi a g ha hg=>hno (i+1) (by omega) a g (by simpa using ha) (by simpa using hg)) (by simpa using ha) (by simpa using hg) e]
  congr 2;omega
theorem gX{to:Int}:∀{az gl:List Int} {n:Nat},(∀(i:Nat) (a g:Int),az[i]? = some a->gl[i]? = some g->¬(a<=to/\to-a<=g))->UQ az gl n to=none
 |[],_,n,_=>rfl
 |_::_,[],n,_=>rfl
 |a0::az,g0::gl,n,hno=>by
  unfold UQ;rw[aag (hno 0 a0 g0 rfl rfl)];exact gX λi a g ha hg=>hno (i+1) a g (by simpa using ha) (by simpa using hg)
theorem Gm{h:za}{y:aaa}{ys:List Int}(S:zA h y 1 (ys.map zN))(r:TypeId)(h':za):zG Tryz.prog .len [67] r [y] h'=some (.int .i64 ys.length,h'):=by
 rcases S with⟨rfl,e⟩|⟨b,off,cp,rfl,_⟩
 ·have:ys=[]:=by simpa using e
  subst this;rw[On];rfl
 ·rw[On,aau]
theorem H9{gl:List Int}(gb:∀g,g∈gl->0<=g/\g<=65536)(XT:gl.length<=1000){i:Nat}{a:Int}(h:(vo gl 16777216)[i]? = some a):0<=a/\a<=100000000:=by
 have hi:i<gl.length:=by
  have:=(aaU.1 h).1;rw[WN]at this;exact this
 rw[pw gl 16777216 i hi]at h;have:=Jg (gl.take i) 16777216 (λg hg=>gb g (abo hg));have hl:((gl.take i).length:Int)<=1000:=by rw[aaQ];omega
 rw[abn h]at this;omega
theorem cP{b b2:Nat}{c2:List aaa}(x:zF){w:Bool}{R:aaa->za->Prop}(l2:c2.length=7)(s:Sat lo h (pt b (.cells x.row 42)::pt b2 (.cells c2 42)::L))(k:∀h',Sat lo h' (pt b (.cells x.row 42)::L)->R (xV [x.val,.bool w]) h'):opt (zd Tryz.prog 42 (rp b) h) λt=>opt (nb [t] (ux Tryz.prog 42 (rp b2) t h)) λh1=>opt (zd Tryz.prog 42 (rp b2) h1) λr0=>rv [r0,.bool w] h1 R:=by
 have g:=s.get;have:=ZK (R:=R) (w := .bool w) x rfl l2 (s.f [1,0]) (λh' s'=>k h' s');obtain⟨p,r,m,sub,cc,l,kk⟩:=x
 have e:zd Tryz.prog 42 (rp b) h=some (zF.val ⟨p,r,m,sub,cc,l,kk⟩):=by
  simp only[EE,Nat.reduceAdd,kH,uC,g]
 rw[e];simp only[EE,Nat.reduceAdd,xh];exact this
theorem zao{b3 b4 b6 b8:Nat}{op r m sub cd l to:Int}(I:MA lo cv sv gv code st gl)(t0 : -8000000000<=to)(t1:to<=8000000000)
  (s:Sat lo h (pt b4 (.cells (zF.row ⟨op,r,m,sub,cd,l,0⟩) 42)::pt b8 (.cells [.int .i64 to] 2)::pt b6 (.cells wU 42)::pt b3 (.cells (Vr cv sv gv mn pn) 31)::L)) :
  nq (rp b3) (rp b8) (rp b4) (rp b6) (Bk lo L ((UQ (vo gl 16777216) gl 0 to).map λr'=>⟨op,r,m,(r'.1:Int),cd,l,r'.2⟩)) [.bool false] h:=by
 have gn:=I.gn;have fg:=I.F4;have g3:=(s.p 3).get;unfold nq;simp only[EE,zv,qd,eI,g3];refine lG (by simp only[yi,gn,aaB]) (EU (I.rg.at s) I.gb I.F4) ?_;rintro pv h1 s1;have s2:=s.join s1;have pvn:=yP s2;have S:=xr (vU s2 aao) (xG (f:=zN) (λ_=>rfl) _);have hlen:(vo gl 16777216).length=gl.length:=WN _ _;have ln:=λr h'=>Gm S r h';rw[hlen]at ln;unfold CA;simp only[EE,nth,↓zt,ln,pvn];have s3:=s2.f [1,2,3,4,0];have s3:Sat lo h1 (pt b4 (.cells (zF.row ⟨op,r,m,sub,cd,l,0⟩) 42)::pt b8 (.cells [.int .i64 to] 2)::pt b6 (.cells wU 42)::pt b3 (.cells (Vr cv sv gv mn pn) 31)::kM 2 1 pv ((vo gl 16777216).map zN)::L):=s3;have g4:=s3.get;have g8:=(s3.p 1).get;have g3:=(s3.p 3).get;have G:=I.rg.at s3;refine qb (λm vs h'=>∃j:Nat,j<=gl.length/\m=gl.length-j/\vs=[.bool false,.int .i64 j]/\h'=h1 /\ ∀i,i<j->∀a g,(vo gl 16777216)[i]? = some a->gl[i]? = some g->¬(a<=to/\to-a<=g)) gl.length ⟨0,aaN _,rfl,rfl,rfl,λi hi=>by omega⟩ ?_;rintro m' vs h2 ⟨j,hj,rfl,rfl,rfl,hno⟩;unfold Cy;by_cases hc:(j:Int)<(gl.length:Int)
 ·obtain⟨g,hg⟩:∃g,gl[j]? = some g:=⟨_,aaf (by omega)⟩;obtain⟨a,ha⟩:∃a,(vo gl 16777216)[j]? = some a:=⟨_,aaf (show j<(vo gl 16777216).length by rw[hlen];omega)⟩;obtain⟨b1,o1,c1,t1',a1,_,a2,a3⟩:=VQ S ha;obtain⟨b2,o2,c2,t2,e1,_,e2,e3⟩:=Zf G hg;have hin:=inc (show j<4611686018427387904 by omega);have ab:=H9 I.gb I.F4 ha;have wd:IntKind.wrap .i64 (to-a)=to-a:=by simp only[IntKind.wrap,IntKind.bits,IntKind.signed];simp;omega
  have next:∀vs',vs'=[.bool false,.int .i64 ((j+1:Nat):Int)]->¬(a<=to/\to-a<=g)->∃m,m<gl.length-j /\ ∃j:Nat,j<=gl.length/\m=gl.length-j/\vs'=[Value.bool false,.int .i64 j] /\ ∀i,i<j->∀a g,(vo gl 16777216)[i]? = some a->gl[i]? = some g->¬(a<=to/\to-a<=g):=λvs' ev hn=>
   ⟨gl.length-(j+1),by omega,j+1,by omega,rfl,ev,λi hi a' g' ha' hg'=>by
    by_cases q:i<j
    ·exact hno i q a' g' ha' hg'
    ·have:i=j:=(by omega);subst this;rw[ha]at ha';rw[hg]at hg';rw[<- abn ha',<- abn hg'];exact hn⟩
  by_cases q1:to ≥ a
  ·by_cases q2:to-a<=g
   ·rw[gY hno ha hg ⟨q1,q2⟩,abz];have hne:¬b4=b8:=s3.ne;simp only[EE,nth,↓zt,Nat.reduceAdd,Nat.reduceLeDiff,acu,zv,xY,qd,zk,FJ,V9,eI,zq,zL,Cx,dg,dh,di,dk,dm,dp,hc,a1,a2,a3,g8,g3,q1,q2,wd,e1,e2,e3,oE,hne,acu,true_or];refine yj s3 (by simp) rfl λh3 s4=>?_;refine yj s4 (by simp[xK]) rfl λh4 s5=>?_;exact cP ⟨op,r,m,(j:Int),cd,l,to-a⟩ rfl (s5.f [0,2,1,3,4]) λh' s'=>⟨(s'.f [0,1,2,3]).drop.drop.drop.drop,_,_,rfl,rfl,rfl⟩
   ·simp only[EE,nth,↓zt,zv,xY,qd,zk,eI,dg,dh,di,dk,dm,dp,np,hc,a1,a2,a3,g8,g3,q1,q2,wd,e1,e2,e3,hin];exact next _ rfl (λe=>q2 e.2)
  ·simp only[EE,nth,↓zt,zv,xY,dg,dh,di,dk,dm,dp,np,hc,a1,a2,a3,g8,q1,hin];exact next _ rfl (λe=>q1 e.1)
 ·have:j=gl.length:=by omega
  subst this;rw[gX λi a g ha hg=>hno i (aaU.1 hg).1 a g ha hg];simp only[EE,nth,hc];unfold Cz;exact cP ⟨op,r,m,sub,cd,l,0⟩ rfl (s3.f [0,2,1,3,4]) λh' s'=>⟨s'.drop.drop.drop.drop,_,_,rfl,rfl⟩
theorem za6(I:MA lo cv sv gv code st gl)(k0 : -4294967296<=x.k)(k1:x.k<=4294967296)(d0:0<=behind)(d1:behind<=2000000000)(s:Sat lo h L) :
  DC Tryz.prog 33 [lJ cv sv gv mn pn,x.val,.int .i64 behind] h (Bk lo L (Yg st gl code.length x (behind+x.k))):=by
 have cn:=I.cn;have sn:=I.sn;have gn:=I.gn;have cc:=I.cc;have sc:=I.sc;have gc:=I.gc;apply ML;unfold Sq;obtain⟨op,r,m,sub,cd,l,k⟩:=x;simp only at k0 k1;have w:=(show IntKind.wrap .i64 (behind+k)=behind+k by simp only[IntKind.wrap,IntKind.bits,IntKind.signed];simp;omega);simp only[EE,Value.cells,kJ];refine qt s λb3 h2 s2=>?_;refine qt s2 λb4 h3 s3=>?_;refine qt s3 λb6 h4 s4=>?_;have g4:=(s4.p 1).get;simp only[EE,Value.cells,zv,xY,zcw,zL,g4,w];have t0 : -8000000000<=behind+k:=by omega
 have t1:behind+k<=8000000000:=by omega
 generalize behind+k=to at w t0 t1 ⊢;refine qt s4 λb8 h5 s5=>?_;simp only[FJ];refine yj s5 (by simp) rfl λh6 s6=>?_;simp only[EE,FJ,zL];refine yj (s6.p 2) (by simp) rfl λh7 s7=>?_;have s7:Sat lo h7 (pt b4 (.cells (zF.row ⟨op,r,m,sub,cd,l,0⟩) 42)::pt b8 (.cells [.int .i64 to] 2)::pt b6 (.cells wU 42)::pt b3 (.cells (Vr cv sv gv mn pn) 31)::L):=s7;have g4:=s7.get;simp only[EE,↓zt,zv,zk,zc,g4];have g8:=(s7.p 1).get;have g3:=(s7.p 3).get;have lnc:=λr h'=>zV (I.rc.at s7) r h';by_cases c1:op=18\/op=19
 ·have eg:Yg st gl code.length ⟨op,r,m,sub,cd,l,k⟩ to=if 0<=to/\to<=(code.length:Int) then some ⟨op,r,m,sub,cd,to,0⟩ else none:=by
   unfold Yg;rw[aai c1]
  rw[eg]
  have good:∀J,0<=to/\to<=(code.length:Int)->JE (rp b8) h7 (rp b3) (rp b4) (rp b6) (Bk lo L (if 0<=to/\to<=(code.length:Int) then some ⟨op,r,m,sub,cd,to,0⟩ else none)) J:=λJ hg=>by
   rw[aai hg];have n1:¬to<0:=by omega
   have n2:¬to>(code.length:Int):=by omega
   unfold JE;simp only[EE,zv,xY,YQ,jA,lN,lO,g3,g8,n1,n2,lnc,cn];unfold G7;simp only[EE,zv,xY,V9,uv,g8];refine yj s7 (by simp) rfl λh8 s8=>?_;have s8:Sat lo h8 (pt b4 (.cells (zF.row ⟨op,r,m,sub,cd,to,0⟩) 42)::pt b8 (.cells [.int .i64 to] 2)::pt b6 (.cells wU 42)::pt b3 (.cells (Vr cv sv gv mn pn) 31)::L):=s8;have g4:=s8.get
   have e:zd Tryz.prog 42 (rp b4) h8=some (zF.val ⟨op,r,m,sub,cd,to,0⟩):=by
    simp only[EE,Nat.reduceAdd,kH,uC,g4]
   simp only[EE,Nat.reduceAdd,xh,e];exact ZK ⟨op,r,m,sub,cd,to,0⟩ rfl rfl (s8.f [2,0,1,3]) λh' s'=>⟨s'.drop.drop.drop,_,_,rfl,rfl,rfl⟩
  have badg:∀J,¬(0<=to/\to<=(code.length:Int))->JE (rp b8) h7 (rp b3) (rp b4) (rp b6) (Bk lo L (if 0<=to/\to<=(code.length:Int) then some ⟨op,r,m,sub,cd,to,0⟩ else none)) J:=λJ hg=>by
   rw[aag hg];unfold JE
   have e:zd Tryz.prog 42 (rp b4) h7=some (zF.val ⟨op,r,m,sub,cd,l,0⟩):=by
    simp only[EE,Nat.reduceAdd,kH,uC,g4]
   have fin:∀J,AR (rp b4) h7 (rp b6) (Bk lo L none) J:=λJ=>by
    unfold AR;simp only[EE,Nat.reduceAdd,xh,e];exact ZK ⟨op,r,m,sub,cd,l,0⟩ rfl rfl (s7.f [2,0,1,3]) λh' s'=>⟨s'.drop.drop.drop,_,_,rfl,rfl⟩
   by_cases n1:to<0
   ·simp only[EE,zv,xY,lN,lO,g8,n1];exact fin _
   ·have n2:to>(code.length:Int):=(by omega);simp only[EE,zv,xY,YQ,jA,lN,lO,g3,g8,n1,n2,lnc,cn];exact fin _
  have both:∀J,JE (rp b8) h7 (rp b3) (rp b4) (rp b6) (Bk lo L (if 0<=to/\to<=(code.length:Int) then some ⟨op,r,m,sub,cd,to,0⟩ else none)) J:=λJ=>by
   by_cases hg:0<=to/\to<=(code.length:Int)
   ·exact good J hg
   ·exact badg J hg
  rcases c1 with rfl|rfl
  ·simp only[EE,nth,dq];exact both _
  ·simp only[EE,nth,Int.reduceEq,dq];exact both _
 have n18:¬op=18:=λe=>c1 (.inl e);have n19:¬op=19:=λe=>c1 (.inr e);by_cases c2:op=21
 ·subst c2
  have eg:Yg st gl code.length ⟨21,r,m,sub,cd,l,k⟩ to=(pC st to 0).map λ(n:Nat)=>⟨21,r,m,(n:Int),cd,l,0⟩:=by
   unfold Yg;rw[aag c1];rfl
  rw[eg];simp only[EE,nth,Int.reduceEq,zv,qd,H7,G9,AS,dq,g3,abF];refine gL (by simp only[yi,sn,aaB];rfl) (P6 (I.rs.at s7) I.T4 g8) ?_;unfold G8;simp only[EE,V9,zq];refine yj s7 (by simp) rfl λh8 s8=>?_;have s8:Sat lo h8 (pt b4 (.cells (zF.row ⟨21,r,m,BI st to,cd,l,0⟩) 42)::pt b8 (.cells [.int .i64 to] 2)::pt b6 (.cells wU 42)::pt b3 (.cells (Vr cv sv gv mn pn) 31)::L):=s8;have g4:=s8.get;have hne:¬b6=b4:=(s8.f [2,0,1,3]).ne
  have e:zd Tryz.prog 42 (rp b4) h8=some (zF.val ⟨21,r,m,BI st to,cd,l,0⟩):=by
   simp only[EE,Nat.reduceAdd,kH,uC,g4]
  simp only[EE,Nat.reduceAdd,Nat.reduceLeDiff,acu,zv,zk,xh,zq,e,g4,oE,hne,acu,true_or];refine ZK ⟨21,r,m,BI st to,cd,l,0⟩ rfl rfl (s8.f [2,0,1,3]) λh' s'=>⟨s'.drop.drop.drop,_,_,rfl,?_⟩;unfold BI;cases pC st to 0 with
  |none=>show decide ((-1:Int) ≥ 0)=false;decide
  |some n=>exact⟨aaY (show(n:Int) ≥ 0 by omega),rfl⟩
 have eg:Yg st gl code.length ⟨op,r,m,sub,cd,l,k⟩ to=(UQ (vo gl 16777216) gl 0 to).map λr'=>⟨op,r,m,(r'.1:Int),cd,l,r'.2⟩:=by
  unfold Yg;rw[aag c1,aag c2]
 rw[eg];simp only[EE,nth,AS,dq,n18,n19,c2];exact zao I t0 t1 s7
end
open Go.As (Ag jI)
open Go.Eb (uO)
theorem DN{h:za}{cv:aaa}{code:List Int}(S:yM h cv code){n:Nat}(hn:n<code.length):∃b o c,Cg Tryz.prog 29 cv (some (.int .i64 n)) none h=some (.slice (some ⟨b,o,none⟩) (code.length-n) c) /\ ∀h',yM h' cv code->yM h' (.slice (some ⟨b,o,none⟩) (code.length-n) c) (code.drop n):=by
 rcases S with⟨rfl,e⟩|⟨b,off,cp,rfl,hc⟩
 ·have:code=[]:=by simpa using e
  subst this;cases hn
 ·refine⟨b,off+n,cond (wide Tryz.prog h b 1) (Uc cp n) 0,?_,λh' S'=>?_⟩
  ·rw[Zl,aau];have e1:uB none code.length code.length=some code.length:=VO ..
   have e2:uB (some (.int .i64 (n:Int))) 0 code.length=some n:=by
    rw[W3];have:(n:Int)<=code.length:=by omega
    simp only[show(0:Int)<=n by omega,this,abl,and_self,abS]
   rw[e1];simp only[abf,e2,acp]
  ·rcases S' with⟨e,_⟩|⟨b',off',cp',e,hc'⟩
   ·cases e
   ·simp only[Value.slice.injEq,aab,acf]at e;obtain⟨⟨rfl,rfl,_⟩,_,rfl⟩:=e;refine .inr ⟨b,off+n,cond (wide Tryz.prog h b 1) (Uc cp n) 0,?_,λ_=>?_⟩
    ·rw[aau,abh]
    ·obtain⟨c,t,h1,h2,h3⟩:=hc' (by intro q;have:code=[]:=by simpa using q
                                   subst this;cases hn)
     refine⟨c,t,h1,h2,λi r hr=>?_⟩;have:=h3 (n+i) r (by rw[aaA]at hr ⊢;rw[aaS]at hr;exact hr);have e:off+(n+i)*1=off+n+i*1:=by omega
     rw[e]at this;exact this
section
variable {lo:y4}{h:za}{L:List HP}{cv sv gv:aaa}{code st gl:List Int}{mn pn:Int}{i:Int}
def LD(code st gl:List Int)(i:Int):aaa:=if 0<=i/\i<code.length then (match Bx st gl code.length (code.drop i.toNat) i.toNat with
 |some r=>xV [r.1.val,.int .i64 r.2,.int .i64 0]
 |none=>xV [YN.val,.int .i64 0,.int .i64 7]) else xV [YN.val,.int .i64 0,.int .i64 1]
theorem O4{b2:Nat}{c2:List aaa}(x:zF){w1 w2:aaa}{R:aaa->za->Prop}(hw1:zQ w1=false)(hw2:zQ w2=false)(l2:c2.length=7)(s:Sat lo h (pt b2 (.cells c2 42)::L))(k:∀h',Sat lo h' L->R (xV [x.val,w1,w2]) h'):opt (AK h b2 0 x.row) λh1=>opt (zd Tryz.prog 42 (rp b2) h1) λr0=>rv [r0,w1,w2] h1 R:=by
 obtain⟨v0,v1,v2,v3,v4,v5,v6,rfl⟩:∃v0 v1 v2 v3 v4 v5 v6,c2=[v0,v1,v2,v3,v4,v5,v6]:=by
  match c2,l2 with
  |[v0,v1,v2,v3,v4,v5,v6],_=>exact⟨v0,v1,v2,v3,v4,v5,v6,rfl⟩
 refine yj s (by simp) rfl λh1 s1=>?_;have g1:=s1.get;simp only[EE,zu,Nat.reduceAdd,kH,uC,g1];refine⟨?_,k _ s1.drop⟩;simp only[yi,hw1,hw2,aaB];rfl
abbrev zbs(lo:y4)(L:List HP)(r:Option (zF×Nat))(v:aaa)(h':za):Prop:=(v=match r with
 |some r=>xV [r.1.val,.int .i64 r.2,.int .i64 0]
 |none=>xV [YN.val,.int .i64 0,.int .i64 7])/\Sat lo h' L
theorem FU{b2 b4 b8 b26:Nat}{bv:aaa}{t:RS}{x:zF}{ok:Bool}{vs:List aaa}{r:Option (zF×Nat)}(I:MA lo cv sv gv code st gl)(hr:r=if ok=true then (if jI gl x=true then some (x,t.1) else none) else none)
  (s:Sat lo h (pt b8 (.cells x.row 42)::pt b26 (ZX bv t)::pt b4 (.cells wU 42)::pt b2 (.cells (Vr cv sv gv mn pn) 31)::L)) :
  bM (rp b8) (rp b2) (rp b4) (zbs lo L r) vs (rp b26) [.bool ok] h:=by
 have gn:=I.gn;have g2:=(s.p 3).get;have g26:=(s.p 1).get;have g8:=s.get
 have bad:U2 (rp b4) h (zbs lo L none) (λ_ _=>True):=by
  unfold U2;simp only[EE,Nat.reduceAdd,xh,W7];exact O4 YN rfl rfl rfl (s.f [2,0,1,3]) λh' s'=>⟨rfl,s'.drop.drop.drop⟩
 unfold U2 at bad
 have e:zd Tryz.prog 42 (rp b8) h=some x.val:=by
  obtain⟨op,r,m,sub,cd,l,k⟩:=x;simp only[EE,Nat.reduceAdd,kH,uC,g8]
 have hne:¬b4=b26:=(s.f [2,1,0,3]).ne;unfold bM;cases ok with
 |false=>
  rw[aag (by decide)]at hr;subst hr;simp only[EE,nth,U3,bL];exact bad
 |true=>
  simp only[EE,nth,zv,qd,eI,bL,e,g2];refine gL (by simp only[yi,gn,aaB];rfl) (Ag (I.rg.at s)) ?_;cases hb:jI gl x with
  |false=>
   rw[aai rfl,hb,aag (by decide)]at hr;subst hr;simp only[EE,U3];exact bad
  |true=>
   rw[aai rfl,hb,aai rfl]at hr;subst hr;simp only[EE,Nat.reduceAdd,Nat.reduceLeDiff,acu,zv,zk,xh,eJ,nc,U3,e,g26,oE,hne,acu,true_or];exact O4 x rfl rfl rfl (s.f [2,0,1,3]) λh' s'=>⟨rfl,s'.drop.drop.drop⟩
theorem NS(I:MA lo cv sv gv code st gl)(bl:yH code)(s:Sat lo h L):DC Tryz.prog 16 [lJ cv sv gv mn pn,.int .i64 i] h (λv h'=>v=LD code st gl i/\Sat lo h' L):=by
 have cn:=I.cn;have sn:=I.sn;have gn:=I.gn;have cc:=I.cc;have sc:=I.sc;have gc:=I.gc;have XT:=I.XT;apply Cs;unfold Cr;simp only[EE,Value.cells,kJ];refine qt s λb2 h2 s2=>?_;refine qt s2 λb4 h4 s4=>?_;have g2:=(s4.p 1).get;have lnc:=λr h'=>zV (I.rc.at s4) r h';unfold LD
 have out:¬(0<=i/\i<code.length)->∀J,bK (rp b4) h4 (λv h'=>v=(if 0<=i/\i<code.length then (match Bx st gl code.length (code.drop i.toNat) i.toNat with
  |some r=>xV [r.1.val,.int .i64 r.2,.int .i64 0]
  |none=>xV [YN.val,.int .i64 0,.int .i64 7]) else xV [YN.val,.int .i64 0,.int .i64 1])/\Sat lo h' L) J:=λhn J=>by
  rw[aag hn];unfold bK;simp only[EE,Nat.reduceAdd,xh,W7];exact O4 YN rfl rfl rfl s4 λh' s'=>⟨rfl,s'.drop⟩
 by_cases c1:i<0
 ·simp only[EE,Vv,Vw,c1];exact out (by omega) _
 by_cases c2:i ≥ (code.length:Int)
 ·simp only[EE,zv,YQ,jA,Vv,Vw,c1,c2,g2,lnc,cn];exact out (by omega) _
 simp only[EE,zv,YQ,jA,Vv,Vw,c1,c2,g2,lnc,cn];rw[aai ⟨by omega,by omega⟩];obtain⟨n,rfl⟩:∃n:Nat,i=n:=⟨i.toNat,by omega⟩;have hn:n<code.length:=by omega
 rw[abl];obtain⟨bb,bo,bc,ea,bS⟩:=DN (I.rc.at s4) hn;unfold nf;simp only[EE,Value.cells,zv,YQ,PD,jA,g2,cn,ea,ace];refine qt s4 λb26 h5 s5=>?_;have bd:yH (code.drop n):=λx hx=>bl x (aby hx);have B:Kw lo (.slice (some ⟨bb,bo,none⟩) (code.length-n) bc) (code.drop n):=⟨λh b=>bS h (I.rc h b),rfl,by rw[abh];omega,bd⟩;refine QJ (zbT B s5) ?_;rintro v h6 ⟨rfl,s6⟩
 have hE:Bx st gl code.length (code.drop n) n=if (xH (code.drop n)).2.2.2=true then none
  else if (xH (code.drop n)).2.1=true then (match Yg st gl code.length (xH (code.drop n)).1 (((n+(xH (code.drop n)).2.2.1:Nat):Int)+(xH (code.drop n)).1.k) with
   |some i=>if jI gl i=true then some (i,(xH (code.drop n)).2.2.1) else none
   |none=>none)
  else if jI gl (xH (code.drop n)).1=true then some ((xH (code.drop n)).1,(xH (code.drop n)).2.2.1) else none:=rfl
 have W:(xH (code.drop n)).2.2.2=false->(xH (code.drop n)).2.1=true->(xH (code.drop n)).2.2.1<=7 /\ -4294967296<=(xH (code.drop n)).1.k/\(xH (code.drop n)).1.k<=4294967296:=λhok hfar=>by
  have W:=eQ bd hok;unfold Go.En.Read at W;rw[aai hfar]at W;obtain⟨y,d,F,hd,e1,A⟩:=W;have e1:(xH (code.drop n)).1 = {y with k:=d}:=e1;have hn0:(xH (code.drop n)).2.2.1=(zf y d).length:=by have:=A.2.2.1;simpa using this
  have hlen:=BA F d;rw[e1,hn0];refine⟨by omega,?_⟩;have:=hd;unfold Go.Ar.zS at this;simp only[aad,aaF]at this;show -4294967296<=d/\d<=4294967296;omega
 generalize Bx st gl code.length (code.drop n) n=r at hE ⊢;generalize (xH (code.drop n)).1=x at W hE ⊢;generalize (xH (code.drop n)).2.1=far at W hE ⊢;generalize (xH (code.drop n)).2.2=t at W s6 hE ⊢;obtain⟨k,bad⟩:=t;simp only at W hE;have er:xV [x.val,.bool far]=.tuple #[x.val,.bool far]:=rfl;rw[er];unfold nd;simp only[EE,Value.cells,kJ];refine qt s6 λb8 h7 s7=>?_;simp only[EE,Nat.reduceAdd,xh];refine yj s7 (by simp) rfl λh8 s8=>?_;have s8:Sat lo h8 (pt b8 (.cells x.row 42)::pt b26 (ZX (.slice (some ⟨bb,bo,none⟩) (code.length-n) bc) (k,bad))::pt b4 (.cells wU 42)::pt b2 (.cells (Vr cv sv gv mn pn) 31)::L):=s8;have g26:=(s8.p 1).get;cases bad with
 |true=>
  simp only[EE,zv,ZH,yN,g26];exact FU (ok:=false) I (by rw[hE,aai rfl,aag (by decide)]) s8
 |false=>
  cases far with
  |false=>
   simp only[EE,zv,ZH,yN,g26];exact FU (ok:=true) I (by rw[hE,aag (by decide),aag (by decide),aai rfl]) s8
  |true=>
   simp only[EE,zv,ZH,yN,g26];obtain⟨k7,x0,x1⟩:=W rfl rfl;have g2:=(s8.p 3).get;have g8:=s8.get
   have e8:zd Tryz.prog 42 (rp b8) h8=some x.val:=by
    obtain⟨op,r,m,sub,cd,l,k⟩:=x;simp only[EE,Nat.reduceAdd,kH,uC,g8]
   have e2:zd Tryz.prog 31 (rp b2) h8=some (lJ cv sv gv mn pn):=by
    simp only[EE,Nat.reduceAdd,kH,DE,g2]
   have w:IntKind.wrap .i64 ((n:Int)+(k:Int))=((n+k:Nat):Int):=by
    simp only[IntKind.wrap,IntKind.bits,IntKind.signed];simp;omega
   unfold na;simp only[EE,zv,zk,eJ,e8,e2,g26,w];refine cdo (za6 (behind:=((n+k:Nat):Int)) I x0 x1 (by omega) (by omega) s8) ?_;rintro v h9 ⟨s9,y,ok,rfl,hy⟩;have er:xV [y.val,.bool ok]=.tuple #[y.val,.bool ok]:=rfl;rw[er];simp only[EE,Nat.reduceAdd,xh];refine yj s9 (by simp) rfl λh10 s10=>?_;refine FU (x:=y) (ok:=ok) I ?_ s10;rw[hE,aag (by decide),aai rfl];cases hg:Yg st gl code.length x (((n+k:Nat):Int)+x.k) with
   |none=>
    rw[hg]at hy;have hy:ok=false:=hy;subst hy;rfl
   |some i=>
    rw[hg]at hy;obtain⟨rfl,rfl⟩:=hy;rfl
end
end Go.Ed
namespace Go.Ec
open Go.Ai Go.Proofs Go.Proofs.Tryz
noncomputable abbrev zz:=prog
abbrev VK:=aaa->za->Prop
abbrev LK:=List aaa->za->Prop
abbrev ci(n:Int):Operand := .const (.int .i64 n)
abbrev fn(n:Nat):aaa := .func (.func n) #[] #[]
variable {h:za}{t0 t1 t2 t3 t4 t5 t6:aaa}{R:VK}
def qs:FuncId->Nat:=λg=>([(31,2)].lookup g).getD 0
theorem mixed:prog.follows .mixedOrders=true:=acg Tryz.checked
theorem xp{f:FuncId}{args:List aaa}{X:Prop}(e:Pu zz (ba zz qs) 200 f args h R=X)(hw:X):DC zz f args h R:=Up mixed (q:=qs) (n:=200) (Eq.mpr e hw)
def lR:=λc (R:VK) d (e:LK) f (a:za)=>
 opt (pk c f (.bool false)) λg=>CD g (λb=>rv [.bool false] a R)
 (λb=>b [nth d 0] a)
 (λh i=>e [nth h 0] i)
def lS:=λa (R:VK) c (d:LK) e (b:za)=>
 zg a true (zi .gtr 2 63 e 1024) b (lR a R c d) b
def lT:=λa (R:VK) d (e:LK) f (c:za)=>
 zg a true (zp zz 42 f 6) c (λg b=>zg a true (zd zz 2 g b) b (lS a R d e) b) c
def lU:=λa b (R:VK) (e:LK) f (c:za)=>
 GD a true (λg=>g (nth b 1) c) (λh d=>zg a true (xR zz 48 f h) d (lT a R b e) d) c
def lV:=λa d (R:VK) (e:LK) f (c:za)=>
 zg a true (zp zz 50 f 1) c (λg b=>zg a true (zd zz 48 g b) b (lU a d R e) b) c
def lW:=λa d e (R:VK) (f:LK) g (b:za)=>
 GD a true (λh=>h (nth d 1) b) (λi c=>zg a true (xR zz 23 g i) c (lV a e R f) c) b
def lX:=λd (a:za) e f (R:VK) (g:LK)=>
 zI 25 d 1 23 a λh=>opt (xR zz 23 h (nth e 1)) λi=>zI 50 i 1 48 a λj=>opt (xR zz 48 j (nth f 1)) λk=>zI 42 k 0 3 a λl=>opt (zi .eql 3 51 l 23) λb=>zg b true (zp zz 25 d 1) a (λm c=>zg b true (zd zz 23 m c) c (lW b e f R g) c) a
def AX:=λa (b:LK) c (d:za)=>
 opt (zi .add 3 40 (nth a 1) 1) λe=>b [nth c 0,e] d
def Hd:=λc d (g:LK) (R:VK) a (b:za) (h:LK)=>
 zI 25 c 1 23 b λi=>opt (xR zz 23 i (nth d 1)) λj=>zI 50 j 1 48 b λk=>zD (uy 48 k b) λl e=>opt (xL .lss 3 31 38 (nth a 1) l) λm=>CD m (λf=>f [] e)
 (λf=>g [nth a 0] e)
 (λo n=>BK (lX c n d a R)
 (AX a h))
def nD:=λc (a:za) b (R:VK) (f:LK)=>
 zI 25 c 1 23 a λg=>opt (xR zz 23 g (nth b 1)) λh=>zI 50 h 1 48 a λi=>zD (uy 48 i a) λj d=>opt (zi .gtr 3 29 j 60) λk=>CD k (λe=>rv [.bool false] d R)
 (λe=>e [nth b 0] d)
 (λl m=>BK (λn=>LP (Hd c b n R)
 [nth l 0,.int .i64 0] m)
 (λo p=>f [nth o 0] p))
def CG:=λa (b:LK) c (d:za)=>
 opt (zi .add 3 21 (nth a 1) 1) λe=>b [nth c 0,e] d
def CH:=λb (f:LK) (R:VK) a (c:za) (g:LK)=>
 zI 25 b 1 23 c λh=>zD (uy 23 h c) λi d=>opt (xL .lss 3 16 19 (nth a 1) i) λj=>CD j (λe=>e [] d)
 (λe=>f [nth a 0] d)
 (λl k=>BK (nD b k a R)
 (CG a g))
def nE:=λd (a:za) b (R:VK) (e:LK)=>
 zI 25 d 0 22 a λf=>qk 22 f (nth b 1) 3 a λg=>opt (zi .gtr 3 77 g 1024) λh=>CD h (λc=>rv [.bool false] a R)
 (λc=>c [nth b 0] a)
 (λi j=>e [nth i 0] j)
def CI:=λa (b:LK) c (d:za)=>
 opt (zi .add 3 71 (nth a 1) 1) λe=>b [nth c 0,e] d
def CJ:=λb (f:LK) (R:VK) a (c:za) (g:LK)=>
 zI 25 b 0 22 c λh=>zD (uy 22 h c) λi d=>opt (xL .lss 3 66 69 (nth a 1) i) λj=>CD j (λe=>e [] d)
 (λe=>f [nth a 0] d)
 (λl k=>BK (nE b k a R)
 (CI a g))
def CK:=λa (R:VK) b (c:za)=>
 BK (λd=>LP (CH a d R)
 [nth b 0,.int .i64 0] c)
 (λe f=>BK (λg=>LP (CJ a g R)
 [nth e 0,.int .i64 0] f)
 (λi h=>rv [.bool true] h R))
def dK:=λa (R:VK) e f (b:za)=>
 zg a false (zi .gtr 3 13 f 6) b (λg c=>opt (pk a (.bool true) g) λh=>CD h (λd=>rv [.bool false] c R)
 (λd=>d [.bool false] c)
 (CK e R)) b
def dL:=λa (R:VK) d e (b:za)=>
 zg a false (zd zz 22 e b) b (λf c=>GD a false (λg=>zD (uy 22 f c) λh i=>g h i) (dK a R d) c) b
def St:=λ(h:za) b (R:VK)=>
 opt (nb [b] (some (Value.cells b).toList)) λf=>nw h f 25 λa c=>zI 25 a 1 23 c λg=>zD (uy 23 g c) λi d=>opt (zi .gtr 3 8 i 6) λe=>zg e false (zp zz 25 a 0) d (dL e R a) d
theorem MS(hw:St h t0 R):DC zz 8 [t0] h R:=xp (by kernel_rfl) hw
end Go.Ec
namespace Go.Ai
open Go.Ai Go.Proofs
end Go.Ai
namespace Go.Ec
open Go.Ai Go.Proofs
open Go.Rtl (zE zA Old inc yD xk)
open Go.Rm (zN xG Rd Rd.of Rd.at kM xr)
open Go.As (zF Pg X4 kP XR uW Zf qw jQ vE)
open Go.Eb (yM vN oH yO)
structure Small (p:Pg):Prop where
 fl:p.funcs.length<=6
 gl:p.globals.length<=6
 cf:∀f,f∈p.funcs->f.code.length<=60
theorem rD{p:Pg}(S:Small p):Go.En.wI p.funcs<=1000000:=by
 have:∀fs:List Go.As.Fn,(∀f,f∈fs->f.code.length<=60)->Go.En.wI fs<=600*fs.length:=λfs=>by
  induction fs with
  |nil=>intro _;exact aaj _
  |cons f fs ih=>
   intro h;have a:=ih λg hg=>h g (aaz _ hg);have b:=h f aao;have c:=Go.En.E7 f.code;show Go.En.wN f.code+Go.En.wI fs<=600*(fs.length+1);omega
 have a:=this p.funcs S.cf;have:=S.fl;omega
section
variable {h:za}{p:Pg}
theorem S9(P:kP h p):DC Tryz.prog 8 [p.val] h (λv h'=>∃B,v=.bool B/\(B=true->Small p)/\Sat (.of h) h' []):=by
 apply Wg;intro wf;have s0:Sat (.of h) h []:=Sat.self wf.2;have RP:Rd (.of h) (kP · p):=Rd.of (y4.jP h) P λh' o=>P.old o;apply MS;unfold St;have gvn:=P.globals.QU;have gvc:=P.globals.FQ;have fvn:=P.funcs.QU;have fvc:=P.funcs.FQ;simp only[EE,Value.cells];refine qt s0 λb5 h2 s2=>?_;have g5:=s2.get;have no:∀h' L,Sat (.of h) h' (pt b5 (.cells p.row 25)::L)->∃B,Value.bool false=.bool B/\(B=true->Small p)/\Sat (.of h) h' L:=λh' L s=>⟨false,rfl,λq=>(by cases q),s.drop⟩;have fl:=jQ (RP.at s2).funcs 3;have gl:=qw (RP.at s2).globals 3;by_cases c1:(p.funcs.length:Int)>6
 ·simp only[EE,zv,kI,vu,dK,dL,g5,fvn,fl,c1];exact no _ [] s2
 by_cases c2:(p.globals.length:Int)>6
 ·simp only[EE,zv,qd,kI,vO,vu,dK,dL,g5,gvn,fvn,fl,gl,c1,c2];exact no _ [] s2
 simp only[EE,nth,↓zt,zv,qd,kI,vO,vu,CK,dK,dL,g5,gvn,fvn,fl,gl,c1,c2];refine qb (λm vs h'=>∃(i:Nat) (v0:aaa),i<=p.funcs.length/\m=p.funcs.length-i/\vs=[v0,.int .i64 (i:Nat)]/\(∀f,f∈p.funcs.take i->f.code.length<=60)/\h'=h2) p.funcs.length ⟨0,_,aaN _,rfl,rfl,λf hf=>by simp at hf,rfl⟩ ?_;rintro m vs h' ⟨i,v0,hi,rfl,rfl,hsm,rfl⟩;unfold CH;by_cases hc:(i:Int)<(p.funcs.length:Int)
 ·obtain⟨f,hf⟩:∃f,p.funcs[i]? = some f:=⟨_,aaf (by omega)⟩;obtain⟨bf,o,cf,tf,hix,hbf,hgf,hof,htf,hkf⟩:=XR (RP.at s2).funcs (i:=i) (r:=f.row) (by rw[aaA,hf];rfl) rfl;have F:=(RP.at s2).fns f (aax hf);have cn:=F.code.QU;have cl:=vE F.code 3;have k1:=hkf 1 (by decide);have k1:cf[o+1]? = some f.cv:=k1;have hin:=inc (show i<4611686018427387904 by omega);by_cases d1:(f.code.length:Int)>60
  ·simp only[EE,nth,↓zt,zv,kI,Yw,vu,qy,nD,hc,g5,fvn,fl,hix,hgf,k1,cn,cl,d1];exact no _ [] s2
  simp only[EE,nth,↓zt,zv,kI,Yw,vu,qy,nD,CG,hc,g5,fvn,fl,hix,hgf,k1,cn,cl,d1]
  have hsm2:∀g,g∈p.funcs.take (i+1)->g.code.length<=60:=λg hg=>by
   rw[abb,hf]at hg;rcases aaG.1 hg with q|q
   ·exact hsm g q
   ·simp at q;subst q;omega
  refine qb (λm vs h9=>∃(j:Nat) (v0:aaa),j<=f.code.length/\m=f.code.length-j/\vs=[v0,.int .i64 (j:Nat)]/\h9=h') f.code.length ⟨0,_,aaN _,rfl,rfl,rfl⟩ ?_;rintro m vs h9 ⟨j,v1,hj,rfl,rfl,rfl⟩;unfold Hd;by_cases hc2:(j:Int)<(f.code.length:Int)
  ·obtain⟨x,hx⟩:∃x,f.code[j]? = some x:=⟨_,aaf (by omega)⟩;obtain⟨bi,oi,ci,ti,ha,hbi,hgi,hle,htk,hki⟩:=uW F.code (i:=j) (r:=x.row) (by rw[aaA,hx];rfl) rfl;have q0:=hki 0 (by decide);have q0:ci[oi]? = some (.int .i64 x.op):=q0;have q6:=hki 6 (by decide);have q6:ci[oi+6]? = some (.int .i64 x.k):=q6;have hjn:=inc (show j<4611686018427387904 by omega);by_cases e1:x.op=23
   ·by_cases e2:x.k>1024
    ·simp only[EE,nth,↓zt,zv,xY,kI,zk,Yw,vu,zc,zL,qy,lR,lS,lT,lU,lV,lW,lX,hc2,g5,hix,hgf,k1,cn,cl,ha,hgi,q0,q6,e1,e2];exact no _ [] s2
    ·simp only[EE,nth,↓zt,zv,xY,kI,zk,Yw,vu,zc,zL,qy,lR,lS,lT,lU,lV,lW,lX,AX,hc2,g5,hix,hgf,k1,cn,cl,ha,hgi,q0,q6,e1,e2,hjn];exact⟨f.code.length-(j+1),by omega,j+1,_,by omega,rfl,rfl⟩
   ·simp only[EE,nth,↓zt,zv,kI,zk,Yw,vu,zc,qy,lR,lS,lT,lU,lV,lW,lX,AX,hc2,g5,hix,hgf,k1,cn,cl,ha,hgi,q0,e1,hjn];exact⟨f.code.length-(j+1),by omega,j+1,_,by omega,rfl,rfl⟩
  ·simp only[EE,nth,zv,kI,Yw,vu,qy,hc2,g5,hix,hgf,k1,cn,cl,hin];exact⟨p.funcs.length-(i+1),by omega,i+1,_,by omega,rfl,rfl,hsm2⟩
 have ei:i=p.funcs.length:=by omega
 subst ei;rw[abv]at hsm;simp only[EE,nth,zv,kI,vu,hc,g5,fvn,fl];refine qb (λm vs h9=>∃(i:Nat) (v0:aaa),i<=p.globals.length/\m=p.globals.length-i/\vs=[v0,.int .i64 (i:Nat)]/\h9=h') p.globals.length ⟨0,_,aaN _,rfl,rfl,rfl⟩ ?_;rintro m vs h9 ⟨i,v0,hi,rfl,rfl,rfl⟩;unfold CJ;by_cases hc:(i:Int)<(p.globals.length:Int)
 ·obtain⟨z,hz⟩:∃z,p.globals[i]? = some z:=⟨_,aaf (by omega)⟩;obtain⟨b11,o11,c11,t11,ix11,lt11,g11,k11⟩:=Zf (RP.at s2).globals hz;have hin:=inc (show i<4611686018427387904 by omega);by_cases d1:z>1024
  ·simp only[EE,nth,↓zt,zv,qd,zk,vO,nE,hc,g5,gvn,gl,ix11,g11,k11,d1];exact no _ [] s2
  ·simp only[EE,nth,↓zt,zv,qd,zk,vO,nE,CI,hc,g5,gvn,gl,ix11,g11,k11,d1,hin];exact⟨p.globals.length-(i+1),by omega,i+1,_,by omega,rfl,rfl⟩
 ·simp only[EE,nth,zv,qd,vO,hc,g5,gvn,gl];exact⟨true,rfl,λ_=>⟨by omega,by omega,hsm⟩,s2.drop⟩
end
open Go.Eb (W9)
section
variable {h:za}{p q:Pg}
theorem FP(zs:List Int):∀s:ByteArray,bytesOf (zs.map λz=>Value.int .u8 z) s=some (zs.foldl (λs z=>s.push (UInt8.ofNat z.toNat)) s):=by
 induction zs with
 |nil=>intro s;rfl
 |cons z zs ih=>
  intro s;exact ih _
def YW(zs:List Int):ByteArray:=zs.foldl (λs z=>s.push (UInt8.ofNat z.toNat)) .empty
theorem OD(h:za):xg Tryz.prog 29 9 (.slice none 0 0) h=some (.string (YW []),h):=by kernel_rfl
theorem ij{v:aaa}{zs:List Int}(S:yM h v zs):xg Tryz.prog 29 9 v h=some (.string (YW zs),h):=by
 have S0:=S
 have ab:M7 h v=some (.string (YW zs)):=by
  rcases S with⟨rfl,e⟩|⟨b,off,cp,rfl,hc⟩
  ·have:zs=[]:=by simpa using e
   subst this;rfl
  ·have f:=(vN S0).2;rw[aau];unfold M7;by_cases h0:zs.length=0
   ·have:zs=[]:=abC.1 h0;subst this;rfl
   ·have hb:Nat.beq zs.length 0=false:=by
     cases hz:Nat.beq zs.length 0 with
     |false=>rfl
     |true=>exact absurd (aak hz) h0
    obtain⟨c,t,_,hg,_⟩:=hc (by intro e;exact h0 (by simpa using congrArg List.length e));simp only[qP,hg,acp,hb,aaB]at f;simp only[hb,aaB,hg];cases hl:Nat.ble (off+zs.length) c.length with
    |false=>rw[hl]at f;cases f
    |true=>
     rw[hl]at f;simp only[aav,aab]at f ⊢;rw[f,FP];rfl
 have h1:yg Tryz.prog (underlying 29)=some (.slice 5):=by kernel_rfl
 have h2:yg Tryz.prog (underlying 9)=some .string:=by kernel_rfl
 have h3:yg Tryz.prog (underlying 5)=some (.int .u8):=by kernel_rfl
 rcases S0 with⟨rfl,e⟩|⟨b,off,cp,rfl,hc⟩
 ·have:zs=[]:=by simpa using e
  subst this;exact OD h
 ·have h5:(cond (flat (.slice (some ⟨b,off,none⟩) (zs.map yO).length cp)) (fl (yg Tryz.prog (convert 29 9 (.slice (some ⟨b,off,none⟩) (zs.map yO).length cp)))) none)=none:=rfl;unfold xg QC;rw[h5];simp only[h1,h2,h3,ab,abN]
end
end Go.Ec
namespace Go.Ed
open Go.Ai Go.Proofs
open Go.Rtl (zE zA Old inc yD xk vq gT vU)
open Go.Rm (kM xr yP zN xG Rd Rd.of Rd.at Rd.mono)
open Go.As (zF Pg Zf qw)
open Go.Eb (yM yO zV eT vv uO vN)
open Go.Ec (ij YW)
open Go.En
theorem eD{h:za}{cv:aaa}{code:List Int}(S:yM h cv code){i j:Nat}(hi:i<=j)(hj:j<=code.length){lo:Option aaa}(hlo:(lo=none/\i=0)\/lo=some (.int .i64 i)):∃bv,Cg Tryz.prog 29 cv lo (some (.int .i64 j)) h=some bv/\zQ bv=false /\ ∀h',yM h' cv code->yM h' bv ((code.drop i).take (j-i)):=by
 have el:∀m:Nat,i<=m->uB lo 0 m=some i:=λm hm=>by
  rcases hlo with⟨rfl,rfl⟩|rfl
  ·exact VO ..
  ·rw[W3];have:(i:Int)<=m:=by omega
   simp only[show(0:Int)<=i by omega,this,abl,and_self,abS]
 have eh:uB (some (.int .i64 (j:Int))) code.length code.length=some j:=by
  rw[W3];have:(j:Int)<=code.length:=by omega
  simp only[show(0:Int)<=j by omega,this,abl,and_self,abS]
 rcases S with⟨rfl,e⟩|⟨b,off,cp,rfl,hc⟩
 ·have:code=[]:=by simpa using e
  subst this;have:j=0:=by simpa using hj
  subst this;have:i=0:=by omega
  subst this;refine⟨.slice none 0 0,?_,rfl,λh' S'=>S'⟩;rw[qQ];have eh':uB (some (.int .i64 ((0:Nat):Int))) 0 0=some 0:=eh;rw[eh'];simp only[abf,el 0 (aaj _)]
 ·refine⟨.slice (some ⟨b,off+i,none⟩) (j-i) (cond (wide Tryz.prog h b 1) (Uc cp i) 0),?_,rfl,λh' S'=>?_⟩
  ·rw[Zl,aau,eh];simp only[abf,el j hi,acp]
  ·rcases S' with⟨e,_⟩|⟨b',off',cp',e,hc'⟩
   ·cases e
   ·simp only[Value.slice.injEq,aab,acf]at e;obtain⟨⟨rfl,rfl,_⟩,_,rfl⟩:=e;refine .inr ⟨b,off+i,cond (wide Tryz.prog h b 1) (Uc cp i) 0,?_,λhne=>?_⟩
    ·rw[aau,aaQ,abh,abW (by omega)]
    ·obtain⟨c,t,h1,h2,h3⟩:=hc' (by
      intro q;have:code=[]:=by simpa using q
      subst this;exact hne (by simp))
     refine⟨c,t,h1,h2,λk r hr=>?_⟩;rw[aaA]at hr
     have hk:k<j-i:=by
      have:=(aaU.1 (show(((code.drop i).take (j-i)).map yO)[k]? = some r by rw[aaA];exact hr)).1;rw[aau,aaQ]at this;omega
     rw[aa0 hk,aaS]at hr;have:=h3 (i+k) r (by rw[aaA];exact hr);have e:off+(i+k)*1=off+i+k*1:=by omega
     rw[e]at this;exact this
def pA(bs:List Int):Int:=if bs.length=4 then XV bs else VW bs
theorem w32(v:Int):IntKind.wrap .i32 (IntKind.wrap .u32 v)=IntKind.wrap .i32 v:=by
 simp only[IntKind.wrap,IntKind.bits,IntKind.signed];simp
theorem Gi{h:za}{bv:aaa}{bs:List Int}(S:yM h bv bs)(hb:yH bs)(XT:bs.length<=8):wX Tryz.prog 75 [bv] h (.int .i64 (pA bs)):=by
 apply vq;replace S:yM h.lock bv bs:=zA.lock S;apply I7;unfold MV;generalize h.lock=H at S;have sn:zQ bv=false:=zA.QU S;have ln:=λr h'=>zV S r h';simp only[↓zt];refine qb (λm vs h'=>∃j:Nat,j<=bs.length/\m=bs.length-j/\vs=[.int .u64 (X3 (bs.take j)),.int .i64 j]/\h'=H) bs.length ⟨0,aaN _,rfl,rfl,rfl⟩ ?_;rintro m vs h1 ⟨j,hj,rfl,rfl,rfl⟩;unfold CR;by_cases hc:(j:Int)<(bs.length:Int)
 ·obtain⟨z,hz⟩:∃z,bs[j]? = some z:=⟨_,aaf (by omega)⟩;obtain⟨b,o,c,t,a1,_,a2,a3⟩:=DO S hz;have zb:=hb z (aax hz);have et:bs.take (j+1)=bs.take j++[z]:=by rw[abb,hz];rfl
  have hin:=inc (show j<4611686018427387904 by omega);obtain⟨v0,v1⟩:=ig (bs.take j) λx hx=>hb x (abo hx);have ll:(bs.take j).length=j:=by rw[aaQ];omega
  rw[ll]at v1;have om:=Iw (i:=j) (by omega) v0 v1 zb.1 zb.2;have es:X3 (bs.take j)+z*2^(8*j)=X3 (bs.take (j+1)):=by rw[et,mo,ll]
  rw[es]at om
  have e8:IntKind.wrap .i64 (8*(j:Int))=8*(j:Int):=by
   simp only[IntKind.wrap,IntKind.bits,IntKind.signed];simp;omega
  have e9:IntKind.wrap .u64 (8*(j:Int))=8*(j:Int):=by
   simp only[IntKind.wrap,IntKind.bits,IntKind.signed];simp;omega
  have n9:(8*(j:Int)) ≥ 0:=by omega
  have n8:¬(8*(j:Int))<0:=by omega
  simp only[EE,nth,↓zt,zv,Xd,H2,D4,CP,CQ,sn,ln,hc,a1,a2,a3,e8,e9,n9,hin,om];exact⟨bs.length-(j+1),by omega,j+1,by omega,rfl,rfl⟩
 ·have:j=bs.length:=by omega
  subst this;rw[abv];simp only[EE,nth,sn,ln,hc];unfold CT pA;by_cases h4:bs.length=4
  ·have h4':decide ((bs.length:Int)=4)=true:=aaY (by omega);rw[aai h4];simp only[EE,nth,FR,LB,Bv,CS,sn,ln,h4',w32];rfl
  ·have h4':decide ((bs.length:Int)=4)=false:=aaX (by omega);rw[aag h4];simp only[EE,nth,NR,sn,ln,h4'];rfl
theorem HF(bs:ByteArray):∀(n i:Nat) (r:List UInt8),bs.size-i=n->ByteArray.toList.loop bs i r=r.reverse++bs.data.toList.drop i
 |0,i,r,h=>by
  unfold ByteArray.toList.loop;have hh:¬i<bs.size:=by omega
  rw[aag hh]
  have:bs.data.toList.length<=i:=by
   have:bs.data.toList.length=bs.size:=abg;omega
  rw[List.drop_eq_nil_of_le this,aa8]
 |n+1,i,r,h=>by
  unfold ByteArray.toList.loop;have hh:i<bs.size:=by omega
  rw[aai hh,HF bs n (i+1) _ (by omega)]
  have hl:i<bs.data.toList.length:=by
   have:bs.data.toList.length=bs.size:=abg;omega
  rw[abw hl,List.reverse_cons,aa7]
  congr 2
  have:bs.get! i=bs.data.toList[i]:=by
   show bs.data[i]! = _;rw[getElem!_pos bs.data i (by simpa using hl)];simp
  rw[this];rfl
theorem HE(bs:ByteArray):bs.toList=bs.data.toList:=by
 unfold ByteArray.toList;rw[HF bs _ 0 [] rfl];simp
theorem Cd:∀(zs:List Int) (s:ByteArray),(zs.foldl (λs z=>s.push (UInt8.ofNat z.toNat)) s).data.toList=s.data.toList++zs.map λz=>UInt8.ofNat z.toNat
 |[],s=>by simp
 |z::zs,s=>by
  rw[acm,Cd zs];show(s.data.push _).toList++_=_;rw[Array.toList_push,abp,aa7];rfl
theorem NI{a b:Int}(a0:0<=a)(a1:a<256)(b0:0<=b)(b1:b<256)(h:UInt8.ofNat a.toNat=UInt8.ofNat b.toNat):a=b:=by
 have:=congrArg UInt8.toNat h;rw[UInt8.toNat_ofNat',UInt8.toNat_ofNat']at this;omega
theorem Pj{xs ys:List Int}(hx:yH xs)(hy:yH ys)(h:YW xs=YW ys):xs=ys:=by
 have h2:(YW xs).data.toList=(YW ys).data.toList:=by rw[h]
 unfold YW at h2;rw[Cd,Cd]at h2;have h3:(xs.map λz=>UInt8.ofNat z.toNat)=ys.map λz=>UInt8.ofNat z.toNat:=List.append_cancel_left h2;clear h h2
 induction xs generalizing ys with
 |nil=>cases ys with
  |nil=>rfl
  |cons y ys=>cases h3
 |cons x xs ih=>cases ys with
  |nil=>cases h3
  |cons y ys=>
   simp only[abp,aa6]at h3;have bx:=hx x aao;have by':=hy y aao;rw[NI bx.1 bx.2 by'.1 by'.2 h3.1,ih (λz hz=>hx z (aaz _ hz)) (λz hz=>hy z (aaz _ hz)) h3.2]
theorem AL{xs ys:List Int}(hx:yH xs)(hy:yH ys):((YW xs).toList == (YW ys).toList)=decide (xs=ys):=by
 by_cases e:xs=ys
 ·subst e;rw[aaY rfl,aaJ]
 ·rw[aaX e];cases hq:((YW xs).toList == (YW ys).toList) with
  |false=>rfl
  |true=>
   have h:=eq_of_beq hq;rw[HE,HE]at h;refine absurd (Pj hx hy ?_) e;have h2:(YW xs).data=(YW ys).data:=Array.toList_inj.1 h;cases h3:YW xs with
   |mk d=>cases h4:YW ys with
    |mk d'=>rw[h3,h4]at h2;exact congrArg ByteArray.mk h2
theorem DS{h:za}{bv xv:aaa}{bs xs:List Int}(S:yM h bv bs)(X:yM h xv xs)(hb:yH bs)(hx:yH xs):wX Tryz.prog 36 [bv,xv] h (.bool (decide (uD bs xs))):=by
 apply yD;replace S:yM h.lock bv bs:=zA.lock S;replace X:yM h.lock xv xs:=zA.lock X;apply CC;unfold CB;generalize h.lock=H at S X;have sn:zQ bv=false:=zA.QU S;have xn:zQ xv=false:=zA.QU X;have ln:=λr h'=>zV S r h';have lx:=λr h'=>zV X r h';by_cases c1:(xs.length:Int)>0
 ·by_cases c2:(xs.length:Int)<=(bs.length:Int)
  ·obtain⟨tv,e1,tn,eS⟩:=eD S (i:=0) (j:=xs.length) (aaN _) (by omega) (lo:=none) (.inl ⟨rfl,rfl⟩);have T:=eS H S;rw[abH,Nat.sub_zero]at T;have t1:=ij T;have t2:=ij X;simp only[EE,zbD,Qa,Qb,Qc,Qd,Qe,Qf,sn,xn,ln,lx,c1,c2,e1,tn,t1,t2,ace];rw[AL (λx hx=>hb x (abo hx)) hx]
   have:decide (uD bs xs)=decide (bs.take xs.length=xs):=by
    apply decide_eq_decide.2;exact⟨λe=>e.2.2,λe=>⟨by omega,by omega,e⟩⟩
   rw[this];rfl
  ·have:decide (uD bs xs)=false:=aaX λe=>c2 (by have:=e.2.1;omega);rw[this];simp only[EE,Qa,Qb,Qc,Qd,Qe,Qf,sn,xn,ln,lx,c1,c2];rfl
 ·have:decide (uD bs xs)=false:=aaX λe=>c1 (by have:=e.1;omega);rw[this];simp only[EE,Qa,Qb,Qc,Qd,Qe,Qf,xn,lx,c1];rfl
open Go.Eb (jN VQ)
section
variable {lo:y4}{h:za}{L:List HP}{sv gv:aaa}{st gl:List Int}{x:zF}{to:Int}{n:Nat}
structure Sl (lo:y4) (sv gv:aaa) (st gl:List Int):Prop where
 rs:Rd lo (zE · sv st)
 rg:Rd lo (zE · gv gl)
 sn:zQ sv=false
 gn:zQ gv=false
 T4:st.length<=1000000
 F4:gl.length<=1000
 gb:∀g,g∈gl->0<=g/\g<=65536
theorem PO{b5 b10:Nat}{op r m sub cd l:Int}(I:Sl lo sv gv st gl)(t0 : -8000000000<=to)(t1:to<=8000000000)(h4:¬r=4)
  (s:Sat lo h (pt b5 (.cells (zF.row ⟨op,r,m,sub,cd,l,0⟩) 42)::pt b10 (.cells wU 42)::L)) :
  JV (rp b5) (rp b10) (Bk lo L ((UQ (vo gl 16777216) gl 0 to).map λr'=>⟨op,r,m,(r'.1:Int),cd,l,r'.2⟩)) gv (.int .i64 to) [.bool false] h:=by
 have gn:=I.gn;have fg:=I.F4;have g5:=s.get;unfold JV;simp only[EE,nth,zv,zk,z8,g5,h4];unfold sU;refine lG (by simp only[yi,gn,aaB]) (jN (I.rg.at s) I.gb I.F4) ?_;rintro pv h1 s1;have s2:=s.join s1;have pvn:=yP s2;have S:=xr (vU s2 aao) (xG (f:=zN) (λ_=>rfl) _);have hlen:(vo gl 16777216).length=gl.length:=WN _ _;have ln:=λr h'=>Gm S r h';rw[hlen]at ln;simp only[nth,↓zt];have s3:Sat lo h1 (pt b5 (.cells (zF.row ⟨op,r,m,sub,cd,l,0⟩) 42)::pt b10 (.cells wU 42)::kM 2 1 pv ((vo gl 16777216).map zN)::L):=s2.f [1,2,0];have g4:=s3.get;have G:=I.rg.at s3;refine qb (λm vs h'=>∃j:Nat,j<=gl.length/\m=gl.length-j/\vs=[.bool false,.int .i64 j]/\h'=h1 /\ ∀i,i<j->∀a g,(vo gl 16777216)[i]? = some a->gl[i]? = some g->¬(a<=to/\to-a<=g)) gl.length ⟨0,aaN _,rfl,rfl,rfl,λi hi=>by omega⟩ ?_;rintro m' vs h2 ⟨j,hj,rfl,rfl,rfl,hno⟩;unfold sR;by_cases hc:(j:Int)<(gl.length:Int)
 ·obtain⟨g,hg⟩:∃g,gl[j]? = some g:=⟨_,aaf (by omega)⟩;obtain⟨a,ha⟩:∃a,(vo gl 16777216)[j]? = some a:=⟨_,aaf (show j<(vo gl 16777216).length by rw[hlen];omega)⟩;obtain⟨b1,o1,c1,t1',a1,p1,a2,a3⟩:=VQ S ha;obtain⟨b2,o2,c2,t2,e1,_,e2,e3⟩:=Zf G hg;have hin:=inc (show j<4611686018427387904 by omega);have ab:=H9 I.gb I.F4 ha;have gb:=I.gb g (aax hg);have wd:IntKind.wrap .i64 (to-a)=to-a:=by simp only[IntKind.wrap,IntKind.bits,IntKind.signed];simp;omega
  have wp:IntKind.wrap .i64 (a+g)=a+g:=by simp only[IntKind.wrap,IntKind.bits,IntKind.signed];simp;omega
  have next:∀vs',vs'=[.bool false,.int .i64 ((j+1:Nat):Int)]->¬(a<=to/\to-a<=g)->∃m,m<gl.length-j /\ ∃j:Nat,j<=gl.length/\m=gl.length-j/\vs'=[Value.bool false,.int .i64 j] /\ ∀i,i<j->∀a g,(vo gl 16777216)[i]? = some a->gl[i]? = some g->¬(a<=to/\to-a<=g):=λvs' ev hn=>
   ⟨gl.length-(j+1),by omega,j+1,by omega,rfl,ev,λi hi a' g' ha' hg'=>by
    by_cases q:i<j
    ·exact hno i q a' g' ha' hg'
    ·have:i=j:=(by omega);subst this;rw[ha]at ha';rw[hg]at hg';rw[<- abn ha',<- abn hg'];exact hn⟩
  by_cases q1:to ≥ a
  ·by_cases q2:to<=a+g
   ·rw[gY hno ha hg ⟨q1,by omega⟩,abz];simp only[EE,nth,↓zt,zv,xY,zk,V9,zq,sQ,JO,JP,JQ,JR,JS,JT,JU,ln,pvn,hc,a1,a2,a3,q1,q2,wp,e1,e2,e3];refine yj s3 (by simp) rfl λh3 s4=>?_;have S4:=xr (vU s4 (aaz _ (aaz _ aao))) (xG (f:=zN) (λ_=>rfl) _);obtain⟨b1',o1',c1',t1'',a1',p1',a2',a3'⟩:=VQ S4 ha;rw[a1]at a1';simp only[aab,ack,acf,acv]at a1';obtain⟨rfl,rfl⟩:=a1';simp only[EE,FJ,zL,a2',a3',wd];refine yj s4 (by simp[xK]) rfl λh4 s5=>?_;exact cP ⟨op,r,m,(j:Int),cd,l,to-a⟩ rfl s5 λh' s'=>⟨s'.drop.drop,_,_,rfl,rfl,rfl⟩
   ·simp only[EE,nth,↓zt,zv,xY,zk,JO,JP,JQ,JR,JS,JT,JU,fN,ln,pvn,hc,a1,a2,a3,q1,q2,wp,e1,e2,e3,hin];exact next _ rfl (λe=>q2 (by omega))
  ·simp only[EE,nth,↓zt,zv,xY,JO,JP,JQ,JR,JS,JT,JU,fN,ln,pvn,hc,a1,a2,a3,q1,hin];exact next _ rfl (λe=>q1 e.1)
 ·have:j=gl.length:=by omega
  subst this;rw[gX λi a g ha hg=>hno i (aaU.1 hg).1 a g ha hg];simp only[EE,nth,ln,pvn,hc];unfold sS;exact cP ⟨op,r,m,sub,cd,l,0⟩ rfl s3 λh' s'=>⟨s'.drop.drop,_,_,rfl,rfl⟩
theorem T9(I:Sl lo sv gv st gl)(t0 : -8000000000<=to)(t1:to<=8000000000)(hk:x.k=0)(ho:x.op=18\/x.op=19\/x.op=21\/x.op=6)(s:Sat lo h L) :
  DC Tryz.prog 77 [x.val,.int .i64 to,.int .i64 n,sv,gv] h (Bk lo L (YC st gl n x to)):=by
 have sn:=I.sn;have gn:=I.gn;apply I6;unfold MU;obtain⟨op,r,m,sub,cd,l,k⟩:=x;have hk:k=0:=hk;subst hk;have ho:op=18\/op=19\/op=21\/op=6:=ho;simp only[EE,Value.cells,kJ];refine qt s λb5 h2 s2=>?_;refine qt s2 λb10 h3 s3=>?_;have s3:Sat lo h3 (pt b5 (.cells (zF.row ⟨op,r,m,sub,cd,l,0⟩) 42)::pt b10 (.cells wU 42)::L):=s3.f [1,0];have g5:=s3.get;simp only[EE,↓zt,zv,zk,zc,g5];by_cases c1:op=18\/op=19
 ·have eg:YC st gl n ⟨op,r,m,sub,cd,l,0⟩ to=if 0<=to/\to<=(n:Int) then some ⟨op,r,m,sub,cd,to,0⟩ else none:=by
   unfold YC Yg;have:¬(op=6/\r=4):=by omega
   rw[aag this,aai c1]
  rw[eg]
  have both:∀J,nG (rp b5) (.int .i64 to) h3 (.int .i64 n) (rp b10) (Bk lo L (if 0<=to/\to<=(n:Int) then some ⟨op,r,m,sub,cd,to,0⟩ else none)) J:=λJ=>by
   unfold nG;simp only[EE,V9,uv];refine yj s3 (by simp) rfl λh4 s4=>?_;have s4:Sat lo h4 (pt b5 (.cells (zF.row ⟨op,r,m,sub,cd,to,0⟩) 42)::pt b10 (.cells wU 42)::L):=s4;have g5:=s4.get
   have e:zd Tryz.prog 42 (rp b5) h4=some (zF.val ⟨op,r,m,sub,cd,to,0⟩):=by
    simp only[EE,Nat.reduceAdd,kH,uC,g5]
   by_cases q1:to ≥ 0
   ·by_cases q2:to<=(n:Int)
    ·rw[aai ⟨q1,q2⟩];simp only[EE,Nat.reduceAdd,xh,dM,e,q1,q2];exact ZK ⟨op,r,m,sub,cd,to,0⟩ rfl rfl (s4.f [1,0]) λh' s'=>⟨s'.drop,_,_,rfl,rfl,rfl⟩
    ·rw[aag (λe=>q2 e.2)];simp only[EE,Nat.reduceAdd,xh,dM,e,q1,q2];exact ZK ⟨op,r,m,sub,cd,to,0⟩ rfl rfl (s4.f [1,0]) λh' s'=>⟨s'.drop,_,_,rfl,rfl⟩
   ·rw[aag (λe=>q1 e.1)];simp only[EE,Nat.reduceAdd,xh,dM,e,q1];exact ZK ⟨op,r,m,sub,cd,to,0⟩ rfl rfl (s4.f [1,0]) λh' s'=>⟨s'.drop,_,_,rfl,rfl⟩
  rcases c1 with rfl|rfl
  ·simp only[EE,nth,KK];exact both _
  ·simp only[EE,nth,Int.reduceEq,KK];exact both _
 have n18:¬op=18:=λe=>c1 (.inl e);have n19:¬op=19:=λe=>c1 (.inr e);by_cases c2:op=21
 ·subst c2
  have eg:YC st gl n ⟨21,r,m,sub,cd,l,0⟩ to=(pC st to 0).map λ(n:Nat)=>⟨21,r,m,(n:Int),cd,l,0⟩:=by
   unfold YC Yg;rw[aag (by simp),aag c1];rfl
  rw[eg];simp only[EE,nth,↓zt,Int.reduceEq,nH,KK];have G:=I.rs.at s3;have fs:=I.T4;have ln:=λr h'=>qw G r h';refine qb (λm vs h'=>∃j:Nat,j<=st.length/\m=st.length-j/\vs=[.bool false,.int .i64 j]/\h'=h3 /\ ∀i,i<j->∀s,st[i]? = some s->¬s=to) st.length ⟨0,aaN _,rfl,rfl,rfl,λi hi=>by omega⟩ ?_;rintro m' vs h2 ⟨j,hj,rfl,rfl,rfl,hno⟩;unfold CN;by_cases hc:(j:Int)<(st.length:Int)
  ·obtain⟨z,hz⟩:∃z,st[j]? = some z:=⟨_,aaf (by omega)⟩;obtain⟨b',o,c,t',a1,_,a2,a3⟩:=Zf G hz;have hin:=inc (show j<4611686018427387904 by omega);by_cases he:z=to
   ·rw[pE hno hz he,abz];have de:decide (z=to)=true:=aaY he;simp only[EE,nth,↓zt,zv,zk,V9,zq,CL,nF,ln,sn,hc,a1,a2,a3,de];refine yj s3 (by simp) rfl λh4 s4=>?_;exact cP ⟨21,r,m,(j:Int),cd,l,0⟩ rfl s4 λh' s'=>⟨s'.drop,_,_,rfl,rfl,rfl⟩
   ·simp only[EE,nth,↓zt,zv,zk,nF,CM,ln,sn,hc,a1,a2,a3,he,hin];refine⟨st.length-(j+1),by omega,j+1,by omega,rfl,rfl,λi hi s hs=>?_⟩;by_cases q:i<j
    ·exact hno i q s hs
    ·have:i=j:=(by omega);subst this;rw[hz]at hs;rw[<- abn hs];exact he
  ·have:j=st.length:=by omega
   subst this;rw[pD hno];simp only[EE,nth,ln,sn,hc];unfold CO;exact cP ⟨21,r,m,sub,cd,l,0⟩ rfl s3 λh' s'=>⟨s'.drop,_,_,rfl,rfl⟩
 have c3:op=6:=by omega
 subst c3;simp only[EE,nth,Int.reduceEq,nH,KK];by_cases h4:r=4
 ·subst h4
  have eg:YC st gl n ⟨6,4,m,sub,cd,l,0⟩ to=none:=by
   unfold YC;rw[aai ⟨rfl,rfl⟩]
  rw[eg];unfold JV;simp only[EE,zv,zk,z8,sP,g5];exact cP ⟨6,4,m,sub,cd,l,0⟩ rfl s3 λh' s'=>⟨s'.drop,_,_,rfl,rfl⟩
 ·have eg:YC st gl n ⟨6,r,m,sub,cd,l,0⟩ to=(UQ (vo gl 16777216) gl 0 to).map λr'=>⟨6,r,m,(r'.1:Int),cd,l,r'.2⟩:=by
   unfold YC Yg;rw[aag (λe=>h4 e.2),aag (by simp),aag (by simp)]
  rw[eg];exact PO I t0 t1 h4 s3
end
end Go.Ed
