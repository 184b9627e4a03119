import Derived.Test.YtcecapkbglnejaaGreatDoorTJ
set_option linter.unusedVariables false
set_option linter.unusedSimpArgs false
set_option maxRecDepth 100000
namespace Go.Dm
open Go.Ai Go.Proofs Go.Mem Go.Rm
open Go.Rtl (zl zE Old inc UZ yM)
def ptB(v:V):Bool:=kW v&&decide (v.k=2)
theorem zaO(v:V):ptB v=decide ((norm v).k=2):=by
 unfold ptB norm;cases kW v
 ·rfl
 ·simp
def Wt(v:V)(np:Nat)(k:Nat):Int:=if (norm v).k=2 then 1000+8*np+k else if (norm v).k=1 then (norm v).n.fdiv (2^(8*k))%256 else -1
def Jx(ps:List V)(v:V):List V:=if (norm v).k=2 then ps++[v] else ps
theorem DG(v:V):(norm v).k=0\/(norm v).k=1\/(norm v).k=2:=by
 unfold norm;cases g:kW v with
 |false=>exact .inl rfl
 |true=>
  rw[aai rfl];rcases N9 g with q|q|q
  ·exact .inl q
  ·exact .inr (.inl q.1)
  ·exact .inr (.inr q.1)
theorem norm_eq{v:V}(h:(norm v).k≠0):norm v=v:=by
 unfold norm at h ⊢;split
 ·rfl
 ·rename_i q;rw[aae q]at h;exact absurd rfl h
theorem He{ps:List V}{bs:List Int}{B:MB}{v:V}{c n:Nat}(x:Qm ps bs B.byte)(hn:n+c<=bs.length)(h8:(norm v).k=2->c=8/\n%8=0):Qm (Jx ps v) (VH bs n (Wt v ps.length) c) (Xx B n (norm v) c).byte:=by
 obtain⟨js,x⟩:=x;refine⟨λs=>if (norm v).k=2/\s=n/8 then ps.length else js s,λa z hz=>?_⟩
 have ha:a<bs.length:=by
  rcases aax a bs.length with w|w
  ·exact w
  ·rw[aak (by rw[jl];exact w)]at hz;cases hz
 rw[na _ _ _ _ ha]at hz;show pC _ _ _ z (if n<=a/\a<n+c then cellOf (norm v) (a-n) else B.byte a);by_cases hin:n<=a/\a<n+c
 ·rw[aai hin]at hz ⊢;have hz:=(abP hz).symm;subst hz;unfold Wt cellOf Jx;rcases DG v with k|k|k
  ·rw[k];exact .inl ⟨rfl,rfl⟩
  ·rw[k];simp only[Int.reduceEq,aas,aar,false_and]
   have e:IntKind.wrap .u8 ((norm v).n.fdiv (2^(8*(a-n))))=(norm v).n.fdiv (2^(8*(a-n)))%256:=by
    simp[IntKind.wrap,IntKind.bits,IntKind.signed]
   rw[e];exact zc4 (by omega) (by omega)
  ·obtain⟨rfl,h0⟩:=h8 k;rw[k];simp only[Int.reduceEq,aas,aar,ab1]
   have e:IntKind.wrap .u8 ((a-n:Nat):Int)=((a-n:Nat):Int):=by
    simp[IntKind.wrap,IntKind.bits,IntKind.signed];omega
   have e8:a%8=a-n:=by omega
   rw[aai (show a/8=n/8 by omega),e,e8];refine .inr (.inr ⟨rfl,rfl,rfl,?_⟩);show(ps++[v])[ps.length]? = some (norm v);rw[norm_eq (by rw[k];decide)];simp
 ·rw[aae hin]at hz ⊢;have y:=x a z hz;show pC (Jx ps v) (if (norm v).k=2/\a/8=n/8 then ps.length else js (a/8)) (a%8) z (B.byte a);by_cases k:(norm v).k=2
  ·obtain⟨rfl,h0⟩:=h8 k;rw[aae (λq=>hin (by omega))];unfold Jx;rw[aai k];exact y.more v
  ·rw[aae (λq=>k q.1)];unfold Jx;rw[aae k];exact y
theorem Oo{lo:yE}{h:za}{L:List HP}{b:Nat}{o:wQ}(s:Sat lo h (pt b o::L)):∃lo1,lo.Le lo1/\Rd lo1 (λh=>h.get b=some o)/\Sat lo1 h L /\ ∀h' L',Sat lo1 h' L'->Sat lo h' L':=by
 obtain⟨a,ha,d,w,s⟩:=s;refine⟨lo.un a,yE.bM d,λh1 b1=>?_,s,λh' L' s'=>s'.mono (yE.bM d)⟩;have:Sat lo h1 [pt b o]:=⟨a,ha,d,w,b1⟩;exact this.get
section
variable {lo:yE}{h:za}{L:List HP}{m n:Nat}{M:MM}
theorem ED{n':Nat}(s:Sat lo h (VA m M n::L))(hn:n<=n'):Sat lo h (VA m M n'::L):=by
 obtain⟨lv,pv,bvs,bl,ps,x,h1,D⟩:=Qj s;exact VB x (by omega) D
theorem zct(s:Sat lo h (VA m M n::L))(hM:M.length<=100000)(hs:small M)(hps:n<=100000000){c:Int}{p v:V}(hc:wH c)(hp:p.ok):DC pu 67 [xG m,pm c,vv p,vv v] h (λr h1=>r=.bool (kd M c p v).isSome/\Sat lo h1 (VA m ((kd M c p v).getD M) (n+1)::L)):=by
 apply IM;unfold MY xG;simp only[EE,Value.cells];refine w8 s λb6 h2 s2=>?_;simp only[];refine w8 s2 λb7 h3 s3=>?_;have g7:=s3.get;have g6:=(s3.p 1).get;simp only[EE,Nat.reduceAdd,zN,g7];refine xU (fK v _) ?_
 have tail:∀q,q=ptB v->zq pu (.func (.func 97) #[] #[]) [pi m,pm c,.agg #[pm p.k,pm p.n,pm p.b]] h3 (YI (.bool q) (pm c) (λr h1=>r=.bool (kd M c p v).isSome/\Sat lo h1 (VA m ((kd M c p v).getD M) (n+1)::L)) (pi m) (pi b6) (pi b7)):=by
  intro q hq;obtain⟨lo7,l7,rd7,s4,back7⟩:=Oo s3;obtain⟨lo6,l6,rd6,s5,back6⟩:=Oo s4;have rd7:=rd7.mono l6;have back:∀h' L',Sat lo6 h' L'->Sat lo h' L':=λh' L' z=>back7 _ _ (back6 _ _ z);obtain⟨lv,pv,bvs,bl,ps,x,hn,D⟩:=Qj s5;refine xU (nf D.dv x hM hs hc hp) ?_
  have no:kd M c p v=none->Sat lo h3 (VA m ((kd M c p v).getD M) (n+1)::L):=by
   intro e;rw[e];exact back _ _ (ED s5 (abC _))
  have hs':kd M c p v=if (norm v).k=2/\c≠8 then none else match right M c p with
   |none=>none
   |some i=>(M[i]?).map λB=>M.set i (Xx B p.n.toNat (norm v) c.toNat):=rfl
  have hq2:q=decide ((norm v).k=2):=hq.trans (zaO v);cases hr:right M c p with
  |none=>
   have e:kd M c p v=none:=by
    rw[hs',hr];split <;> rfl
   simp only[EE,XM,XN,YI,abB];exact⟨by rw[e];rfl,no e⟩
  |some i=>
  by_cases c8:q=true /\ ¬c=8
  ·obtain⟨rfl,c8⟩:=c8
   have e:kd M c p v=none:=by
    rw[hs',aai ⟨by simpa using hq2.symm,c8⟩]
   simp only[EE,XM,XN,YI,aa1,c8];exact⟨by rw[e];rfl,no e⟩
  obtain⟨k2,hcc,hi,B,hB,hn0,hn1,hn2⟩:=aS hr;obtain⟨hpb,B',hB',hf⟩:=Ut hi;rw[hB]at hB';cases hB'
  have e:kd M c p v=some (M.set i (Xx B p.n.toNat (norm v) c.toNat)):=by
   rw[hs',aae,hr]
   ·simp only[hB,abn]
   ·rintro⟨z1,z2⟩;exact c8 ⟨by rw[hq2,z1];rfl,z2⟩
  rw[e];have hsz:=hs i B hB;obtain⟨bv,b,qb,cs,t,off,cp,hbv,hb,e0,e1,e2,e3,hqq,hg,hl,k0,k1⟩:=D.dv.qX x hB;subst e0;have gm:=D.s.get;have hxl:=x.len
  have hil:i<bl.length:=by
   rcases aax i bl.length with w|w
   ·exact w
   ·rw[aak w]at hb;cases hb
  have hw:IntKind.wrap .i64 (p.b-1)=p.b-1:=Go.Mem.vF (by omega) (by omega);have h3':(0:Int)<=p.b-1:=by omega
  have h4:p.b-1<(bl.length:Int):=by omega
  have h5:(p.b-1).toNat=i:=by omega
  have hw2:IntKind.wrap .i64 (p.n+c)=p.n+c:=Go.Mem.vF (by omega) (by omega);obtain⟨R,s6,bk⟩:=D.focus hbv hb;obtain⟨bq,bc,bcs,hsv,_,_,_,_⟩:=aZ s6 (Kq _) (i:=p.n.toNat) (by rw[aav];omega);rw[aav]at hsv;subst hsv;obtain⟨X,hX⟩:=Nt (b:=bq) (o:=0) (cp:=bc) (h:=h3) hn0 (show p.n<=p.n+c by omega) (show p.n+c<=(b.1.length:Int) by omega);have hpc:(p.n+c-p.n).toNat=c.toNat:=by omega
  rw[hpc]at hX
  have g8:q=true->c=8/\p.n.toNat%8=0:=λz=>by
   have:c=8:=Classical.byContradiction λz2=>c8 ⟨z,z2⟩;subst this;rw[abr hn0]at hn2;exact⟨rfl,by omega⟩
  have r6:=rd6.at s6;have r7:=rd7.at s6;have bn:=(D.dv.byt i _ b hbv hb).kY
  have h8:(norm v).k=2->c.toNat=8/\p.n.toNat%8=0:=λz=>by
   have:=g8 (by rw[hq2,z];rfl);omega
  have loop:∀h4 pv',Sat lo6 h4 (w7 3 1 (.slice (some ⟨bq,0,none⟩) b.1.length bc) (b.1.map yA)::pt m (.cells [.slice (some ⟨qb,off,none⟩) bl.length cp,pv'] 62)::w7 110 2 (.slice (some ⟨qb,off,none⟩) bl.length cp) (kF bvs bl)::w7 64 3 pv' ((Jx ps v).map V.ke)::R) ->
    LP (U7 (pm c) (λvs34 h35=>rv [(.bool true)] h35 (λr h1=>r=.bool (some (M.set i (Xx B p.n.toNat (norm v) c.toNat))).isSome/\Sat lo h1 (VA m ((some (M.set i (Xx B p.n.toNat (norm v) c.toNat))).getD M) (n+1)::L))) (.slice (some ⟨bq,p.n.toNat,none⟩) c.toNat X) (.bool q) (pi m) (pi b7)) [pm 0] h4:=by
   intro h4 pv' s7;refine qQ (λr vs h'=>∃k:Nat,(k:Int)<=c/\r=c.toNat-k/\vs=[pm k]/\Sat lo6 h' (w7 3 1 (.slice (some ⟨bq,0,none⟩) b.1.length bc) ((VH b.1 p.n.toNat (Wt v ps.length) k).map yA)::pt m (.cells [.slice (some ⟨qb,off,none⟩) bl.length cp,pv'] 62)::w7 110 2 (.slice (some ⟨qb,off,none⟩) bl.length cp) (kF bvs bl)::w7 64 3 pv' ((Jx ps v).map V.ke)::R)) c.toNat ⟨0,by omega,rfl,rfl,s7⟩ ?_;rintro r vs h' ⟨k,hk,rfl,rfl,s8⟩;by_cases hkc:(k:Int)<c
   ·have hin:p.n.toNat+k<(VH b.1 p.n.toNat (Wt v ps.length) k).length:=(by rw[jl];omega);have q1:(0:Int)<=k:=(by omega);have q2:(k:Int)<(c.toNat:Int):=(by omega);have qo:p.n.toNat+k*1=(p.n.toNat+k)*1:=(by omega);obtain⟨z1,z2,z3,z4,gb,wb,lb,s9⟩:=aZ s8 (Kq _) (i:=p.n.toNat+k) (by rw[aav];exact hin);rw[aav,jl]at z4;simp only[abu,aab,abJ,aba,ab1]at z4;obtain⟨rfl,rfl⟩:=z4;simp only[EE,nth,↓xg,Int.reduceNeg,Ku,eV,eW,U7,hkc,q1,q2,qo,aaw];refine ni gb wb lb s9 rfl rfl λh5 s10=>?_
    have e1:∀z:Int,(((VH b.1 p.n.toNat (Wt v ps.length) k).map yA).set (p.n.toNat+k) [pm (-1)]).set (p.n.toNat+k) [pm z]=((VH b.1 p.n.toNat (Wt v ps.length) k).set (p.n.toNat+k) z).map yA:=λz=>by
     rw[List.set_set,acF];rfl
    have nx:∀h6,Sat lo6 h6 (w7 3 1 (.slice (some ⟨bq,0,none⟩) b.1.length bc) (((VH b.1 p.n.toNat (Wt v ps.length) k).set (p.n.toNat+k) (Wt v ps.length k)).map yA)::pt m (.cells [.slice (some ⟨qb,off,none⟩) bl.length cp,pv'] 62)::w7 110 2 (.slice (some ⟨qb,off,none⟩) bl.length cp) (kF bvs bl)::w7 64 3 pv' ((Jx ps v).map V.ke)::R)->∃r',r'<c.toNat-k /\ ∃k':Nat,(k':Int)<=c/\r'=c.toNat-k' /\ [Value.int .i64 ((k+1:Nat):Int)]=[pm k']/\Sat lo6 h6 (w7 3 1 (.slice (some ⟨bq,0,none⟩) b.1.length bc) ((VH b.1 p.n.toNat (Wt v ps.length) k').map yA)::pt m (.cells [.slice (some ⟨qb,off,none⟩) bl.length cp,pv'] 62)::w7 110 2 (.slice (some ⟨qb,off,none⟩) bl.length cp) (kF bvs bl)::w7 64 3 pv' ((Jx ps v).map V.ke)::R) :=
     λh6 z=>⟨c.toNat-(k+1),by omega,k+1,by omega,rfl,rfl,z⟩
    have q3:=inc (show k<4611686018427387904 by omega);have g10:=(s10.p 1).get
    obtain⟨y1,y2,y3,y4,gb2,wb2,lb2,s11⟩:=aZ s10 (rows:=((VH b.1 p.n.toNat (Wt v ps.length) k).map yA).set (p.n.toNat+k) [pm (-1)]) (by
     intro w hw;rcases ab6 hw with z|rfl
     ·exact Kq _ w z
     ·rfl) (i:=p.n.toNat+k) (by rw[abd,aav];exact hin)
    rw[abd,aav,jl]at y4;simp only[abu,aab,abJ,aba,ab1]at y4;obtain⟨rfl,rfl⟩:=y4;cases q with
    |true=>
     have kn:(norm v).k=2:=(by simpa using hq2.symm);have ep:Jx ps v=ps++[v]:=(by unfold Jx;rw[aai kn]);have SP:=ua (s10.p 3) (BL _);have pn:=SP.kY;have pl:=zhN SP 3;rw[ep,acb,List.length_singleton]at pl;have w1:IntKind.wrap .i64 (((ps.length+1:Nat):Int)-1)=ps.length:=(Go.Mem.vF (by omega) (by omega)).trans (by omega);have w2:IntKind.wrap .i64 (8*(ps.length:Int))=8*(ps.length:Int):=Go.Mem.vF (by omega) (by omega);have w3:IntKind.wrap .i64 (1000+8*(ps.length:Int))=1000+8*(ps.length:Int):=Go.Mem.vF (by omega) (by omega)
     have w4:IntKind.wrap .i64 (1000+8*(ps.length:Int)+k)=Wt v ps.length k:=by
      unfold Wt;rw[aai kn];exact Go.Mem.vF (by omega) (by omega)
     simp only[EE,nth,zo,GR,mK,Ku,eU,g10,pn,pl,w1,w2,w3,w4,q1,q2,qo,aaw];refine ni gb2 wb2 lb2 s11 rfl rfl λh6 s12=>?_;rw[e1]at s12;simp only[EE,nth,q3];exact nx _ s12
    |false=>
     have r7':=rd7.at s10;simp only[EE,Nat.reduceAdd,zN,r7'];refine xU (fK v _) ?_
     have zG:(norm v).k=0->Sat lo6 h5 (w7 3 1 (.slice (some ⟨bq,0,none⟩) b.1.length bc) (((VH b.1 p.n.toNat (Wt v ps.length) k).set (p.n.toNat+k) (Wt v ps.length k)).map yA)::pt m (.cells [.slice (some ⟨qb,off,none⟩) bl.length cp,pv'] 62)::w7 110 2 (.slice (some ⟨qb,off,none⟩) bl.length cp) (kF bvs bl)::w7 64 3 pv' ((Jx ps v).map V.ke)::R):=λz=>by
      have:Wt v ps.length k = -1:=(by unfold Wt;rw[z];rfl);rw[this,acF];exact s10
     cases gv:kW v with
     |false=>
      simp only[EE,nth,U5,U6,q3];exact nx _ (zG (by unfold norm;rw[aae (by rw[gv];simp)];rfl))
     |true=>
      have nv:norm v=v:=(by unfold norm;rw[aai gv]);by_cases k1:v.k=1
      ·have w1:IntKind.wrap .i64 (8*(k:Int))=((8*k:Nat):Int):=(Go.Mem.vF (by omega) (by omega)).trans (by omega);have w2:IntKind.wrap .u64 ((8*k:Nat):Int)=((8*k:Nat):Int):=by rw[show IntKind.wrap .u64 ((8*k:Nat):Int)=wu ((8*k:Nat):Int) from rfl,BO];omega
       have w3:(0:Int)<=((8*k:Nat):Int):=(by omega);have w5:min (8*k) (IntKind.bits .i64)=8*k:=by show min (8*k) 64=_;omega
       have w4:IntKind.wrap .i64 (BitVec.ofInt (IntKind.bits .i64) (v.n.fdiv (2^(8*k))) &&& BitVec.ofInt (IntKind.bits .i64) 255).toNat=Wt v ps.length k:=by
        unfold Wt;rw[nv,aae (by omega),aai k1];exact me _ 8 (by decide)
       simp only[EE,nth,zo,WM,Ku,eT,U5,U6,r7',k1,w1,w2,w3,w5,w4,q1,q2,qo,aaw];refine ni gb2 wb2 lb2 s11 rfl rfl λh6 s12=>?_;rw[e1]at s12;simp only[EE,nth,q3];exact nx _ s12
      ·simp only[EE,nth,zo,U5,U6,r7',k1,q3];refine nx _ (zG ?_);rw[nv];have:=DG v;rw[nv]at this;have z:¬v.k=2:=λw=>by rw[nv,w]at hq2;cases hq2
       omega
   ·have hkc2:k=c.toNat:=(by omega);subst hkc2;simp only[EE,nth,U7,hkc]
    refine⟨rfl,back _ _ (VB (ps:=Jx ps v) ((show DR bl (Jx ps v) M by
     unfold Jx;split
     ·exact x.more v
     ·exact x).set (b:=(VH b.1 p.n.toNat (Wt v ps.length) c.toNat,b.2)) (B:=Xx B p.n.toNat (norm v) c.toNat) e1 (by rw[jl];exact e2) λz=>He (e3 z) (by omega) h8) ?_ (bk h' (VH b.1 p.n.toNat (Wt v ps.length) c.toNat,b.2) _ _ (Jx ps v) _ ?_ s8))⟩
    ·unfold Jx;split
     ·simp;omega
     ·omega
    ·rw[aA hbv];apply abw;intro j;by_cases w:i=j
     ·subst w;rw[aaU (by rw[jk D.len];exact hil),J9 hbv hb];rfl
     ·rw[abj w]
  cases q with
  |false=>
   have kn:¬(norm v).k=2:=by simpa using hq2.symm
   simp only[EE,↓xg,zo,w9,Wp,Y7,kA,QQ,K4,XM,XN,YI,aa1,gm,r6,hw,h3',h4,h5,hg,k0,hw2,hX,bn];exact loop _ pv (by unfold Jx;rw[aae kn];exact s6)
  |true=>
   have kn:(norm v).k=2:=by simpa using hq2.symm
   have c8:c=8:=(g8 rfl).1;have s7:=s6.push (.cells [pm v.k,pm v.n,pm v.b] 64);obtain⟨b',c',h2,a1,s8⟩:=YD (s7.p 4) (BL _) v.ke rfl (by decide) 24 (by rw[aav];omega);rw[aav]at a1 s8
   have ha:∀r,zP pu .append [60,60] r [pv,.slice (some ⟨h3.next,0,none⟩) 1 3] (h3.push (.cells [pm v.k,pm v.n,pm v.b] 64))=some (.slice (some ⟨b',0,none⟩) (ps.length+1) c',h2):=λr=>
    (SV r _ _ 1 v.ke _ rfl (by simp only[vW,zv];rfl) rfl rfl).trans a1
   have pn:=wL (s6.p 3);have d8:decide (c=8)=true:=uD c8;simp only[EE,Nat.reduceAdd,zN,zo,w9,Wp,GR,Ta,oH,Y7,kA,mK,QQ,eS,K4,XM,XN,YI,aa1,gm,r6,r7,hw,h3',h4,h5,hg,k0,hw2,hX,bn,d8,ha,pn];refine z9 (s8.p 3) (by simp) rfl λh9 s9=>?_;simp only[↓xg];refine loop _ (.slice (some ⟨b',0,none⟩) (ps.length+1) c') ?_;have s10:=((s9.p 2).drop).f [2,0,3,1];rw[show(Jx ps v).map V.ke=ps.map V.ke++[v.ke] by unfold Jx;rw[aai kn];simp];exact s10
 cases g:kW v with
 |false=>
  simp only[EE,Nat.reduceAdd,zN,Vc,Vd,Ve,g6];exact tail _ (by unfold ptB;rw[g];rfl)
 |true=>
  by_cases k2:v.k=2
  ·simp only[EE,Nat.reduceAdd,zN,zo,Vc,Vd,Ve,g6,g7,k2];exact tail _ (by unfold ptB;rw[g,k2];rfl)
  ·simp only[EE,Nat.reduceAdd,zN,zo,Vc,Vd,Ve,g6,g7,k2];exact tail _ (by unfold ptB;rw[g];simp[k2])
end
end Go.Dm
namespace Go.As
open Go.Ai Go.Proofs Go.Proofs.Tryz
noncomputable abbrev zz:=prog
abbrev VK:=aaa->za->Prop
abbrev LK:=List aaa->za->Prop
abbrev ci(n:Int):Operand := .const (pm n)
abbrev fn(n:Nat):aaa := .func (.func n) #[] #[]
variable {h:za}{t0 t1 t2 t3 t4 t5 t6:aaa}{R:VK}
def qs:FuncId->Nat:=λg=>([(60,3),(61,3),(64,2),(87,2),(89,2),(91,2),(108,3),(109,2)].lookup g).getD 0
theorem mixed:prog.follows .mixedOrders=true:=ab4 Tryz.checked
theorem zT{f:FuncId}{args:List aaa}{X:Prop}(e:Rx zz (bJ zz qs) 200 f args h R=X)(hw:X):DC zz f args h R:=VQ mixed (q:=qs) (n:=200) (Eq.mpr e hw)
def lK:=λc (R:VK) d (e:LK) f (a:za)=>
 opt (pk c (.bool true) f) λg=>CD g (λb=>rv [.bool false] a R)
 (λb=>b [nth d 0] a)
 (λh i=>e [nth h 0] i)
def lL:=λa (R:VK) c (d:LK) e (b:za)=>
 zg a false (zh .gtr 3 50 e 65536) b (lK a R c d) b
def lM:=λe b (a:za) (R:VK) (f:LK)=>
 vx 22 e (nth b 1) 3 a λc=>opt (zh .lss 3 47 c 0) λd=>GD d false (λg=>g c a) (lL d R b f) a
def FR:=λa (b:LK) c (d:za)=>
 opt (zh .add 3 43 (nth a 1) 1) λe=>b [nth c 0,e] d
def FT:=λd (e:LK) f (R:VK) a (b:za) (g:LK)=>
 opt (yz .lss 3 43 42 (nth a 1) d) λh=>CD h (λc=>c [] b)
 (λc=>e [nth a 0] b)
 (λj i=>BK (lM f a i R)
 (FR a g))
def sF:=λ(R:VK) c (d:LK) e (a:za)=>
 opt (Vx zz .not e) λf=>CD f (λb=>rv [.bool false] a R)
 (λb=>b [nth c 0] a)
 (λg h=>d [nth g 0] h)
def FU:=λe b (c:za) f (R:VK) (g:LK)=>
 vx 23 e (nth b 1) 47 c λh=>qa 47 c λd i=>opt (yn 47 d h i) λa=>opt (zd zz 25 f a) λj=>opt (zd zz 47 d a) λk=>zq zz (fn 31) [j,k] a (sF R b g)
def FV:=λa (b:LK) c (d:za)=>
 opt (zh .add 3 57 (nth a 1) 1) λe=>b [nth c 0,e] d
def FW:=λd (e:LK) f g (R:VK) a (b:za) (h:LK)=>
 opt (yz .lss 3 57 56 (nth a 1) d) λi=>CD i (λc=>c [] b)
 (λc=>e [nth a 0] b)
 (λk j=>BK (FU f a j g R)
 (FV a h))
def nH:=λa (R:VK) d (b:za)=>
 zt 25 a 1 23 b λc=>yp (v8 23 c b) λe f=>BK (λg=>LP (FW e g c a R)
 [nth d 0,pm 0] f)
 (λi h=>rv [.bool true] h R)
def nI:=λa (R:VK) d (b:za)=>
 zt 25 a 0 22 b λc=>yp (v8 22 c b) λe f=>BK (λg=>LP (FT e g c R)
 [nth d 0,pm 0] f)
 (nH a R)
def X5:=λa (R:VK) e f (b:za)=>
 zg a false (zh .gtr 3 37 f 6) b (λg c=>opt (pk a (.bool true) g) λh=>CD h (λd=>rv [.bool false] c R)
 (λd=>d [.bool false] c)
 (nI e R)) b
def X6:=λe c (R:VK) f (d:za)=>
 opt (pk e (.bool true) f) λa=>zg a false (ze zz 25 c 3) d (λg b=>zg a false (zd zz 3 g b) b (X5 a R c) b) d
def X7:=λa c (R:VK) d (b:za)=>
 zg a false (zh .lss 3 32 d 0) b (X6 a c R) b
def X8:=λe c (R:VK) f (d:za)=>
 opt (pk e (.bool true) f) λa=>zg a false (ze zz 25 c 3) d (λg b=>zg a false (zd zz 3 g b) b (X7 a c R) b) d
def X9:=λa c (R:VK) d (b:za)=>
 zg a false (zh .gtr 3 27 d 200) b (X8 a c R) b
def Wa:=λa d (R:VK) e (b:za)=>
 zg a false (zd zz 22 e b) b (λf c=>GD a false (λg=>yp (v8 22 f c) λh i=>g h i) (X9 a d R) c) b
def Wb:=λa b (R:VK) f (c:za)=>
 zg a false (zh .gtr 3 21 f 100) c (λg d=>opt (pk a (.bool true) g) λe=>zg e false (ze zz 25 b 0) d (Wa e b R) d) c
def Wc:=λa d (R:VK) e (b:za)=>
 zg a false (zd zz 23 e b) b (λf c=>GD a false (λg=>yp (v8 23 f c) λh i=>g h i) (Wb a d R) c) b
def Wd:=λa f b (R:VK) g (c:za)=>
 zg a false (yz .geq 3 12 15 f g) c (λh d=>opt (pk a (.bool true) h) λe=>zg e false (ze zz 25 b 1) d (Wc e b R) d) c
def We:=λa d e (R:VK) f (b:za)=>
 zg a false (zd zz 23 f b) b (λg c=>GD a false (λh=>yp (v8 23 g c) λi j=>h i j) (Wd a d e R) c) b
def Wf:=λa c (R:VK) e (b:za)=>
 zg a false (zd zz 3 e b) b (λf d=>zg a false (ze zz 25 c 1) d (We a f c R) d) b
def R9:=λ(h:za) c (R:VK)=>
 opt (nb [c] (some (Value.cells c).toList)) λe=>nw h e 25 λa b=>zt 25 a 2 3 b λf=>opt (zh .lss 3 8 f 0) λd=>zg d false (ze zz 25 a 2) b (Wf d a R) b
theorem O0(hw:R9 h t0 R):DC zz 17 [t0] h R:=zT (by kernel_rfl) hw
def lV:=λd (a:za) (e:LK) f g (b:za)=>
 zt 50 d 5 3 b λc=>opt (nb [(v7 a).1,c,.bool true] (Zd zz 122 (v7 a).1 c (.bool true) b)) λh=>e [nth g 0,nth f 0] h
def lW:=λc (b:za) (R:VK) f (g:LK) h (a:za)=>
 zt 50 c 5 3 a λd=>opt (nb [(v7 b).1,d] (XC zz 122 (v7 b).1 d false a)) λi=>CD i (λe=>rv [.bool false] a R)
 (λe=>e [nth f 0] a)
 (lV c b g h)
def lX:=λb (c:LK) f (g:za) (R:VK) d (a:za)=>
 zt 50 b 0 3 a λh=>opt (zh .neq 3 29 h 20) λi=>CD i (λe=>c [nth d 0,.bool true] a)
 (λe=>e [nth f 1] a)
 (lW b g R d c)
def lY:=λg a (d:za) h (R:VK) (i:za) (j:LK)=>
 vx 45 g (nth a 2) 50 d λk=>qa 50 d λb l=>opt (yn 50 b k l) λc=>opt (zd zz 50 b c) λm=>zt 25 h 0 22 c λn=>zq zz (fn 56) [m,n] c (λo e=>opt (Vx zz .not o) λp=>CD p (λf=>rv [.bool false] e R)
 (λf=>f [nth a 0] e)
 (lX b j a i R))
def JW:=λb (c:LK) a (d:za)=>
 opt (zh .add 3 19 (nth b 2) 1) λe=>c [nth a 0,nth a 1,e] d
def lZ:=λd (e:LK) f g (R:VK) (h:za) a (b:za) (i:LK)=>
 opt (yz .lss 3 19 18 (nth a 2) d) λj=>CD j (λc=>c [] b)
 (λc=>e [nth a 0,nth a 1] b)
 (λl k=>BK (lY f a k g R h)
 (JW a i))
def ZX:=λc (R:VK) d (e:LK) f (a:za)=>
 opt (pk c f (.bool false)) λg=>CD g (λb=>rv [.bool false] a R)
 (λb=>b [nth d 0] a)
 (λh i=>e [nth h 0] i)
def ZY:=λa e b (R:VK) f (g:LK) h (c:za)=>
 zg a false (yz .geq 3 72 75 e h) c (λi d=>zg b true (pk a (.bool true) i) d (ZX b R f g) d) c
def ZZ:=λa d e (R:VK) f (g:LK) h (b:za)=>
 zg a false (zd zz 23 h b) b (λi c=>GD a false (λj=>yp (v8 23 i c) λk l=>j k l) (ZY a d e R f g) c) b
def jV:=λa d e (R:VK) f (g:LK) h (b:za)=>
 zg a false (zd zz 3 h b) b (λi c=>zg a false (ze zz 25 d 1) c (ZZ a i e R f g) c) b
def jW:=λa e f (R:VK) g (h:LK) i (b:za)=>
 GD a true (λj=>j i b) (λc d=>zg c false (ze zz 50 e 3) d (jV c f a R g h) d) b
def jX:=λa c d (R:VK) e (f:LK) g (b:za)=>
 zg a true (zh .lss 3 68 g 0) b (jW a c d R e f) b
def jY:=λa (b:za) e (R:VK) f (g:LK)=>
 zt 50 a 0 3 b λh=>opt (zh .eql 3 64 h 21) λc=>zg c true (ze zz 50 a 3) b (λi d=>zg c true (zd zz 3 i d) d (jX c a e R f g) d) b
def jZ:=λb (R:VK) c d e (f:LK) g (a:za)=>
 opt (pk b g (.bool false)) λh=>CD h (λk=>rv [.bool false] a R)
 (jY c a d R e)
 (λi j=>f [nth i 0] j)
def j0:=λa c (R:VK) f g h (i:LK) d (b:za)=>
 zg a true (nb [c,d] (XC zz 122 c d false b)) b (λj e=>zg a true (Vx zz .not j) e (jZ a R f g h i) e) b
def j1:=λa c (R:VK) e f (g:LK) h (d:za)=>
 zg a true (ze zz 50 c 5) d (λi b=>zg a true (zd zz 3 i b) b (j0 a h R c e f g) b) d
def j2:=λa (e:za) f (R:VK) g h (i:LK) j (b:za)=>
 zg a false (zh .eql 3 52 j 19) b (λk c=>opt (pk a (.bool true) k) λd=>GD d true (λl=>l (v7 e).1 c) (j1 d f R g h i) c) b
def j3:=λa (b e:za) (R:VK) f g (h:LK)=>
 zt 50 a 0 3 b λi=>opt (zh .eql 3 48 i 18) λc=>zg c false (ze zz 50 a 0) b (λj d=>zg c false (zd zz 3 j d) d (j2 c e a R f g h) d) b
def fZ:=λd a (b e:za) (R:VK) f (g:LK)=>
 vx 45 d (nth a 1) 50 b λh=>qa 50 b λc i=>opt (yn 50 c h i) λj=>BK (j3 c j e R f a)
 (λk l=>g [nth k 0] l)
def Xy:=λa (b:LK) c (d:za)=>
 opt (zh .add 3 42 (nth a 1) 1) λe=>b [nth c 0,e] d
def f8:=λd (e:LK) f (g:za) (R:VK) h a (b:za) (i:LK)=>
 opt (yz .lss 3 42 41 (nth a 1) d) λj=>CD j (λc=>c [] b)
 (λc=>e [nth a 0] b)
 (λl k=>BK (fZ f a k g R h)
 (Xy a i))
def f9:=λd (e:za) (R:VK) f a (b:za)=>
 zt 47 d 1 45 b λc=>yp (v8 45 c b) λg h=>BK (λi=>LP (f8 g i c e R f)
 [nth a 0,pm 0] h)
 (λk j=>rv [nth a 1] j R)
def gf:=λc d (R:VK) e (a:za)=>
 opt (ze zz 47 c 1) λf=>opt (zd zz 45 f (v7 a).2) λb=>yp (nb [b] (zP zz .len [45] 3 [b] (v7 a).2)) λg h=>BK (λi=>LP (lZ g i b d R a)
 [nth e 0,.bool false,pm 0] h)
 (f9 c a R d)
def tR:=λ(h:za) a b (R:VK)=>
 opt (nb [a] (some (Value.cells a).toList)) λg=>nw h g 25 λi j=>opt (nb [b] (some (Value.cells b).toList)) λk=>nw j k 47 λc d=>zt 47 c 1 45 d λl=>yp (v8 45 l d) λm e=>opt (zh .gtr 3 13 m 100000) λn=>CD n (λf=>rv [.bool false] e R)
 (λf=>f [.bool false] e)
 (gf c i R)
theorem BX(hw:tR h t0 t1 R):DC zz 31 [t0,t1] h R:=zT (by kernel_rfl) hw
def jz:=λb (R:VK) d (c:za)=>
 GD b true (λe=>zq zz (fn 75) [d] c (λa f=>e a f)) (λa g=>opt (pk b a (.bool false)) λh=>rv [h] g R) c
def jC:=λd e (R:VK) f (c:za)=>
 opt (pk d (.bool true) f) λa=>zg a true (ze zz 50 e 6) c (λg b=>zg a true (zd zz 2 g b) b (jz a R) b) c
def jH:=λa c (R:VK) d (b:za)=>
 zg a false (zh .eql 3 33 d 8) b (jC a c R) b
def jJ:=λe c (R:VK) f (d:za)=>
 opt (pk e (.bool true) f) λa=>zg a false (ze zz 50 c 3) d (λg b=>zg a false (zd zz 3 g b) b (jH a c R) b) d
def jK:=λa c (R:VK) d (b:za)=>
 zg a false (zh .eql 3 28 d 4) b (jJ a c R) b
def X1:=λa c (R:VK) d (b:za)=>
 zg a true (yz .leq 2 66 71 c d) b (λe f=>opt (pk a e (.bool false)) λg=>rv [g] f R) b
def X2:=λa d e (R:VK) f (c:za)=>
 zg a true (zJ zz 22 d f) c (λg b=>zg a true (zd zz 3 g b) b (X1 a e R) b) c
def X3:=λa d e (R:VK) f (c:za)=>
 zg a true (ze zz 50 d 3) c (λg b=>zg a true (zd zz 3 g b) b (X2 a f e R) b) c
def X4:=λa d e (R:VK) f (b:za)=>
 zg a true (zd zz 2 f b) b (λg c=>GD a true (λh=>h d c) (X3 a e g R) c) b
def Xb:=λa b f (R:VK) g (c:za)=>
 zg a true (zh .geq 2 61 g 0) c (λh d=>opt (pk a h (.bool false)) λe=>zg e true (ze zz 50 b 6) d (X4 e f b R) d) c
def Xc:=λe c f (R:VK) g (d:za)=>
 opt (pk e g (.bool false)) λa=>zg a true (ze zz 50 c 6) d (λh b=>zg a true (zd zz 2 h b) b (Xb a c f R) b) d
def Xd:=λa e f g (R:VK) h (b:za)=>
 GD a true (λi=>yp (v8 22 h b) λc _=>i c b) (λc d=>zg a true (yz .lss 3 54 56 e c) d (Xc a f g R) d) b
def Xe:=λa c e (R:VK) f (b:za)=>
 zg a true (zd zz 3 f b) b (λg d=>GD a true (λh=>h c d) (Xd a g e c R) d) b
def JJ:=λb (R:VK) d (c:za)=>
 GD b true (λe=>zq zz (fn 75) [d] c (λa f=>e a f)) (λa g=>opt (pk b a (.bool false)) λh=>rv [h] g R) c
def JK:=λd (R:VK) a (c:za)=>
 zg a true (ze zz 50 d 6) c (λe b=>zg a true (zd zz 2 e b) b (JJ a R) b) c
def UN:=λa (R:VK) c (b:za)=>
 zg a false (zh .eql 3 96 c 2) b (λd e=>opt (pk a (.bool true) d) λf=>rv [f] e R) b
def UO:=λa (R:VK) c (b:za)=>
 zg a false (zh .eql 3 106 c 4) b (λd e=>opt (pk a (.bool true) d) λf=>rv [f] e R) b
def jA:=λa (R:VK) c (b:za)=>
 zg a true (zh .leq 2 126 c 63) b (λd e=>opt (pk a d (.bool false)) λf=>rv [f] e R) b
def jB:=λd e (R:VK) f (c:za)=>
 opt (pk d f (.bool false)) λa=>zg a true (ze zz 50 e 6) c (λg b=>zg a true (zd zz 2 g b) b (jA a R) b) c
def jD:=λa c (R:VK) d (b:za)=>
 zg a true (zh .geq 2 121 d 0) b (jB a c R) b
def jE:=λe c (R:VK) f (d:za)=>
 opt (pk e (.bool true) f) λa=>zg a true (ze zz 50 c 6) d (λg b=>zg a true (zd zz 2 g b) b (jD a c R) b) d
def jF:=λa c (R:VK) d (b:za)=>
 zg a false (zh .eql 3 116 d 20) b (jE a c R) b
def UP:=λa (R:VK) c (b:za)=>
 zg a false (zh .eql 3 136 c 20) b (λd e=>opt (pk a (.bool true) d) λf=>rv [f] e R) b
def UQ:=λa (R:VK) c (b:za)=>
 zg a true (zh .leq 3 152 c 10000000) b (λd e=>opt (pk a d (.bool false)) λf=>rv [f] e R) b
def ZP:=λa (R:VK) c (b:za)=>
 zg a true (zh .leq 2 163 c 65536) b (λd e=>opt (pk a d (.bool false)) λf=>rv [f] e R) b
def ZQ:=λd (a:za) (R:VK) (g:LK)=>
 zt 50 d 6 2 a λe=>opt (zh .geq 2 159 e 0) λb=>zg b true (ze zz 50 d 6) a (λf c=>zg b true (zd zz 2 f c) c (ZP b R) c) a
def UR:=λd (a:za) (R:VK) (g:LK)=>
 zt 50 d 5 3 a λe=>opt (zh .geq 3 148 e 0) λb=>zg b true (ze zz 50 d 5) a (λf c=>zg b true (zd zz 3 f c) c (UQ b R) c) a
def jG:=λb (c:za) f (R:VK) g (h:LK)=>
 opt (zh .eql 3 19 b 23) λd=>CD d (λa=>a [d] c)
 (λa=>opt (zh .eql 3 19 b 24) λi=>a [i] c)
 (λj e=>CD (nth j 0) (ZQ f e R)
 (λk=>k [nth g 0] e)
 (λl m=>h [nth l 0] m))
def JL:=λb (a:za) (R:VK) (f:LK)=>
 zt 50 b 4 3 a λc=>zq zz (fn 77) [c] a (λd e=>rv [d] e R)
def qf:=λa b (c:za) (R:VK) d (e:LK)=>
 opt (zh .eql 3 19 a 20) λf=>CD f (UR b c R)
 (jG a c b R d)
 (λg h=>e [nth g 0] h)
def US:=λd (a:za) (R:VK) (g:LK)=>
 zt 50 d 3 3 a λe=>opt (zh .eql 3 132 e 19) λb=>zg b false (ze zz 50 d 3) a (λf c=>zg b false (zd zz 3 f c) c (UP b R) c) a
def vR:=λa (c:za) d (R:VK) g (h:LK)=>
 opt (zh .eql 3 19 a 17) λe=>CD e (λb=>b [e] c)
 (λb=>opt (zh .eql 3 19 a 19) λi=>b [i] c)
 (λj f=>CD (nth j 0) (JL d f R)
 (qf a d f R g)
 (λk l=>h [nth k 0] l))
def jI:=λa (b:za) (R:VK) (g:LK)=>
 zt 50 a 3 3 b λe=>opt (zh .eql 3 112 e 19) λc=>zg c false (ze zz 50 a 3) b (λf d=>zg c false (zd zz 3 f d) d (jF c a R) d) b
def wK:=λa b (c:za) (R:VK) d (e:LK)=>
 opt (zh .eql 3 19 a 12) λf=>CD f (US b c R)
 (vR a c b R d)
 (λg h=>e [nth g 0] h)
def UT:=λd (a:za) (R:VK) (g:LK)=>
 zt 50 d 3 3 a λe=>opt (zh .eql 3 102 e 3) λb=>zg b false (ze zz 50 d 3) a (λf c=>zg b false (zd zz 3 f c) c (UO b R) c) a
def yW:=λa b (c:za) (R:VK) d (e:LK)=>
 opt (zh .eql 3 19 a 11) λf=>CD f (jI b c R)
 (wK a b c R d)
 (λg h=>e [nth g 0] h)
def UU:=λd (a:za) (R:VK) (g:LK)=>
 zt 50 d 3 3 a λe=>opt (zh .eql 3 92 e 1) λb=>zg b false (ze zz 50 d 3) a (λf c=>zg b false (zd zz 3 f c) c (UN b R) c) a
def yF:=λa b (c:za) (R:VK) d (e:LK)=>
 opt (zh .eql 3 19 a 10) λf=>CD f (UT b c R)
 (yW a b c R d)
 (λg h=>e [nth g 0] h)
def yq:=λa b (c:za) (R:VK) d (e:LK)=>
 opt (zh .eql 3 19 a 9) λf=>CD f (UU b c R)
 (yF a b c R d)
 (λg h=>e [nth g 0] h)
def lJ:=λb (a:za) (R:VK) (f:LK)=>
 zt 50 b 3 3 a λc=>zq zz (fn 76) [c] a (λd e=>rv [d] e R)
def ym:=λc a (b:za) (R:VK) d (e:LK)=>
 opt (zh .eql 3 19 c 8) λf=>CD f (λj=>zt 50 a 3 3 b λg=>zq zz (fn 76) [g] b (JK a R))
 (yq c a b R d)
 (λh i=>e [nth h 0] i)
def Xf:=λa (b:za) d (R:VK) (f:LK)=>
 zt 50 a 3 3 b λe=>opt (zh .geq 3 50 e 0) λc=>zg c true (ze zz 50 a 3) b (Xe c d a R) b
def yh:=λa b (c:za) (R:VK) d (e:LK)=>
 opt (zh .eql 3 19 a 7) λf=>CD f (lJ b c R)
 (ym a b c R d)
 (λg h=>e [nth g 0] h)
def JM:=λb (a:za) (R:VK) (f:LK)=>
 zt 50 b 6 2 a λc=>zq zz (fn 75) [c] a (λd e=>rv [d] e R)
def zW:=λa b (c:za) d (R:VK) e (f:LK)=>
 opt (zh .eql 3 19 a 6) λg=>CD g (Xf b c d R)
 (yh a b c R e)
 (λh i=>f [nth h 0] i)
def kO:=λa (b:za) (R:VK) (g:LK)=>
 zt 50 a 3 3 b λe=>opt (zh .eql 3 24 e 1) λc=>zg c false (ze zz 50 a 3) b (λf d=>zg c false (zd zz 3 f d) d (jK c a R) d) b
def zR:=λa (c:za) d (R:VK) g h (i:LK)=>
 opt (zh .eql 3 19 a 5) λe=>CD e (λb=>b [e] c)
 (λb=>opt (zh .eql 3 19 a 16) λj=>b [j] c)
 (λk f=>CD (nth k 0) (JM d f R)
 (zW a d f g R h)
 (λl m=>i [nth l 0] m))
def zC:=λa (c:za) d (R:VK) g h (i:LK)=>
 opt (zh .eql 3 19 a 3) λe=>CD e (λb=>b [e] c)
 (λb=>opt (zh .eql 3 19 a 4) λj=>b [j] c)
 (λk f=>CD (nth k 0) (kO d f R)
 (zR a f d R g h)
 (λl m=>i [nth l 0] m))
def zn:=λa (R:VK) c d (b:za)=>
 zt 50 a 0 3 b λe=>BK (zC e b a R c d)
 (λg f=>rv [.bool true] f R)
def WH:=λa (R:VK) e f g (b:za)=>
 zg a false (Vx zz .not g) b (λh c=>opt (pk a (.bool true) h) λi=>CD i (λd=>rv [.bool false] c R)
 (λd=>d [.bool false] c)
 (zn e R f)) b
def UW:=λe c (R:VK) f g (a:za)=>
 opt (pk e (.bool true) g) λb=>zg b false (zd zz 50 c a) a (λh d=>GD b false (λi=>zq zz (fn 74) [h] d (λj k=>i j k)) (WH b R c f) d) a
def UX:=λa c (R:VK) d e (b:za)=>
 zg a false (zh .gtr 3 10 e 26) b (UW a c R d) b
def Cq:=λ(h:za) e f (R:VK)=>
 opt (nb [e] (some (Value.cells e).toList)) λg=>nw h g 50 λa b=>zt 50 a 0 3 b λi=>opt (zh .lss 3 6 i 1) λc=>zg c false (ze zz 50 a 0) b (λj d=>zg c false (zd zz 3 j d) d (UX c a R f) d) b
theorem D5(hw:Cq h t0 t1 R):DC zz 56 [t0,t1] h R:=zT (by kernel_rfl) hw
def xh:=λe a (R:VK) b (c:za)=>
 GD b false (λf=>f e c) (λg d=>zg a true (pk b (.bool true) g) d (λh i=>opt (pk a h (.bool false)) λj=>rv [j] i R) d) c
def xi:=λa d (R:VK) e (b:za)=>
 zg a true (zh .neq 3 62 e 4) b (λf c=>GD a true (λg=>g f c) (xh d a R) c) b
def xj:=λd e f (R:VK) g (c:za)=>
 opt (pk d g (.bool false)) λa=>zg a true (ze zz 50 e 2) c (λh b=>zg a true (zd zz 3 h b) b (xi a f R) b) c
def xk:=λa c d (R:VK) e (b:za)=>
 zg a true (zh .lss 3 57 e 16) b (xj a c d R) b
def xl:=λe a (R:VK) f (b:za)=>
 opt (pk e (.bool true) f) λg=>zt 50 a 2 3 b λh=>opt (zh .geq 3 53 h 0) λc=>zg c true (ze zz 50 a 2) b (λi d=>zg c true (zd zz 3 i d) d (xk c a g R) d) b
def xn:=λa c (R:VK) d (b:za)=>
 zg a false (zh .eql 3 49 d 1) b (xl a c R) b
def xo:=λe c (R:VK) f (d:za)=>
 opt (pk e (.bool true) f) λa=>zg a false (ze zz 50 c 0) d (λg b=>zg a false (zd zz 3 g b) b (xn a c R) b) d
def xp:=λa c (R:VK) d (b:za)=>
 zg a false (zh .eql 3 44 d 5) b (xo a c R) b
def xq:=λe c (R:VK) f (d:za)=>
 opt (pk e (.bool true) f) λa=>zg a false (ze zz 50 c 0) d (λg b=>zg a false (zd zz 3 g b) b (xp a c R) b) d
def yV:=λa c (R:VK) d (b:za)=>
 zg a false (zh .eql 3 39 d 4) b (xq a c R) b
def yI:=λa (R:VK) (g:List aaa) (b:za)=>
 zt 50 a 0 3 b λe=>opt (zh .eql 3 35 e 3) λc=>zg c false (ze zz 50 a 0) b (λf d=>zg c false (zd zz 3 f d) d (yV c a R) d) b
def qT:=λe (R:VK) f g h (a:za)=>
 opt (pk e h (.bool false)) λi=>CD i (λb=>rv [.bool false] a R)
 (λb=>b [.bool false] a)
 (λj c=>opt (Vx zz .not f) λk=>CD k (λd=>rv [.bool true] c R)
 (λd=>d [nth j 0] c)
 (yI g R))
def j4:=λa e b (R:VK) f g h (c:za)=>
 zg a false (pk e h (.bool false)) c (λi d=>zg b true (pk a (.bool true) i) d (qT b R f g) d) c
def j5:=λa c d (R:VK) e f g (b:za)=>
 zg a true (zh .eql 3 27 g 4) b (j4 c a d R e f) b
def j6:=λc e f (R:VK) g a (d:za)=>
 zg a true (ze zz 50 c 1) d (λh b=>zg a true (zd zz 3 h b) b (j5 a e f R g c) b) d
def j7:=λb f g (R:VK) h i (c:za)=>
 GD b true (λj=>j i c) (λa d=>GD a false (λk=>k f d) (λl e=>GD a false (λm=>m l e) (j6 g a b R h) e) d) c
def j8:=λa b e f (R:VK) g h (c:za)=>
 zg a false (zh .geq 3 20 h 16) c (λi d=>zg b true (pk a (.bool true) i) d (j7 b e f R g) d) c
def j9:=λc e f (R:VK) g a (d:za)=>
 zg a false (ze zz 50 c 1) d (λh b=>zg a false (zd zz 3 h b) b (j8 a e f c R g) b) d
def Za:=λa d e (R:VK) f g (b:za)=>
 zg a true (zh .lss 3 16 g 0) b (λh c=>GD a true (λi=>i h c) (j9 d a e R f) c) b
def Zb:=λd (R:VK) a (e:za)=>
 opt (kV a 0) λb=>opt (kV a 1) λf=>opt (kV a 2) λg=>zg b true (ze zz 50 d 1) e (λh c=>zg b true (zd zz 3 h c) c (Za b d g R f) c) e
def tS:=λ(h:za) a (R:VK)=>
 opt (nb [a] (some (Value.cells a).toList)) λd=>nw h d 50 λb c=>opt (zd zz 50 b c) λe=>zq zz (fn 99) [e] c (Zb b R)
theorem BY(hw:tS h t0 R):DC zz 74 [t0] h R:=zT (by kernel_rfl) hw
def qI:=λb (c:za) (e:LK)=>
 opt (zh .eql 3 6 b 7) λd=>CD d (λa=>a [d] c)
 (λa=>opt (zh .eql 3 6 b 10) λf=>a [f] c)
 (λg h=>e [nth g 0] h)
def qu:=λa (b:za) (d:LK)=>
 opt (zh .eql 3 6 a 5) λc=>CD c (λe=>e [c] b)
 (qI a b)
 (λf g=>d [nth f 0] g)
def uZ:=λa (b:za) (d:LK)=>
 opt (zh .eql 3 6 a 3) λc=>CD c (λe=>e [c] b)
 (qu a b)
 (λf g=>d [nth f 0] g)
def Wj:=λb (c:za) (e:LK)=>
 opt (zh .eql 3 6 b 12) λd=>CD d (λa=>a [d] c)
 (λa=>opt (zh .eql 3 6 b 17) λf=>a [f] c)
 (λg h=>e [nth g 0] h)
def Xl:=λa (b:za) (d:LK)=>
 opt (zh .eql 3 6 a 11) λc=>CD c (λe=>e [c] b)
 (Wj a b)
 (λf g=>d [nth f 0] g)
def Yn:=λa (b:za) (d:LK)=>
 opt (zh .eql 3 6 a 9) λc=>CD c (λe=>e [c] b)
 (Xl a b)
 (λf g=>d [nth f 0] g)
def Zn:=λa (b:za) (d:LK)=>
 opt (zh .eql 3 6 a 8) λc=>CD c (λe=>e [c] b)
 (Yn a b)
 (λf g=>d [nth f 0] g)
def jt:=λa (b:za) (d:LK)=>
 opt (zh .eql 3 6 a 6) λc=>CD c (λe=>e [c] b)
 (Zn a b)
 (λf g=>d [nth f 0] g)
def om:=λd (b:za) (R:VK) (e:LK)=>
 opt (zh .eql 3 6 d 14) λf=>CD f (λc=>rv [.bool false,.bool true,.bool false] b R)
 (λc=>c [.bool false,.bool false,.bool false] b)
 (λa g=>e [nth a 0,nth a 1,nth a 2] g)
def JX:=λb (c:za) (R:VK) (d:LK)=>
 opt (zh .eql 3 6 b 16) λe=>CD e (λg=>rv [.bool true,.bool false,.bool false] c R)
 (om b c R)
 (λa f=>d [nth a 0,nth a 1,nth a 2] f)
def Vl:=λ(R:VK) c (d:LK) e (b:za)=>
 CD (nth e 0) (λg=>rv [.bool true,.bool true,.bool false] b R)
 (JX c b R)
 (λa f=>d [nth a 0,nth a 1,nth a 2] f)
def Vm:=λa (c:za) (R:VK) (e:LK)=>
 opt (zh .eql 3 6 a 4) λd=>CD d (λb=>b [d] c)
 (λb=>opt (zh .eql 3 6 a 15) λf=>b [f] c)
 (Vl R a e)
def qJ:=λ(R:VK) c (d:LK) e (b:za)=>
 CD (nth e 0) (λg=>rv [.bool true,.bool false,.bool true] b R)
 (Vm c b R)
 (λa f=>d [nth a 0,nth a 1,nth a 2] f)
def qK:=λa (b:za) (R:VK) (d:LK)=>
 opt (zh .eql 3 6 a 2) λc=>CD c (λe=>e [c] b)
 (jt a b)
 (qJ R a d)
def vm:=λ(R:VK) c (d:LK) e (b:za)=>
 CD (nth e 0) (λg=>rv [.bool true,.bool true,.bool true] b R)
 (qK c b R)
 (λa f=>d [nth a 0,nth a 1,nth a 2] f)
def vo:=λa (b:za) (R:VK) (d:LK)=>
 opt (zh .eql 3 6 a 1) λc=>CD c (λe=>e [c] b)
 (uZ a b)
 (vm R a d)
def Nc:=λ(h:za) a (R:VK)=>
 opt (nb [a] (some (Value.cells a).toList)) λc=>nw h c 50 λd b=>zt 50 d 0 3 b λe=>BK (vo e b R)
 (λg f=>rv [.bool false,.bool false,.bool false] f R)
theorem IW(hw:Nc h t0 R):DC zz 99 [t0] h R:=zT (by kernel_rfl) hw
def Sn:=λ(h:za) a (R:VK)=>
 yp (nb [a] (vY zz 2 21 a h)) λb c=>yp (nb [b] (vY zz 21 2 b c)) λd e=>opt (yz .eql 2 3 6 a d) λf=>rv [f] e R
theorem Pc(hw:Sn h t0 R):DC zz 75 [t0] h R:=zT (by kernel_rfl) hw
def rI:=λb (h:za) (d:LK)=>
 opt (zh .eql 3 3 b 17) λc=>CD c (λa=>a [c] h)
 (λa=>opt (zh .eql 3 3 b 18) λe=>a [e] h)
 (λf g=>d [nth f 0] g)
def lS:=λa (h:za) (c:LK)=>
 opt (zh .eql 3 3 a 16) λb=>CD b (λd=>d [b] h)
 (rI a h)
 (λe f=>c [nth e 0] f)
def e7:=λa (h:za) (c:LK)=>
 opt (zh .eql 3 3 a 13) λb=>CD b (λd=>d [b] h)
 (lS a h)
 (λe f=>c [nth e 0] f)
def JP:=λa (h:za) (c:LK)=>
 opt (zh .eql 3 3 a 12) λb=>CD b (λd=>d [b] h)
 (e7 a h)
 (λe f=>c [nth e 0] f)
def Q9:=λa (h:za) (R:VK) (e:LK)=>
 opt (zh .eql 3 3 a 11) λb=>CD b (λf=>f [b] h)
 (JP a h)
 (λg c=>CD (nth g 0) (λd=>rv [.bool true] c R)
 (λd=>d [.bool false] c)
 (λi j=>e [nth i 0] j))
def zcM:=λ(h:za) a (R:VK)=>
 BK (Q9 a h R)
 (λc b=>rv [.bool false] b R)
theorem Sh(hw:zcM h t0 R):DC zz 76 [t0] h R:=zT (by kernel_rfl) hw
def tI:=λ(h:za) b (R:VK)=>
 zq zz (fn 100) [b] h (λa c=>opt (kV a 0) λe=>opt (kV a 1) λd=>rv [d] c R)
theorem BW(hw:tI h t0 R):DC zz 77 [t0] h R:=zT (by kernel_rfl) hw
def sE:=λc (h:za) (R:VK) (d:LK)=>
 opt (zh .eql 3 4 c 25) λe=>CD e (λa=>rv [pm 24,.bool true] h R)
 (λa=>a [pm 0,.bool false] h)
 (λb f=>d [nth b 0,nth b 1] f)
def lI:=λa (h:za) (R:VK) (c:LK)=>
 opt (zh .eql 3 4 a 24) λd=>CD d (λf=>rv [pm 25,.bool true] h R)
 (sE a h R)
 (λb e=>c [nth b 0,nth b 1] e)
def bU:=λa (h:za) (R:VK) (c:LK)=>
 opt (zh .eql 3 4 a 26) λd=>CD d (λf=>rv [pm 23,.bool true] h R)
 (lI a h R)
 (λb e=>c [nth b 0,nth b 1] e)
def KR:=λa (h:za) (R:VK) (c:LK)=>
 opt (zh .eql 3 4 a 23) λd=>CD d (λf=>rv [pm 26,.bool true] h R)
 (bU a h R)
 (λb e=>c [nth b 0,nth b 1] e)
def Qo:=λa (h:za) (R:VK) (c:LK)=>
 opt (zh .eql 3 4 a 22) λd=>CD d (λf=>rv [pm 21,.bool true] h R)
 (KR a h R)
 (λb e=>c [nth b 0,nth b 1] e)
def VZ:=λa (h:za) (R:VK) (c:LK)=>
 opt (zh .eql 3 4 a 21) λd=>CD d (λf=>rv [pm 22,.bool true] h R)
 (Qo a h R)
 (λb e=>c [nth b 0,nth b 1] e)
def R7:=λ(h:za) a (R:VK)=>
 BK (VZ a h R)
 (λc b=>rv [pm 0,.bool false] b R)
theorem OY(hw:R7 h t0 R):DC zz 100 [t0] h R:=zT (by kernel_rfl) hw
def JN:=λb (R:VK) a (f:za)=>
 opt (kV a 0) λg=>opt (kV a 1) λl=>opt (kV a 2) λh=>qa 33 f λc i=>opt (yn 33 c g i) λd=>opt (zd zz 33 c d) λj=>opt (yn 33 b j d) λe=>opt (zd zz 33 b e) λk=>rv [k,h] e R
def F5:=λ(h:za) a c d e f (R:VK)=>
 opt (nb [a] (some (Value.cells a).toList)) λg=>nw h g 25 λi j=>qa 33 j λk b=>opt (zd zz 25 i b) λl=>zq zz (fn 21) [l,c,d,e,f,.bool true] b (JN k R)
theorem sL(hw:F5 h t0 t1 t2 t3 t4 R):DC zz 9 [t0,t1,t2,t3,t4] h R:=zT (by kernel_rfl) hw
def sG:=λ(R:VK) a (b:za)=>
 opt (kV a 0) λc=>opt (kV a 1) λd=>opt (kV a 2) λe=>qa 33 b λf g=>opt (yn 33 f c g) λh=>rv [d,e] h R
def Sc:=λ(h:za) a c d e (R:VK)=>
 opt (nb [a] (some (Value.cells a).toList)) λf=>nw h f 25 λg b=>opt (zd zz 25 g b) λi=>zq zz (fn 21) [i,c,d,e,pm 2147483647,.bool true] b (sG R)
theorem O7(hw:Sc h t0 t1 t2 t3 R):DC zz 11 [t0,t1,t2,t3] h R:=zT (by kernel_rfl) hw
def sH:=λa (c:za) (R:VK) (f:LK)=>
 opt (nb [] (yd zz 33 [])) λd=>opt (yn 33 a d c) λb=>opt (zd zz 33 a b) λe=>rv [e,pm 0,pm 1] b R
def FZ:=λc a (R:VK) (j:aaa) (b:za)=>
 xD 108 c 4 33 b λf=>opt (vy c) λg=>opt (ze zz 108 g 13) λd=>opt (zd zz 3 d b) λh=>(Po 5 a 1 d/\opt (yn 33 a f b) λe=>opt (zd zz 33 a e) λi=>rv [i,h,pm 0] e R)
def F4:=λc d e f g h i (R:VK) (l:List aaa) (a:za)=>
 opt (zd zz 25 c a) λj=>zq zz (fn 38) [j,d,e,f] a (λb k=>zq zz (fn 39) [b,g,h] k (FZ b i R))
def V0:=λa b (R:VK) e f g h i j k (c:za)=>
 zg a false (zh .gtr 3 39 k 2147483647) c (λl d=>opt (pk a (.bool true) l) λm=>CD m (sH b d R)
 (λn=>n [pm 0,pm 0] d)
 (F4 e f g h i j b R)) c
def V1:=λa b f (R:VK) g h i j k l (c:za)=>
 zg a false (zh .lss 3 35 l 0) c (λm d=>opt (pk a (.bool true) m) λe=>GD e false (λn=>n b d) (V0 e f R g h i b j k) d) c
def V2:=λa b f (R:VK) g h i j k l (c:za)=>
 zg a false (zh .gtr 3 31 l 100000000) c (λm d=>opt (pk a (.bool true) m) λe=>GD e false (λn=>n b d) (V1 e b f R g h i j k) d) c
def V3:=λa b f g (R:VK) h i j k l (c:za)=>
 zg a false (zh .lss 3 27 l 0) c (λm d=>opt (pk a (.bool true) m) λe=>GD e false (λn=>n b d) (V2 e f g R h i j b k) d) c
def V4:=λa f b g h (R:VK) i j k l m (c:za)=>
 zg a false (yz .neq 3 21 23 f m) c (λn d=>opt (pk a (.bool true) n) λe=>GD e false (λo=>o b d) (V3 e b g h R i j k l) d) c
def V5:=λa c e f g (R:VK) h i j k (d:za)=>
 zg a false (ze zz 25 c 3) d (λl b=>zg a false (zd zz 3 l b) b (V4 a k e f g R c h i j) b) d
def Wg:=λb e f g h (R:VK) i j k (c:za)=>
 opt (Vx zz .not k) λa=>GD a false (λl=>l b c) (λm d=>GD a false (λn=>yp (v8 26 m d) λo p=>n o p) (V5 a e f g h R b i j) d) c
def Sd:=λ(h:za) a d e f g i (R:VK)=>
 opt (nb [a] (some (Value.cells a).toList)) λj=>nw h j 25 λb k=>qa 33 k λl c=>opt (zd zz 25 b c) λm=>zq zz (fn 17) [m] c (Wg d b f g l R e i)
theorem O8(hw:Sd h t0 t1 t2 t3 t4 t5 R):DC zz 21 [t0,t1,t2,t3,t4,t5] h R:=eG mixed (q:=qs) (n:=200) (Eq.mpr (by kernel_rfl) hw)
def CN:=λa b (f:LK) (k:aaa) (c:za)=>
 xD 108 a 5 22 c λd=>yp (nb [b] (zZ zz 22 1 [(0,b)] c)) λe g=>yp (nb [d,e] (zP zz .append [22,22] 22 [d,e] g)) λh i=>kG 108 a 5 22 h i λj=>f [] j
def CO:=λa (e:LK) b (c:za)=>
 opt (kV b 0) λd=>opt (kV b 1) λg=>xD 108 a 2 104 c λf=>zq zz (fn 63) [f,d] c (CN a d e)
def CP:=λc d (a:za) b (e:LK)=>
 vx 22 c (nth d 0) 3 a λf=>xD 108 b 2 104 a λg=>zq zz (fn 62) [g,f] a (CO b e)
def CQ:=λb a c (d:LK) (h:List aaa) (e:za)=>
 BK (CP b a e c)
 (λi f=>opt (zh .add 3 32 (nth a 0) 1) λg=>d [g] f)
def n6:=λd (e:LK) f g a (b:za) (h:LK)=>
 opt (yz .lss 3 32 31 (nth a 0) d) λi=>CD i (λc=>c [] b)
 (λc=>e [] b)
 (CQ f a g h)
def CR:=λe (a b:za) c (f:LK)=>
 zt 50 e 5 3 a λd=>opt (nb [(v7 b).1,d,nth c 0] (Zd zz 129 (v7 b).1 d (nth c 0) a)) λg=>f [] g
def CS:=λe c (d f:za) (g:LK)=>
 vx 45 e (nth c 0) 50 d λh=>qa 50 d λa i=>opt (yn 50 a h i) λb=>zt 50 a 0 3 b λj=>opt (zh .eql 3 79 j 20) λk=>CD k (CR a b f c)
 (λl=>l [] b)
 (λn m=>g [] m)
def CT:=λb a (c:za) (d:LK) (h:List aaa) (e:za)=>
 BK (CS b a e c)
 (λi f=>opt (zh .add 3 73 (nth a 0) 1) λg=>d [g] f)
def n7:=λd (e:LK) f (g:za) a (b:za) (h:LK)=>
 opt (yz .lss 3 73 72 (nth a 0) d) λi=>CD i (λc=>c [] b)
 (λc=>e [] b)
 (CT f a g h)
def tw:=λa (b:za) (f:LK) (k:List aaa) (c:za)=>
 xD 108 a 1 103 c λd=>yp (nb [(v7 b).1] (zZ zz 103 1 [(0,(v7 b).1)] c)) λe g=>yp (nb [d,e] (zP zz .append [103,103] 103 [d,e] g)) λh i=>kG 108 a 1 103 h i λj=>f [] j
def tA:=λe f (c:za) g (h:LK)=>
 vx 23 e (nth f 0) 47 c λi=>qa 47 c λd j=>opt (yn 47 d i j) λa=>opt (ze zz 47 d 1) λk=>opt (zd zz 45 k (v7 a).2) λb=>yp (nb [b] (zP zz .len [45] 3 [b] (v7 a).2)) λl m=>BK (λn=>LP (n7 l n b a)
 [pm 0] m)
 (tw g a h)
def tB:=λb a c (d:LK) (h:List aaa) (e:za)=>
 BK (tA b a e c)
 (λi f=>opt (zh .add 3 65 (nth a 0) 1) λg=>d [g] f)
def gN:=λd (e:LK) f g a (b:za) (h:LK)=>
 opt (yz .lss 3 65 64 (nth a 0) d) λi=>CD i (λc=>c [] b)
 (λc=>e [] b)
 (tB f a g h)
def tC:=λa b (c:za) (d:LK) e=>
 opt (vy a) λf=>opt (ze zz 108 f 7) λg=>opt (zJ zz 65 g b) λh=>opt (yn 64 h e c) λi=>d [] i
def tD:=λc b (a:za) d e (f:LK)=>
 vx 26 c (nth b 0) 2 a λg=>vx 130 d (nth b 0) 3 a λh=>vL zz 64 [g] a (tC e h a f)
def tE:=λb a c d (e:LK) (i:List aaa) (f:za)=>
 BK (tD b a f c d)
 (λj g=>opt (zh .add 3 100 (nth a 0) 1) λh=>e [h] g)
def gO:=λd (e:LK) f g h a (b:za) (i:LK)=>
 opt (yz .lss 3 100 99 (nth a 0) d) λj=>CD j (λc=>c [] b)
 (λc=>e [] b)
 (tE f a g h i)
def tF:=λa b (R:VK) (l:List aaa) (d:za)=>
 opt (nb [pm 7,pm 6,pm 2,pm 1,pm 8,pm 9] (yd zz 130 [(0,(pm 7)),(1,(pm 6)),(2,(pm 2)),(3,(pm 1)),(4,(pm 8)),(5,(pm 9))])) λe=>qa 130 d λc f=>opt (yn 130 c e f) λg=>yp (v8 26 a g) λh i=>BK (λj=>LP (gO h j a c b)
 [pm 0] i)
 (λm k=>rv [b] k R)
def tG:=λd a e (R:VK) (i:List aaa) (b:za)=>
 zt 25 d 1 23 b λc=>yp (v8 23 c b) λf g=>BK (λh=>LP (gN f h c a)
 [pm 0] g)
 (tF e a R)
def tH:=λa b c d j (R:VK) e (k:za)=>
 opt (nb [a,b,e,c] (yd zz 108 [(0,a),(2,b),(3,e),(12,c)])) λf=>opt (nb [f] (some (Value.cells f).toList)) λl=>nw k l 108 λg h=>zt 25 d 0 22 h λi=>yp (v8 22 i h) λm n=>BK (λo=>LP (n6 m o i g)
 [pm 0] n)
 (tG d g j R)
def M1:=λ(h:za) a d e f (R:VK)=>
 opt (nb [a] (some (Value.cells a).toList)) λg=>nw h g 25 λb c=>opt (zd zz 25 b c) λi=>Al zz 60 [] c (λj k=>Al zz 61 [e] k (tH i j f b d R))
theorem IP(hw:M1 h t0 t1 t2 t3 R):DC zz 38 [t0,t1,t2,t3] h R:=zT (by kernel_rfl) hw
def Gv:=λa (b:za) (R:VK) (f:LK)=>
 opt (vy a) λc=>opt (ze zz 108 c 4) λd=>UF 33 d 0 3 (pm 3) b λe=>rv [] e R
def Gw:=λa (b:za) (c g:LK)=>
 xD 134 a 1 3 b λd=>opt (zh .add 3 73 d 1) λe=>kG 134 a 1 3 e b λf=>c [] f
def Gx:=λa (b:za) (R:VK) (f:LK)=>
 opt (vy a) λc=>opt (ze zz 108 c 4) λd=>UF 33 d 0 3 (pm 2) b λe=>rv [] e R
def Gy:=λa (b:za) (c:LK)=>
 opt (vy a) λd=>opt (ze zz 108 d 4) λe=>UF 33 e 0 3 (pm 3) b λf=>c [] f
def Gz:=λa b g (h:LK) (v:List aaa) (c:za)=>
 opt (vy a) λi=>opt (ze zz 108 i 4) λj=>zt 33 j 4 3 c λk=>opt (zh .add 3 92 k 1) λl=>opt (vy a) λm=>opt (ze zz 108 m 4) λn=>UF 33 n 4 3 l c λd=>xD 134 b 1 3 d λo=>opt (zh .add 3 100 o 1) λp=>kG 134 b 1 3 p d λe=>opt (zd zz 50 g e) λq=>zq zz (fn 66) [a,b,q] e (λr f=>opt (Vx zz .not r) λs=>CD s (Gy a f)
 (λt=>t [] f)
 (λw u=>h [] u))
def tW:=λa c (R:VK) d e (f:LK) (l:List aaa) (b:za)=>
 opt (vy a) λg=>opt (ze zz 108 g 4) λh=>zt 33 h 4 3 b λi=>opt (yz .eql 3 81 82 i c) λj=>CD j (Gx a b R)
 (λk=>k [] b)
 (Gz a d e f)
def l5:=λa b (c:LK) f g (R:VK) h i (d:za)=>
 zg a true (Vx zz .not i) d (λj e=>opt (pk a j (.bool false)) λk=>CD k (Gw b e c)
 (λl=>l [] e)
 (tW f g R b h c)) d
def GA:=λd f g (h:LK) i j (R:VK) (p:List aaa) (a:za)=>
 xD 134 d 1 3 a λk=>vx 45 f k 50 a λl=>qa 50 a λb m=>opt (yn 50 b l m) λc=>zt 50 b 0 3 c λn=>opt (zh .eql 3 64 n 20) λe=>GD e true (λo=>o g c) (l5 e d h i j R b) c
def GB:=λb (a:za) (R:VK) f g (h:LK)=>
 xD 108 b 6 106 a λi=>xD 108 b 6 106 a λj=>yp (v8 106 j a) λk _=>opt (zh .sub 3 30 k 1) λl=>opt (zJ zz 106 i l) λc=>opt (vy b) λm=>opt (ze zz 108 m 0) λn=>zt 25 n 1 23 a λo=>xD 134 c 0 3 a λp=>opt (zJ zz 23 o p) λq=>zt 47 q 1 45 a λd=>xD 134 c 1 3 a λr=>yp (v8 45 d a) λs e=>opt (yz .eql 3 48 50 r s) λt=>CD t (Gv b e R)
 (λu=>u [] e)
 (GA c d f h b g R)
def oq:=λb (d:LK) (R:VK) e f (n:List aaa) (a:za) (g:LK)=>
 opt (vy b) λh=>opt (ze zz 108 h 4) λi=>zt 33 i 0 3 a λj=>opt (zh .eql 3 20 j 0) λk=>CD k (λc=>c [] a)
 (λc=>d [] a)
 (λo l=>BK (GB b l R e f)
 (λp m=>g [] m))
def So:=λ(h:za) a b c (R:VK)=>
 opt (vy a) λd=>opt (ze zz 108 d 0) λe=>zt 25 e 2 3 h λf=>zq zz (fn 65) [a,f] h (λk g=>BK (λi=>LP (oq a i R c b)
 [] g)
 (λl j=>rv [] j R))
theorem Pd(hw:So h t0 t1 t2 R):DC zz 39 [t0,t1,t2] h R:=zT (by kernel_rfl) hw
def Jd:=λa b (c:za) (d:LK) e=>
 opt (vy a) λf=>opt (ze zz 108 f 7) λg=>opt (zJ zz 65 g b) λh=>opt (yn 64 h e c) λi=>d [.bool false] i
def dm:=λa b (c:za) (d:LK) e=>
 opt (vy a) λf=>opt (ze zz 108 f 7) λg=>opt (zJ zz 65 g b) λh=>opt (yn 64 h e c) λi=>d [.bool false] i
def dp:=λb d e f g (R:VK) h (c:za)=>
 GD b true (λi=>jN zz 86 [d,e,f,g,h] c (λa j=>i a j)) (λa k=>opt (pk b a (.bool false)) λl=>rv [l] k R) c
def dq:=λa d e f g (R:VK) h (c:za)=>
 zg a true (zh .and 2 175 h 63) c (λi b=>GD a true (λj=>vL zz 64 [i] b (λk=>j k b)) (dp a d e f g R) b) c
def dr:=λa d e f g (R:VK) h (c:za)=>
 zg a true (ze zz 64 d 1) c (λi b=>zg a true (zd zz 2 i b) b (dq a e f g h R) b) c
def dt:=λa d e f g h (R:VK) i (c:za)=>
 zg a true (zJ zz 65 i d) c (λj b=>zg a true (zd zz 64 j b) b (dr a e f g h R) b) c
def du:=λa d e f g h (R:VK) i (b:za)=>
 zg a true (vy d) b (λj c=>zg a true (ze zz 108 j 7) c (dt a i e f g h R) c) b
def Jh:=λa d e f g h (R:VK) i (c:za)=>
 zg a true (ze zz 50 d 1) c (λj b=>zg a true (zd zz 3 j b) b (du a i e f g h R) b) c
def Ji:=λa d e f g h (R:VK) i (b:za)=>
 zg a true (zd zz 3 i b) b (λj c=>GD a true (λk=>k d c) (Jh a e f g h j R) c) b
def Qb:=λa c e f g (R:VK) h (b:za)=>
 zg a true (zd zz 3 h b) b (λi d=>zg a true (ze zz 50 c 1) d (Ji a e c f g i R) d) b
def Qc:=λa (c:za) (R:VK) d=>
 opt (vy a) λe=>opt (ze zz 108 e 7) λf=>opt (zJ zz 65 f (pm 2)) λg=>opt (yn 64 g d c) λb=>opt (vy a) λh=>opt (ze zz 108 h 7) λi=>opt (zJ zz 65 i (pm 0)) λj=>zt 64 j 0 3 b λk=>opt (zh .eql 3 197 k 1) λl=>rv [l] b R
def Vn:=λa (b:za) c (d:LK) e=>
 kG 108 a 8 4 (.bool true) b λf=>kG 108 a 9 64 c f λg=>kG 108 a 10 64 e g λh=>d [.bool false] h
def Wk:=λb d e f g (R:VK) h (c:za)=>
 GD b true (λi=>jN zz 86 [d,e,f,g,h] c (λa j=>i a j)) (λa k=>opt (pk b a (.bool false)) λl=>rv [l] k R) c
def Qd:=λa d e f g (R:VK) h (c:za)=>
 zg a true (ze zz 108 h 10) c (λi b=>zg a true (zd zz 64 i b) b (Wk a d e f g R) b) c
def Qe:=λa d e f g (R:VK) h (b:za)=>
 GD a true (λi=>i d b) (λj c=>zg a true (vy j) c (Qd a e f g h R) c) b
def Vo:=λa d e f g (R:VK) h (c:za)=>
 zg a true (ze zz 108 h 9) c (λi b=>zg a true (zd zz 64 i b) b (Qe a d e f g R) b) c
def Qf:=λa b e f (R:VK) g (c:za)=>
 GD a true (λh=>h b c) (λi d=>zg a true (vy i) d (Vo a b e f g R) d) c
def Wl:=λa d e f (R:VK) g (c:za)=>
 zg a true (ze zz 50 d 1) c (λh b=>zg a true (zd zz 3 h b) b (Qf a e f g R) b) c
def Wm:=λa c e (R:VK) f (d:za)=>
 zg a true (ze zz 50 c 4) d (λg b=>zg a true (zd zz 3 g b) b (Wl a c e f R) b) d
def Vp:=λe (a:za) b f (g:LK)=>
 xD 108 e 1 103 a λh=>xD 134 b 0 3 a λi=>vx 103 h i 129 a λc=>zt 50 f 5 3 a λd=>opt (nb [c,d] (XC zz 129 c d false a)) λj=>kG 134 b 1 3 j a λk=>g [] k
def Qg:=λb c d e (f:LK) g (l:aaa) (a:za)=>
 zt 64 b 1 2 a λh=>opt (zh .neq 2 326 h 0) λi=>CD i (Vp c a d e)
 (λj=>j [] a)
 (λm k=>f [nth g 0] k)
def Je:=λa b d e (f:LK) g (c:za)=>
 zt 64 a 1 2 c λh=>zq zz (fn 92) [b,pm 1,h,pm 0] c (Qg a b d e f g)
def Vq:=λc (R:VK) d e f g (h:LK) i (a:za)=>
 opt (pk c (.bool true) i) λj=>CD j (λb=>rv [.bool false] a R)
 (λb=>b [.bool false] a)
 (Je d e f g h)
def Vr:=λa (R:VK) d e f g (h:LK) i (b:za)=>
 zg a false (zd zz 4 i b) b (λj c=>zg a false (Vx zz .not j) c (Vq a R d e f g h) c) b
def Wn:=λa (R:VK) d e f g (h:LK) i (b:za)=>
 zg a false (vy i) b (λj c=>zg a false (ze zz 108 j 8) c (Vr a R d e f g h) c) b
def Jf:=λ(f:za) a (R:VK) g h (i:LK) b=>
 opt (kV b 0) λj=>opt (kV b 1) λk=>qa 64 f λc l=>opt (yn 64 c j l) λd=>opt (Vx zz .not k) λe=>GD e false (λm=>m a d) (Wn e R c a g h i) d
def Qh:=λb c (d:LK) (g:aaa) (a:za)=>
 zt 50 b 3 3 a λe=>zq zz (fn 65) [c,e] a (λh f=>d [.bool false] f)
def Qi:=λa (b:za) (c:LK) d=>
 opt (vy a) λe=>opt (ze zz 108 e 7) λf=>opt (zJ zz 65 f (pm 0)) λg=>opt (yn 64 g d b) λh=>c [.bool false] h
def Vs:=λa (c:LK) d (b:za)=>
 opt (vy a) λe=>opt (ze zz 108 e 7) λf=>opt (zJ zz 65 f (pm 0)) λg=>zt 64 g 1 2 b λh=>zq zz (fn 96) [a,pm 2,h] b (λj i=>c [nth d 0] i)
def Yo:=λb (a:za) (R:VK) (d:LK)=>
 opt (vy b) λe=>opt (ze zz 108 e 7) λf=>opt (zJ zz 65 f (pm 0)) λg=>zt 64 g 0 3 a λh=>opt (zh .neq 3 392 h 1) λi=>CD i (λc=>rv [.bool false] a R)
 (λc=>c [.bool false] a)
 (Vs b d)
def Zo:=λa (b:za) (e:LK)=>
 xD 108 a 3 105 b λf=>zq zz (fn 95) [f] b (λc g=>zq zz (fn 96) [a,pm 1,c] g (λh d=>vL zz 64 [c] d (Qi a d e)))
def k9:=λb c (a:za) (R:VK) (d:LK)=>
 opt (zh .eql 3 12 b 26) λe=>CD e (Yo c a R)
 (λf=>f [.bool false] a)
 (λg h=>d [nth g 0] h)
def Wo:=λa b (c:za) (R:VK) (d:LK)=>
 opt (zh .eql 3 12 a 25) λe=>CD e (Zo b c)
 (k9 a b c R)
 (λf g=>d [nth f 0] g)
def u3:=λc b d (R:VK) e (f:LK) g (a:za)=>
 CD (nth g 0) (λm=>opt (zd zz 50 c a) λh=>zq zz (fn 94) [b,d,h] a (λi j=>rv [i] j R))
 (Wo e b a R)
 (λk l=>f [nth k 0] l)
def Yp:=λa (c:za) e f g (R:VK) (h:LK)=>
 opt (zh .eql 3 12 a 23) λd=>CD d (λb=>b [d] c)
 (λb=>opt (zh .eql 3 12 a 24) λi=>b [i] c)
 (u3 e f g R a h)
def ja:=λa (d:za) b (e:LK)=>
 kG 108 a 8 4 (.bool false) d λc=>zt 50 b 3 3 c λf=>zq zz (fn 92) [a,pm 4,f,pm 0] c (Qh b a e)
def Zp:=λa b c (d:za) (R:VK) e (f:LK)=>
 opt (zh .eql 3 12 a 22) λg=>CD g (λl=>zq zz (fn 93) [b,c] d (λh i=>rv [h] i R))
 (Yp a d e b c R)
 (λj k=>f [nth j 0] k)
def ki:=λc (a:za) b (R:VK) d (e:LK)=>
 zt 50 c 4 3 a λf=>xD 108 b 9 64 a λg=>xD 108 b 10 64 a λh=>vL zz 91 [f,g,h] a (Jf a b R d c e)
def jv:=λa b (c:za) d e (R:VK) (f:LK)=>
 opt (zh .eql 3 12 a 21) λg=>CD g (ja b c d)
 (Zp a b e c R d)
 (λh i=>f [nth h 0] i)
def qM:=λe (a:za) b f (g:LK)=>
 xD 108 e 1 103 a λh=>xD 134 b 0 3 a λi=>vx 103 h i 129 a λc=>zt 50 f 5 3 a λd=>opt (nb [c,d] (XC zz 129 c d false a)) λj=>kG 134 b 1 3 j a λk=>g [.bool false] k
def km:=λa b (c:za) d (R:VK) e (f:LK)=>
 opt (zh .eql 3 12 a 19) λg=>CD g (ki b c d R e)
 (jv a d c b e R)
 (λh i=>f [nth h 0] i)
def u4:=λa (b:za) d (R:VK) (f:LK)=>
 xD 108 a 8 4 b λc=>GD c true (λe=>e a b) (Wm c d a R) b
def ko:=λa b (c:za) d e (R:VK) (f:LK)=>
 opt (zh .eql 3 12 a 18) λg=>CD g (qM b c d e)
 (km a e c b R d)
 (λh i=>f [nth h 0] i)
def uu:=λb (a:za) c (d:LK)=>
 zt 50 b 1 3 a λe=>opt (vy c) λf=>opt (ze zz 108 f 7) λg=>vx 65 g e 64 a λh=>zt 50 b 6 2 a λi=>vL zz 64 [i] a (Vn c a h d)
def qw:=λa b (c:za) d (R:VK) e (f:LK)=>
 opt (zh .eql 3 12 a 17) λg=>CD g (u4 b c d R)
 (ko a b c e d R)
 (λh i=>f [nth h 0] i)
def vT:=λc (a:za) b (d:LK)=>
 zt 50 c 1 3 a λe=>opt (vy b) λf=>opt (ze zz 108 f 7) λg=>vx 65 g e 64 a λh=>zt 50 c 2 3 a λi=>opt (vy b) λj=>opt (ze zz 108 j 7) λk=>vx 65 k i 64 a λl=>kG 108 b 8 4 (.bool true) a λm=>kG 108 b 9 64 h m λn=>kG 108 b 10 64 l n λo=>d [.bool false] o
def uv:=λa b (c:za) d (R:VK) e (f:LK)=>
 opt (zh .eql 3 12 a 16) λg=>CD g (uu b c d)
 (qw a d c b R e)
 (λh i=>f [nth h 0] i)
def vH:=λc (a:za) b (R:VK) (j:LK)=>
 zt 50 c 2 3 a λd=>opt (vy b) λe=>opt (ze zz 108 e 7) λf=>vx 65 f d 64 a λg=>jN zz 90 [b,g] a (λh i=>rv [h] i R)
def uw:=λa b (c:za) d (R:VK) e (f:LK)=>
 opt (zh .eql 3 12 a 15) λg=>CD g (vT b c d)
 (uv a b c d R e)
 (λh i=>f [nth h 0] i)
def wZ:=λb (a:za) (R:VK) (f:LK)=>
 opt (vy b) λc=>opt (ze zz 108 c 7) λd=>vx 65 d (pm 0) 64 a λe=>vL zz 89 [e] a (Qc b a R)
def vU:=λa b (c:za) d (R:VK) e (f:LK)=>
 opt (zh .eql 3 12 a 14) λg=>CD g (vH b c d R)
 (uw a b c d R e)
 (λh i=>f [nth h 0] i)
def wM:=λa (e:za) f (R:VK) (o:LK)=>
 opt (vy a) λh=>opt (ze zz 108 h 7) λi=>vx 65 i (pm 1) 64 e λj=>qa 64 e λb k=>opt (yn 64 b j k) λc=>zt 64 b 0 3 c λl=>opt (zh .eql 3 159 l 1) λd=>GD d true (λm=>m a c) (λn g=>zg d true (ze zz 50 f 3) g (Qb d f a b n R) g) c
def vh:=λa b (c:za) (R:VK) d e (f:LK)=>
 opt (zh .eql 3 12 a 13) λg=>CD g (wZ b c R)
 (vU a d c b R e)
 (λh i=>f [nth h 0] i)
def wF:=λb (a:za) c (R:VK) (l:LK)=>
 zt 50 b 3 3 a λd=>zt 50 b 1 3 a λe=>zt 50 b 2 3 a λf=>opt (vy c) λg=>opt (ze zz 108 g 7) λh=>vx 65 h f 64 a λi=>jN zz 88 [c,d,e,i] a (λj k=>rv [j] k R)
def vi:=λa b (c:za) d (R:VK) e (f:LK)=>
 opt (zh .eql 3 12 a 12) λg=>CD g (wM b c d R)
 (vh a b c R d e)
 (λh i=>f [nth h 0] i)
def wh:=λb (a:za) c (R:VK) (l:LK)=>
 zt 50 b 3 3 a λd=>zt 50 b 1 3 a λe=>zt 50 b 1 3 a λf=>opt (vy c) λg=>opt (ze zz 108 g 7) λh=>vx 65 h f 64 a λi=>jN zz 88 [c,d,e,i] a (λj k=>rv [j] k R)
def w6:=λa b (c:za) d (R:VK) e (f:LK)=>
 opt (zh .eql 3 12 a 10) λg=>CD g (wF b c d R)
 (vi a d c b R e)
 (λh i=>f [nth h 0] i)
def xK:=λb (a:za) c (R:VK) (n:LK)=>
 zt 50 b 3 3 a λd=>zt 50 b 1 3 a λe=>zt 50 b 1 3 a λf=>opt (vy c) λg=>opt (ze zz 108 g 7) λh=>vx 65 h f 64 a λi=>zt 50 b 6 2 a λj=>vL zz 64 [j] a (λk=>jN zz 86 [c,d,e,i,k] a (λl m=>rv [l] m R))
def wN:=λa b (c:za) d (R:VK) e (f:LK)=>
 opt (zh .eql 3 12 a 9) λg=>CD g (wh b c d R)
 (w6 a b c d R e)
 (λh i=>f [nth h 0] i)
def xL:=λb (a:za) c (R:VK) (p:LK)=>
 zt 50 b 3 3 a λd=>zt 50 b 1 3 a λe=>zt 50 b 1 3 a λf=>opt (vy c) λg=>opt (ze zz 108 g 7) λh=>vx 65 h f 64 a λi=>zt 50 b 2 3 a λj=>opt (vy c) λk=>opt (ze zz 108 k 7) λl=>vx 65 l j 64 a λm=>jN zz 86 [c,d,e,i,m] a (λn o=>rv [n] o R)
def ya:=λa (c:za) d e (R:VK) h (i:LK)=>
 opt (zh .eql 3 12 a 8) λf=>CD f (λb=>b [f] c)
 (λb=>opt (zh .eql 3 12 a 11) λj=>b [j] c)
 (λk g=>CD (nth k 0) (xK d g e R)
 (wN a d g e R h)
 (λl m=>i [nth l 0] m))
def y9:=λb (a:za) c (d:LK)=>
 zt 50 b 1 3 a λe=>xD 108 c 5 22 a λf=>zt 50 b 3 3 a λg=>vx 22 f g 3 a λh=>zt 50 b 6 2 a λi=>vL zz 87 [h,i] a (dm c e a d)
def wi:=λa b (c:za) d (R:VK) e (f:LK)=>
 opt (zh .eql 3 12 a 7) λg=>CD g (xL b c d R)
 (ya a c b d R e)
 (λh i=>f [nth h 0] i)
def xc:=λb (a:za) c (R:VK) (m:LK)=>
 zt 50 b 1 3 a λd=>zt 50 b 2 3 a λe=>opt (vy c) λf=>opt (ze zz 108 f 7) λg=>vx 65 g e 64 a λh=>zt 50 b 6 2 a λi=>vL zz 64 [i] a (λj=>jN zz 86 [c,pm 11,d,h,j] a (λk l=>rv [k] l R))
def xR:=λa b (c:za) d (R:VK) e (f:LK)=>
 opt (zh .eql 3 12 a 6) λg=>CD g (y9 b c d)
 (wi a b c d R e)
 (λh i=>f [nth h 0] i)
def zQ:=λa b (c:za) d (R:VK) e (f:LK)=>
 opt (zh .eql 3 12 a 5) λg=>CD g (xc b c d R)
 (xR a b c d R e)
 (λh i=>f [nth h 0] i)
def zL:=λb c (R:VK) d e (f:LK) g (a:za)=>
 CD (nth g 0) (λm=>opt (zd zz 50 b a) λh=>zq zz (fn 85) [c,h] a (λi j=>rv [i] j R))
 (zQ d b a c R e)
 (λk l=>f [nth k 0] l)
def Jg:=λb (a:za) c (d:LK)=>
 zt 50 b 1 3 a λe=>zt 50 b 6 2 a λf=>vL zz 64 [f] a (Jd c e a d)
def xS:=λa (c:za) e f (R:VK) g (h:LK)=>
 opt (zh .eql 3 12 a 3) λd=>CD d (λb=>b [d] c)
 (λb=>opt (zh .eql 3 12 a 4) λi=>b [i] c)
 (zL e f R a g h)
def CZ:=λb (a:za) c (d:LK)=>
 zt 50 b 1 3 a λe=>zt 50 b 2 3 a λf=>opt (vy c) λg=>opt (ze zz 108 g 7) λh=>vx 65 h f 64 a λi=>opt (vy c) λj=>opt (ze zz 108 j 7) λk=>opt (zJ zz 65 k e) λl=>opt (yn 64 l i a) λm=>d [.bool false] m
def xM:=λa b (c:za) d (R:VK) e (f:LK)=>
 opt (zh .eql 3 12 a 2) λg=>CD g (Jg b c d)
 (xS a c b d R e)
 (λh i=>f [nth h 0] i)
def xA:=λa b (c:za) d (R:VK) e (f:LK)=>
 opt (zh .eql 3 12 a 1) λg=>CD g (CZ b c d)
 (xM a b c d R e)
 (λh i=>f [nth h 0] i)
def tX:=λ(h:za) d e a (R:VK)=>
 opt (nb [a] (some (Value.cells a).toList)) λf=>nw h f 50 λb c=>zt 50 b 0 3 c λg=>BK (xA g b c d R e)
 (λj i=>rv [.bool true] i R)
theorem ot(hw:tX h t0 t1 t2 R):DC zz 66 [t0,t1,t2] h R:=zT (by kernel_rfl) hw
def K5:=λa (b:za) c (g:LK)=>
 xD 108 a 6 106 b λd=>opt (nb [c] (yd zz 134 [(0,c)])) λe=>yp (nb [e] (zZ zz 106 1 [(0,e)] b)) λf h=>yp (nb [d,f] (zP zz .append [106,106] 106 [d,f] h)) λi j=>kG 108 a 6 106 i j λk=>g [] k
def lT:=λ(h:za) a c (R:VK)=>
 zq zz (fn 84) [a,pm 8] h (λd b=>CD d (K5 a b c)
 (λe=>e [] b)
 (λg f=>rv [] f R))
theorem iM(hw:lT h t0 t1 R):DC zz 65 [t0,t1] h R:=zT (by kernel_rfl) hw
def cY:=λa (h:za) (R:VK) (e:LK)=>
 opt (vy a) λb=>opt (ze zz 108 b 4) λc=>UF 33 c 0 3 (pm 4) h λd=>rv [.bool false] d R
def cZ:=λa f (R:VK) (k:List aaa) (c:za)=>
 xD 108 a 11 3 c λg=>opt (yz .add 3 23 24 g f) λh=>kG 108 a 11 3 h c λb=>xD 108 a 13 3 b λd=>xD 108 a 11 3 b λe=>yp (nb [d,e] (zP zz .max [3,3] 3 [d,e] b)) λi _=>kG 108 a 13 3 i b λj=>rv [.bool true] j R
def tT:=λ(h:za) a b (R:VK)=>
 xD 108 a 12 3 h λc=>xD 108 a 11 3 h λd=>opt (yz .sub 3 9 13 c d) λe=>opt (yz .gtr 3 5 14 b e) λf=>CD f (cY a h R)
 (λg=>g [.bool false] h)
 (cZ a b R)
theorem oc(hw:tT h t0 t1 R):DC zz 84 [t0,t1] h R:=zT (by kernel_rfl) hw
def Qq:=λb (a:za) c d (R:VK) (n:LK)=>
 xD 108 b 2 104 a λe=>zt 50 c 3 3 a λf=>opt (zd zz 64 d a) λg=>zt 50 c 1 3 a λh=>opt (vy b) λi=>opt (ze zz 108 i 7) λj=>vx 65 j h 64 a λk=>jN zz 107 [e,f,g,k] a (λl m=>rv [l] m R)
def Qr:=λb c (R:VK) a (d:za)=>
 opt (kV a 0) λe=>opt (kV a 1) λf=>opt (vy b) λg=>opt (ze zz 108 g 7) λh=>opt (zJ zz 65 h c) λi=>opt (yn 64 i e d) λj=>rv [f] j R
def Qs:=λb c d (R:VK) (i:List aaa) (a:za)=>
 zt 50 b 1 3 a λe=>xD 108 c 2 104 a λf=>zt 50 b 3 3 a λg=>opt (zd zz 64 d a) λh=>Al zz 108 [f,g,h] a (Qr c e R)
def XO:=λa c d (R:VK) e (i:aaa) (b:za)=>
 zt 50 a 0 3 b λf=>opt (zh .eql 3 35 f 4) λg=>CD g (Qq c b a d R)
 (λh=>h [nth e 0] b)
 (Qs a c d R)
def Qt:=λa c d (R:VK) e (b:za)=>
 zt 64 a 2 3 b λf=>zt 64 a 1 2 b λg=>zq zz (fn 92) [c,pm 2,f,g] b (XO d c a R e)
def ZR:=λa (R:VK) e f g h (b:za)=>
 zg a false (zh .neq 3 25 h 2) b (λi c=>opt (pk a (.bool true) i) λj=>CD j (λd=>rv [.bool false] c R)
 (λd=>d [.bool false] c)
 (Qt e f g R)) b
def Qu:=λ(f:za) (R:VK) g h d=>
 opt (kV d 0) λi=>opt (kV d 1) λj=>qa 64 f λa k=>opt (yn 64 a i k) λe=>opt (Vx zz .not j) λb=>zg b false (ze zz 64 a 0) e (λl c=>zg b false (zd zz 3 l c) c (ZR b R a g h) c) e
def cR:=λ(h:za) c d (R:VK)=>
 opt (nb [d] (some (Value.cells d).toList)) λe=>nw h e 50 λb a=>zt 50 b 2 3 a λf=>opt (vy c) λg=>opt (ze zz 108 g 7) λi=>vx 65 i f 64 a λj=>zt 50 b 6 2 a λk=>vL zz 64 [k] a (λl=>vL zz 91 [pm 11,j,l] a (Qu a R c b))
theorem cS(hw:cR h t0 t1 R):DC zz 85 [t0,t1] h R:=zT (by kernel_rfl) hw
def M3:=λd e (R:VK) a (f:za)=>
 opt (kV a 0) λg=>opt (kV a 1) λh=>qa 64 f λb i=>opt (yn 64 b g i) λc=>opt (zd zz 64 b c) λj=>opt (vy d) λk=>opt (ze zz 108 k 7) λl=>opt (zJ zz 65 l e) λm=>opt (yn 64 m j c) λn=>rv [h] n R
def zcN:=λ(h:za) d e f b c (R:VK)=>
 opt (nb [b] (some (Value.cells b).toList)) λg=>nw h g 64 λi j=>opt (nb [c] (some (Value.cells c).toList)) λk=>nw j k 64 λl a=>opt (zd zz 64 i a) λm=>opt (zd zz 64 l a) λn=>zq zz (fn 91) [e,m,n] a (M3 d f R)
theorem Si(hw:zcN h t0 t1 t2 t3 t4 R):DC zz 86 [t0,t1,t2,t3,t4] h R:=zT (by kernel_rfl) hw
def Su:=λd e (R:VK) a (f:za)=>
 opt (kV a 0) λg=>opt (kV a 1) λh=>qa 64 f λb i=>opt (yn 64 b g i) λc=>opt (zd zz 64 b c) λj=>opt (vy d) λk=>opt (ze zz 108 k 7) λl=>opt (zJ zz 65 l e) λm=>opt (yn 64 m j c) λn=>rv [h] n R
def zfT:=λ(h:za) c d e a (R:VK)=>
 opt (nb [a] (some (Value.cells a).toList)) λf=>nw h f 64 λg b=>opt (zd zz 64 g b) λi=>zq zz (fn 109) [d,i] b (Su c e R)
theorem zbp(hw:zfT h t0 t1 t2 t3 R):DC zz 88 [t0,t1,t2,t3] h R:=zT (by kernel_rfl) hw
def Sr:=λ(h:za) a (R:VK)=>
 opt (nb [a] (some (Value.cells a).toList)) λf=>nw h f 64 λg i=>qa 64 i λb c=>zt 64 g 1 2 c λd=>opt (nb [d,.int .u64 63] (zS zz .shr 2 (.tmp 4) (.const (.int .u64 63)) d (.int .u64 63))) λj=>zq zz (fn 64) [j] c (λk l=>opt (yn 64 b k l) λe=>opt (zd zz 64 b e) λm=>rv [m] e R)
theorem Pe(hw:Sr h t0 R):DC zz 89 [t0] h R:=zT (by kernel_rfl) hw
def Vf:=λb d e (R:VK) f (c:za)=>
 GD b true (λg=>zq zz (fn 86) [d,pm 15,pm 2,e,f] c (λa h=>g a h)) (λa i=>opt (pk b a (.bool false)) λj=>rv [j] i R) c
def Vg:=λa d e (R:VK) f (b:za)=>
 zg a true (zd zz 64 d b) b (λg c=>zg a true (zd zz 64 e c) c (Vf a f g R) c) b
def Vh:=λb c d (R:VK) (j:List aaa) (a:za)=>
 opt (zd zz 64 b a) λg=>opt (zd zz 64 c a) λh=>zq zz (fn 86) [d,pm 14,pm 0,g,h] a (λe f=>GD e true (λi=>i d f) (Vg e b c R) f)
def XR:=λc (a:za) (R:VK) d e f g h=>
 opt (yz .neq 64 29 31 c h) λi=>CD i (λb=>rv [.bool false] a R)
 (λb=>b [nth d 0] a)
 (Vh e f g R)
def Vi:=λb c (R:VK) d e (j:aaa) (a:za)=>
 opt (vy b) λf=>opt (ze zz 108 f 7) λg=>vx 65 g (pm 2) 64 a λh=>opt (zd zz 64 c a) λi=>vL zz 89 [i] a (XR h a R d c e b)
def Qy:=λb c d (R:VK) e (a:za)=>
 zt 64 b 1 2 a λf=>zt 64 c 1 2 a λg=>zq zz (fn 92) [d,pm 3,f,g] a (Vi d b R e c)
def XS:=λa (R:VK) e f g h (b:za)=>
 zg a false (zh .neq 3 16 h 1) b (λi c=>opt (pk a (.bool true) i) λj=>CD j (λd=>rv [.bool false] c R)
 (λd=>d [.bool false] c)
 (Qy e f g R)) b
def cT:=λ(h:za) e f (R:VK)=>
 opt (nb [f] (some (Value.cells f).toList)) λj=>nw h j 64 λg i=>opt (vy e) λk=>opt (ze zz 108 k 7) λl=>vx 65 l (pm 0) 64 i λm=>qa 64 i λa n=>opt (yn 64 a m n) λb=>zt 64 a 0 3 b λo=>opt (zh .neq 3 12 o 1) λc=>zg c false (ze zz 64 g 0) b (λp d=>zg c false (zd zz 3 p d) d (XS c R a g e) d) b
theorem cU(hw:cT h t0 t1 R):DC zz 90 [t0,t1] h R:=zT (by kernel_rfl) hw
def tV:=λ(h:za) a b c d (R:VK)=>
 opt (vy a) λi=>opt (ze zz 108 i 4) λj=>zt 33 j 3 31 h λe=>opt (nb [b,c,d] (yd zz 80 [(0,b),(1,c),(2,d)])) λf=>yp (nb [f] (zZ zz 31 1 [(0,f)] h)) λg k=>yp (nb [e,g] (zP zz .append [31,31] 31 [e,g] k)) λl m=>opt (vy a) λn=>opt (ze zz 108 n 4) λo=>UF 33 o 3 31 l m λp=>rv [] p R
theorem oh(hw:tV h t0 t1 t2 t3 R):DC zz 92 [t0,t1,t2,t3] h R:=zT (by kernel_rfl) hw
def M7:=λ(h:za) a b c (R:VK)=>
 opt (vy a) λg=>opt (ze zz 108 g 4) λi=>zt 33 i 2 30 h λd=>opt (nb [b,c] (yd zz 85 [(0,b),(1,c)])) λe=>yp (nb [e] (zZ zz 30 1 [(0,e)] h)) λf j=>yp (nb [d,f] (zP zz .append [30,30] 30 [d,f] j)) λk l=>opt (vy a) λm=>opt (ze zz 108 m 4) λn=>UF 33 n 2 30 k l λo=>rv [] o R
theorem IS(hw:M7 h t0 t1 t2 R):DC zz 96 [t0,t1,t2] h R:=zT (by kernel_rfl) hw
def CW:=λe a (R:VK) (m:List aaa) (b:za)=>
 opt (ze zz 64 e 1) λc=>opt (zd zz 2 c b) λf=>opt (vy a) λg=>opt (ze zz 108 g 4) λh=>opt (ze zz 33 h 0) λd=>(Po 1 d 1 c/\opt (yn 3 d (pm 1) b) λi=>opt (vy a) λj=>opt (ze zz 108 j 4) λk=>UF 33 k 1 2 f i λl=>rv [.bool true] l R)
def CX:=λc (R:VK) f (d:za)=>
 opt (vy c) λg=>opt (ze zz 108 g 7) λh=>vx 65 h (pm 0) 64 d λi=>qa 64 d λa j=>opt (yn 64 a i j) λb=>zt 64 a 0 3 b λk=>opt (zh .neq 3 47 k 1) λl=>CD l (λe=>rv [.bool false] b R)
 (λe=>e [nth f 0] b)
 (CW a c R)
def CY:=λa (R:VK) i (j:za)=>
 kG 108 a 8 4 (.bool false) j λc=>xD 108 a 11 3 c λk=>opt (zh .sub 3 17 k 8) λl=>kG 108 a 11 3 l c λb=>xD 108 a 6 106 b λd=>xD 108 a 6 106 b λm=>yp (v8 106 m b) λn _=>opt (zh .sub 3 30 n 1) λe=>opt (nb [d] (cond (HX none&&HX (some e)) (B7 zz 106 d none (some e) b) none)) λo=>kG 108 a 6 106 o b λf=>xD 108 a 6 106 f λp=>yp (v8 106 p f) λq g=>opt (zh .gtr 3 39 q 0) λr=>CD r (λh=>rv [.bool true] g R)
 (λh=>h [nth i 0] g)
 (CX a R)
def Nb:=λ(h:za) b c (R:VK)=>
 xD 134 c 2 3 h λd=>opt (zh .neq 3 9 d 0) λe=>CD e (λa=>rv [.bool false] h R)
 (λa=>a [.bool false] h)
 (CY b R)
theorem IV(hw:Nb h t0 t1 R):DC zz 93 [t0,t1] h R:=eG mixed (q:=qs) (n:=200) (Eq.mpr (by kernel_rfl) hw)
def K6:=λa b (R:VK) (n:aaa) (c:za)=>
 xD 108 a 11 3 c λe=>xD 134 b 3 3 c λf=>opt (yz .sub 3 38 42 e f) λg=>kG 108 a 11 3 g c λd=>xD 134 b 4 64 d λh=>opt (vy a) λi=>opt (ze zz 108 i 7) λj=>opt (zJ zz 65 j (pm 4)) λk=>opt (yn 64 k h d) λl=>kG 134 b 2 3 (pm 0) l λm=>rv [.bool true] m R
def K7:=λb c (R:VK) (f:List aaa) (a:za)=>
 xD 108 b 2 104 a λd=>xD 134 c 2 3 a λe=>jN zz 114 [d,e] a (K6 b c R)
def Xg:=λa e (R:VK) f g h (b:za)=>
 zg a false (yz .neq 3 21 23 e h) b (λi c=>opt (pk a (.bool true) i) λj=>CD j (λd=>rv [.bool false] c R)
 (λd=>d [.bool false] c)
 (K7 f g R)) b
def Xh:=λa d (R:VK) e f g (c:za)=>
 zg a false (ze zz 50 d 6) c (λh b=>zg a false (zd zz 2 h b) b (Xg a g R e f) b) c
def Xi:=λa d (R:VK) e f g (c:za)=>
 zg a false (ze zz 134 g 3) c (λh b=>zg a false (zd zz 3 h b) b (Xh a d R e f) b) c
def K8:=λa (b:za) e (R:VK) f (j:LK)=>
 xD 134 a 2 3 b λg=>opt (zh .eql 3 15 g 0) λc=>GD c false (λh=>h a b) (λi d=>zg c false (vy i) d (Xi c e R f a) d) b
def K9:=λa (b:za) c (R:VK) d=>
 opt (vy a) λe=>opt (ze zz 108 e 7) λf=>opt (zJ zz 65 f (pm 4)) λg=>opt (yn 64 g d b) λh=>opt (zh .eql 34 100 c 0) λi=>rv [i] h R
def Ja:=λi c a (R:VK) d (b:za)=>
 opt (kV d 0) λe=>opt (kV d 1) λj=>opt (ze zz 50 i 6) λf=>opt (zd zz 2 f b) λk=>opt (vy c) λl=>opt (ze zz 108 l 7) λm=>vx 65 m (pm 4) 64 b λn=>opt (vy a) λo=>opt (ze zz 134 o 2) λg=>(Po 1 g 1 f/\opt (yn 3 g e b) λp=>kG 134 a 3 3 k p λq=>kG 134 a 4 64 n q λh=>vL zz 87 [e,pm 0] h (K9 c h j R))
def U8:=λb c d (R:VK) (g:List aaa) (a:za)=>
 xD 108 b 2 104 a λe=>zt 50 c 6 2 a λf=>jN zz 62 [e,f] a (Ja c b d R)
def Qz:=λa b (R:VK) f g (c:za)=>
 zt 50 a 6 2 c λh=>zq zz (fn 84) [b,h] c (λi d=>opt (Vx zz .not i) λj=>CD j (λe=>rv [.bool true] d R)
 (λe=>e [nth g 0] d)
 (U8 b a f R))
def XT:=λb (R:VK) d e f (a:za)=>
 xD 134 b 2 3 a λg=>opt (zh .neq 3 60 g 0) λh=>CD h (λc=>rv [.bool false] a R)
 (λc=>c [nth f 0] a)
 (Qz d e R b)
def lU:=λ(h:za) c d e (R:VK)=>
 opt (nb [e] (some (Value.cells e).toList)) λf=>nw h f 50 λa b=>zt 50 a 0 3 b λg=>opt (zh .eql 3 10 g 24) λi=>CD i (K8 d b a R c)
 (λj=>j [.bool false] b)
 (XT d R a c)
theorem iO(hw:lU h t0 t1 t2 R):DC zz 94 [t0,t1,t2] h R:=eG mixed (q:=qs) (n:=200) (Eq.mpr (by kernel_rfl) hw)
end Go.As
namespace Go.Ai
open Go.Ai Go.Proofs
theorem I9:rG 103:=wG (by kernel_rfl)
theorem ou:rG 104:=wG (by kernel_rfl)
theorem zdP:rG 105:=wG (by kernel_rfl)
theorem En:rG 106:=wG (by kernel_rfl)
theorem SJ:rG 129:=wG (by kernel_rfl)
theorem zdR:Ry 103 129 1 8:=λr v x n w h h1 h2 h3 h4=>jw (e:=129) (e2:=129) (by kernel_rfl) (by kernel_rfl) (by kernel_rfl) (by kernel_rfl) (by decide) h1 h2 h3 h4
theorem zdS:Ry 106 134 7 56:=λr v x n w h h1 h2 h3 h4=>jw (e:=134) (e2:=134) (by kernel_rfl) (by kernel_rfl) (by kernel_rfl) (by kernel_rfl) (by decide) h1 h2 h3 h4
theorem zdX:RG 103:=λb o _ _ _ h=>uc (by kernel_rfl) b o _ h rfl
theorem S5:RG 106:=λb o _ _ _ h=>uc (by kernel_rfl) b o _ h rfl
theorem zdY:FcM 130 6:=XV (by kernel_rfl)
theorem S9:FcM 47 2:=XV (by kernel_rfl)
theorem G1:FcM 50 7:=XV (by kernel_rfl)
theorem zd4:Ye pu 130=some (.agg #[(pm 0),(pm 0),(pm 0),(pm 0),(pm 0),(pm 0)]):=zG (by kernel_rfl)
theorem Td:Ye pu 47=some (.agg #[(.string ⟨#[]⟩),(pp)]):=zG (by kernel_rfl)
theorem G3:Ye pu 50=some (.agg #[(pm 0),(pm 0),(pm 0),(pm 0),(pm 0),(pm 0),(pm 0)]):=zG (by kernel_rfl)
theorem Tf(v0:Int):yd pu 134 [(0,(pm v0))]=some (.agg #[(pm v0),(pm 0),(pm 0),(pm 0),(pm 0),(pm 0),(pm 0)]):=zG (by kernel_rfl)
theorem Ln(v0:Option Nat)(h:za):zZ pu 103 1 [(0,(.map v0))] h=some (.slice (some ⟨h.next,0,none⟩) 1 3,h.push (.cells [(.map v0)] 129)):=zG (by kernel_rfl)
theorem Lo(v00:Int)(v01:Int)(v02:Int)(v03:Int)(v040:Int)(v041:Int)(v042:Int)(h:za):zZ pu 106 1 [(0,(.agg #[(pm v00),(pm v01),(pm v02),(pm v03),(pm v040),(pm v041),(pm v042)]))] h=some (.slice (some ⟨h.next,0,none⟩) 1 3,h.push (.cells [(pm v00),(pm v01),(pm v02),(pm v03),(pm v040),(pm v041),(pm v042)] 134)):=zG (by kernel_rfl)
theorem Ht:Iy 108 0:=λb o=>zG (by kernel_rfl)
theorem AD:WX 108 1 4:=λb o=>zG (by kernel_rfl)
theorem fF:WX 108 10 66:=λb o=>zG (by kernel_rfl)
theorem Jr:WX 108 11 69:=λb o=>zG (by kernel_rfl)
theorem Dq:WX 108 12 70:=λb o=>zG (by kernel_rfl)
theorem Dr:WX 108 13 71:=λb o=>zG (by kernel_rfl)
theorem Js:WX 108 2 5:=λb o=>zG (by kernel_rfl)
theorem TJ:WX 108 3 6:=λb o=>zG (by kernel_rfl)
theorem Yf:WX 108 4 7:=λb o=>zG (by kernel_rfl)
theorem Hu:WX 108 5 12:=λb o=>zG (by kernel_rfl)
theorem mE:WX 108 6 13:=λb o=>zG (by kernel_rfl)
theorem xQ:WX 108 7 14:=λb o=>zG (by kernel_rfl)
theorem Ur:WX 108 8 62:=λb o=>zG (by kernel_rfl)
theorem mF:WX 108 9 63:=λb o=>zG (by kernel_rfl)
theorem AE:Iy 134 0:=λb o=>zG (by kernel_rfl)
theorem Jt:WX 134 1 1:=λb o=>zG (by kernel_rfl)
theorem QM:WX 134 2 2:=λb o=>zG (by kernel_rfl)
theorem mH:WX 134 3 3:=λb o=>zG (by kernel_rfl)
theorem Hv:WX 134 4 4:=λb o=>zG (by kernel_rfl)
theorem zew:Mx 103 1:=λb o l c k i=>vA (e:=129) (by kernel_rfl) (by kernel_rfl)
theorem zex:Mx 106 7:=λb o l c k i=>vA (e:=134) (by kernel_rfl) (by kernel_rfl)
theorem zey(b off:Nat)(k:IntKind)(i:Int):zJ pu 130 (.pointer (some ⟨b,off,none⟩)) (.int k i)=if 0<=i/\i<6 then some (.pointer (some ⟨b,off+i.toNat*1,none⟩)) else none:=J0 (e:=3) (len:=6) (by kernel_rfl) (by kernel_rfl)
theorem EZ:Rz 106:=λr a n c h=>zG (by kernel_rfl)
theorem zfi(b off len c:Nat)(lo hi:Option aaa)(h:za):B7 pu 106 (.slice (some ⟨b,off,none⟩) len c) lo hi h=(vV hi len len).bind λhh=>(vV lo 0 hh).bind λl=>some (.slice (some ⟨b,off+l*7,none⟩) (hh-l) (cond (wide pu h b 7) (aC c l) 0)):=oE (e:=134) (by kernel_rfl) (by kernel_rfl)
end Go.Ai
namespace Go.Rm
open Go.Ai Go.Proofs Go.Mem
theorem Ml{M:MM}{B:MB}(h:small M)(hb:B.size<2147483648):small (M++[B]):=λi C hC=>by
 rw[List.getElem?_append]at hC;split at hC
 ·exact h i C hC
 ·cases hq:i-M.length with
  |zero=>rw[hq]at hC;simp at hC;subst hC;exact hb
  |succ k=>rw[hq]at hC;simp at hC
def vb(v:V):Prop:=wH v.b
theorem XY:wH 0:=⟨by decide,by decide⟩
theorem nk:vb v0:=XY
theorem bP(n:Int):vb (wB n):=XY
theorem Im{b n:Int}(h:wH b):vb (iQ b n):=by
 unfold iQ;split
 ·exact XY
 ·exact h
theorem Io(t:Bool):vb (kL t):=by unfold kL;split <;> exact XY
theorem zfr{c:Prop}[Decidable c]{x y:Option V}{v:V}(hx:x=some v->vb v)(hy:y=some v->vb v):(if c then x else y)=some v->vb v:=by
 intro h;by_cases hc:c
 ·rw[aai hc]at h;exact hx h
 ·rw[aae hc]at h;exact hy h
theorem zcB{op a b:Int}{v:V}(h:uE op a b=some v):vb v:=by
 revert h
 unfold uE
 repeat' apply zfr
 all_goals intro h
 all_goals first
  |(cases h;done)
  |(have e:=abP h;rw[<- e];first|exact bP _|exact Io _)
theorem eC{op:Int}{a b v:V}(ha:vb a)(hb:vb b)(h:zH op a b=some v):vb v:=by
 unfold zH at h;split at h
 ·exact zcB h
 split at h
 ·simp only[aab]at h;subst h;exact Im ha
 split at h
 ·simp only[aab]at h;subst h;exact Im hb
 split at h
 ·simp only[aab]at h;subst h;exact Im ha
 split at h
 ·unfold vd at h;split at h
  ·simp only[aab]at h;subst h;exact Io _
  ·cases h
 ·cases h
theorem zdH{op:Int}{a v:V}(h:bO op a=some v):vb v:=by
 unfold bO at h
 repeat' (split at h)
 all_goals first
  |(cases h;done)
  |(simp only[aab]at h;subst h;exact bP _)
theorem zfq{l:List V}(h:∀v,v∈l->vb v)(r:Int):vb (EM l r):=by
 unfold EM;split
 ·exact nk
 ·rw[aaF];cases e:l[r.toNat]? with
  |none=>exact nk
  |some v=>exact h v (aaA e)
def i5(M:MM):Prop:=small M/\M.length<=100000 /\ ∀(i:Nat) B,M[i]? = some B->∀a,vb (B.byte a).p
theorem P1{M:MM}{c:Int}{p v:V}(h:i5 M)(e:Wx M c p=some v):vb v:=by
 unfold Wx at e;split at e
 ·cases e
 ·rename_i i hi;simp only[aaq]at e;obtain⟨B,hB,rfl⟩:=e;unfold bN;split
  ·exact XY
  split
  ·exact h.2.2 i B hB _
  ·exact nk
theorem Bc{M:MM}{i:Nat}{B:MB}(h:i5 M)(hs:B.size<2147483648)(hp:∀a,vb (B.byte a).p):i5 (M.set i B):=by
 refine⟨λj C hC=>?_,by rw[abd];exact h.2.1,λj C hC a=>?_⟩
 ·rw[acI]at hC;split at hC
  ·split at hC
   ·cases hC;exact hs
   ·cases hC
  ·exact h.1 j C hC
 ·rw[acI]at hC;split at hC
  ·split at hC
   ·cases hC;exact hp a
   ·cases hC
  ·exact h.2.2 j C hC a
theorem LY{M M':MM}{c:Int}{p v:V}(h:i5 M)(hv:vb v)(e:kd M c p v=some M'):i5 M':=by
 unfold kd at e;split at e
 ·cases e
 split at e
 ·cases e
 ·rename_i i hi;simp only[aaq]at e;obtain⟨B,hB,rfl⟩:=e;refine Bc h (h.1 i B hB) λa=>?_;show vb ((if _ then cellOf (norm v) _ else B.byte a).p);split
  ·unfold cellOf norm
   repeat' split
   all_goals first|exact hv|exact nk
  ·exact h.2.2 i B hB a
theorem P0{M:MM}{n:Int}(h:i5 M):i5 ((Yw M n).getD M):=by
 cases e:Yw M n with
 |none=>exact h
 |some M'=>
  unfold Yw at e;simp only[abU,aaq]at e;obtain⟨i,hi,B,hB,rfl⟩:=e;exact Bc h (h.1 i B hB) λa=>nk
theorem P2{M:MM}{n:Int}(h:i5 M):i5 ((Xu M n).getD M):=by
 cases e:Xu M n with
 |none=>exact h
 |some M'=>
  unfold Xu at e;simp only[abU,aaq]at e;obtain⟨i,hi,B,hB,rfl⟩:=e;refine Bc h (h.1 i B hB) λa=>?_;show vb ((if a<_ then zc else B.byte a).p);split
  ·exact nk
  ·exact h.2.2 i B hB a
theorem aN{M:MM}(n:Int)(h:i5 M):i5 (yJ M n).1/\wH (yJ M n).2.1:=by
 unfold yJ;split
 ·exact⟨h,XY⟩
 split
 ·exact⟨h,XY⟩
 ·refine⟨⟨?_,by simp;omega,λi B hB a=>?_⟩,?_⟩
  ·exact Ml h.1 (by show n.toNat<_;omega)
  ·rw[List.getElem?_append]at hB;split at hB
   ·exact h.2.2 i B hB a
   ·cases hq:i-M.length with
    |zero=>rw[hq]at hB;simp at hB;subst hB;exact nk
    |succ k=>rw[hq]at hB;simp at hB
  ·show wH ((M.length:Int)+1);constructor <;> omega
theorem rY:∀(ns:List Int) (M:MM) (l:List Int),i5 M->(∀z,z∈l->wH z)->i5 (xI ns M l).1/\(xI ns M l).2.length=l.length+ns.length /\ ∀z,z∈(xI ns M l).2->wH z
 |[],M,l,h,hl=>⟨h,by simp[xI],hl⟩
 |n::ns,M,l,h,hl=>by
  have a:=aN n h
  obtain⟨b,c,d⟩:=rY ns ((Xu (yJ M n).1 (yJ M n).2.1).getD (yJ M n).1) (l++[(yJ M n).2.1]) (P2 a.1) λz hz=>by
   rcases aa2.1 hz with q|q
   ·exact hl z q
   ·simp only[abp]at q;subst q;exact a.2
  refine⟨b,?_,d⟩;show(xI ns _ _).2.length=_;rw[c];simp;omega
theorem iX:∀(ns:List Int) (n:Int) (M:MM) (l:List Int),xI (ns++[n]) M l=(((Xu (yJ (xI ns M l).1 n).1 (yJ (xI ns M l).1 n).2.1).getD (yJ (xI ns M l).1 n).1),(xI ns M l).2++[(yJ (xI ns M l).1 n).2.1])
 |[],n,M,l=>rfl
 |m::ns,n,M,l=>iX ns n _ _
theorem Bb:i5 []:=⟨λi B h=>(by cases h),by decide,λi B h=>(by cases h)⟩
end Go.Rm
namespace Go.As
open Go.Ai Go.Proofs Go.Mem Go.Rm
open Go.Rtl (zl zE Old)
structure xY where
 op:Int
 r:Int
 m:Int
 sub:Int
 cc:Int
 l:Int
 k:Int
structure Fn where
 nm:ByteArray
 cv:aaa
 code:List xY
structure Pg where
 gv:aaa
 globals:List Int
 fv:aaa
 funcs:List Fn
 main:Int
 params:Int
abbrev xY.row(x:xY):List aaa:=[pm x.op,pm x.r,pm x.m,pm x.sub,pm x.cc,pm x.l,pm x.k]
abbrev xY.val(x:xY):aaa := .agg #[pm x.op,pm x.r,pm x.m,pm x.sub,pm x.cc,pm x.l,pm x.k]
abbrev Fn.row(f:Fn):List aaa:=[.string f.nm,f.cv]
abbrev Fn.val(f:Fn):aaa := .agg #[.string f.nm,f.cv]
abbrev Pg.row(p:Pg):List aaa:=[p.gv,p.fv,pm p.main,pm p.params]
abbrev Pg.val(p:Pg):aaa := .agg #[p.gv,p.fv,pm p.main,pm p.params]
structure WB (h:za) (f:Fn):Prop where
 code:zE h f.cv 7 (f.code.map xY.row)
 ru:f.code.length*56<=140737488351232
structure wR (h:za) (p:Pg):Prop where
 globals:zl h p.gv p.globals
 LJ:p.globals.length<=17592186043904
 funcs:zE h p.fv 2 (p.funcs.map Fn.row)
 PK:p.funcs.length*24<=140737488351232
 fns:∀f,f∈p.funcs->WB h f
section
variable {h h':za}{f:Fn}{p:Pg}
theorem WB.old(S:WB h f)(e:Old h h'):WB h' f:=⟨S.code.old e,S.ru⟩
theorem WB.lock(S:WB h f):WB h.lock f:=⟨S.code.lock,S.ru⟩
theorem wR.old(S:wR h p)(e:Old h h'):wR h' p:=⟨S.globals.old e,S.LJ,S.funcs.old e,S.PK,λf hf=>(S.fns f hf).old e⟩
theorem wR.lock(S:wR h p):wR h.lock p:=⟨S.globals.lock,S.LJ,S.funcs.lock,S.PK,λf hf=>(S.fns f hf).lock⟩
end
structure Fr where
 f:Nat
 pt:Int
 qX:Int
 size:Int
 KC:V
structure St where
 mem:MM
 used:Int
 kind:Int
 exit:Int
 ev:List (Int×Int)
 lk:List (Int×Int×Int)
 steps:Int
 gl:List Int
 calls:List Fr
 jb:List V
 flags:Bool
 a:V
 b:V
 stack:Int
 jU:Int
def yH(S:St)(k a b:Int):St:={S with lk:=S.lk++[(k,a,b)]}
def wS(S:St)(k v:Int):St:={S with ev:=S.ev++[(k,v)]}
def vj(S:St)(c:Fr):St:={S with calls:=S.calls.dropLast++[c]}
def xt(S:St)(r:Int)(v:V):St:={S with jb:=S.jb.set r.toNat v}
def zj(S:St)(r:Int):V:=EM S.jb r
def zY(lim:Int)(S:St)(n:Int):St×Bool:=if lim-S.stack<n then ({S with kind:=4},false) else ({S with stack:=S.stack+n,jU:=max S.jU (S.stack+n)},true)
def ye(lim:Int)(S:St)(f:Nat):St:=if (zY lim S 8).2=true then { (zY lim S 8).1 with calls:=(zY lim S 8).1.calls++[⟨f,0,0,0,v0⟩]} else (zY lim S 8).1
def xV(S:St)(to:Int)(o:Option V):St×Bool:=(xt S to (o.getD v0),o.isSome)
def Yt:List xY->Int->Int->Int->Int
 |[],_,_,z=>z
 |x::xs,l,n,z=>Yt xs l (n+1) (if x.op=20/\x.l=l then n else z)
def ve(p:Pg)(f:Nat)(l:Int):Int:=match p.funcs[f]? with
 |none=>0
 |some g=>Yt g.code l 0 0
def Zs(v:V):V:=wB (v.n.fdiv (2^63))
def yb(S:St)(i:xY):St×Bool:=match zH 11 (zj S i.m) (wB i.k) with
 |none=>(S,false)
 |some q=>if q.k=2 then (if i.op=4 then (match kd S.mem i.sub q (zj S i.r) with
   |none=>(yH S 2 q.b q.n,false)
   |some M=>({yH S 2 q.b q.n with mem:=M},true)) else xV (yH S 2 q.b q.n) i.r (Wx S.mem i.sub q)) else (S,false)
def qF(S:St)(m:V):St×Bool :=
 if (zj S 0).k=1/\m.k=1 then
  (if zj S 2=Zs (zj S 0) then
   (if (xV (yH S 3 (zj S 0).n m.n) 0 (zH 14 (zj S 0) m)).2=true then xV (xV (yH S 3 (zj S 0).n m.n) 0 (zH 14 (zj S 0) m)).1 2 (zH 15 (zj S 0) m)
    else xV (yH S 3 (zj S 0).n m.n) 0 (zH 14 (zj S 0) m))
   else (yH S 3 (zj S 0).n m.n,false))
 else (S,false)
def kK(S:St)(c:Fr):St×Bool :=
 if c.qX≠0 then (S,false)
 else if S.calls.dropLast≠[] then ({S with flags:=false,stack:=S.stack-8,calls:=S.calls.dropLast},true)
 else if (zj S 0).k=1 then ({S with flags:=false,stack:=S.stack-8,calls:=[],kind:=1,exit:=(zj S 0).n},true)
 else ({S with flags:=false,stack:=S.stack-8,calls:=[]},false)
def yK(lim:Int)(S:St)(c:Fr)(i:xY):St×Bool :=
 if i.op=24 then (if c.qX=0\/c.size≠i.k then (S,false) else
  (vj (xt {S with mem:=(Yw S.mem c.qX).getD S.mem,stack:=S.stack-c.size} 4 c.KC) {c with qX:=0},true))
 else if c.qX≠0 then (S,false)
 else if (zY lim S i.k).2=true then
  (vj (xt { (zY lim S i.k).1 with mem:=(yJ S.mem i.k).1} 4 (iQ (yJ S.mem i.k).2.1 0)) {c with qX:=(yJ S.mem i.k).2.1,size:=i.k,KC:=zj S 4},decide ((yJ S.mem i.k).2.2=0))
 else ((zY lim S i.k).1,true)
def Yh(p:Pg)(S:St)(c:Fr)(i:xY):St×Bool:=match zH i.cc S.a S.b with
 |none=>(S,false)
 |some v=>if S.flags=true then ((if v.n=0 then yH S 1 v.n 0 else vj (yH S 1 v.n 0) {c with pt:=ve p c.f i.l}),true) else (S,false)
def zi(p:Pg)(lim:Int)(world:List Int)(S:St)(c:Fr)(i:xY):St×Bool :=
 if i.op=1 then (xt S i.r (zj S i.m),true)
 else if i.op=2 then (xt S i.r (wB i.k),true)
 else if i.op=3\/i.op=4 then yb S i
 else if i.op=5 then xV S i.r (zH 11 (zj S i.m) (wB i.k))
 else if i.op=6 then (xt S i.r (iQ (S.gl.getD i.sub.toNat 0) i.k),true)
 else if i.op=7 then xV S i.r (zH i.sub (zj S i.r) (zj S i.m))
 else if i.op=8\/i.op=11 then xV S i.r (zH i.sub (zj S i.r) (wB i.k))
 else if i.op=9 then xV S i.r (bO i.sub (zj S i.r))
 else if i.op=10 then xV S i.r (bO i.sub (zj S i.m))
 else if i.op=12 then (if (zj S 1).k=1 then xV S i.r (zH i.sub (zj S i.r) (wB (kN (· &&& ·) (zj S 1).n 63))) else (S,false))
 else if i.op=13 then (xt S 2 (Zs (zj S 0)),decide ((zj S 0).k=1))
 else if i.op=14 then qF S (zj S i.m)
 else if i.op=15 then ({S with flags:=true,a:=zj S i.r,b:=zj S i.m},true)
 else if i.op=16 then ({S with flags:=true,a:=zj S i.r,b:=wB i.k},true)
 else if i.op=17 then (if S.flags=true then xV S i.r (zH i.cc S.a S.b) else (S,false))
 else if i.op=18 then (vj S {c with pt:=ve p c.f i.l},true)
 else if i.op=19 then Yh p S c i
 else if i.op=21 then (ye lim (yH {S with flags:=false} 4 i.sub 0) i.sub.toNat,true)
 else if i.op=22 then kK S c
 else if i.op=23\/i.op=24 then yK lim S c i
 else if i.op=25 then (xt {wS S 1 (qj world S.used) with used:=S.used+1} 0 (wB (qj world S.used)),true)
 else if i.op=26 then (if (zj S 0).k=1 then (wS S 2 (zj S 0).n,true) else (S,false))
 else (S,true)
def Y6(p:Pg)(f:Nat):List xY:=match p.funcs[f]? with
 |none=>[]
 |some g=>g.code
def kH(r:St×Bool):St:=if r.2=true then r.1 else {r.1 with kind:=3}
def aT(p:Pg)(lim:Int)(world:List Int)(lab:Bool)(fuel:Int)(S:St):St:=match S.calls.getLast? with
 |none=>{S with kind:=3}
 |some c=>if c.pt=(Y6 p c.f).length then {S with kind:=3} else match (Y6 p c.f)[c.pt.toNat]? with
  |none=>{S with kind:=3}
  |some i=>if i.op=20/\lab=false then vj S {c with pt:=c.pt+1} else if S.steps=fuel then {S with kind:=2} else
   kH (zi p lim world {vj S {c with pt:=c.pt+1} with steps:=S.steps+1} {c with pt:=c.pt+1} i)
def dW(p:Pg)(lim:Int)(world:List Int)(lab:Bool)(fuel:Int)(S:St):St:=if S.kind=0 then aT p lim world lab fuel S else S
def Yz(p:Pg)(lim:Int)(world:List Int)(lab:Bool)(fuel:Int):Nat->St->St
 |0,S=>S
 |n+1,S=>Yz p lim world lab fuel n (dW p lim world lab fuel S)
def order:List Int:=[7,6,2,1,8,9]
def WQ:List Int->List Int->List V->List V
 |r::rs,a::l2,l=>WQ rs l2 (l.set r.toNat (wB a))
 |_,_,l=>l
def u9(p:Pg)(args:List Int):St:=⟨(xI p.globals [] []).1,0,0,0,[],[],0,(xI p.globals [] []).2,[],WQ order args (List.replicate 16 v0),false,v0,v0,0,0⟩
def WV(p:Pg)(lim:Int)(args:List Int):St:=ye lim (u9 p args) p.main.toNat
def Ends(p:Pg)(lim:Int)(args world:List Int)(lab:Bool)(fuel:Int)(T:St):Prop:=T.kind≠0 /\ ∃n,T=Yz p lim world lab fuel n (WV p lim args)
structure Ext (S S':St):Prop where
 ev:S.ev <+: S'.ev
 lk:S.lk <+: S'.lk
theorem Ext.refl(S:St):Ext S S:=⟨abI _,abI _⟩
theorem Ext.trans{a b c:St}(x:Ext a b)(y:Ext b c):Ext a c:=⟨x.ev.trans y.ev,x.lk.trans y.lk⟩
structure OR (S:St) (r:St×Bool):Prop where
 ext:Ext S r.1
 steps:r.1.steps=S.steps
 kind:r.1.kind=S.kind\/r.1.kind=1\/r.1.kind=4
 few:r.1.ev.length<=S.ev.length+1/\r.1.lk.length<=S.lk.length+1
theorem OR.same{S S':St}{b:Bool}(e:S'.ev=S.ev)(l:S'.lk=S.lk)(s:S'.steps=S.steps)(k:S'.kind=S.kind\/S'.kind=1\/S'.kind=4):OR S (S',b) :=
 ⟨⟨e ▸ abI _,l ▸ abI _⟩,s,k,by rw[e];exact abC _,by rw[l];exact abC _⟩
theorem OR.Ix{S S':St}{b:Bool}{x:Int×Int×Int}(e:S'.ev=S.ev)(l:S'.lk=S.lk++[x])(s:S'.steps=S.steps)(k:S'.kind=S.kind\/S'.kind=1\/S'.kind=4):OR S (S',b) :=
 ⟨⟨e ▸ abI _,l ▸ List.prefix_append _ _⟩,s,k,by rw[e];exact abC _,by rw[l];simp⟩
theorem OR.ev1{S S':St}{b:Bool}{x:Int×Int}(e:S'.ev=S.ev++[x])(l:S'.lk=S.lk)(s:S'.steps=S.steps)(k:S'.kind=S.kind\/S'.kind=1\/S'.kind=4):OR S (S',b) :=
 ⟨⟨e ▸ List.prefix_append _ _,l ▸ abI _⟩,s,k,by rw[e];simp,by rw[l];exact abC _⟩
theorem AT(lim:Int)(S:St)(n:Int):(zY lim S n).1.ev=S.ev/\(zY lim S n).1.lk=S.lk/\(zY lim S n).1.steps=S.steps/\((zY lim S n).1.kind=S.kind\/(zY lim S n).1.kind=4)/\((zY lim S n).2=true->(zY lim S n).1.kind=S.kind):=by
 unfold zY;split
 ·exact⟨rfl,rfl,rfl,.inr rfl,λq=>by cases q⟩
 ·exact⟨rfl,rfl,rfl,.inl rfl,λ_=>rfl⟩
theorem p6(lim:Int)(S:St)(f:Nat):(ye lim S f).ev=S.ev/\(ye lim S f).lk=S.lk/\(ye lim S f).steps=S.steps/\((ye lim S f).kind=S.kind\/(ye lim S f).kind=4):=by
 obtain⟨a,b,c,d,_⟩:=AT lim S 8;unfold ye;split <;> exact⟨a,b,c,d⟩
theorem Mo(S:St)(i:xY):OR S (yb S i):=by
 unfold yb;split
 ·exact .same rfl rfl rfl (.inl rfl)
 split
 ·split
  ·split
   ·exact .Ix rfl rfl rfl (.inl rfl)
   ·exact .Ix rfl rfl rfl (.inl rfl)
  ·exact .Ix rfl rfl rfl (.inl rfl)
 ·exact .same rfl rfl rfl (.inl rfl)
theorem zcv(S:St)(m:V):OR S (qF S m):=by
 unfold qF;split
 ·split
  ·split
   ·exact .Ix rfl rfl rfl (.inl rfl)
   ·exact .Ix rfl rfl rfl (.inl rfl)
  ·exact .Ix rfl rfl rfl (.inl rfl)
 ·exact .same rfl rfl rfl (.inl rfl)
theorem zcx(S:St)(c:Fr):OR S (kK S c):=by
 unfold kK;split
 ·exact .same rfl rfl rfl (.inl rfl)
 split
 ·exact .same rfl rfl rfl (.inl rfl)
 split
 ·exact .same rfl rfl rfl (.inr (.inl rfl))
 ·exact .same rfl rfl rfl (.inl rfl)
theorem Rt(lim:Int)(S:St)(c:Fr)(i:xY):OR S (yK lim S c i):=by
 obtain⟨a,b,d,e,_⟩:=AT lim S i.k;have e:(zY lim S i.k).1.kind=S.kind\/(zY lim S i.k).1.kind=1\/(zY lim S i.k).1.kind=4:=e.imp id .inr;unfold yK;split
 ·split
  ·exact .same rfl rfl rfl (.inl rfl)
  ·exact .same rfl rfl rfl (.inl rfl)
 split
 ·exact .same rfl rfl rfl (.inl rfl)
 split
 ·exact .same a b d e
 ·exact .same a b d e
theorem zcw(p:Pg)(S:St)(c:Fr)(i:xY):OR S (Yh p S c i):=by
 unfold Yh;split
 ·exact .same rfl rfl rfl (.inl rfl)
 split
 ·split
  ·exact .Ix rfl rfl rfl (.inl rfl)
  ·exact .Ix rfl rfl rfl (.inl rfl)
 ·exact .same rfl rfl rfl (.inl rfl)
theorem Ru(p:Pg)(lim:Int)(world:List Int)(S:St)(c:Fr)(i:xY):OR S (zi p lim world S c i):=by
 have same:∀{S':St} {b:Bool},S'.ev=S.ev->S'.lk=S.lk->S'.steps=S.steps->S'.kind=S.kind->OR S (S',b):=λa b c d => .same a b c (.inl d);unfold zi;by_cases h0:i.op=1
 ·rw[aai h0];exact same rfl rfl rfl rfl
 rw[aae h0];by_cases h1:i.op=2
 ·rw[aai h1];exact same rfl rfl rfl rfl
 rw[aae h1];by_cases h2:i.op=3\/i.op=4
 ·rw[aai h2];exact Mo _ _
 rw[aae h2];by_cases h3:i.op=5
 ·rw[aai h3];exact same rfl rfl rfl rfl
 rw[aae h3];by_cases h4:i.op=6
 ·rw[aai h4];exact same rfl rfl rfl rfl
 rw[aae h4];by_cases h5:i.op=7
 ·rw[aai h5];exact same rfl rfl rfl rfl
 rw[aae h5];by_cases h6:i.op=8\/i.op=11
 ·rw[aai h6];exact same rfl rfl rfl rfl
 rw[aae h6];by_cases h7:i.op=9
 ·rw[aai h7];exact same rfl rfl rfl rfl
 rw[aae h7];by_cases h8:i.op=10
 ·rw[aai h8];exact same rfl rfl rfl rfl
 rw[aae h8];by_cases h9:i.op=12
 ·rw[aai h9];split
  ·exact same rfl rfl rfl rfl
  ·exact same rfl rfl rfl rfl
 rw[aae h9];by_cases h10:i.op=13
 ·rw[aai h10];exact same rfl rfl rfl rfl
 rw[aae h10];by_cases h11:i.op=14
 ·rw[aai h11];exact zcv _ _
 rw[aae h11];by_cases h12:i.op=15
 ·rw[aai h12];exact same rfl rfl rfl rfl
 rw[aae h12];by_cases h13:i.op=16
 ·rw[aai h13];exact same rfl rfl rfl rfl
 rw[aae h13];by_cases h14:i.op=17
 ·rw[aai h14];split
  ·exact same rfl rfl rfl rfl
  ·exact same rfl rfl rfl rfl
 rw[aae h14];by_cases h15:i.op=18
 ·rw[aai h15];exact same rfl rfl rfl rfl
 rw[aae h15];by_cases h16:i.op=19
 ·rw[aai h16];exact zcw _ _ _ _
 rw[aae h16];by_cases h17:i.op=21
 ·rw[aai h17];obtain⟨a,b,d,e⟩:=p6 lim (yH {S with flags:=false} 4 i.sub 0) i.sub.toNat;exact .Ix a b d (e.imp id .inr)
 rw[aae h17];by_cases h18:i.op=22
 ·rw[aai h18];exact zcx _ _
 rw[aae h18];by_cases h19:i.op=23\/i.op=24
 ·rw[aai h19];exact Rt _ _ _ _
 rw[aae h19];by_cases h20:i.op=25
 ·rw[aai h20];exact .ev1 rfl rfl rfl (.inl rfl)
 rw[aae h20];by_cases h21:i.op=26
 ·rw[aai h21];split
  ·exact .ev1 rfl rfl rfl (.inl rfl)
  ·exact same rfl rfl rfl rfl
 rw[aae h21];exact same rfl rfl rfl rfl
section
variable (p:Pg)(lim:Int)(world:List Int)(lab:Bool)(fuel:Int)
structure Rnd (S T:St):Prop where
 ext:Ext S T
 steps:(T.steps=S.steps/\T.ev=S.ev/\T.lk=S.lk)\/(T.steps=S.steps+1/\S.steps≠fuel/\T.ev.length<=S.ev.length+1/\T.lk.length<=S.lk.length+1)
 two:T.kind=2->T = {S with kind:=2} /\ S.steps=fuel
theorem Ia(S:St)(h:S.kind=0):Rnd fuel S (aT p lim world lab fuel S):=by
 have three:Rnd fuel S {S with kind:=3}:=⟨⟨abI S.ev,abI S.lk⟩,.inl ⟨rfl,rfl,rfl⟩,λq=>by cases q⟩;unfold aT;split
 ·exact three
 split
 ·exact three
 split
 ·exact three
 split
 ·exact⟨⟨abI S.ev,abI S.lk⟩,.inl ⟨rfl,rfl,rfl⟩,λq=>by have q:S.kind=2:=q;rw[h]at q;cases q⟩
 split
 ·rename_i e;exact⟨⟨abI S.ev,abI S.lk⟩,.inl ⟨rfl,rfl,rfl⟩,λ_=>⟨rfl,e⟩⟩
 ·rename_i c _ _ _ i _ _ e;have x:=Ru p lim world {vj S {c with pt:=c.pt+1} with steps:=S.steps+1} {c with pt:=c.pt+1} i;generalize zi p lim world {vj S {c with pt:=c.pt+1} with steps:=S.steps+1} {c with pt:=c.pt+1} i=r at x;have k:=x.kind;have s:=x.steps;unfold kH;split
  ·refine⟨⟨x.ext.ev,x.ext.lk⟩,.inr ⟨s,e,x.few⟩,λq=>?_⟩;rcases k with k|k|k
   ·have k:r.1.kind=S.kind:=k;rw[h]at k;omega
   ·omega
   ·omega
  ·exact⟨⟨x.ext.ev,x.ext.lk⟩,.inr ⟨s,e,x.few⟩,λq=>by cases q⟩
theorem Rb(S:St):Ext S (dW p lim world lab fuel S)/\(((dW p lim world lab fuel S).steps=S.steps/\(dW p lim world lab fuel S).ev=S.ev/\(dW p lim world lab fuel S).lk=S.lk)\/((dW p lim world lab fuel S).steps=S.steps+1/\S.steps≠fuel/\(dW p lim world lab fuel S).ev.length<=S.ev.length+1/\(dW p lim world lab fuel S).lk.length<=S.lk.length+1)):=by
 unfold dW;split
 ·have:=Ia p lim world lab fuel S (by assumption);exact⟨this.ext,this.steps⟩
 ·exact⟨Ext.refl _,.inl ⟨rfl,rfl,rfl⟩⟩
theorem oW:∀(n:Nat) (S:St),S.kind≠0->Yz p lim world lab fuel n S=S
 |0,S,h=>rfl
 |n+1,S,h=>by
  unfold Yz dW;rw[aae h];exact oW n S h
theorem mY:∀(n m:Nat) (S:St),Yz p lim world lab fuel (n+m) S=Yz p lim world lab fuel m (Yz p lim world lab fuel n S)
 |0,m,S=>by rw[aay];rfl
 |n+1,m,S=>by
  rw[show n+1+m=(n+m)+1 by omega];exact mY n m _
theorem zac{S:St}{n m:Nat}(h1:(Yz p lim world lab fuel n S).kind≠0)(h2:(Yz p lim world lab fuel m S).kind≠0):Yz p lim world lab fuel n S=Yz p lim world lab fuel m S:=by
 rcases Nat.le_total n m with q|q
 ·obtain⟨d,rfl⟩:=Nat.le.dest q;rw[mY,oW _ _ _ _ _ d _ h1]
 ·obtain⟨d,rfl⟩:=Nat.le.dest q;rw[mY,oW _ _ _ _ _ d _ h2]
end
theorem Ih(p:Pg)(lim:Int)(args:List Int):((WV p lim args).kind=0\/(WV p lim args).kind=4)/\(WV p lim args).steps=0/\(WV p lim args).ev=[]/\(WV p lim args).lk=[]:=by
 obtain⟨a,b,c,d⟩:=p6 lim (u9 p args) p.main.toNat;exact⟨d,c,a,b⟩
theorem A7(p:Pg)(lim:Int)(world:List Int)(lab:Bool)(fuel:Int):∀(n:Nat) (S:St),S.steps<=fuel->(S.ev.length:Int)<=S.steps->(S.lk.length:Int)<=S.steps->(Yz p lim world lab fuel n S).steps<=fuel/\((Yz p lim world lab fuel n S).ev.length:Int)<=(Yz p lim world lab fuel n S).steps/\((Yz p lim world lab fuel n S).lk.length:Int)<=(Yz p lim world lab fuel n S).steps
 |0,S,h,a,b=>⟨h,a,b⟩
 |n+1,S,h,a,b=>by
  unfold Yz;rcases (Rb p lim world lab fuel S).2 with⟨q,e,l⟩|⟨q,e,l,m⟩
  ·exact A7 p lim world lab fuel n _ (by omega) (by rw[e,q];exact a) (by rw[l,q];exact b)
  ·exact A7 p lim world lab fuel n _ (by omega) (by omega) (by omega)
theorem Oy{p:Pg}{lim:Int}{args world:List Int}{lab:Bool}{fuel:Int}{A:St}(h0:0<=fuel)(a:Ends p lim args world lab fuel A):(A.ev.length:Int)<=fuel/\(A.lk.length:Int)<=fuel:=by
 obtain⟨_,i,rfl⟩:=a;obtain⟨_,s0,e,l⟩:=Ih p lim args;obtain⟨x,y,z⟩:=A7 p lim world lab fuel i (WV p lim args) (by omega) (by rw[e,s0];decide) (by rw[l,s0];decide);omega
end Go.As
namespace Go.Ai
noncomputable section
variable {P:Program}
theorem OD{α β:Type}{x:Sem α}{f:α->Sem β}{a:α}(h:yk P x=some a):yk P (x >>= f)=yk P (f a):=by
 induction x with
 |pure b=>simp only[yk,aab]at h;subst h;rfl
 |program k ih=>exact ih P h
 |_=>cases h
def Uq:Nat->List (Int×aaa)->List JE
 |_,[]=>[]
 |n,(k,v)::l=>(.int .i64 k,v,n)::Uq (n+1) l
def dV(l:List (Int×aaa)):wQ := .map (Uq 0 l) l.length
def dU:List (Int×aaa)->Int->Option Nat
 |[],_=>none
 |(a,_)::l,k=>if a=k then some 0 else (dU l k).map (· + 1)
def mS:List (Int×aaa)->Int->Option aaa
 |[],_=>none
 |(a,v)::l,k=>if a=k then some v else mS l k
def QU:List (Int×aaa)->Int->aaa->List (Int×aaa)
 |[],k,v=>[(k,v)]
 |(a,w)::l,k,v=>if a=k then (a,v)::l else (a,w)::QU l k v
theorem mT:∀(l:List (Int×aaa)) (k k':Int) (v:aaa),mS (QU l k v) k'=if k=k' then some v else mS l k'
 |[],k,k',v=>rfl
 |(a,w)::l,k,k',v=>by
  unfold QU;by_cases h:a=k
  ·rw[aai h];subst h;unfold mS;by_cases h2:a=k'
   ·rw[aai h2,aai h2]
   ·rw[aae h2,aae h2,aae h2]
  ·rw[aae h];unfold mS;rw[mT l];by_cases h2:a=k'
   ·rw[aai h2,aai h2,aae (by omega)]
   ·rw[aae h2,aae h2]
theorem AA:∀(n:Nat) (l:List (Int×aaa)),((Uq n l).all λe=>flat e.1)=true
 |_,[]=>rfl
 |n,(k,v)::l=>by show(true&&(Uq (n+1) l).all λe=>flat e.1)=true;rw[AA];rfl
theorem Ds(kind:IntKind)(k:Int):∀(l:List (Int×aaa)) (n i:Nat),Instr.findNow (.int kind) (.int .i64 k) ((Uq n l).map λe=>mf e.1) i=some ((dU l k).map λj=>(i+j,undef))
 |[],n,i=>rfl
 |(a,v)::l,n,i=>by
  show(match Instr.sameNow (.int kind) (.int .i64 k) (.int .i64 a) with
   |some true=>some (some (i,undef))
   |some false=>Instr.findNow (.int kind) (.int .i64 k) ((Uq (n+1) l).map λe=>mf e.1) (i+1)
   |none=>none)=some ((if a=k then some 0 else (dU l k).map (· + 1)).map λj=>(i+j,undef))
  have e:Instr.sameNow (.int kind) (.int .i64 k) (.int .i64 a)=some (k == a):=rfl;rw[e];by_cases h:a=k
  ·rw[aai h,h,abt];rfl
  ·rw[aae h,beq_eq_false_iff_ne.2 (λq=>h q.symm)];simp only;rw[Ds kind k l];cases dU l k with
   |none=>rfl
   |some j=>simp only[abn,aab,aag,aba];omega
theorem TR{kt:TypeId}{kind:IntKind}(hk:yk P (underlying kt)=some (.int kind))(k:Int)(n:Nat)(l:List (Int×aaa)):C3 P kt (.int .i64 k) (Uq n l)=some (dU l k):=by
 have e:yk P (Instr.findKey kt (.int .i64 k) ((Uq n l).map λe=>mf e.1))=some ((dU l k).map λj=>(0+j,undef)):=by
  unfold Instr.findKey;rw[OD hk,Ds kind k l n 0];rfl
 unfold C3;rw[AA,e];cases dU l k with
 |none=>rfl
 |some j=>simp only[abn,aay];rfl
theorem Nx{kt:TypeId}{kind:IntKind}(hk:yk P (underlying kt)=some (.int kind))(b:Bool)(k:Int):yk P (Instr.checkKey b 10000 kt (.int .i64 k))=some ():=by
 show yk P (underlying kt >>= _)=_;rw[OD hk];rfl
theorem EP:∀{l:List (Int×aaa)} {k:Int} {n:Nat},(dU l k=none->mS l k=none) /\ ∀j,dU l k=some j->∃v,mS l k=some v/\(Uq n l)[j]? = some (.int .i64 k,v,n+j)
 |[],k,n=>⟨λ_=>rfl,λj h=>by cases h⟩
 |(a,v)::l,k,n=>by
  obtain⟨i1,i2⟩:=EP (l:=l) (k:=k) (n:=n+1);unfold dU mS;by_cases h:a=k
  ·rw[aai h,aai h];refine⟨λq=>(by cases q),λj q=>?_⟩;cases q;exact⟨v,rfl,by rw[h];rfl⟩
  ·rw[aae h,aae h];cases hi:dU l k with
   |none=>exact⟨λ_=>i1 hi,λj q=>by cases q⟩
   |some m=>
    refine⟨λq=>(by cases q),λj q=>?_⟩;simp only[abn,aab]at q;subst q;obtain⟨w,h1,h2⟩:=i2 m hi;exact⟨w,h1,by show(Uq (n+1) l)[m]? = _;rw[h2,show n+1+m=n+(m+1) by omega]⟩
theorem N5:∀{l:List (Int×aaa)} {k:Int} {n:Nat} (v:aaa),(dU l k=none->Uq n (QU l k v)=Uq n l++[(.int .i64 k,v,n+l.length)]/\(QU l k v).length=l.length+1) /\ ∀j,dU l k=some j->Uq n (QU l k v)=(Uq n l).set j (.int .i64 k,v,n+j)/\(QU l k v).length=l.length
 |[],k,n,v=>⟨λ_=>⟨rfl,rfl⟩,λj h=>by cases h⟩
 |(a,w)::l,k,n,v=>by
  obtain⟨i1,i2⟩:=N5 (l:=l) (k:=k) (n:=n+1) v;unfold dU QU;by_cases h:a=k
  ·rw[aai h,aai h];refine⟨λq=>(by cases q),λj q=>?_⟩;cases q;rw[h];exact⟨rfl,rfl⟩
  ·rw[aae h,aae h];cases hi:dU l k with
   |none=>
    obtain⟨e1,e2⟩:=i1 hi;refine⟨λ_=>⟨?_,?_⟩,λj q=>by cases q⟩
    ·show(_,w,n)::Uq (n+1) (QU l k v)=_;rw[e1,show n+1+l.length=n+(l.length+1) by omega];rfl
    ·show(QU l k v).length+1=_;rw[e2];rfl
   |some m=>
    obtain⟨e1,e2⟩:=i2 m hi;refine⟨λq=>(by cases q),λj q=>?_⟩;simp only[abn,aab]at q;subst q;refine⟨?_,?_⟩
    ·show(_,w,n)::Uq (n+1) (QU l k v)=_;rw[e1,show n+1+m=n+(m+1) by omega];rfl
    ·show(QU l k v).length+1=_;rw[e2];rfl
section
variable {t kt et:TypeId}{kind:IntKind}{z:aaa}{h:za}{b:Nat}{l:List (Int×aaa)}
theorem HO(ht:yk P (underlying t)=some (.map kt et))(hk:yk P (underlying kt)=some (.int kind))(hz:Ye P et=some z)(g:h.get b=some (dV l))(k:Int)(ok:Bool) :
  XC P t (.map (some b)) (.int .i64 k) ok h=some (match mS l k with
   |some v=>cond ok (.tuple #[v,.bool true]) v
   |none=>cond ok (.tuple #[z,.bool false]) z):=by
 have em:ra h (.map (some b))=some (Uq 0 l):=by unfold ra;simp only[g];rfl
 unfold XC;rw[ht,em];simp only[Nx hk,TR hk];obtain⟨i1,i2⟩:=EP (l:=l) (k:=k) (n:=0);cases hi:dU l k with
 |none=>simp only[i1 hi,hz]
 |some j=>
  obtain⟨v,h1,h2⟩:=i2 j hi;simp only[h1,h2]
theorem Il(ht:yk P (underlying t)=some (.map kt et))(hk:yk P (underlying kt)=some (.int kind))(g:h.get b=some (dV l))(w:h.ro<=b)(k:Int)(v:aaa) :
  Zd P t (.map (some b)) (.int .i64 k) v h=some (h.set b (some (dV (QU l k v)))):=by
 unfold Zd;simp only[ht,g,dV,Nx hk,TR hk,Nat.ble_eq_true_of_le w,aaB];obtain⟨i1,i2⟩:=N5 (l:=l) (k:=k) (n:=0) v;obtain⟨_,i4⟩:=EP (l:=l) (k:=k) (n:=0);cases hi:dU l k with
 |none=>
  obtain⟨e1,e2⟩:=i1 hi;simp only[e1,e2,aay]
 |some j=>
  obtain⟨e1,e2⟩:=i2 j hi;obtain⟨v',_,h2⟩:=i4 j hi;have sb:Instr.sameBits 10000 (.int .i64 k) (.int .i64 k)=true:=by show((IntKind.i64 == .i64)&&(k == k))=true;simp
  simp only[h2,sb,aaB,e1,e2]
end
end
end Go.Ai
namespace Go.As
open Go.Ai Go.Proofs Go.Mem Go.Rm
def Kv:List xY->Int->List (Int×aaa)->List (Int×aaa)
 |[],_,m=>m
 |x::xs,n,m=>Kv xs (n+1) (if x.op=20 then QU m x.l (.int .i64 n) else m)
def rdK(m:List (Int×aaa))(l z:Int):Prop:=mS m l=some (pm z)\/(mS m l=none/\z=0)
theorem AZ:∀(xs:List xY) (l n z:Int) (m:List (Int×aaa)),rdK m l z->rdK (Kv xs n m) l (Yt xs l n z)
 |[],l,n,z,m,h=>h
 |x::xs,l,n,z,m,h=>by
  refine AZ xs l (n+1) _ _ ?_;by_cases h1:x.op=20
  ·rw[aai h1];unfold rdK;rw[mT];by_cases h2:x.l=l
   ·rw[aai h2,aai ⟨h1,h2⟩];exact .inl rfl
   ·rw[aae h2,aae (λq=>h2 q.2)];exact h
  ·rw[aae h1,aae (λq=>h1 q.1)];exact h
theorem Dw:∀(xs:List xY) (x:xY) (n:Int) (m:List (Int×aaa)),Kv (xs++[x]) n m=if x.op=20 then QU (Kv xs n m) x.l (pm (n+xs.length)) else Kv xs n m
 |[],x,n,m=>by simp[Kv]
 |y::xs,x,n,m=>by
  show Kv (xs++[x]) (n+1) _=_;rw[Dw xs];show _=if x.op=20 then QU (Kv xs (n+1) _) x.l (pm (n+((xs.length+1:Nat):Int))) else Kv xs (n+1) _;rw[show n+1+(xs.length:Int)=n+((xs.length+1:Nat):Int) by omega]
def gx(k:Int):Bool:=decide (k=IntKind.wrap .i64 (IntKind.wrap .i32 k))
def E4(op:Int):Bool:=decide (op=1\/op=3\/op=5\/op=7\/op=10\/op=2\/op=6\/op=8\/op=9\/op=11\/op=12\/op=17\/op=4\/op=15\/op=16)
def m7(op:Int):Bool:=decide (op=1\/op=3\/op=5\/op=7\/op=10\/op=4\/op=15\/op=14)
def JD(op:Int):Bool:=decide (op=1\/op=3\/op=5\/op=7\/op=10\/op=2\/op=6\/op=8\/op=9\/op=11\/op=12\/op=17)
def qS(op:Int):Bool:=decide (op=3\/op=4\/op=5\/op=1)
def Wz(i:xY):Bool := !(E4 i.op&&(decide (i.r<0)||(decide (16<=i.r)||(JD i.op&&decide (i.r=4)))))&&(!m7 i.op||(decide (0<=i.m)&&(decide (i.m<16)&&(!decide (i.m=4)||qS i.op))))
def W0(n:Int):Bool:=decide (21<=n)&&decide (n<=26)
def dx(s:Int):Bool:=decide (s=11\/s=12\/s=13\/s=16\/s=17\/s=18)
def yC(gl:List Int)(i:xY):Bool :=
 if i.op=3\/i.op=4 then decide (i.sub=1\/i.sub=4\/i.sub=8)&&gx i.k
 else if i.op=5\/i.op=16 then gx i.k
 else if i.op=6 then decide (0<=i.sub)&&(decide (i.sub<gl.length)&&(decide (0<=i.k)&&decide (i.k<=gl.getD i.sub.toNat 0)))
 else if i.op=7 then dx i.sub
 else if i.op=8 then dx i.sub&&gx i.k
 else if i.op=9 then decide (i.sub=1\/i.sub=2)
 else if i.op=10 then decide (i.sub=3\/i.sub=4)
 else if i.op=11 then decide (i.sub=19\/i.sub=20)&&(decide (0<=i.k)&&decide (i.k<=63))
 else if i.op=12 then decide (i.sub=19\/i.sub=20)
 else if i.op=17\/i.op=19 then W0 i.cc
 else if i.op=20 then decide (0<=i.l)&&decide (i.l<=10000000)
 else if i.op=23\/i.op=24 then decide (0<=i.k)&&decide (i.k<=65536)
 else true
def Xw(gl:List Int)(i:xY):Bool:=decide (1<=i.op)&&(decide (i.op<=26)&&(Wz i&&yC gl i))
def hasB(m:List (Int×aaa))(l:Int):Bool:=match mS m l with
 |some (.bool b)=>b
 |_=>false
def Ze(gl:List Int):List xY->List (Int×aaa)->Bool->Option (List (Int×aaa)×Bool)
 |[],m,some?=>some (m,some?)
 |x::xs,m,some?=>if Xw gl x=false then none else if x.op=20 then (if hasB m x.l=true then none else Ze gl xs (QU m x.l (.bool true)) some?) else Ze gl xs m true
def UG(n:Nat)(m:List (Int×aaa))(x:xY):Bool := !(decide (x.op=18\/x.op=19) && !hasB m x.l) && !(decide (x.op=21)&&(decide (x.sub<0)||decide ((n:Int)<=x.sub)))
def m3(n:Nat)(code:List xY):Option (List (Int×aaa)×Bool)->Bool
 |none=>false
 |some r=>code.all (UG n r.1)&&r.2
def AN(p:Pg)(f:Fn):Bool := !decide (100000<(f.code.length:Int))&&m3 p.funcs.length f.code (Ze p.globals f.code [] false)
def qO(p:Pg):Bool := !decide (p.main<0)&&(!decide ((p.funcs.length:Int)<=p.main)&&(!decide ((100:Int)<p.funcs.length)&&(!decide ((200:Int)<p.globals.length)&&(!decide (p.params<0) && !decide (6<p.params)))))
def Yx(p:Pg):Bool:=qO p&&(p.globals.all (λn => !decide (n<0) && !decide (65536<n))&&p.funcs.all (AN p))
open Go.Rtl (zl zE Old yB xr)
theorem vD{u v w:aaa}{h:za}{R:aaa->za->Prop}(ha:yu u=false)(hb:yu v=false)(hc:yu w=false):rv [u,v,w] h R=R (.tuple #[u,v,w]) h:=by
 apply propext;simp only[rv,yy,ha,hb,hc,aaI,Zh,ab1]
theorem Ps(a b c:Bool):kV (.tuple #[.bool a,.bool b,.bool c]) 0=some (.bool a):=rfl
theorem Pt(a b c:Bool):kV (.tuple #[.bool a,.bool b,.bool c]) 1=some (.bool b):=rfl
theorem Pu(a b c:Bool):kV (.tuple #[.bool a,.bool b,.bool c]) 2=some (.bool c):=rfl
theorem aH(k:Int)(h:za):xC pu 75 [pm k] h (.bool (gx k)):=by
 apply yB;apply Pc;unfold Sn gx;by_cases hk:k=IntKind.wrap .i64 (IntKind.wrap .i32 k)
 ·simp only[EE,VJ,EB];simp[xr]
 ·simp only[EE,VJ,EB];simp[xr]
theorem zbO(n:Int)(h:za):DC pu 100 [pm n] h (λv h1=>(∃a,v=.tuple #[pm a,.bool (W0 n)])/\h1=h):=by
 apply OY;unfold R7;by_cases h21:n=21
 ·subst h21;simp only[EE,↓BK,VZ];exact⟨_,rfl⟩
 by_cases h22:n=22
 ·subst h22;simp only[EE,↓BK,Int.reduceEq,Qo,VZ];exact⟨_,rfl⟩
 by_cases h23:n=23
 ·subst h23;simp only[EE,↓BK,Int.reduceEq,KR,Qo,VZ];exact⟨_,rfl⟩
 by_cases h24:n=24
 ·subst h24;simp only[EE,↓BK,Int.reduceEq,lI,bU,KR,Qo,VZ];exact⟨_,rfl⟩
 by_cases h25:n=25
 ·subst h25;simp only[EE,↓BK,Int.reduceEq,sE,lI,bU,KR,Qo,VZ];exact⟨_,rfl⟩
 by_cases h26:n=26
 ·subst h26;simp only[EE,↓BK,Int.reduceEq,bU,KR,Qo,VZ];exact⟨_,rfl⟩
 simp only[EE,↓BK,sE,lI,bU,KR,Qo,VZ,h21,h22,h23,h24,h25,h26];have e:W0 n=false:=by unfold W0;simp;omega
 rw[e];exact⟨_,rfl⟩
theorem Au(n:Int)(h:za):xC pu 77 [pm n] h (.bool (W0 n)):=by
 apply yB;apply BW;unfold tI;refine dM (zbO n _) ?_;rintro v h1 ⟨⟨a,rfl⟩,rfl⟩;simp only[EE];rfl
theorem GU(n:Int)(h:za):xC pu 76 [pm n] h (.bool (dx n)):=by
 apply yB;apply Sh;unfold zcM;by_cases h11:n=11
 ·subst h11;simp only[EE,nth,↓BK,Q9];rfl
 by_cases h12:n=12
 ·subst h12;simp only[EE,nth,↓BK,Int.reduceEq,JP,Q9];rfl
 by_cases h13:n=13
 ·subst h13;simp only[EE,nth,↓BK,Int.reduceEq,e7,JP,Q9];rfl
 by_cases h16:n=16
 ·subst h16;simp only[EE,nth,↓BK,Int.reduceEq,lS,e7,JP,Q9];rfl
 by_cases h17:n=17
 ·subst h17;simp only[EE,nth,↓BK,Int.reduceEq,rI,lS,e7,JP,Q9];rfl
 by_cases h18:n=18
 ·subst h18;simp only[EE,nth,↓BK,Int.reduceEq,rI,lS,e7,JP,Q9];rfl
 simp only[EE,nth,↓BK,rI,lS,e7,JP,Q9,h11,h12,h13,h16,h17,h18];have e:dx n=false:=by unfold dx;simp;omega
 rw[e];rfl
theorem zb9(x:xY)(h:za):xC pu 99 [x.val] h (.tuple #[.bool (E4 x.op),.bool (m7 x.op),.bool (JD x.op)]):=by
 apply vC rfl;apply IW;unfold Nc;obtain⟨op,r,m,sub,cc,l,k⟩:=x;by_cases h1:op=1
 ·subst h1;simp only[EE,nth,↓nw,Value.cells,↓BK,zo,zf,vm,vo,vD];rfl
 by_cases h3:op=3
 ·subst h3;simp only[EE,nth,↓nw,Value.cells,↓BK,Int.reduceEq,zo,zf,uZ,vm,vo,vD];rfl
 by_cases h5:op=5
 ·subst h5;simp only[EE,nth,↓nw,Value.cells,↓BK,Int.reduceEq,zo,zf,qu,uZ,vm,vo,vD];rfl
 by_cases h7:op=7
 ·subst h7;simp only[EE,nth,↓nw,Value.cells,↓BK,Int.reduceEq,zo,zf,qI,qu,uZ,vm,vo,vD];rfl
 by_cases h10:op=10
 ·subst h10;simp only[EE,nth,↓nw,Value.cells,↓BK,Int.reduceEq,zo,zf,qI,qu,uZ,vm,vo,vD];rfl
 by_cases h2:op=2
 ·subst h2;simp only[EE,nth,↓nw,Value.cells,↓BK,Int.reduceEq,zo,zf,qI,qu,uZ,qJ,qK,vm,vo,vD];rfl
 by_cases h6:op=6
 ·subst h6;simp only[EE,nth,↓nw,Value.cells,↓BK,Int.reduceEq,zo,zf,qI,qu,uZ,jt,qJ,qK,vm,vo,vD];rfl
 by_cases h8:op=8
 ·subst h8;simp only[EE,nth,↓nw,Value.cells,↓BK,Int.reduceEq,zo,zf,qI,qu,uZ,Zn,jt,qJ,qK,vm,vo,vD];rfl
 by_cases h9:op=9
 ·subst h9;simp only[EE,nth,↓nw,Value.cells,↓BK,Int.reduceEq,zo,zf,qI,qu,uZ,Yn,Zn,jt,qJ,qK,vm,vo,vD];rfl
 by_cases h11:op=11
 ·subst h11;simp only[EE,nth,↓nw,Value.cells,↓BK,Int.reduceEq,zo,zf,qI,qu,uZ,Xl,Yn,Zn,jt,qJ,qK,vm,vo,vD];rfl
 by_cases h12:op=12
 ·subst h12;simp only[EE,nth,↓nw,Value.cells,↓BK,Int.reduceEq,zo,zf,qI,qu,uZ,Wj,Xl,Yn,Zn,jt,qJ,qK,vm,vo,vD];rfl
 by_cases h17:op=17
 ·subst h17;simp only[EE,nth,↓nw,Value.cells,↓BK,Int.reduceEq,zo,zf,qI,qu,uZ,Wj,Xl,Yn,Zn,jt,qJ,qK,vm,vo,vD];rfl
 by_cases h4:op=4
 ·subst h4;simp only[EE,nth,↓nw,Value.cells,↓BK,Int.reduceEq,zo,zf,qI,qu,uZ,Wj,Xl,Yn,Zn,jt,Vl,Vm,qJ,qK,vm,vo,vD];rfl
 by_cases h15:op=15
 ·subst h15;simp only[EE,nth,↓nw,Value.cells,↓BK,Int.reduceEq,zo,zf,qI,qu,uZ,Wj,Xl,Yn,Zn,jt,Vl,Vm,qJ,qK,vm,vo,vD];rfl
 by_cases h16:op=16
 ·subst h16;simp only[EE,nth,↓nw,Value.cells,↓BK,Int.reduceEq,zo,zf,qI,qu,uZ,Wj,Xl,Yn,Zn,jt,JX,Vl,Vm,qJ,qK,vm,vo,vD];rfl
 by_cases h14:op=14
 ·subst h14;simp only[EE,nth,↓nw,Value.cells,↓BK,Int.reduceEq,zo,zf,qI,qu,uZ,Wj,Xl,Yn,Zn,jt,om,JX,Vl,Vm,qJ,qK,vm,vo,vD];rfl
 simp only[EE,nth,↓nw,Value.cells,↓BK,zo,zf,qI,qu,uZ,Wj,Xl,Yn,Zn,jt,om,JX,Vl,Vm,qJ,qK,vm,vo,vD,h1,h3,h5,h7,h10,h2,h6,h8,h9,h11,h12,h17,h4,h15,h16,h14];have e1:E4 op=false:=by unfold E4;simp;omega
 have e2:m7 op=false:=by unfold m7;simp;omega
 have e3:JD op=false:=by unfold JD;simp;omega
 rw[e1,e2,e3];rfl
theorem zhM{x:xY}{H:za}{b1:Nat}{B:Bool}{vs:List aaa}(g:H.get b1=some (.cells x.row 50))(hB:B=(decide (0<=x.m)&&(decide (x.m<16)&&(!decide (x.m=4)||qS x.op)))):yI (pi b1) (xr B) vs H:=by
 obtain⟨op,r,m,sub,cc,l,k⟩:=x;simp only at hB g;by_cases o3:op=3
 ·subst o3;by_cases m0:0<=m
  ·by_cases m1:m<16
   ·by_cases m4:m=4
    ·simp only[EE,Int.reduceLT,Int.reduceLE,zo,zf,y5,xh,xi,xj,xk,xl,xn,xo,xp,xq,yV,yI,g,m4];rw[hB];simp[xr,m4,qS]
    ·simp only[EE,zo,zf,y5,xh,xi,xj,xk,xl,xn,xo,xp,xq,yV,yI,g,m0,m1,m4];rw[hB];simp[xr,m0,m1,m4,qS]
   ·simp only[EE,zo,zf,y5,xh,xi,xj,xk,xl,xn,xo,xp,xq,yV,yI,g,m0,m1];rw[hB];simp[xr,m0,m1,qS]
  ·simp only[EE,zo,zf,y5,xh,xi,xj,xk,xl,xn,xo,xp,xq,yV,yI,g,m0];rw[hB];simp[xr,m0,qS]
 by_cases o4:op=4
 ·subst o4;by_cases m0:0<=m
  ·by_cases m1:m<16
   ·by_cases m4:m=4
    ·simp only[EE,seval,zo,zf,y5,xh,xi,xj,xk,xl,xn,xo,xp,xq,yV,yI,g,m4];rw[hB];simp[xr,m4,qS]
    ·simp only[EE,Int.reduceEq,zo,zf,y5,xh,xi,xj,xk,xl,xn,xo,xp,xq,yV,yI,g,m0,m1,m4];rw[hB];simp[xr,m0,m1,m4,qS]
   ·simp only[EE,Int.reduceEq,zo,zf,y5,xh,xi,xj,xk,xl,xn,xo,xp,xq,yV,yI,g,m0,m1];rw[hB];simp[xr,m0,m1,qS]
  ·simp only[EE,Int.reduceEq,zo,zf,y5,xh,xi,xj,xk,xl,xn,xo,xp,xq,yV,yI,g,m0];rw[hB];simp[xr,m0,qS]
 by_cases o5:op=5
 ·subst o5;by_cases m0:0<=m
  ·by_cases m1:m<16
   ·by_cases m4:m=4
    ·simp only[EE,seval,zo,zf,y5,xh,xi,xj,xk,xl,xn,xo,xp,xq,yV,yI,g,m4];rw[hB];simp[xr,m4,qS]
    ·simp only[EE,Int.reduceEq,zo,zf,y5,xh,xi,xj,xk,xl,xn,xo,xp,xq,yV,yI,g,m0,m1,m4];rw[hB];simp[xr,m0,m1,m4,qS]
   ·simp only[EE,Int.reduceEq,zo,zf,y5,xh,xi,xj,xk,xl,xn,xo,xp,xq,yV,yI,g,m0,m1];rw[hB];simp[xr,m0,m1,qS]
  ·simp only[EE,Int.reduceEq,zo,zf,y5,xh,xi,xj,xk,xl,xn,xo,xp,xq,yV,yI,g,m0];rw[hB];simp[xr,m0,qS]
 by_cases o1:op=1
 ·subst o1;by_cases m0:0<=m
  ·by_cases m1:m<16
   ·by_cases m4:m=4
    ·simp only[EE,seval,zo,zf,y5,xh,xi,xj,xk,xl,xn,xo,xp,xq,yV,yI,g,m4];rw[hB];simp[xr,m4,qS]
    ·simp only[EE,Int.reduceEq,zo,zf,y5,xh,xi,xj,xk,xl,xn,xo,xp,xq,yV,yI,g,m0,m1,m4];rw[hB];simp[xr,m0,m1,m4,qS]
   ·simp only[EE,Int.reduceEq,zo,zf,y5,xh,xi,xj,xk,xl,xn,xo,xp,xq,yV,yI,g,m0,m1];rw[hB];simp[xr,m0,m1,qS]
  ·simp only[EE,Int.reduceEq,zo,zf,y5,xh,xi,xj,xk,xl,xn,xo,xp,xq,yV,yI,g,m0];rw[hB];simp[xr,m0,qS]
 have ef:qS op=false:=by unfold qS;simp[o3,o4,o5,o1]
 by_cases m0:0<=m
 ·by_cases m1:m<16
  ·by_cases m4:m=4
   ·simp only[EE,Int.reduceLT,Int.reduceLE,zo,zf,y5,xh,xi,xj,xk,xl,xn,xo,xp,xq,yV,yI,g,m4,o3,o4,o5,o1];rw[hB];simp[xr,m4,ef]
   ·simp only[EE,zo,zf,y5,xh,xi,xj,xk,xl,xn,xo,xp,xq,yV,yI,g,m0,m1,m4,o3,o4,o5,o1];rw[hB];simp[xr,m0,m1,m4,ef]
  ·simp only[EE,zo,zf,y5,xh,xi,xj,xk,xl,xn,xo,xp,xq,yV,yI,g,m0,m1,o3,o4,o5,o1];rw[hB];simp[xr,m0,m1,ef]
 ·simp only[EE,zo,zf,y5,xh,xi,xj,xk,xl,xn,xo,xp,xq,yV,yI,g,m0,o3,o4,o5,o1];rw[hB];simp[xr,m0,ef]
theorem zgy{x:xY}{H:za}{b1:Nat}{B:Bool}{bad:Bool}{t10:Bool}(g:H.get b1=some (.cells x.row 50))(hb:(t10&&bad)=false)(hB:B=(!m7 x.op||(decide (0<=x.m)&&(decide (x.m<16)&&(!decide (x.m=4)||qS x.op)))))(v:aaa)(hv:t10=true->v=.bool bad)(h0:t10=false->True):qT (.bool t10) (xr B) (.bool (m7 x.op)) (pi b1) v H:=by
 have fin:∀vs,yI (pi b1) (xr B) vs H\/m7 x.op=false:=λvs=>by
  cases hm:m7 x.op with
  |false=>exact .inr rfl
  |true=>exact .inl (zhM g (by rw[hB,hm];rfl))
 cases t10 with
 |false=>
  cases hm:m7 x.op with
  |false=>simp only[EE,qT];rw[hB,hm];rfl
  |true=>simp only[EE,nth,qT];rcases fin [.bool false] with q|q;exact q;rw[hm]at q;cases q
 |true=>
  have hbad:bad=false:=by simpa using hb
  subst hbad;rw[hv rfl];cases hm:m7 x.op with
  |false=>simp only[EE,qT];rw[hB,hm];rfl
  |true=>simp only[EE,nth,qT];rcases fin [.bool false] with q|q;exact q;rw[hm]at q;cases q
theorem LM(x:xY)(h:za):xC pu 74 [x.val] h (.bool (Wz x)):=by
 apply yB;generalize h.lock=L;apply BY;unfold tS;simp only[EE,↓nw,Value.cells,Nat.reduceAdd,zN,xx];refine xU (zb9 x _) ?_;have g:(L.push (.cells x.row 50)).get L.next=some (.cells x.row 50):=zv;generalize L.push (.cells x.row 50)=H at g ⊢;obtain⟨op,r,m,sub,cc,l,k⟩:=x;simp only at g ⊢;cases hr:E4 op with
 |false=>
  have hB:Wz ⟨op,r,m,sub,cc,l,k⟩=(!m7 op||(decide (0<=m)&&(decide (m<16)&&(!decide (m=4)||qS op)))):=by unfold Wz;simp only[hr,Bool.false_and,aa5,abY]
  simp only[EE,j4,j5,j6,j7,j8,j9,Za,Zb,Ps,Pt,Pu];exact zgy (x:=⟨op,r,m,sub,cc,l,k⟩) (t10:=false) (bad:=false) g rfl hB _ (λq=>by cases q) (λ_=>trivial)
 |true=>
  have bad:∀{v},v=.bool true->Wz ⟨op,r,m,sub,cc,l,k⟩=false->qT (.bool true) (xr (Wz ⟨op,r,m,sub,cc,l,k⟩)) (.bool (m7 op)) (pi L.next) v H:=by
   rintro v rfl hf;rw[hf];simp only[EE,qT];rfl
  have good:∀{v},v=.bool false->(decide (r<0)||(decide (16<=r)||(JD op&&decide (r=4))))=false->qT (.bool true) (xr (Wz ⟨op,r,m,sub,cc,l,k⟩)) (.bool (m7 op)) (pi L.next) v H:=by
   rintro v rfl hf;have hB:Wz ⟨op,r,m,sub,cc,l,k⟩=(!m7 op||(decide (0<=m)&&(decide (m<16)&&(!decide (m=4)||qS op)))):=by unfold Wz;simp only[hr,hf,Bool.and_false,aa5,abY]
   exact zgy (x:=⟨op,r,m,sub,cc,l,k⟩) (t10:=true) (bad:=false) g rfl hB _ (λ_=>rfl) (λq=>by cases q)
  by_cases r0:r<0
  ·simp only[EE,zo,yQ,j4,j5,j6,j7,j8,j9,Za,Zb,g,Ps,Pt,Pu,r0];exact bad rfl (by unfold Wz;simp[hr,r0])
  by_cases r1:r ≥ 16
  ·simp only[EE,zo,yQ,j4,j5,j6,j7,j8,j9,Za,Zb,g,Ps,Pt,Pu,r0,r1];exact bad rfl (by have r1:16<=r:=r1;unfold Wz;simp[hr,r1])
  have r1':¬16<=r:=r1;cases hw:JD op with
  |false=>
   simp only[EE,zo,yQ,j4,j5,j6,j7,j8,j9,Za,Zb,g,Ps,Pt,Pu,r0,r1];exact good rfl (by simp[r0,r1',hw])
  |true=>
   by_cases r4:r=4
   ·subst r4;simp only[EE,zo,yQ,j4,j5,j6,j7,j8,j9,Za,Zb,g,Ps,Pt,Pu,r0,r1];exact bad rfl (by unfold Wz;simp[hr,hw])
   ·simp only[EE,zo,yQ,j4,j5,j6,j7,j8,j9,Za,Zb,g,Ps,Pt,Pu,r0,r1,r4];exact good rfl (by simp[r0,r1',r4])
theorem Ww{h:za}{sv:aaa}{zs:List Int}(S:zl h sv zs)(r:TypeId)(h':za):zP pu .len [22] r [sv] h'=some (pm zs.length,h'):=by
 rcases S with⟨rfl,rfl⟩|⟨b,off,cp,rfl,_⟩
 ·simp only[E0,aaC]
 ·simp only[E0]
theorem Jo{h:za}{sv:aaa}{zs:List Int}(S:zl h sv zs){i:Nat}{z:Int}(hz:zs[i]? = some z):∃b o c t,zJ pu 22 sv (pm i)=some (.pointer (some ⟨b,o,none⟩))/\b<h.next/\h.get b=some (.cells c t)/\c[o]? = some (pm z):=by
 have hi:i<zs.length:=by
  rcases aax i zs.length with q|q
  ·exact q
  ·rw[aak q]at hz;cases hz
 rcases S with⟨rfl,rfl⟩|⟨b,off,cp,rfl,hc⟩
 ·cases hz
 ·obtain⟨c,t,hb,hg,hat⟩:=hc (by intro e;subst e;cases hz);have h0:(0:Int)<=i:=by omega
  have h1:(i:Int)<(zs.length:Int):=by omega
  exact⟨b,off+i,c,t,by simp only[Ku,h0,h1,aas,and_self,abA,aaw],hb,hg,hat i z hz⟩
section
variable {gl:List Int}{gv:aaa}{H:za}{b:Nat}{B:Bool}{vs:List aaa}{x:xY}
theorem zhF{r m sub cc l k:Int}(g:H.get b=some (.cells (xY.row ⟨3,r,m,sub,cc,l,k⟩) 50))(S:zl H gv gl)(hB:B=yC gl ⟨3,r,m,sub,cc,l,k⟩):zn (pi b) (xr B) gv vs H:=by
 by_cases s1:sub=1
 ·subst s1;simp only[EE,nth,↓BK,zo,zf,zB,zX,jz,jC,jH,jJ,jK,kO,zC,zn,g];refine xU (aH k _) ?_;simp only[EE];rw[hB];simp[xr,yC]
 by_cases s4:sub=4
 ·subst s4;simp only[EE,nth,↓BK,zo,zf,zB,zX,jz,jC,jH,jJ,jK,kO,zC,zn,g,s1];refine xU (aH k _) ?_;simp only[EE];rw[hB];simp[xr,yC,s1]
 by_cases s8:sub=8
 ·subst s8;simp only[EE,nth,↓BK,zo,zf,zB,zX,jz,jC,jH,jJ,jK,kO,zC,zn,g,s1,s4];refine xU (aH k _) ?_;simp only[EE];rw[hB];simp[xr,yC,s1,s4]
 simp only[EE,nth,↓BK,zo,zf,zB,jz,jC,jH,jJ,jK,kO,zC,zn,g,s1,s4,s8];rw[hB];simp[xr,yC,s1,s4,s8]
theorem zhG{r m sub cc l k:Int}(g:H.get b=some (.cells (xY.row ⟨4,r,m,sub,cc,l,k⟩) 50))(S:zl H gv gl)(hB:B=yC gl ⟨4,r,m,sub,cc,l,k⟩):zn (pi b) (xr B) gv vs H:=by
 by_cases s1:sub=1
 ·subst s1;simp only[EE,nth,↓BK,Int.reduceEq,zo,zf,zB,zX,jz,jC,jH,jJ,jK,kO,zC,zn,g];refine xU (aH k _) ?_;simp only[EE];rw[hB];simp[xr,yC]
 by_cases s4:sub=4
 ·subst s4;simp only[EE,nth,↓BK,Int.reduceEq,zo,zf,zB,zX,jz,jC,jH,jJ,jK,kO,zC,zn,g,s1];refine xU (aH k _) ?_;simp only[EE];rw[hB];simp[xr,yC,s1]
 by_cases s8:sub=8
 ·subst s8;simp only[EE,nth,↓BK,Int.reduceEq,zo,zf,zB,zX,jz,jC,jH,jJ,jK,kO,zC,zn,g,s1,s4];refine xU (aH k _) ?_;simp only[EE];rw[hB];simp[xr,yC,s1,s4]
 simp only[EE,nth,↓BK,Int.reduceEq,zo,zf,zB,jz,jC,jH,jJ,jK,kO,zC,zn,g,s1,s4,s8];rw[hB];simp[xr,yC,s1,s4,s8]
theorem zhH{r m sub cc l k:Int}(g:H.get b=some (.cells (xY.row ⟨5,r,m,sub,cc,l,k⟩) 50))(S:zl H gv gl)(hB:B=yC gl ⟨5,r,m,sub,cc,l,k⟩):zn (pi b) (xr B) gv vs H:=by
 simp only[EE,nth,↓BK,Int.reduceEq,zo,zf,zX,JM,zR,zC,zn,g];refine xU (aH k _) ?_;simp only[EE];rw[hB];simp[xr,yC]
theorem zgs{r m sub cc l k:Int}(g:H.get b=some (.cells (xY.row ⟨16,r,m,sub,cc,l,k⟩) 50))(S:zl H gv gl)(hB:B=yC gl ⟨16,r,m,sub,cc,l,k⟩):zn (pi b) (xr B) gv vs H:=by
 simp only[EE,nth,↓BK,Int.reduceEq,zo,zf,zX,JM,zR,zC,zn,g];refine xU (aH k _) ?_;simp only[EE];rw[hB];simp[xr,yC]
theorem zhI{r m sub cc l k:Int}(g:H.get b=some (.cells (xY.row ⟨6,r,m,sub,cc,l,k⟩) 50))(S:zl H gv gl)(hB:B=yC gl ⟨6,r,m,sub,cc,l,k⟩):zn (pi b) (xr B) gv vs H:=by
 have nl:=S.kY;have hl:=Ww S 3;by_cases s0:0<=sub
 ·by_cases s1:sub<(gl.length:Int)
  ·by_cases k0:0<=k
   ·obtain⟨z,hz⟩:∃z,gl[sub.toNat]? = some z:=⟨_,aac (by omega)⟩;obtain⟨bb,oo,c,t,ha,hbb,hgt,hat⟩:=Jo S hz;rw[abZ s0]at ha;have hd:gl.getD sub.toNat 0=z:=by rw[aaF,hz];rfl
    by_cases k1:k<=z
    ·simp only[EE,nth,↓BK,Int.reduceEq,zo,zf,zB,zX,X1,X2,X3,X4,Xb,Xc,Xd,Xe,Xf,zW,zR,zC,zn,g,nl,hl,s0,s1,k0,ha,hgt,hat,k1];rw[hB];simp only[yC,hd];simp[xr,s0,s1,k0,k1]
    ·simp only[EE,nth,↓BK,Int.reduceEq,zo,zf,zB,zX,X1,X2,X3,X4,Xb,Xc,Xd,Xe,Xf,zW,zR,zC,zn,g,nl,hl,s0,s1,k0,ha,hgt,hat,k1];rw[hB];simp only[yC,hd];simp[xr,s0,s1,k0,k1]
   ·simp only[EE,nth,↓BK,Int.reduceEq,zo,zf,zB,zX,X1,X2,X3,X4,Xb,Xc,Xd,Xe,Xf,zW,zR,zC,zn,g,nl,hl,s0,s1,k0];rw[hB];simp[xr,yC,s0,s1,k0]
  ·simp only[EE,nth,↓BK,Int.reduceEq,zo,zf,zB,X1,X2,X3,X4,Xb,Xc,Xd,Xe,Xf,zW,zR,zC,zn,g,nl,hl,s0,s1];rw[hB];simp[xr,yC,s0,s1]
 ·simp only[EE,nth,↓BK,Int.reduceEq,zo,zf,zB,X1,X2,X3,X4,Xb,Xc,Xd,Xe,Xf,zW,zR,zC,zn,g,s0];rw[hB];simp[xr,yC,s0]
theorem zhJ{r m sub cc l k:Int}(g:H.get b=some (.cells (xY.row ⟨7,r,m,sub,cc,l,k⟩) 50))(S:zl H gv gl)(hB:B=yC gl ⟨7,r,m,sub,cc,l,k⟩):zn (pi b) (xr B) gv vs H:=by
 simp only[EE,nth,↓BK,Int.reduceEq,zo,zf,zB,lJ,yh,zW,zR,zC,zn,g];refine xU (GU sub _) ?_;simp only[EE];rw[hB];simp[xr,yC]
theorem zhK{r m sub cc l k:Int}(g:H.get b=some (.cells (xY.row ⟨8,r,m,sub,cc,l,k⟩) 50))(S:zl H gv gl)(hB:B=yC gl ⟨8,r,m,sub,cc,l,k⟩):zn (pi b) (xr B) gv vs H:=by
 simp only[EE,nth,↓BK,Int.reduceEq,zo,zf,zB,ym,yh,zW,zR,zC,zn,g];refine xU (GU sub _) ?_;cases ha:dx sub with
 |false=>
  simp only[EE,JJ,JK];rw[hB];simp[xr,yC,ha]
 |true=>
  simp only[EE,zo,zX,JJ,JK,g];refine xU (aH k _) ?_;simp only[EE];rw[hB];simp[xr,yC,ha]
theorem zhL{r m sub cc l k:Int}(g:H.get b=some (.cells (xY.row ⟨9,r,m,sub,cc,l,k⟩) 50))(S:zl H gv gl)(hB:B=yC gl ⟨9,r,m,sub,cc,l,k⟩):zn (pi b) (xr B) gv vs H:=by
 by_cases s1:sub=1
 ·subst s1;simp only[EE,nth,↓BK,Int.reduceEq,zo,zf,zB,UN,UU,yq,ym,yh,zW,zR,zC,zn,g];rw[hB];simp[xr,yC]
 by_cases s2:sub=2
 ·subst s2;simp only[EE,nth,↓BK,Int.reduceEq,zo,zf,zB,UN,UU,yq,ym,yh,zW,zR,zC,zn,g,s1];rw[hB];simp[xr,yC,s1]
 simp only[EE,nth,↓BK,Int.reduceEq,zo,zf,zB,UN,UU,yq,ym,yh,zW,zR,zC,zn,g,s1,s2];rw[hB];simp[xr,yC,s1,s2]
theorem zgp{r m sub cc l k:Int}(g:H.get b=some (.cells (xY.row ⟨10,r,m,sub,cc,l,k⟩) 50))(S:zl H gv gl)(hB:B=yC gl ⟨10,r,m,sub,cc,l,k⟩):zn (pi b) (xr B) gv vs H:=by
 by_cases s3:sub=3
 ·subst s3;simp only[EE,nth,↓BK,Int.reduceEq,zo,zf,zB,UO,UT,yF,yq,ym,yh,zW,zR,zC,zn,g];rw[hB];simp[xr,yC]
 by_cases s4:sub=4
 ·subst s4;simp only[EE,nth,↓BK,Int.reduceEq,zo,zf,zB,UO,UT,yF,yq,ym,yh,zW,zR,zC,zn,g,s3];rw[hB];simp[xr,yC,s3]
 simp only[EE,nth,↓BK,Int.reduceEq,zo,zf,zB,UO,UT,yF,yq,ym,yh,zW,zR,zC,zn,g,s3,s4];rw[hB];simp[xr,yC,s3,s4]
theorem zgr{r m sub cc l k:Int}(g:H.get b=some (.cells (xY.row ⟨12,r,m,sub,cc,l,k⟩) 50))(S:zl H gv gl)(hB:B=yC gl ⟨12,r,m,sub,cc,l,k⟩):zn (pi b) (xr B) gv vs H:=by
 by_cases s19:sub=19
 ·subst s19;simp only[EE,nth,↓BK,Int.reduceEq,zo,zf,zB,UP,US,wK,yW,yF,yq,ym,yh,zW,zR,zC,zn,g];rw[hB];simp[xr,yC]
 by_cases s20:sub=20
 ·subst s20;simp only[EE,nth,↓BK,Int.reduceEq,zo,zf,zB,UP,US,wK,yW,yF,yq,ym,yh,zW,zR,zC,zn,g,s19];rw[hB];simp[xr,yC,s19]
 simp only[EE,nth,↓BK,Int.reduceEq,zo,zf,zB,UP,US,wK,yW,yF,yq,ym,yh,zW,zR,zC,zn,g,s19,s20];rw[hB];simp[xr,yC,s19,s20]
theorem zgq{r m sub cc l k:Int}(g:H.get b=some (.cells (xY.row ⟨11,r,m,sub,cc,l,k⟩) 50))(S:zl H gv gl)(hB:B=yC gl ⟨11,r,m,sub,cc,l,k⟩):zn (pi b) (xr B) gv vs H:=by
 by_cases s19:sub=19
 ·subst s19;by_cases k0:0<=k
  ·by_cases k1:k<=63
   ·simp only[EE,nth,↓BK,Int.reduceEq,zo,zf,zB,zX,jA,jB,jD,jE,jF,jI,yW,yF,yq,ym,yh,zW,zR,zC,zn,g,k0,k1];rw[hB];simp[xr,yC,k0,k1]
   ·simp only[EE,nth,↓BK,Int.reduceEq,zo,zf,zB,zX,jA,jB,jD,jE,jF,jI,yW,yF,yq,ym,yh,zW,zR,zC,zn,g,k0,k1];rw[hB];simp[xr,yC,k0,k1]
  ·simp only[EE,nth,↓BK,Int.reduceEq,zo,zf,zB,zX,jA,jB,jD,jE,jF,jI,yW,yF,yq,ym,yh,zW,zR,zC,zn,g,k0];rw[hB];simp[xr,yC,k0]
 by_cases s20:sub=20
 ·subst s20;by_cases k0:0<=k
  ·by_cases k1:k<=63
   ·simp only[EE,nth,↓BK,Int.reduceEq,zo,zf,zB,zX,jA,jB,jD,jE,jF,jI,yW,yF,yq,ym,yh,zW,zR,zC,zn,g,s19,k0,k1];rw[hB];simp[xr,yC,s19,k0,k1]
   ·simp only[EE,nth,↓BK,Int.reduceEq,zo,zf,zB,zX,jA,jB,jD,jE,jF,jI,yW,yF,yq,ym,yh,zW,zR,zC,zn,g,s19,k0,k1];rw[hB];simp[xr,yC,s19,k0,k1]
  ·simp only[EE,nth,↓BK,Int.reduceEq,zo,zf,zB,zX,jA,jB,jD,jE,jF,jI,yW,yF,yq,ym,yh,zW,zR,zC,zn,g,s19,k0];rw[hB];simp[xr,yC,s19,k0]
 simp only[EE,nth,↓BK,Int.reduceEq,zo,zf,zB,jA,jB,jD,jE,jF,jI,yW,yF,yq,ym,yh,zW,zR,zC,zn,g,s19,s20];rw[hB];simp[xr,yC,s19,s20]
theorem zgt{r m sub cc l k:Int}(g:H.get b=some (.cells (xY.row ⟨17,r,m,sub,cc,l,k⟩) 50))(S:zl H gv gl)(hB:B=yC gl ⟨17,r,m,sub,cc,l,k⟩):zn (pi b) (xr B) gv vs H:=by
 simp only[EE,nth,↓BK,Int.reduceEq,zo,zf,Kl,JL,vR,wK,yW,yF,yq,ym,yh,zW,zR,zC,zn,g];refine xU (Au cc _) ?_;simp only[EE];rw[hB];simp[xr,yC]
theorem zgu{r m sub cc l k:Int}(g:H.get b=some (.cells (xY.row ⟨19,r,m,sub,cc,l,k⟩) 50))(S:zl H gv gl)(hB:B=yC gl ⟨19,r,m,sub,cc,l,k⟩):zn (pi b) (xr B) gv vs H:=by
 simp only[EE,nth,↓BK,Int.reduceEq,zo,zf,Kl,JL,vR,wK,yW,yF,yq,ym,yh,zW,zR,zC,zn,g];refine xU (Au cc _) ?_;simp only[EE];rw[hB];simp[xr,yC]
theorem zgv{r m sub cc l k:Int}(g:H.get b=some (.cells (xY.row ⟨20,r,m,sub,cc,l,k⟩) 50))(S:zl H gv gl)(hB:B=yC gl ⟨20,r,m,sub,cc,l,k⟩):zn (pi b) (xr B) gv vs H:=by
 by_cases k0:0<=l
 ·by_cases k1:l<=10000000
  ·simp only[EE,nth,↓BK,Int.reduceEq,zo,zf,vB,UQ,UR,qf,vR,wK,yW,yF,yq,ym,yh,zW,zR,zC,zn,g,k0,k1];rw[hB];simp[xr,yC,k0,k1]
  ·simp only[EE,nth,↓BK,Int.reduceEq,zo,zf,vB,UQ,UR,qf,vR,wK,yW,yF,yq,ym,yh,zW,zR,zC,zn,g,k0,k1];rw[hB];simp[xr,yC,k0,k1]
 ·simp only[EE,nth,↓BK,Int.reduceEq,zo,zf,vB,UQ,UR,qf,vR,wK,yW,yF,yq,ym,yh,zW,zR,zC,zn,g,k0];rw[hB];simp[xr,yC,k0]
theorem zgw{r m sub cc l k:Int}(g:H.get b=some (.cells (xY.row ⟨23,r,m,sub,cc,l,k⟩) 50))(S:zl H gv gl)(hB:B=yC gl ⟨23,r,m,sub,cc,l,k⟩):zn (pi b) (xr B) gv vs H:=by
 by_cases k0:0<=k
 ·by_cases k1:k<=65536
  ·simp only[EE,nth,↓BK,Int.reduceEq,zo,zf,zX,ZP,ZQ,jG,qf,vR,wK,yW,yF,yq,ym,yh,zW,zR,zC,zn,g,k0,k1];rw[hB];simp[xr,yC,k0,k1]
  ·simp only[EE,nth,↓BK,Int.reduceEq,zo,zf,zX,ZP,ZQ,jG,qf,vR,wK,yW,yF,yq,ym,yh,zW,zR,zC,zn,g,k0,k1];rw[hB];simp[xr,yC,k0,k1]
 ·simp only[EE,nth,↓BK,Int.reduceEq,zo,zf,zX,ZP,ZQ,jG,qf,vR,wK,yW,yF,yq,ym,yh,zW,zR,zC,zn,g,k0];rw[hB];simp[xr,yC,k0]
theorem zgx{r m sub cc l k:Int}(g:H.get b=some (.cells (xY.row ⟨24,r,m,sub,cc,l,k⟩) 50))(S:zl H gv gl)(hB:B=yC gl ⟨24,r,m,sub,cc,l,k⟩):zn (pi b) (xr B) gv vs H:=by
 by_cases k0:0<=k
 ·by_cases k1:k<=65536
  ·simp only[EE,nth,↓BK,Int.reduceEq,zo,zf,zX,ZP,ZQ,jG,qf,vR,wK,yW,yF,yq,ym,yh,zW,zR,zC,zn,g,k0,k1];rw[hB];simp[xr,yC,k0,k1]
  ·simp only[EE,nth,↓BK,Int.reduceEq,zo,zf,zX,ZP,ZQ,jG,qf,vR,wK,yW,yF,yq,ym,yh,zW,zR,zC,zn,g,k0,k1];rw[hB];simp[xr,yC,k0,k1]
 ·simp only[EE,nth,↓BK,Int.reduceEq,zo,zf,zX,ZP,ZQ,jG,qf,vR,wK,yW,yF,yq,ym,yh,zW,zR,zC,zn,g,k0];rw[hB];simp[xr,yC,k0]
theorem zeq(g:H.get b=some (.cells x.row 50))(S:zl H gv gl)(hB:B=yC gl x):zn (pi b) (xr B) gv vs H:=by
 obtain⟨op,r,m,sub,cc,l,k⟩:=x;by_cases o3:op=3
 ·subst o3;exact zhF g S hB
 by_cases o4:op=4
 ·subst o4;exact zhG g S hB
 by_cases o5:op=5
 ·subst o5;exact zhH g S hB
 by_cases o16:op=16
 ·subst o16;exact zgs g S hB
 by_cases o6:op=6
 ·subst o6;exact zhI g S hB
 by_cases o7:op=7
 ·subst o7;exact zhJ g S hB
 by_cases o8:op=8
 ·subst o8;exact zhK g S hB
 by_cases o9:op=9
 ·subst o9;exact zhL g S hB
 by_cases o10:op=10
 ·subst o10;exact zgp g S hB
 by_cases o11:op=11
 ·subst o11;exact zgq g S hB
 by_cases o12:op=12
 ·subst o12;exact zgr g S hB
 by_cases o17:op=17
 ·subst o17;exact zgt g S hB
 by_cases o19:op=19
 ·subst o19;exact zgu g S hB
 by_cases o20:op=20
 ·subst o20;exact zgv g S hB
 by_cases o23:op=23
 ·subst o23;exact zgw g S hB
 by_cases o24:op=24
 ·subst o24;exact zgx g S hB
 simp only[EE,nth,↓BK,zo,zf,jG,qf,vR,wK,yW,yF,yq,ym,yh,zW,zR,zC,zn,g,o3,o4,o5,o16,o6,o7,o8,o9,o10,o11,o12,o17,o19,o20,o23,o24];rw[hB];simp[xr,yC,o3,o4,o5,o16,o6,o7,o8,o9,o10,o11,o12,o17,o19,o20,o23,o24]
theorem PQ(S:zl H gv gl):xC pu 56 [x.val,gv] H (.bool (Xw gl x)):=by
 apply yB;replace S:=S.lock;generalize H.lock=L at S;apply D5;unfold Cq;have nl:=S.kY;simp only[EE,↓nw,Value.cells,zo,zf];have S2:=S.old (Old.push L (.cells x.row 50));have g:(L.push (.cells x.row 50)).get L.next=some (.cells x.row 50):=zv;generalize L.push (.cells x.row 50)=G at g S2 ⊢;obtain⟨op,r,m,sub,cc,l,k⟩:=x;simp only at g ⊢;by_cases o1:op<1
 ·have e:Xw gl ⟨op,r,m,sub,cc,l,k⟩=false:=by have q:¬1<=op:=by omega
                                             unfold Xw;simp[q]
  simp only[EE,WH,UW,UX,o1];rw[e];rfl
 by_cases o2:op>26
 ·have e:Xw gl ⟨op,r,m,sub,cc,l,k⟩=false:=by have q:¬op<=26:=by omega
                                             unfold Xw;simp[q]
  simp only[EE,zo,zf,WH,UW,UX,g,o1,o2];rw[e];rfl
 simp only[EE,Nat.reduceAdd,zN,zo,xx,zf,UW,UX,g,o1,o2];refine xU (LM ⟨op,r,m,sub,cc,l,k⟩ G) ?_
 have e:Xw gl ⟨op,r,m,sub,cc,l,k⟩=(Wz ⟨op,r,m,sub,cc,l,k⟩&&yC gl ⟨op,r,m,sub,cc,l,k⟩):=by
  have q1:1<=op:=by omega
  have q2:op<=26:=by omega
  unfold Xw;simp only[q1,q2,decide_true,abY]
 cases hr:Wz ⟨op,r,m,sub,cc,l,k⟩ with
 |false=>
  simp only[EE,WH];rw[e,hr];rfl
 |true=>
  simp only[EE,WH];exact zeq (x:=⟨op,r,m,sub,cc,l,k⟩) g S2 (by rw[e,hr];rfl)
end
end Go.As
