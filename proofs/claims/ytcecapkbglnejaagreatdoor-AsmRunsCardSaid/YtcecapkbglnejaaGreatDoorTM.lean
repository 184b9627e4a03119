import Derived.Test.YtcecapkbglnejaaGreatDoorTL
set_option linter.unusedVariables false
set_option linter.unusedSimpArgs false
set_option maxRecDepth 100000
namespace Go.As
open Go.Ai Go.Proofs Go.Mem Go.Rm
open Go.Rtl (zl zE Old yB xr inc wD yM)
section
variable {lo:yE}{h:za}{b mb wb:Nat}{p:Pg}{wn lv gl ev lk cl:aaa}{world:List Int}{lim fuel:Int}{lab:Bool}{S:St}
theorem Az(lim:Int)(S:St)(f:Nat)(hk:S.kind=0):(ye lim S f).kind=0->(ye lim S f).calls≠[]:=by
 unfold ye;split
 ·intro _;simp
 ·rename_i hg;intro q;exfalso;unfold zY at hg q;split at q
  ·cases q
  ·rename_i h2;rw[aae h2]at hg;exact hg rfl
theorem ze3(hp:Rd lo (wR · p))(g:IA p)(hwl:world.length<4611686018427387904){gls:List Int}(hg:Rd lo (zl · gl gls))(hL:Rd lo (JF p lv))(hf0:0<=fuel)(hf1:fuel<=100000000)(s:Sat lo h (Da p b mb wb wn world lim lv gl S ev lk cl))(I:YF p lim 0 S)(hs:S.steps=0)(hk:S.kind=0)(hc:S.calls=[])(hgs:S.gl=gls) :
  DC pu 39 [xG b,pm fuel,.bool lab] h (λ_ h'=>∃T,Loop p lim world lab fuel (ye lim S p.main.toNat) T/\T.kind≠0/\BS lo p b mb wb wn world lim lv gl T h'):=by
 apply Pd;unfold So xG;have gm:=s.get;unfold xH at gm;obtain⟨mn,hmn⟩:∃mn:Nat,p.main=mn:=⟨p.main.toNat,by have:=g.zde;omega⟩;obtain⟨f,hf⟩:=g.main;simp only[EE,zo,Ht,jR,gm,zhT,hmn];rw[hmn,aaw]at *
 obtain⟨lo1,l1,s2,fr⟩:=(s.f [0,3]).call (L2:=[pt b (xH p lv mb wb S ev lk gl cl lim),w7 134 7 cl (S.calls.map yX)]);refine dM (NP s2 (I.bounds (by decide)).Mn (by rw[hc];decide) mn) ?_;rintro v h3 ⟨cl',s3⟩;have s4:=fr _ _ s3;simp only[↓xg];obtain⟨e1,e2,e3,e4⟩:=iT lim S mn;have es:=mz lim S mn;have L0:Loop p lim world lab fuel (ye lim S mn) (ye lim S mn):=⟨by rw[es.2,hs];exact I.enter hf (by rw[hc];decide),Az lim S mn hk,by rw[es.2,hs];exact hf0,0,rfl⟩;refine zeF hp g hwl hg hL hf1 L0 (by rw[es.1];exact hgs) ⟨ev,lk,cl',?_⟩ (λh' T LT kT xT=>⟨T,LT,kT,xT⟩);unfold Da;rw[e1,e2,e3,e4];exact s4.k [0,2,3,1,4,5,6]
end
def DT(M:MM)(gl:List Int)(r:List V):St:=⟨M,0,0,0,[],[],0,gl,[],r,false,v0,v0,0,0⟩
theorem dH(p:Pg)(args:List Int):u9 p args=DT (xI p.globals [] []).1 (xI p.globals [] []).2 (WQ order args (List.replicate 16 v0)):=rfl
theorem zd8(v00:Option Addr)(l00 c00:Nat)(v01:Option Addr)(l01 c01:Nat)(m k:Int)(mb wb:Nat)(lim:Int):yd pu 108 [(0,(.agg #[(.slice v00 l00 c00),(.slice v01 l01 c01),(pm m),(pm k)])),(2,pi mb),(3,pi wb),(12,pm lim)]=some (.agg ⟨vz ⟨.slice v00 l00 c00,[],.slice v01 l01 c01,[],m,k⟩ (pp) mb wb (DT [] [] (List.replicate 16 v0)) (pp) (pp) (pp) (pp) lim⟩):=by kernel_rfl
theorem zl.shape{h:za}{sv:aaa}{l:List Int}(S:zl h sv l):∃a n c,sv=.slice a n c:=by
 rcases S with⟨rfl,_⟩|⟨b,off,cp,rfl,_⟩ <;> exact⟨_,_,_,rfl⟩
theorem zE.shape{h:za}{sv:aaa}{n:Nat}{l:List (List aaa)}(S:zE h sv n l):∃a n c,sv=.slice a n c:=by
 rcases S with⟨rfl,_⟩|⟨b,off,cp,rfl,_⟩ <;> exact⟨_,_,_,rfl⟩
theorem zbA{h:za}{p:Pg}(P:wR h p)(mb wb:Nat)(lim:Int):yd pu 108 [(0,.agg #[p.gv,p.fv,pm p.main,pm p.params]),(2,pi mb),(3,pi wb),(12,pm lim)]=some (.agg ⟨vz p (pp) mb wb (DT [] [] (List.replicate 16 v0)) (pp) (pp) (pp) (pp) lim⟩):=by
 obtain⟨gv,gs,fv,fs,m,k⟩:=p;obtain⟨a1,n1,c1,q1⟩:=zl.shape P.globals;obtain⟨a2,n2,c2,q2⟩:=zE.shape P.funcs;simp only at q1 q2;subst q1 q2;exact zd8 _ _ _ _ _ _ _ _ _ _ _
theorem Tj:yd pu 130 [(0,pm 7),(1,pm 6),(2,pm 2),(3,pm 1),(4,pm 8),(5,pm 9)]=some (.agg #[pm 7,pm 6,pm 2,pm 1,pm 8,pm 9]):=by kernel_rfl
theorem mkm(h:za):v7 h=(.map (some h.next),h.push (.map [] 0)):=rfl
theorem aJ:∀(rs l2:List Int) (l:List V) (i:Nat) (r a:Int),rs[i]? = some r->l2[i]? = some a->WQ rs (l2.take (i+1)) l=(WQ rs (l2.take i) l).set r.toNat (wB a)
 |[],l2,l,i,r,a,h,_=>by cases h
 |x::rs,[],l,i,r,a,_,h=>by cases h
 |x::rs,y::l2,l,0,r,a,h1,h2=>by
  simp only[aaf,aab]at h1 h2;subst h1 h2;cases rs <;> cases l2 <;> rfl
 |x::rs,y::l2,l,i+1,r,a,h1,h2=>by
  simp only[aal]at h1 h2;exact aJ rs l2 _ i r a h1 h2
theorem Qk:∀(rs l2:List Int) (l:List V),(WQ rs l2 l).length=l.length
 |[],l2,l=>rfl
 |x::rs,[],l=>rfl
 |x::rs,y::l2,l=>by show(WQ rs l2 _).length=_;rw[Qk rs l2,abd]
theorem HG:∀(rs l2:List Int) (l:List V),(∀v,v∈l->vb v)->∀v,v∈WQ rs l2 l->vb v
 |[],l2,l,h=>h
 |x::rs,[],l,h=>h
 |x::rs,y::l2,l,h=>HG rs l2 _ λv hv=>by
  rcases ab6 hv with q|rfl
  ·exact h v q
  ·exact bP _
theorem Ev{p:Pg}(g:IA p){lim:Int}(l0:0<=lim)(l1:lim<4294967296)(args:List Int):YF p lim 0 (u9 p args):=by
 obtain⟨gm,p8,gb⟩:=rY p.globals [] [] Bb (λz h=>by cases h);rw[dH]
 have hv:∀v,v∈WQ order args (List.replicate 16 v0)->vb v:=HG _ _ _ λv hv=>by
  rw[(List.mem_replicate.1 hv).2];exact nk
 exact⟨acu 0,Qk _ _ _,zfq hv,nk,nk,λc hc=>by(cases hc),l0,l1,acu 0,l0,acu 0,acu 0,by show(0:Int)<=0+1;decide,⟨acu 0,acu 0⟩,gm,gb,by show(xI p.globals [] []).2.length=_;rw[p8];simp⟩
section
variable {lo:yE}{h:za}{L:List HP}{sv:aaa}{zs:List Int}
theorem Dx(S:zl h sv zs)(r:TypeId)(h':za):zP pu .len [26] r [sv] h'=some (pm zs.length,h'):=by
 rcases S with⟨rfl,rfl⟩|⟨b,off,cp,rfl,_⟩
 ·simp only[E1,aaC]
 ·simp only[E1]
theorem zd1(S:zl h sv zs){i:Nat}{z:Int}(hz:zs[i]? = some z):∃b o c t,zJ pu 26 sv (pm i)=some (.pointer (some ⟨b,o,none⟩))/\b<h.next/\h.get b=some (.cells c t)/\c[o]? = some (pm z):=by
 have hi:i<zs.length:=by
  rcases aax i zs.length with q|q
  ·exact q
  ·rw[aak q]at hz;cases hz
 rcases S with⟨rfl,rfl⟩|⟨b,off,cp,rfl,hc⟩
 ·cases hz
 ·obtain⟨c,t,hb,hg,hat⟩:=hc (by intro e;subst e;cases hz);have h0:(0:Int)<=i:=by omega
  have h1:(i:Int)<(zs.length:Int):=by omega
  exact⟨b,off+i,c,t,by simp only[zdb,h0,h1,and_self,aas,abA,aaw],hb,hg,hat i z hz⟩
theorem Oo{q:Nat}{o:wQ}(s:Sat lo h (pt q o::L)):∃lo1,lo.Le lo1/\Rd lo1 (λh=>h.get q=some o)/\Sat lo1 h L:=by
 obtain⟨a,ha,d,w,s⟩:=s;refine⟨lo.un a,yE.bM d,λh1 b1=>?_,s⟩;have:Sat lo h1 [pt q o]:=⟨a,ha,d,w,b1⟩;exact this.get
theorem eA{h:za}{sv:aaa}{zs:List Int}(S:zE h sv 1 (zs.map yA)):zl h sv zs:=by
 have T:=S;rcases S with⟨e,e2⟩|⟨b,off,cp,rfl,hc⟩
 ·exact .inl ⟨e,by simpa using e2⟩
 ·refine .inr ⟨b,off,cp,by rw[aav],λhz=>?_⟩;obtain⟨c,t,hb,hg,hat⟩:=hc (by simpa using hz);refine⟨c,t,hb,hg,λi z hiz=>?_⟩;obtain⟨b2,o,c2,t2,⟨off2,cp2,e1,e2⟩,_,_,hg2,_,_,h3⟩:=T.spot (i:=i) (r:=yA z) (by rw[aau,hiz];rfl) rfl;simp only[abu,aab,abJ]at e1;obtain⟨⟨rfl,rfl,_⟩,_,rfl⟩:=e1;rw[hg]at hg2;cases hg2;have:=h3 0 (by decide);rw[e2,abA,ab8]at this;exact this
end
section
variable {lo:yE}{h h42:za}{L:List HP}{b mb wb b19:Nat}{p:Pg}{S:St}{f:Fn}{lv gl ev lk cl av:aaa}{args:List Int}{lim:Int}
theorem zei(hF:Rd lo (WB · f))(s:Sat lo h (pt h42.next (dV [])::L)){J:List aaa->za->Prop}(k:∀h',Sat lo h' (pt h42.next (dV (Kv f.code 0 []))::L)->J [] h'):LP (n7 (pm f.code.length) J f.cv h42) [pm 0] h:=by
 refine qQ (λm vs h'=>∃j:Nat,j<=f.code.length/\m=f.code.length-j/\vs=[pm (j:Nat)]/\Sat lo h' (pt h42.next (dV (Kv (f.code.take j) 0 []))::L)) f.code.length ⟨0,aaX _,rfl,rfl,s⟩ ?_;rintro m vs h1 ⟨j,hj,rfl,rfl,s1⟩;have F:=hF.at s1;unfold n7;by_cases hc:(j:Int)<(f.code.length:Int)
 ·obtain⟨i,hi⟩:∃i,f.code[j]? = some i:=⟨_,aac (by omega)⟩;obtain⟨bi,oi,ci,ti,ha,hbi,hgi,hle,htk,_⟩:=Z2 F.code (i:=j) (r:=i.row) (by rw[aau,hi];rfl) rfl;have et:f.code.take (j+1)=f.code.take j++[i]:=by rw[acx,hi];rfl
  have hsn:=Dw (f.code.take j) i 0 [];rw[<- et]at hsn;have hlen:(f.code.take j).length=j:=by simp;omega
  rw[hlen]at hsn;have hin:=inc (show j<4611686018427387904 by have:=F.ru;omega);simp only[EE,nth,Value.cells,↓xg,zN,xx,G3,CS,CT,hc,ha,hgi,hle,htk];refine w8 s1 λb8 h2 s2=>?_;simp only[EE,Nat.reduceAdd,G1];refine z9 s2 (by simp) rfl λh3 s3=>?_;have g8:=s3.get;have gM:=(s3.p 1).get;by_cases h20:i.op=20
  ·rw[aai h20]at hsn;have up:=Il (P:=pu) (t:=129) (kt:=3) (et:=3) (kind := .i64) (by kernel_rfl) (by kernel_rfl) gM (s3.p 1).wr i.l (pm (j:Nat));have s4:=(s3.p 1).set (dV (QU (Kv (f.code.take j) 0 []) i.l (pm (j:Nat))));simp only[EE,nth,zb,Nat.reduceAdd,zo,zf,vB,CR,g8,h20,mkm,up,hin];refine⟨f.code.length-(j+1),by omega,j+1,by omega,rfl,rfl,?_⟩;rw[hsn,Int.zero_add];exact(s4.p 1).drop
  ·rw[aae h20]at hsn;simp only[EE,nth,zb,Nat.reduceAdd,zo,zf,g8,h20,hin];refine⟨f.code.length-(j+1),by omega,j+1,by omega,rfl,rfl,?_⟩;rw[hsn];exact s3.drop
 ·have e:j=f.code.length:=by omega
  subst e;rw[acd]at s1;simp only[EE,nth,hc];exact k h1 s1
theorem A8(l:List Nat):∀r,r∈l.map (λq=>[Value.map (some q)])->r.length=1:=uF (f:=λq=>[Value.map (some q)]) (λ_=>rfl) l
theorem zbT(hp:Rd lo (wR · p))(g:IA p)(s:Sat lo h (pt b (xH p (pp) mb wb S ev lk gl cl lim)::L)){J:List aaa->za->Prop}
  (k:∀h' lo1 lv,lo.Le lo1->Rd lo1 (JF p lv)->Sat lo1 h' (pt b (xH p lv mb wb S ev lk gl cl lim)::L)->J [] h') :
  LP (gN (pm p.funcs.length) J p.fv (xG b)) [pm 0] h:=by
 refine qQ (λm vs h'=>∃(i:Nat) (lo1:yE) (lv:aaa) (ls:List Nat),i<=p.funcs.length/\m=p.funcs.length-i/\vs=[pm (i:Nat)]/\ls.length=i/\lo.Le lo1/\Rd lo1 (λh=>∀(k q:Nat) (f:Fn),ls[k]? = some q->p.funcs[k]? = some f->h.get q=some (dV (Kv f.code 0 [])))/\Sat lo1 h' (w7 129 1 lv (ls.map λq=>[.map (some q)])::pt b (xH p lv mb wb S ev lk gl cl lim)::L)) p.funcs.length
  ⟨0,lo,pp,[],aaX _,rfl,rfl,rfl,yE.Le.refl _,λh b k q f h1=>(by cases h1),qB _ _ s⟩ ?_
 rintro m vs h1 ⟨i,lo1,lv,ls,hi,rfl,rfl,hls,hle1,hR,s1⟩;unfold gN xG;by_cases hc:(i:Int)<(p.funcs.length:Int)
 ·obtain⟨f,hf⟩:∃f,p.funcs[i]? = some f:=⟨_,aac (by omega)⟩;have P:=(hp.mono hle1).at s1;have fm:=aaA hf;obtain⟨bf,ofs,cf,tf,hif,hbf,hgf,hlf,htf,hkf⟩:=Ws P.funcs (i:=i) (r:=f.row) (by rw[aau,hf];rfl) rfl;have hF:Rd lo1 (WB · f):=λh b=>(hp.mono hle1 h b).fns f fm;have cvn:=(P.fns f fm).code.kY;have cvc:=(P.fns f fm).code.fC;have hin:=inc (show i<4611686018427387904 by have:=g.fl;omega);simp only[EE,nth,Value.cells,↓xg,zN,bE,Td,tA,tB,hc,hif,hgf,hlf,htf];refine w8 s1 λb15 h2 s2=>?_;simp only[EE,Nat.reduceAdd,S9];refine z9 s2 (by simp) (by simp[cvc];rfl) λh3 s3=>?_;have g15:=s3.get;have s4:=s3.push (.map [] 0);have g15:=(s4.p 1).get;have hlc:=kP ((hF.at s4).code) 3;simp only[EE,↓xg,zb,zo,Yd,uB,mkm,g15,cvn,hlc];refine zei (h42:=h3) hF s4 λh5 s5=>?_;obtain⟨lo2,l2,hm,s6⟩:=Oo s5;have gM:=(s6.p 2).get;unfold xH at gM;have ln:=wL (s6.p 1);have s7:=s6.push (.cells [.map (some h3.next)] 129);obtain⟨b',c',h8,a1,s8⟩:=YD (s7.p 2) (A8 ls) [.map (some h3.next)] rfl (by decide) 8 (by rw[aav];have:=g.fl;omega);rw[aav]at a1 s8
  have hap:∀r,zP pu .append [103,103] r [lv,.slice (some ⟨h5.next,0,none⟩) 1 3] (h5.push (.cells [.map (some h3.next)] 129))=some (.slice (some ⟨b',0,none⟩) (ls.length+1) c',h8):=λr=>by
   rw[zdR r _ _ 1 [.map (some h3.next)] _ rfl (by simp only[vW,zv];rfl) rfl rfl];exact a1
  unfold tw;simp only[EE,zo,I9,zdX,Ln,AD,mkm,gM,ze6,ln,hap];refine z9 (s8.p 3) (by simp[ug]) rfl λh9 s9=>?_;rw[zhY]at s9;simp only[EE,nth,hin];refine⟨p.funcs.length-(i+1),by omega,i+1,lo2,.slice (some ⟨b',0,none⟩) (ls.length+1) c',ls++[h3.next],by omega,rfl,rfl,by simp[hls],hle1.trans l2,λh b k q f' hk hf'=>?_,?_⟩
  ·by_cases hki:k<ls.length
   ·rw[aa4 hki]at hk;exact hR.mono l2 h b k q f' hk hf'
   ·have hk2:k=ls.length:=by
     have:k<(ls++[h3.next]).length:=by
      rcases aax k (ls++[h3.next]).length with a|a
      ·exact a
      ·rw[aak a]at hk;cases hk
     simp at this;omega
    subst hk2;simp at hk;subst hk;rw[hls,hf]at hf';cases hf';exact hm h b
  ·have e:((ls++[h3.next]).map λq=>[Value.map (some q)])=(ls.map λq=>[Value.map (some q)])++[[.map (some h3.next)]]:=by simp
   rw[e];exact(s9.f [2,3]).drop.drop.f [1,0]
 ·have e:i=p.funcs.length:=by omega
  subst e;simp only[EE,nth,hc];obtain⟨lo2,l2,hs,s2,_⟩:=Mk s1 (A8 ls);exact k h1 lo2 lv (hle1.trans l2) (λh b=>⟨ls,hs h b,hls,hR.mono l2 h b⟩) s2
theorem zdW(ha:Rd lo (zl · av args))(ha6:args.length<=6){M:MM}{gs:List Int}(s:Sat lo h (pt b (xH p lv mb wb (DT M gs (List.replicate 16 v0)) ev lk gl cl lim)::pt b19 (.cells [pm 7,pm 6,pm 2,pm 1,pm 8,pm 9] 130)::L)){J:List aaa->za->Prop}
  (k:∀h',Sat lo h' (pt b (xH p lv mb wb (DT M gs (WQ order args (List.replicate 16 v0))) ev lk gl cl lim)::pt b19 (.cells [pm 7,pm 6,pm 2,pm 1,pm 8,pm 9] 130)::L)->J [] h') :
  LP (gO (pm args.length) J av (pi b19) (xG b)) [pm 0] h:=by
 refine qQ (λm vs h'=>∃i:Nat,i<=args.length/\m=args.length-i/\vs=[pm (i:Nat)]/\Sat lo h' (pt b (xH p lv mb wb (DT M gs (WQ order (args.take i) (List.replicate 16 v0))) ev lk gl cl lim)::pt b19 (.cells [pm 7,pm 6,pm 2,pm 1,pm 8,pm 9] 130)::L)) args.length ⟨0,aaX _,rfl,rfl,s⟩ ?_;rintro m vs h1 ⟨i,hi,rfl,rfl,s1⟩;unfold gO xG;by_cases hc:(i:Int)<(args.length:Int)
 ·obtain⟨a,haa⟩:∃a,args[i]? = some a:=⟨_,aac (by omega)⟩;obtain⟨bb,o,cs,t,hix,hb,hgt,hat⟩:=zd1 (ha.at s1) haa;obtain⟨r,hr⟩:∃r,order[i]? = some r:=⟨_,aac (by show i<6;omega)⟩
  have hr1:0<=r/\r<16:=by
   have hm:=aaA hr;simp only[order,abm,List.not_mem_nil,aaN]at hm;omega
  have hc19:([pm 7,pm 6,pm 2,pm 1,pm 8,pm 9]:List aaa)[i]? = some (pm r):=by
   have e:([pm 7,pm 6,pm 2,pm 1,pm 8,pm 9]:List aaa)=order.map (Value.int .i64):=rfl;rw[e,aau,hr];rfl
  have g19:=(s1.p 1).get;have gn:=aJ order args (List.replicate 16 v0) i r a hr haa;have avn:=(ha.at s1).kY;have i0:(0:Int)<=i:=by omega
  have i6:(i:Int)<6:=by omega
  have hin:=inc (show i<4611686018427387904 by omega);have r0:=hr1.1;have r1:=hr1.2;simp only[EE,nth,↓xg,zo,zey,tD,tE,hc,hix,hgt,hat,i0,i6,g19,hc19,aaw,abA];refine JC (Xo a _) ?_;simp only[EE,Nat.reduceAdd,xQ,xW,tC,r0,r1];refine Fj s1 (Qk _ _ _) r0 r1 _ λh3 s3=>?_;simp only[EE,nth,hin];refine⟨args.length-(i+1),by omega,i+1,by omega,rfl,rfl,?_⟩;rw[gn];exact s3
 ·have e:i=args.length:=by omega
  subst e;rw[acd]at s1;simp only[EE,nth,hc];exact k h1 s1
theorem zbX(hp:Rd lo (wR · p))(g:IA p){r:List V}(s:Sat lo h (pt b (xH p lv mb wb (DT [] [] r) ev lk (pp) cl lim)::WT mb []::L)){J:List aaa->za->Prop}
  (k:∀h' gl,Sat lo h' (w7 3 1 gl ((xI p.globals [] []).2.map yA)::pt b (xH p lv mb wb (DT (xI p.globals [] []).1 (xI p.globals [] []).2 r) ev lk gl cl lim)::WT mb (xI p.globals [] []).1::L)->J [] h') :
  LP (n6 (pm p.globals.length) J p.gv (xG b)) [pm 0] h:=by
 refine qQ (λm vs h'=>∃(i:Nat) (gl:aaa),i<=p.globals.length/\m=p.globals.length-i/\vs=[pm (i:Nat)]/\Sat lo h' (w7 3 1 gl ((xI (p.globals.take i) [] []).2.map yA)::pt b (xH p lv mb wb (DT (xI (p.globals.take i) [] []).1 (xI (p.globals.take i) [] []).2 r) ev lk gl cl lim)::WT mb (xI (p.globals.take i) [] []).1::L)) p.globals.length
  ⟨0,pp,aaX _,rfl,rfl,qB _ _ s⟩ ?_
 rintro m vs h1 ⟨i,gl,hi,rfl,rfl,s1⟩;unfold n6 xG;obtain⟨gm,p8,gb⟩:=rY (p.globals.take i) [] [] Bb (λz h=>by cases h);have g200:=g.gl;by_cases hc:(i:Int)<(p.globals.length:Int)
 ·obtain⟨n,hn⟩:∃n,p.globals[i]? = some n:=⟨_,aac (by omega)⟩;obtain⟨b11,o11,c11,t11,ix11,lt11,g11,k11⟩:=Jo ((hp.at s1).globals) hn;have gvn:=(hp.at s1).globals.kY;have gM:=(s1.p 1).get;unfold xH at gM;have et:p.globals.take (i+1)=p.globals.take i++[n]:=by rw[acx,hn];rfl
  have e1:=iX (p.globals.take i) n [] [];rw[<- et]at e1;have a:=aN n gm;have hin:=inc (show i<4611686018427387904 by omega);simp only[EE,nth,↓xg,zo,ou,Js,CP,CQ,hc,ix11,g11,k11,gM,Rk];obtain⟨lo1,l1,s11,fr⟩:=(s1.f [2]).call (L2:=[WT mb (xI (p.globals.take i) [] []).1]);refine dM (Nr s11 n) ?_;rintro v h12 ⟨rfl,s12⟩;have s13:=fr _ _ s12;have gM:=(s13.p 2).get;unfold xH at gM;simp only[EE,zo,ou,Js,CO,gM,Rk];obtain⟨lo2,l2,s14,fr2⟩:=s13.call (L2:=[WT mb (yJ (xI (p.globals.take i) [] []).1 n).1]);refine dM (zfy s14 a.1.1 a.2.2) ?_;rintro v h15 ⟨rfl,s15⟩;have s16:=fr2 _ _ s15;have gM:=(s16.p 2).get;unfold xH at gM;have gn:=wL (s16.p 1);have s17:=s16.push (.cells [pm (yJ (xI (p.globals.take i) [] []).1 n).2.1] 3);obtain⟨b',c',h18,a1,s18⟩:=YD (s17.p 2) (uF (f:=yA) (λ_=>rfl) _) [pm (yJ (xI (p.globals.take i) [] []).1 n).2.1] rfl (by decide) 8 (by rw[aav,p8];simp;omega);rw[aav]at a1 s18
  have hap:∀r',zP pu .append [22,22] r' [gl,.slice (some ⟨h15.next,0,none⟩) 1 3] (h15.push (.cells [pm (yJ (xI (p.globals.take i) [] []).1 n).2.1] 3))=some (.slice (some ⟨b',0,none⟩) ((xI (p.globals.take i) [] []).2.length+1) c',h18):=λr'=>
   (SU r' _ _ 1 [pm (yJ (xI (p.globals.take i) [] []).1 n).2.1] _ rfl (by simp only[vW,zv];rfl) rfl rfl).trans a1
  simp only[EE,zo,w9,zcV,Dg,Hu,CN,gM,zdu,gn,hap];refine z9 (s18.p 3) (by simp[ug]) rfl λh19 s19=>?_;rw[zhc]at s19;simp only[EE,nth,hin];refine⟨p.globals.length-(i+1),by omega,i+1,.slice (some ⟨b',0,none⟩) ((xI (p.globals.take i) [] []).2.length+1) c',by omega,rfl,rfl,?_⟩;rw[e1];rw[abX];exact(s19.p 2).drop.f [1,0]
 ·have e:i=p.globals.length:=by omega
  subst e;rw[acd]at s1;simp only[EE,nth,hc];exact k h1 gl s1
end
section
variable {h:za}{p:Pg}{av wv:aaa}{args world:List Int}{lim:Int}
theorem zbC(P:wR h p)(g:IA p)(ha:zl h av args)(ha6:args.length<=6)(hw:zl h wv world)(hwl:world.length*8<=2^47) :
  DC pu 38 [p.val,av,wv,pm lim] h (λv h'=>∃b mb wb wn lv gl lo1,v=xG b/\(yE.of h).Le lo1/\Rd lo1 (JF p lv)/\Rd lo1 (zl · gl (u9 p args).gl)/\Sat lo1 h' (Da p b mb wb wn world lim lv gl (u9 p args) (pp) (pp) (pp))):=by
 apply YG;intro wf;apply IP;unfold M1;have s0:Sat (.of h) h []:=Sat.self wf.2;have RP:Rd (.of h) (wR · p):=Rd.of (yE.uf h) P λh' o=>P.old o;have RA:Rd (.of h) (zl · av args):=Rd.of (yE.uf h) ha λh' o=>ha.old o;have RW:Rd (.of h) (zl · wv world):=Rd.of (yE.uf h) hw λh' o=>hw.old o;have gvn:=P.globals.kY;have gvc:=P.globals.fC;have fvn:=P.funcs.kY;have fvc:=P.funcs.fC;have avn:=ha.kY;have wvn:=hw.kY;have al:=Dx ha 3;simp only[EE,Value.cells];refine Ok s0 wf λb4 h2 wf2 s2=>?_;have g4:=s2.get;simp only[EE,Nat.reduceAdd,zN,Um,g4];refine Ez (by kernel_rfl) rfl wf2 s2 (zeL (Sat.self wf2.lock.2)) ?_;rintro v h3 ⟨mb,rfl,s3⟩ back wf4;have s4:=back _ s3;clear back s3;generalize qi h2 h3=h4 at wf4 s4 ⊢;refine Ez (by kernel_rfl) (by simp only[yy,wvn,aaI]) wf4 s4 (zfo (RW.at s4).lock hwl (Sat.self wf4.lock.2)) ?_;rintro v h5 ⟨wb,wn,rfl,s5⟩ back wf6;have s6:=back _ s5;clear back s5;generalize qi h4 h5=h6 at wf6 s6 ⊢;unfold xG;have bd:=zbA P mb wb lim;simp only[EE,Value.cells,zo,w9,xZ,tH,bd];refine w8 s6 λb h7 s7=>?_;have g4:=(s7.p 4).get;have PG:=(RP.at s7).globals;have gl7:=Ww PG;simp only[EE,↓xg,g4,gvn,gl7];refine zbX RP g (s7.f [0,3]) λh8 gl s8=>?_;have g4:=(s8.p 5).get;have fl8:=Z6 (RP.at s8).funcs 3;unfold tG;simp only[EE,↓xg,zo,vZ,yZ,g4,fvn,fl8];refine zbT RP g (s8.p 1) λh9 lo1 lv le1 hL s9=>?_;unfold tF;simp only[EE,Value.cells,zd4,Tj];refine w8 s9 λb19 h10 s10=>?_;simp only[EE,Nat.reduceAdd,zdY];refine z9 s10 (by simp) rfl λh11 s11=>?_;simp only[EE,↓xg,avn,al];refine zdW (RA.mono le1) ha6 (s11.f [1,0]) λh12 s12=>?_;obtain⟨lo2,le2,hg,s13,_⟩:=Mk (s12.p 2) (uF (f:=yA) (λ_=>rfl) _);simp only[EE];refine⟨b,mb,wb,wn,lv,gl,lo2,rfl,le1.trans le2,hL.mono le2,λh b=>eA (hg h b),?_⟩;have s14:=qB 80 3 (qB 85 2 (qB 134 7 s13));exact s14.k [3,0,1,2,5,6,7]
end
def qz(p:Pg)(args:List Int)(fuel lim:Int):Prop:=Yx p=true/\(args.length:Int)=p.params/\0<=fuel/\fuel<=100000000/\0<=lim/\lim<=2147483647
instance (p:Pg)(args:List Int)(fuel lim:Int):Decidable (qz p args fuel lim):=by unfold qz;infer_instance
def YC(kind exit:Int)(ev lk:aaa)(steps:Int):aaa := .agg #[pm kind,pm exit,ev,lk,pm steps]
def DY(h:za)(p:Pg)(lim:Int)(args world:List Int)(lab:Bool)(fuel:Int)(w:St->aaa->aaa->aaa)(v:aaa)(h':za):Prop := ∃T ev lk,Ends p lim args world lab fuel T/\v=w T ev lk/\Sat (.of h) h' [w7 85 2 ev (T.ev.map qG),w7 80 3 lk (T.lk.map vQ)]
def FD(h:za)(w:aaa)(v:aaa)(h':za):Prop:=v=w/\Sat (.of h) h' []
def E3:aaa:=YC 0 0 (pp) (pp) 0
def Om(T:St)(ev lk:aaa):aaa := .tuple #[YC T.kind T.exit ev lk T.steps,pm T.jU,pm 0]
section
variable {h:za}{p:Pg}{av wv:aaa}{args world:List Int}{lim fuel:Int}{lab:Bool}
theorem RO(P:wR h p)(ha:zl h av args)(hw:zl h wv world)(hwl:world.length*8<=2^47) :
  DC pu 21 [p.val,av,wv,pm fuel,pm lim,.bool lab] h (λv h'=>if qz p args fuel lim then DY h p lim args world lab fuel Om v h' else FD h (.tuple #[E3,pm 0,pm 1]) v h'):=by
 apply YG;intro wf;apply O8;unfold Sd;have s0:Sat (.of h) h []:=Sat.self wf.2;have RP:Rd (.of h) (wR · p):=Rd.of (yE.uf h) P λh' o=>P.old o;have RA:Rd (.of h) (zl · av args):=Rd.of (yE.uf h) ha λh' o=>ha.old o;have RW:Rd (.of h) (zl · wv world):=Rd.of (yE.uf h) hw λh' o=>hw.old o;have gvn:=P.globals.kY;have gvc:=P.globals.fC;have fvn:=P.funcs.kY;have fvc:=P.funcs.fC;have avn:=ha.kY;have wvn:=hw.kY;have al:=Dx ha 3;simp only[EE,Value.cells,gi];refine w8 s0 λb6 h2 s2=>?_;simp only[EE,zN,Um];refine w8 s2 λb12 h4 s4=>?_;have g6:=(s4.p 1).get;simp only[EE,Nat.reduceAdd,g6];refine iS (by simp only[yy];rfl) (iY (RP.at s4)) ?_
 have bad:∀J,¬qz p args fuel lim->sH (pi b12) h4 (λv h'=>if qz p args fuel lim then DY h p lim args world lab fuel Om v h' else FD h (.tuple #[E3,pm 0,pm 1]) v h') J:=by
  intro J hb;unfold sH;simp only[EE,Nat.reduceAdd,Jn,Ti];refine z9 s4 (by simp) rfl λh5 s5=>?_;have g7:=s5.get;simp only[EE,zb,Nat.reduceAdd,zN,bD,g7];refine⟨rfl,?_⟩;show if qz p args fuel lim then _ else _;rw[aae hb];exact⟨rfl,s5.drop.drop⟩
 cases hg:Yx p with
 |false=>
  simp only[EE,V0,V1,V2,V3,V4,V5,Wg];exact bad _ (by unfold qz;rw[hg];simp)
 |true=>
 by_cases e1:¬(args.length:Int)=p.params
 ·simp only[EE,zo,ku,V0,V1,V2,V3,V4,V5,Wg,avn,al,g6,e1];exact bad _ (by unfold qz;omega)
 have e1:(args.length:Int)=p.params:=acJ.1 e1;by_cases e2:fuel<0
 ·simp only[EE,zo,ku,V0,V1,V2,V3,V4,V5,Wg,avn,al,g6,e1,e2];exact bad _ (by unfold qz;omega)
 by_cases e3:fuel>100000000
 ·simp only[EE,zo,ku,V0,V1,V2,V3,V4,V5,Wg,avn,al,g6,e1,e2,e3];exact bad _ (by unfold qz;omega)
 by_cases e4:lim<0
 ·simp only[EE,zo,ku,V0,V1,V2,V3,V4,V5,Wg,avn,al,g6,e1,e2,e3,e4];exact bad _ (by unfold qz;omega)
 by_cases e5:lim>2147483647
 ·simp only[EE,zo,ku,V0,V1,V2,V3,V4,V5,Wg,avn,al,g6,e1,e2,e3,e4,e5];exact bad _ (by unfold qz;omega)
 simp only[EE,zo,ku,V0,V1,V2,V3,V4,V5,Wg,avn,al,g6,e1,e2,e3,e4,e5];have hok:qz p args fuel lim:=⟨hg,e1,by omega,by omega,by omega,by omega⟩;simp only[aai hok];have g:=rZ hg;have gp:=g.par;unfold F4;simp only[EE,Nat.reduceAdd,zN,Um,g6];refine EC (by simp only[yy,avn,wvn,aaI];rfl) (zbC (RP.at s4) g (RA.at s4) (by omega) (RW.at s4) hwl) ?_;rintro v h5 ⟨b,mb,wb,wn,lv,gl,lo1,rfl,le1,hL,hgl,s5⟩;simp only[];have RP1:Rd lo1 (wR · p):=(Rd.of (yE.uf h4) (RP.at s4) λh' o=>wR.old (RP.at s4) o).mono le1;refine dM (ze3 RP1 g (by omega) hgl hL (by omega) (by omega) s5 (Ev g (by omega) (by omega) args) rfl rfl rfl rfl) ?_;rintro v h6 ⟨T,LT,kT,ev,lk,cl,s6⟩;have s7:=s4.join (s6.mono le1);have gm:=s7.get;unfold xH at gm;have hne:¬b12=b:=(s7.p 7).ne;have hne2:¬b=b12:=λq=>hne q.symm;have en:=wL (s7.p 2);have ec:=qV (s7.p 2);have kn:=wL (s7.p 1);have kc:=qV (s7.p 1);unfold xG;simp only[EE,Nat.reduceAdd,Nat.reduceLeDiff,ne_eq,zN,zo,bD,Jn,Dr,Yf,FZ,gm,nc,ze7,zdy,C9,hne,ne_eq,true_or];refine z9 (s7.p 7) (by simp) (by simp[ec,kc];exact⟨rfl,rfl,rfl⟩) λh8 s8=>?_;have g8:=s8.get;simp only[EE,zb,Nat.reduceAdd,zN,bD,g8];obtain⟨n,hn⟩:=LT.run;refine⟨by simp only[yy];rfl,?_⟩;exact⟨T,ev,lk,⟨kT,n,hn⟩,rfl,s8.k [3,2]⟩
theorem dz{a b c:aaa}(ha:yu a=false)(hb:yu b=false)(hc:yu c=false):kV (.tuple #[a,b,c]) 0=some a:=(dE (by simp only[yy,ha,hb,hc,aaI])).trans rfl
theorem dC{a b c:aaa}(ha:yu a=false)(hb:yu b=false)(hc:yu c=false):kV (.tuple #[a,b,c]) 1=some b:=(dE (by simp only[yy,ha,hb,hc,aaI])).trans rfl
theorem dD{a b c:aaa}(ha:yu a=false)(hb:yu b=false)(hc:yu c=false):kV (.tuple #[a,b,c]) 2=some c:=(dE (by simp only[yy,ha,hb,hc,aaI])).trans rfl
def zg8(T:St)(ev lk:aaa):aaa := .tuple #[YC T.kind T.exit ev lk T.steps,pm 0]
theorem zcH(P:wR h p)(ha:zl h av args)(hw:zl h wv world)(hwl:world.length*8<=2^47) :
  DC pu 9 [p.val,av,wv,pm fuel,pm lim] h (λv h'=>if qz p args fuel lim then DY h p lim args world true fuel zg8 v h' else FD h (.tuple #[E3,pm 1]) v h'):=by
 apply YG;intro wf;apply sL;unfold F5;have s0:Sat (.of h) h []:=Sat.self wf.2;have RP:Rd (.of h) (wR · p):=Rd.of (yE.uf h) P λh' o=>P.old o;have RA:Rd (.of h) (zl · av args):=Rd.of (yE.uf h) ha λh' o=>ha.old o;have RW:Rd (.of h) (zl · wv world):=Rd.of (yE.uf h) hw λh' o=>hw.old o;have gvn:=P.globals.kY;have gvc:=P.globals.fC;have fvn:=P.funcs.kY;have fvc:=P.funcs.fC;have avn:=ha.kY;have wvn:=hw.kY;simp only[EE,Value.cells,gi];refine w8 s0 λb5 h2 s2=>?_;simp only[EE,zN,Um];refine w8 s2 λb10 h4 s4=>?_;have g5:=(s4.p 1).get;simp only[EE,Nat.reduceAdd,g5];refine EC (by simp only[yy,avn,wvn,aaI];rfl) (RO (fuel:=fuel) (lim:=lim) (lab:=true) (RP.at s4) (RA.at s4) (RW.at s4) hwl) ?_;rintro v h7 hv;by_cases hb:qz p args fuel lim
 ·rw[aai hb]at hv;obtain⟨T,ev,lk,hT,rfl,s8⟩:=hv;have s9:=s4.join s8;have en:=wL s9;have ec:=qV s9;have kn:=wL (s9.p 1);have kc:=qV (s9.p 1);unfold Om YC;simp only[EE,Value.cells,gi,JN,dz,dC,dD];refine w8 s9 λb12 h10 s10=>?_;simp only[EE,Nat.reduceAdd,Jn];refine z9 s10 (by simp) (by simp[ec,kc];exact⟨rfl,rfl,rfl⟩) λh11 s11=>?_;have g11:=s11.get;simp only[EE,zb,Nat.reduceAdd,zN,bD,Jn,g11];refine z9 (s11.p 3) (by simp) (by simp[ec,kc];exact⟨rfl,rfl,rfl⟩) λh12 s12=>?_;have g12:=s12.get;simp only[EE,zb,Nat.reduceAdd,zN,bD,g12];rw[aai hb];exact⟨T,ev,lk,hT,rfl,s12.k [2,3]⟩
 ·rw[aae hb]at hv;obtain⟨rfl,s8⟩:=hv;have s9:=s4.join s8;unfold E3 YC;simp only[EE,Value.cells,gi,JN,dz,dC,dD];refine w8 s9 λb12 h10 s10=>?_;simp only[EE,Nat.reduceAdd,Jn];refine z9 s10 (by simp) rfl λh11 s11=>?_;have g11:=s11.get;simp only[EE,zb,Nat.reduceAdd,zN,bD,Jn,g11];refine z9 (s11.p 1) (by simp) rfl λh12 s12=>?_;have g12:=s12.get;simp only[EE,zb,Nat.reduceAdd,zN,bD,g12];rw[aae hb];exact⟨rfl,s12.zG 0⟩
end
def zdr(T:St)(_ _:aaa):aaa := .tuple #[pm T.jU,pm 0]
section
variable {h:za}{p:Pg}{av wv:aaa}{args world:List Int}{lim fuel:Int}{lab:Bool}
theorem RN(P:wR h p)(ha:zl h av args)(hw:zl h wv world)(hwl:world.length*8<=2^47) :
  DC pu 11 [p.val,av,wv,pm fuel] h (λv h'=>if qz p args fuel 2147483647 then DY h p 2147483647 args world true fuel zdr v h' else FD h (.tuple #[pm 0,pm 1]) v h'):=by
 apply YG;intro wf;apply O7;unfold Sc;have s0:Sat (.of h) h []:=Sat.self wf.2;have RP:Rd (.of h) (wR · p):=Rd.of (yE.uf h) P λh' o=>P.old o;have RA:Rd (.of h) (zl · av args):=Rd.of (yE.uf h) ha λh' o=>ha.old o;have RW:Rd (.of h) (zl · wv world):=Rd.of (yE.uf h) hw λh' o=>hw.old o;have gvn:=P.globals.kY;have gvc:=P.globals.fC;have fvn:=P.funcs.kY;have fvc:=P.funcs.fC;have avn:=ha.kY;have wvn:=hw.kY;simp only[EE,Value.cells];refine w8 s0 λb4 h2 s2=>?_;have g4:=s2.get;simp only[EE,Nat.reduceAdd,zN,Um,g4];refine EC (by simp only[yy,avn,wvn,aaI];rfl) (RO (fuel:=fuel) (lim:=2147483647) (lab:=true) (RP.at s2) (RA.at s2) (RW.at s2) hwl) ?_;rintro v h7 hv;by_cases hb:qz p args fuel 2147483647
 ·rw[aai hb]at hv;obtain⟨T,ev,lk,hT,rfl,s8⟩:=hv;have s9:=s2.join s8;have en:=wL s9;have ec:=qV s9;have kn:=wL (s9.p 1);have kc:=qV (s9.p 1);unfold Om YC;simp only[EE,Value.cells,gi,sG,dz,dC,dD];refine w8 s9 λb12 h10 s10=>?_;simp only[EE,Nat.reduceAdd,Jn];refine z9 s10 (by simp) (by simp[ec,kc];exact⟨rfl,rfl,rfl⟩) λh11 s11=>?_;simp only[EE];rw[aai hb];exact⟨T,ev,lk,hT,rfl,s11.k [1,2]⟩
 ·rw[aae hb]at hv;obtain⟨rfl,s8⟩:=hv;have s9:=s2.join s8;unfold E3 YC;simp only[EE,Value.cells,gi,sG,dz,dC,dD];refine w8 s9 λb12 h10 s10=>?_;simp only[EE,Nat.reduceAdd,Jn];refine z9 s10 (by simp) rfl λh11 s11=>?_;simp only[EE];rw[aae hb];exact⟨rfl,s11.zG 0⟩
end
end Go.As
namespace Go.Ar
open Go.Ai Go.Proofs Go.Proofs.Tryz
noncomputable abbrev zz:=prog
abbrev VK:=aaa->za->Prop
abbrev LK:=List aaa->za->Prop
abbrev ci(n:Int):Operand := .const (pm n)
abbrev fn(n:Nat):aaa := .func (.func n) #[] #[]
variable {h:za}{t0 t1 t2 t3 t4 t5 t6:aaa}{R:VK}
def qs:FuncId->Nat:=λg=>[0].getD g 0
theorem mixed:prog.follows .mixedOrders=true:=ab4 Tryz.checked
theorem zT{f:FuncId}{args:List aaa}{X:Prop}(e:Rx zz (bJ zz qs) 200 f args h R=X)(hw:X):DC zz f args h R:=VQ mixed (q:=qs) (n:=200) (Eq.mpr e hw)
def fe:=λc (R:VK) d (e:LK) f (a:za)=>
 opt (pk c (.bool true) f) λg=>CD g (λb=>rv [.bool false] a R)
 (λb=>b [nth d 0] a)
 (λh i=>e [nth h 0] i)
def fh:=λa (R:VK) c (d:LK) e (b:za)=>
 zg a false (zh .gtr 3 60 e 65536) b (fe a R c d) b
def fj:=λa d (R:VK) e (f:LK) g (c:za)=>
 zg a false (zJ zz 22 d g) c (λh b=>zg a false (zd zz 3 h b) b (fh a R e f) b) c
def fo:=λa c (R:VK) (e:LK) f (b:za)=>
 zg a false (zd zz 22 f b) b (λg d=>GD a false (λh=>h (nth c 1) d) (fj a g R c e) d) b
def ft:=λb (a:za) c (R:VK) (e:LK)=>
 zt 25 b 0 22 a λf=>vx 22 f (nth c 1) 3 a λg=>opt (zh .lss 3 53 g 0) λd=>zg d false (ze zz 25 b 0) a (fo d c R e) a
def CU:=λa (b:LK) c (d:za)=>
 opt (zh .add 3 47 (nth a 1) 1) λe=>b [nth c 0,e] d
def CV:=λb (f:LK) (R:VK) a (c:za) (g:LK)=>
 zt 25 b 0 22 c λh=>yp (v8 22 h c) λi d=>opt (yz .lss 3 42 45 (nth a 1) i) λj=>CD j (λe=>e [] d)
 (λe=>f [nth a 0] d)
 (λl k=>BK (ft b k a R)
 (CU a g))
def n9:=λc (R:VK) d (e:LK) f g (a:za)=>
 opt (pk c g (.bool false)) λh=>CD h (λb=>rv [.bool false] a R)
 (λb=>b [nth d 0] a)
 (λi j=>e [nth i 0,f] j)
def oa:=λa e b (R:VK) f (g:LK) h i (c:za)=>
 zg a false (yz .gtr 2 162 168 e i) c (λj d=>zg b true (pk a (.bool true) j) d (n9 b R f g h) d) c
def gP:=λa d e f (R:VK) g (h:LK) i j (c:za)=>
 zg a false (zJ zz 22 d j) c (λk b=>zg a false (zd zz 3 k b) b (oa a e f R g h i) b) c
def gQ:=λa d e f (R:VK) g (h:LK) i j (c:za)=>
 zg a false (ze zz 50 d 3) c (λk b=>zg a false (zd zz 3 k b) b (gP a j e f R g h i) b) c
def gR:=λa d e f (R:VK) g (h:LK) i j (c:za)=>
 zg a false (ze zz 25 d 0) c (λk b=>zg a false (zd zz 22 k b) b (gQ a e j f R g h i) b) c
def gS:=λc e f (R:VK) g (h:LK) i a (d:za)=>
 zg a false (ze zz 50 c 6) d (λj b=>zg a false (zd zz 2 j b) b (gR a e c f R g h i) b) d
def gT:=λa d e f (R:VK) g (h:LK) i j (b:za)=>
 zg a true (pk d (.bool true) j) b (λk c=>GD a true (λl=>l k c) (gS e f a R g h i) c) b
def gU:=λa c d e (R:VK) f (g:LK) h i (b:za)=>
 zg a false (zh .lss 2 157 i 0) b (gT c a d e R f g h) b
def gV:=λc e f (R:VK) g (h:LK) i a (d:za)=>
 zg a false (ze zz 50 c 6) d (λj b=>zg a false (zd zz 2 j b) b (gU a e c f R g h i) b) d
def gW:=λa d e f (R:VK) g (h:LK) i j (b:za)=>
 zg a true (pk d (.bool true) j) b (λk c=>GD a true (λl=>l k c) (gV e a f R g h i) c) b
def gX:=λa c d e f (R:VK) g (h:LK) i j (b:za)=>
 zg a false (yz .geq 3 149 152 c j) b (gW d a e f R g h i) b
def gY:=λb c d e f (R:VK) g (h:LK) i j (a:za)=>
 GD b false (λk=>yp (v8 22 j a) λl _=>k l a) (gX b c d e f R g h i) a
def gZ:=λa c e f (R:VK) g (h:LK) i j (d:za)=>
 zg a false (ze zz 25 c 0) d (λk b=>zg a false (zd zz 22 k b) b (gY a j e f c R g h i) b) d
def hO:=λc e f (R:VK) g (h:LK) i a (d:za)=>
 zg a false (ze zz 50 c 3) d (λj b=>zg a false (zd zz 3 j b) b (gZ a e f c R g h i) b) d
def hQ:=λa d e (R:VK) f (g:LK) h i (b:za)=>
 zg a true (zh .lss 3 145 i 0) b (λj c=>GD a true (λk=>k j c) (hO d e a R f g h) c) b
def hU:=λa e (R:VK) (f:LK) g h (b:za)=>
 zt 50 a 0 3 b λi=>opt (zh .eql 3 141 i 6) λc=>zg c true (ze zz 50 a 3) b (λj d=>zg c true (zd zz 3 j d) d (hQ c a e R h f g) d) b
def hZ:=λc (R:VK) d e f (g:LK) h i (a:za)=>
 opt (pk c i (.bool false)) λj=>CD j (λb=>rv [.bool false] a R)
 (λb=>b [nth d 0] a)
 (hU e f R g h)
def ic:=λa e b (R:VK) f g h (i:LK) j k (c:za)=>
 zg a false (yz .geq 3 133 136 e k) c (λl d=>zg b true (pk a (.bool true) l) d (hZ b R f g h i j) d) c
def ie:=λa c d (R:VK) e f g (h:LK) i j (b:za)=>
 GD a false (λk=>yp (v8 23 j b) λl m=>k l m) (ic a c d R e f g h i) b
def ig:=λa c e (R:VK) f g (h:LK) i j (d:za)=>
 zg a false (ze zz 25 c 1) d (λk b=>zg a false (zd zz 23 k b) b (ie a j e R f g c h i) b) d
def ij:=λc e f (R:VK) g (h:LK) i a (d:za)=>
 zg a false (ze zz 50 c 3) d (λj b=>zg a false (zd zz 3 j b) b (ig a e f R g c h i) b) d
def il:=λa d e (R:VK) f (g:LK) h i (b:za)=>
 zg a true (zh .lss 3 129 i 0) b (λj c=>GD a true (λk=>k j c) (ij d e a R f g h) c) b
def iq:=λa e (R:VK) (f:LK) g h (b:za)=>
 zt 50 a 0 3 b λi=>opt (zh .eql 3 125 i 21) λc=>zg c true (ze zz 50 a 3) b (λj d=>zg c true (zd zz 3 j d) d (il c a e R h f g) d) b
def XP:=λc (R:VK) d e f (g:LK) h i (a:za)=>
 opt (pk c (.bool true) i) λj=>CD j (λb=>rv [.bool false] a R)
 (λb=>b [nth d 0] a)
 (iq e f R g h)
def XQ:=λa b (R:VK) e f g (h:LK) i j (c:za)=>
 zg a true (zh .lss 3 120 j 0) c (λk d=>zg b false (pk a k (.bool false)) d (XP b R e f g h i) d) c
def ir:=λa c d (R:VK) e f g (h:LK) i j (b:za)=>
 GD a true (λk=>zq zz (fn 30) [c,j] b (λl m=>k l m)) (XQ a d R e f g h i) b
def iu:=λa c e (R:VK) f g (h:LK) i j (d:za)=>
 zg a true (ze zz 50 c 5) d (λk b=>zg a true (zd zz 3 k b) b (ir a j e R f c g h i) b) d
def iw:=λb e f (R:VK) g h (i:LK) j k (c:za)=>
 GD b false (λl=>l k c) (λd a=>zg d true (zd zz 47 e a) a (iu d f b R g h i j) a) c
def iy:=λa b e f (R:VK) g h (i:LK) j k (c:za)=>
 zg a false (zh .eql 3 113 k 19) c (λl d=>zg b false (pk a (.bool true) l) d (iw b e f R g h i j) d) c
def iz:=λc e f (R:VK) g h (i:LK) j a (d:za)=>
 zg a false (ze zz 50 c 0) d (λk b=>zg a false (zd zz 3 k b) b (iy a e f c R g h i j) b) d
def iA:=λa d e (R:VK) f g (h:LK) i j (b:za)=>
 zg a false (zh .eql 3 109 j 18) b (λk c=>GD a false (λl=>l k c) (iz d a e R f g h i) c) b
def iB:=λe c f (R:VK) g h (i:LK) j k (d:za)=>
 opt (pk e k (.bool false)) λa=>zg a false (ze zz 50 c 0) d (λl b=>zg a false (zd zz 3 l b) b (iA a c f R g h i j) b) d
def iC:=λa c d e (R:VK) f g (h:LK) i j (b:za)=>
 zg a true (yz .neq 3 103 104 c j) b (iB a d e R f g h i) b
def iD:=λa e f g h (R:VK) i j (k:LK) l m (c:za)=>
 GD a true (λn=>zq zz (fn 30) [e,m] c (λb o=>n b o)) (λb d=>GD a true (λp=>p (nth f 2) d) (iC a b g h R i j k l) d) c
def iE:=λa c e f (R:VK) g h (i:LK) j k (d:za)=>
 zg a true (ze zz 50 c 5) d (λl b=>zg a true (zd zz 3 l b) b (iD a k e c f R g h i j) b) d
def iF:=λb c e (R:VK) f (g:LK) h i (a:za)=>
 zt 50 b 0 3 a λj=>opt (zh .eql 3 97 j 20) λd=>zg d true (zd zz 47 c a) a (iE d b e c R i f g h) a
def Qv:=λ(R:VK) a d e f (g:LK) h i (b:za)=>
 opt (Vx zz .not i) λj=>CD j (λc=>rv [.bool false] b R)
 (λc=>c [nth a 0] b)
 (iF d e a R f g h)
def Qw:=λa b (R:VK) d e (f:LK) g (c:za)=>
 opt (pk (nth a 1) (.bool true) g) λh=>opt (zd zz 50 b c) λi=>zq zz (fn 29) [i] c (Qv R a b d e f h)
def Qx:=λa c (R:VK) d e (f:LK) g (b:za)=>
 zg (nth a 1) false (zh .neq 3 90 g 20) b (Qw a c R d e f) b
def tJ:=λe (b:za) a (R:VK) g (h:LK)=>
 zt 47 e 1 45 b λi=>vx 45 i (nth a 2) 50 b λj=>qa 50 b λc k=>opt (yn 50 c j k) λf=>zg (nth a 1) false (ze zz 50 c 0) f (λl d=>zg (nth a 1) false (zd zz 3 l d) d (Qx a c R e g h) d) f
def iG:=λb (c:LK) a (d:za)=>
 opt (zh .add 3 80 (nth b 2) 1) λe=>c [nth a 0,nth a 1,e] d
def iH:=λb (f:LK) (R:VK) g a (c:za) (h:LK)=>
 zt 47 b 1 45 c λi=>yp (v8 45 i c) λj d=>opt (yz .lss 3 75 78 (nth a 2) j) λk=>CD k (λe=>e [] d)
 (λe=>f [nth a 0,nth a 1] d)
 (λm l=>BK (tJ b l a R g)
 (iG a h))
def JQ:=λc (R:VK) d (e:LK) f (a:za)=>
 opt (pk c (.bool true) f) λg=>CD g (λb=>rv [.bool false] a R)
 (λb=>b [nth d 0] a)
 (λh i=>e [nth h 0] i)
def JR:=λa (R:VK) c (d:LK) e (b:za)=>
 zg a false (zh .gtr 3 177 e 100000) b (JQ a R c d) b
def JS:=λa (R:VK) d (e:LK) f (b:za)=>
 zg a false (zd zz 45 f b) b (λg c=>GD a false (λh=>yp (v8 45 g c) λi j=>h i j) (JR a R d e) c) b
def tK:=λd (R:VK) (e:LK) a (b:za)=>
 opt (Vx zz .not (nth a 1)) λc=>zg c false (ze zz 47 d 1) b (JS c R a e) b
def tL:=λc (a:za) d (R:VK) (e:LK)=>
 zt 25 c 1 23 a λf=>vx 23 f (nth d 1) 47 a λg=>qa 47 a λb h=>opt (yn 47 b g h) λi=>BK (λj=>LP (iH b j R c)
 [nth d 0,.bool false,pm 0] i)
 (tK b R e)
def tM:=λa (b:LK) c (d:za)=>
 opt (zh .add 3 68 (nth a 1) 1) λe=>b [nth c 0,e] d
def iI:=λb (f:LK) (R:VK) a (c:za) (g:LK)=>
 zt 25 b 1 23 c λh=>yp (v8 23 h c) λi d=>opt (yz .lss 3 63 66 (nth a 1) i) λj=>CD j (λe=>e [] d)
 (λe=>f [nth a 0] d)
 (λl k=>BK (tL b k a R)
 (tM a g))
def iJ:=λa (R:VK) b (c:za)=>
 BK (λd=>LP (CV a d R)
 [nth b 0,pm 0] c)
 (λe f=>BK (λg=>LP (iI a g R)
 [nth e 0,pm 0] f)
 (λi h=>rv [.bool true] h R))
def YJ:=λa (R:VK) e f (b:za)=>
 zg a false (zh .gtr 3 39 f 6) b (λg c=>opt (pk a (.bool true) g) λh=>CD h (λd=>rv [.bool false] c R)
 (λd=>d [.bool false] c)
 (iJ e R)) b
def YK:=λe c (R:VK) f (d:za)=>
 opt (pk e (.bool true) f) λa=>zg a false (ze zz 25 c 3) d (λg b=>zg a false (zd zz 3 g b) b (YJ a R c) b) d
def YL:=λa c (R:VK) d (b:za)=>
 zg a false (zh .lss 3 34 d 0) b (YK a c R) b
def YM:=λe c (R:VK) f (d:za)=>
 opt (pk e (.bool true) f) λa=>zg a false (ze zz 25 c 3) d (λg b=>zg a false (zd zz 3 g b) b (YL a c R) b) d
def YN:=λa e f (R:VK) g (c:za)=>
 GD a false (λh=>yp (v8 23 g c) λb i=>h b i) (λb d=>zg a false (yz .geq 3 26 29 e b) d (YM a f R) d) c
def YO:=λa c (R:VK) e (d:za)=>
 zg a false (ze zz 25 c 1) d (λf b=>zg a false (zd zz 23 f b) b (YN a e c R) b) d
def YP:=λe c (R:VK) f (d:za)=>
 opt (pk e (.bool true) f) λa=>zg a false (ze zz 25 c 2) d (λg b=>zg a false (zd zz 3 g b) b (YO a c R) b) d
def YQ:=λa c (R:VK) d (b:za)=>
 zg a false (zh .lss 3 21 d 0) b (YP a c R) b
def YR:=λe c (R:VK) f (d:za)=>
 opt (pk e (.bool true) f) λa=>zg a false (ze zz 25 c 2) d (λg b=>zg a false (zd zz 3 g b) b (YQ a c R) b) d
def YS:=λa c (R:VK) d (b:za)=>
 zg a false (zh .gtr 3 16 d 100) b (YR a c R) b
def YT:=λa d (R:VK) e (b:za)=>
 zg a false (zd zz 23 e b) b (λf c=>GD a false (λg=>yp (v8 23 f c) λh i=>g h i) (YS a d R) c) b
def M6:=λ(h:za) b (R:VK)=>
 opt (nb [b] (some (Value.cells b).toList)) λf=>nw h f 25 λa c=>zt 25 a 0 22 c λg=>yp (v8 22 g c) λi d=>opt (zh .gtr 3 11 i 200) λe=>zg e false (ze zz 25 a 1) d (YT e a R) d
theorem IQ(hw:M6 h t0 R):DC zz 15 [t0] h R:=zT (by kernel_rfl) hw
def ZS:=λb (R:VK) d (c:za)=>
 GD b true (λe=>zq zz (fn 53) [d] c (λa f=>e a f)) (λa g=>opt (pk b a (.bool false)) λh=>rv [h] g R) c
def ZT:=λd e (R:VK) f (c:za)=>
 opt (pk d (.bool true) f) λa=>zg a true (ze zz 50 e 6) c (λg b=>zg a true (zd zz 2 g b) b (ZS a R) b) c
def ZU:=λa c (R:VK) d (b:za)=>
 zg a false (zh .eql 3 94 d 8) b (ZT a c R) b
def ZV:=λe c (R:VK) f (d:za)=>
 opt (pk e (.bool true) f) λa=>zg a false (ze zz 50 c 3) d (λg b=>zg a false (zd zz 3 g b) b (ZU a c R) b) d
def ZW:=λa c (R:VK) d (b:za)=>
 zg a false (zh .eql 3 89 d 4) b (ZV a c R) b
def iK:=λb (R:VK) d (c:za)=>
 GD b true (λe=>zq zz (fn 53) [d] c (λa f=>e a f)) (λa g=>opt (pk b a (.bool false)) λh=>rv [h] g R) c
def iL:=λd (R:VK) a (c:za)=>
 zg a true (ze zz 50 d 6) c (λe b=>zg a true (zd zz 2 e b) b (iK a R) b) c
def JU:=λa (R:VK) c (b:za)=>
 zg a false (zh .eql 3 130 c 2) b (λd e=>opt (pk a (.bool true) d) λf=>rv [f] e R) b
def JV:=λa (R:VK) c (b:za)=>
 zg a false (zh .eql 3 140 c 4) b (λd e=>opt (pk a (.bool true) d) λf=>rv [f] e R) b
def Zx:=λa (R:VK) c (b:za)=>
 zg a true (zh .leq 2 160 c 63) b (λd e=>opt (pk a d (.bool false)) λf=>rv [f] e R) b
def Zy:=λd e (R:VK) f (c:za)=>
 opt (pk d f (.bool false)) λa=>zg a true (ze zz 50 e 6) c (λg b=>zg a true (zd zz 2 g b) b (Zx a R) b) c
def Zz:=λa c (R:VK) d (b:za)=>
 zg a true (zh .geq 2 155 d 0) b (Zy a c R) b
def ZA:=λe c (R:VK) f (d:za)=>
 opt (pk e (.bool true) f) λa=>zg a true (ze zz 50 c 6) d (λg b=>zg a true (zd zz 2 g b) b (Zz a c R) b) d
def ZB:=λa c (R:VK) d (b:za)=>
 zg a false (zh .eql 3 150 d 20) b (ZA a c R) b
def Kb:=λa (R:VK) c (b:za)=>
 zg a false (zh .eql 3 170 c 20) b (λd e=>opt (pk a (.bool true) d) λf=>rv [f] e R) b
def Ui:=λa (R:VK) c (b:za)=>
 zg a true (zh .leq 3 190 c 10000000) b (λd e=>opt (pk a d (.bool false)) λf=>rv [f] e R) b
def Uj:=λd e (R:VK) f (c:za)=>
 opt (pk d f (.bool false)) λa=>zg a true (ze zz 50 e 5) c (λg b=>zg a true (zd zz 3 g b) b (Ui a R) b) c
def Uk:=λa c (R:VK) d (b:za)=>
 zg a true (zh .geq 3 185 d 0) b (Uj a c R) b
def Ul:=λc (R:VK) a (d:za)=>
 zg a true (ze zz 50 c 5) d (λe b=>zg a true (zd zz 3 e b) b (Uk a c R) b) d
def YU:=λa (R:VK) c (b:za)=>
 zg a true (zh .leq 3 201 c 10000000) b (λd e=>opt (pk a d (.bool false)) λf=>rv [f] e R) b
def YV:=λa (R:VK) c (b:za)=>
 zg a true (zh .leq 2 212 c 65536) b (λd e=>opt (pk a d (.bool false)) λf=>rv [f] e R) b
def YW:=λd (a:za) (R:VK) (g:LK)=>
 zt 50 d 6 2 a λe=>opt (zh .geq 2 208 e 0) λb=>zg b true (ze zz 50 d 6) a (λf c=>zg b true (zd zz 2 f c) c (YV b R) c) a
def YX:=λd (a:za) (R:VK) (g:LK)=>
 zt 50 d 5 3 a λe=>opt (zh .geq 3 197 e 0) λb=>zg b true (ze zz 50 d 5) a (λf c=>zg b true (zd zz 3 f c) c (YU b R) c) a
def ZC:=λb (c:za) f (R:VK) g (h:LK)=>
 opt (zh .eql 3 80 b 23) λd=>CD d (λa=>a [d] c)
 (λa=>opt (zh .eql 3 80 b 24) λi=>a [i] c)
 (λj e=>CD (nth j 0) (YW f e R)
 (λk=>k [nth g 0] e)
 (λl m=>h [nth l 0] m))
def uh:=λa (c:za) d (R:VK) g (h:LK)=>
 opt (zh .eql 3 80 a 18) λe=>CD e (λb=>b [e] c)
 (λb=>opt (zh .eql 3 80 a 20) λi=>b [i] c)
 (λj f=>CD (nth j 0) (YX d f R)
 (ZC a f d R g)
 (λk l=>h [nth k 0] l))
def pO:=λb (a:za) (R:VK) (f:LK)=>
 zt 50 b 4 3 a λc=>zq zz (fn 55) [c] a (λd e=>rv [d] e R)
def vK:=λc a (b:za) (R:VK) d (e:LK)=>
 opt (zh .eql 3 80 c 19) λf=>CD f (λj=>zt 50 a 4 3 b λg=>zq zz (fn 55) [g] b (Ul a R))
 (uh c b a R d)
 (λh i=>e [nth h 0] i)
def Kc:=λd (a:za) (R:VK) (g:LK)=>
 zt 50 d 3 3 a λe=>opt (zh .eql 3 166 e 19) λb=>zg b false (ze zz 50 d 3) a (λf c=>zg b false (zd zz 3 f c) c (Kb b R) c) a
def vk:=λa b (c:za) (R:VK) d (e:LK)=>
 opt (zh .eql 3 80 a 17) λf=>CD f (pO b c R)
 (vK a b c R d)
 (λg h=>e [nth g 0] h)
def ZD:=λa (b:za) (R:VK) (g:LK)=>
 zt 50 a 3 3 b λe=>opt (zh .eql 3 146 e 19) λc=>zg c false (ze zz 50 a 3) b (λf d=>zg c false (zd zz 3 f d) d (ZB c a R) d) b
def wC:=λa b (c:za) (R:VK) d (e:LK)=>
 opt (zh .eql 3 80 a 12) λf=>CD f (Kc b c R)
 (vk a b c R d)
 (λg h=>e [nth g 0] h)
def Kd:=λd (a:za) (R:VK) (g:LK)=>
 zt 50 d 3 3 a λe=>opt (zh .eql 3 136 e 3) λb=>zg b false (ze zz 50 d 3) a (λf c=>zg b false (zd zz 3 f c) c (JV b R) c) a
def yT:=λa b (c:za) (R:VK) d (e:LK)=>
 opt (zh .eql 3 80 a 11) λf=>CD f (ZD b c R)
 (wC a b c R d)
 (λg h=>e [nth g 0] h)
def Ke:=λd (a:za) (R:VK) (g:LK)=>
 zt 50 d 3 3 a λe=>opt (zh .eql 3 126 e 1) λb=>zg b false (ze zz 50 d 3) a (λf c=>zg b false (zd zz 3 f c) c (JU b R) c) a
def yG:=λa b (c:za) (R:VK) d (e:LK)=>
 opt (zh .eql 3 80 a 10) λf=>CD f (Kd b c R)
 (yT a b c R d)
 (λg h=>e [nth g 0] h)
def yw:=λa b (c:za) (R:VK) d (e:LK)=>
 opt (zh .eql 3 80 a 9) λf=>CD f (Ke b c R)
 (yG a b c R d)
 (λg h=>e [nth g 0] h)
def pP:=λb (a:za) (R:VK) (f:LK)=>
 zt 50 b 3 3 a λc=>zq zz (fn 54) [c] a (λd e=>rv [d] e R)
def yo:=λc a (b:za) (R:VK) d (e:LK)=>
 opt (zh .eql 3 80 c 8) λf=>CD f (λj=>zt 50 a 3 3 b λg=>zq zz (fn 54) [g] b (iL a R))
 (yw c a b R d)
 (λh i=>e [nth h 0] i)
def cV:=λb (a:za) (R:VK) (f:LK)=>
 zt 50 b 6 2 a λc=>zq zz (fn 53) [c] a (λd e=>rv [d] e R)
def yi:=λa b (c:za) (R:VK) d (e:LK)=>
 opt (zh .eql 3 80 a 7) λf=>CD f (pP b c R)
 (yo a b c R d)
 (λg h=>e [nth g 0] h)
def jL:=λa (b:za) (R:VK) (g:LK)=>
 zt 50 a 3 3 b λe=>opt (zh .eql 3 85 e 1) λc=>zg c false (ze zz 50 a 3) b (λf d=>zg c false (zd zz 3 f d) d (ZW c a R) d) b
def yf:=λa (c:za) d (R:VK) g (h:LK)=>
 opt (zh .eql 3 80 a 5) λe=>CD e (λb=>b [e] c)
 (λb=>opt (zh .eql 3 80 a 16) λi=>b [i] c)
 (λj f=>CD (nth j 0) (cV d f R)
 (yi a d f R g)
 (λk l=>h [nth k 0] l))
def zO:=λa (c:za) d (R:VK) g (h:LK)=>
 opt (zh .eql 3 80 a 3) λe=>CD e (λb=>b [e] c)
 (λb=>opt (zh .eql 3 80 a 4) λi=>b [i] c)
 (λj f=>CD (nth j 0) (jL d f R)
 (yf a f d R g)
 (λk l=>h [nth k 0] l))
def zu:=λa (R:VK) c (b:za)=>
 zt 50 a 0 3 b λd=>BK (zO d b a R c)
 (λf e=>rv [.bool true] e R)
def ZE:=λa (R:VK) e f g (b:za)=>
 zg a true (zh .neq 3 76 g 1) b (λh c=>opt (pk a h (.bool false)) λi=>CD i (λd=>rv [.bool false] c R)
 (λd=>d [nth e 0] c)
 (zu f R)) b
def ZF:=λe c (R:VK) f g (d:za)=>
 opt (pk e g (.bool false)) λa=>zg a true (ze zz 50 c 0) d (λh b=>zg a true (zd zz 3 h b) b (ZE a R f c) b) d
def ZG:=λa c (R:VK) d e (b:za)=>
 zg a true (zh .neq 3 71 e 5) b (ZF a c R d) b
def ZH:=λe c (R:VK) f g (d:za)=>
 opt (pk e g (.bool false)) λa=>zg a true (ze zz 50 c 0) d (λh b=>zg a true (zd zz 3 h b) b (ZG a c R f) b) d
def ZI:=λa c (R:VK) d e (b:za)=>
 zg a true (zh .neq 3 66 e 4) b (ZH a c R d) b
def ZJ:=λe c (R:VK) f g (d:za)=>
 opt (pk e g (.bool false)) λa=>zg a true (ze zz 50 c 0) d (λh b=>zg a true (zd zz 3 h b) b (ZI a c R f) b) d
def ZK:=λa c (R:VK) d e (b:za)=>
 zg a true (zh .neq 3 61 e 3) b (ZJ a c R d) b
def ZL:=λe c (R:VK) f g (d:za)=>
 opt (pk e g (.bool false)) λa=>zg a true (ze zz 50 c 0) d (λh b=>zg a true (zd zz 3 h b) b (ZK a c R f) b) d
def ZM:=λa c (R:VK) d e (b:za)=>
 zg a true (zh .eql 3 56 e 4) b (ZL a c R d) b
def jM:=λa c (R:VK) e (d:za)=>
 zg a true (ze zz 50 c 2) d (λf b=>zg a true (zd zz 3 f b) b (ZM a c R e) b) d
def xN:=λa e (R:VK) f g h (b:za)=>
 zg a false (pk e h (.bool false)) b (λi c=>opt (pk a (.bool true) i) λj=>CD j (λd=>rv [.bool false] c R)
 (λd=>d [.bool false] c)
 (jM f g R)) b
def xO:=λa c (R:VK) d e f (b:za)=>
 zg a true (zh .eql 3 49 f 4) b (xN c a R d e) b
def xP:=λc e (R:VK) f a (d:za)=>
 zg a true (ze zz 50 c 1) d (λg b=>zg a true (zd zz 3 g b) b (xO a e R f c) b) d
def uI:=λa e (R:VK) f g (c:za)=>
 GD a false (λh=>zq zz (fn 52) [g] c (λb i=>h b i)) (λb d=>GD a false (λj=>j b d) (xP e a R f) d) c
def uJ:=λb f c (R:VK) g h (d:za)=>
 zg b false (pk f h (.bool false)) d (λi a=>opt (pk b (.bool true) i) λe=>zg e false (zd zz 50 c a) a (uI e c R g) a) d
def uK:=λa b e f (R:VK) g h (c:za)=>
 zg a false (zh .gtr 3 39 h 15) c (λi d=>zg b true (pk a (.bool true) i) d (uJ e b f R g) d) c
def uL:=λc e f (R:VK) g a (d:za)=>
 zg a false (ze zz 50 c 2) d (λh b=>zg a false (zd zz 3 h b) b (uK a e f c R g) b) d
def uM:=λa d e (R:VK) f g (b:za)=>
 zg a true (zh .lss 3 35 g 0) b (λh c=>GD a true (λi=>i h c) (uL d a e R f) c) b
def uN:=λc e (R:VK) f a (d:za)=>
 zg a true (ze zz 50 c 2) d (λg b=>zg a true (zd zz 3 g b) b (uM a c e R f) b) d
def uO:=λe b f (R:VK) g (c:za)=>
 opt (pk e (.bool true) g) λa=>GD a false (λh=>h b c) (λi d=>GD a false (λj=>j i d) (uN f a R b) d) c
def uP:=λa e b f g (R:VK) h (c:za)=>
 zg a true (pk e (.bool true) h) c (λi d=>zg b false (pk a i (.bool false)) d (uO b f g R) d) c
def uQ:=λa c d e f (R:VK) g (b:za)=>
 zg a false (zh .gtr 3 26 g 15) b (uP c a d e f R) b
def uR:=λc e f g (R:VK) a (d:za)=>
 zg a false (ze zz 50 c 1) d (λh b=>zg a false (zd zz 3 h b) b (uQ a e f g c R) b) d
def uS:=λa d e f (R:VK) g (b:za)=>
 zg a true (zh .lss 3 22 g 0) b (λh c=>GD a true (λi=>i h c) (uR d a e f R) c) b
def uT:=λc e f (R:VK) a (d:za)=>
 zg a true (ze zz 50 c 1) d (λg b=>zg a true (zd zz 3 g b) b (uS a c e f R) b) d
def uU:=λd e f g (R:VK) h (b:za)=>
 opt (pk d (.bool true) h) λa=>GD a false (λi=>i e b) (λj c=>GD a false (λk=>k j c) (uT f a g R) c) b
def uV:=λa c d e (R:VK) f (b:za)=>
 zg a false (zh .gtr 3 15 f 26) b (uU a c d e R) b
def uW:=λa (R:VK) e (b:za)=>
 opt (kV e 0) λf=>opt (kV e 1) λg=>zt 50 a 0 3 b λh=>opt (zh .lss 3 11 h 1) λc=>zg c false (ze zz 50 a 0) b (λi d=>zg c false (zd zz 3 i d) d (uV c f a g R) d) b
def Gl:=λ(h:za) a (R:VK)=>
 opt (nb [a] (some (Value.cells a).toList)) λd=>nw h d 50 λb c=>opt (zd zz 50 b c) λe=>zq zz (fn 51) [e] c (uW b R)
theorem Gm(hw:Gl h t0 R):DC zz 29 [t0] h R:=zT (by kernel_rfl) hw
def JY:=λb (c:za) (e:LK)=>
 opt (zh .eql 3 4 b 12) λd=>CD d (λa=>a [d] c)
 (λa=>opt (zh .eql 3 4 b 17) λf=>a [f] c)
 (λg h=>e [nth g 0] h)
def QC:=λa (b:za) (d:LK)=>
 opt (zh .eql 3 4 a 11) λc=>CD c (λe=>e [c] b)
 (JY a b)
 (λf g=>d [nth f 0] g)
def Vt:=λa (b:za) (d:LK)=>
 opt (zh .eql 3 4 a 10) λc=>CD c (λe=>e [c] b)
 (QC a b)
 (λf g=>d [nth f 0] g)
def XU:=λa (b:za) (d:LK)=>
 opt (zh .eql 3 4 a 9) λc=>CD c (λe=>e [c] b)
 (Vt a b)
 (λf g=>d [nth f 0] g)
def Y0:=λa (b:za) (d:LK)=>
 opt (zh .eql 3 4 a 8) λc=>CD c (λe=>e [c] b)
 (XU a b)
 (λf g=>d [nth f 0] g)
def Z0:=λa (b:za) (d:LK)=>
 opt (zh .eql 3 4 a 7) λc=>CD c (λe=>e [c] b)
 (Y0 a b)
 (λf g=>d [nth f 0] g)
def Zc:=λa (b:za) (d:LK)=>
 opt (zh .eql 3 4 a 6) λc=>CD c (λe=>e [c] b)
 (Z0 a b)
 (λf g=>d [nth f 0] g)
def ji:=λa (b:za) (d:LK)=>
 opt (zh .eql 3 4 a 5) λc=>CD c (λe=>e [c] b)
 (Zc a b)
 (λf g=>d [nth f 0] g)
def kE:=λa (b:za) (d:LK)=>
 opt (zh .eql 3 4 a 3) λc=>CD c (λe=>e [c] b)
 (ji a b)
 (λf g=>d [nth f 0] g)
def u5:=λa (b:za) (d:LK)=>
 opt (zh .eql 3 4 a 2) λc=>CD c (λe=>e [c] b)
 (kE a b)
 (λf g=>d [nth f 0] g)
def ui:=λa (b:za) (R:VK) (f:LK)=>
 opt (zh .eql 3 4 a 1) λc=>CD c (λg=>g [c] b)
 (u5 a b)
 (λh d=>CD (nth h 0) (λe=>rv [.bool true] d R)
 (λe=>e [.bool false] d)
 (λi j=>f [nth i 0] j))
def GC:=λ(h:za) a (R:VK)=>
 opt (nb [a] (some (Value.cells a).toList)) λc=>nw h c 50 λd b=>zt 50 d 0 3 b λe=>BK (ui e b R)
 (λg f=>rv [.bool false] f R)
theorem GF(hw:GC h t0 R):DC zz 52 [t0] h R:=zT (by kernel_rfl) hw
def ju:=λb (c:za) (e:LK)=>
 opt (zh .eql 3 23 b 14) λd=>CD d (λa=>a [d] c)
 (λa=>opt (zh .eql 3 23 b 15) λf=>a [f] c)
 (λg h=>e [nth g 0] h)
def k7:=λa (b:za) (d:LK)=>
 opt (zh .eql 3 23 a 10) λc=>CD c (λe=>e [c] b)
 (ju a b)
 (λf g=>d [nth f 0] g)
def kh:=λa (b:za) (d:LK)=>
 opt (zh .eql 3 23 a 7) λc=>CD c (λe=>e [c] b)
 (k7 a b)
 (λf g=>d [nth f 0] g)
def qL:=λa (b:za) (d:LK)=>
 opt (zh .eql 3 23 a 5) λc=>CD c (λe=>e [c] b)
 (kh a b)
 (λf g=>d [nth f 0] g)
def qv:=λa (b:za) (d:LK)=>
 opt (zh .eql 3 23 a 4) λc=>CD c (λe=>e [c] b)
 (qL a b)
 (λf g=>d [nth f 0] g)
def u2:=λa (b:za) (d:LK)=>
 opt (zh .eql 3 23 a 3) λc=>CD c (λe=>e [c] b)
 (qv a b)
 (λf g=>d [nth f 0] g)
def uo:=λd (R:VK) (e:LK) f (a:za)=>
 CD (nth f 0) (λb=>rv [d,.bool true] a R)
 (λb=>b [.bool false,.bool false] a)
 (λc g=>e [nth c 0,nth c 1] g)
def uq:=λa (b:za) d (R:VK) (e:LK)=>
 opt (zh .eql 3 23 a 1) λc=>CD c (λf=>f [c] b)
 (u2 a b)
 (uo d R e)
def ur:=λc d (R:VK) e (a:za)=>
 opt (pk c (.bool true) e) λb=>zt 50 d 0 3 a λf=>BK (uq f a b R)
 (λh g=>rv [b,.bool false] g R)
def vp:=λa c (R:VK) d (b:za)=>
 zg a false (zh .eql 3 19 d 16) b (ur a c R) b
def vq:=λe c (R:VK) f (d:za)=>
 opt (pk e (.bool true) f) λa=>zg a false (ze zz 50 c 0) d (λg b=>zg a false (zd zz 3 g b) b (vp a c R) b) d
def vr:=λa c (R:VK) d (b:za)=>
 zg a false (zh .eql 3 14 d 15) b (vq a c R) b
def vt:=λe c (R:VK) f (d:za)=>
 opt (pk e (.bool true) f) λa=>zg a false (ze zz 50 c 0) d (λg b=>zg a false (zd zz 3 g b) b (vr a c R) b) d
def vu:=λa c (R:VK) d (b:za)=>
 zg a false (zh .eql 3 9 d 4) b (vt a c R) b
def vw:=λc (R:VK) a (d:za)=>
 zg a false (ze zz 50 c 0) d (λe b=>zg a false (zd zz 3 e b) b (vu a c R) b) d
def Nd:=λ(h:za) a (R:VK)=>
 opt (nb [a] (some (Value.cells a).toList)) λd=>nw h d 50 λb c=>opt (zd zz 50 b c) λe=>zq zz (fn 52) [e] c (vw b R)
theorem IX(hw:Nd h t0 R):DC zz 51 [t0] h R:=zT (by kernel_rfl) hw
def fu:=λa (R:VK) c (b:za)=>
 zg a true (zh .leq 2 6 c 2147483647) b (λd e=>opt (pk a d (.bool false)) λf=>rv [f] e R) b
def Nj:=λ(h:za) a (R:VK)=>
 opt (zh .geq 2 3 a (-2147483648)) λb=>GD b true (λc=>c a h) (fu b R) h
theorem IY(hw:Nj h t0 R):DC zz 53 [t0] h R:=zT (by kernel_rfl) hw
def rJ:=λa (R:VK) c (b:za)=>
 zg a true (zh .leq 3 6 c 26) b (λd e=>opt (pk a d (.bool false)) λf=>rv [f] e R) b
def zcP:=λ(h:za) a (R:VK)=>
 opt (zh .geq 3 3 a 21) λb=>GD b true (λc=>c a h) (rJ b R) h
theorem Sl(hw:zcP h t0 R):DC zz 55 [t0] h R:=zT (by kernel_rfl) hw
def Ud:=λa (R:VK) c (b:za)=>
 zg a false (zh .eql 3 22 c 18) b (λd e=>opt (pk a (.bool true) d) λf=>rv [f] e R) b
def Ue:=λa e (R:VK) f (b:za)=>
 zg a false (zh .eql 3 18 f 17) b (λg c=>opt (pk a (.bool true) g) λd=>GD d false (λh=>h e c) (Ud d R) c) b
def Uf:=λa b (R:VK) f (c:za)=>
 zg a false (zh .eql 3 14 f 16) c (λg d=>opt (pk a (.bool true) g) λe=>GD e false (λh=>h b d) (Ue e b R) d) c
def Ug:=λa b (R:VK) f (c:za)=>
 zg a false (zh .eql 3 10 f 13) c (λg d=>opt (pk a (.bool true) g) λe=>GD e false (λh=>h b d) (Uf e b R) d) c
def Uh:=λa b (R:VK) f (c:za)=>
 zg a false (zh .eql 3 6 f 12) c (λg d=>opt (pk a (.bool true) g) λe=>GD e false (λh=>h b d) (Ug e b R) d) c
def Sk:=λ(h:za) a (R:VK)=>
 opt (zh .eql 3 3 a 11) λb=>GD b false (λc=>c a h) (Uh b a R) h
theorem Pb(hw:Sk h t0 R):DC zz 54 [t0] h R:=zT (by kernel_rfl) hw
def eN:=λd a (R:VK) (e:LK) f (b:za)=>
 opt (pk d f (.bool false)) λg=>CD g (λc=>rv [nth a 1] b R)
 (λc=>c [nth a 0] b)
 (λh i=>e [nth h 0] i)
def eO:=λa d e (R:VK) (f:LK) g (b:za)=>
 GD a true (λh=>h d b) (λi c=>zg a true (yz .eql 3 26 27 g i) c (eN a e R f) c) b
def eP:=λa d e (R:VK) (f:LK) g (c:za)=>
 zg a true (ze zz 50 g 5) c (λh b=>zg a true (zd zz 3 h b) b (eO a d e R f) b) c
def eQ:=λa b e (R:VK) (f:LK) g (c:za)=>
 GD a true (λh=>h (nth b 1) c) (λi d=>zg a true (zJ zz 45 g i) d (eP a e b R f) d) c
def eR:=λd (a:za) e f (R:VK) (g:LK)=>
 zt 47 d 1 45 a λh=>opt (zJ zz 45 h (nth e 1)) λi=>zt 50 i 0 3 a λj=>opt (zh .eql 3 18 j 20) λb=>zg b true (ze zz 47 d 1) a (λk c=>zg b true (zd zz 45 k c) c (eQ b e f R g) c) a
def nS:=λa (b:LK) c (d:za)=>
 opt (zh .add 3 11 (nth a 1) 1) λe=>b [nth c 0,e] d
def CC:=λb (f:LK) g (R:VK) a (c:za) (h:LK)=>
 zt 47 b 1 45 c λi=>yp (v8 45 i c) λj d=>opt (yz .lss 3 6 9 (nth a 1) j) λk=>CD k (λe=>e [] d)
 (λe=>f [nth a 0] d)
 (λm l=>BK (eR b l a g R)
 (nS a h))
def MO:=λ(h:za) a b (R:VK)=>
 opt (nb [a] (some (Value.cells a).toList)) λc=>nw h c 47 λd e=>BK (λf=>LP (CC d f b R)
 [pm 0,pm 0] e)
 (λi g=>rv [pm (-1)] g R)
theorem IJ(hw:MO h t0 t1 R):DC zz 30 [t0,t1] h R:=zT (by kernel_rfl) hw
end Go.Ar
namespace Go.Ai
open Go.Ai Go.Proofs
end Go.Ai
namespace Go.Ar
open Go.Ai Go.Proofs
open Go.Rtl (zl zE Old yB xr)
open Go.Rm (vC)
open Go.As (xY E4 m7 JD qS dx W0)
def bB(k:Int):Bool:=decide (-2147483648<=k)&&decide (k<=2147483647)
theorem U2(k:Int)(h:za):xC pu 53 [pm k] h (.bool (bB k)):=by
 apply yB;apply IY;unfold Nj;by_cases a:k ≥ -2147483648
 ·by_cases b:k<=2147483647
  ·simp only[EE,Int.reduceNeg,fu,a,b];simp[xr,bB];omega
  ·simp only[EE,Int.reduceNeg,fu,a,b];simp[xr,bB];omega
 ·simp only[EE,Int.reduceNeg,fu,a];simp[xr,bB];omega
theorem zgb(k:Int)(h:za):xC pu 55 [pm k] h (.bool (W0 k)):=by
 apply yB;apply Sl;unfold zcP;by_cases a:k ≥ 21
 ·by_cases b:k<=26
  ·simp only[EE,rJ,a,b];simp[xr,W0];omega
  ·simp only[EE,rJ,a,b];simp[xr,W0];omega
 ·simp only[EE,rJ,a];simp[xr,W0];omega
theorem GU(n:Int)(h:za):xC pu 54 [pm n] h (.bool (dx n)):=by
 apply yB;apply Pb;unfold Sk;by_cases h11:n=11
 ·subst h11;simp only[EE,Ud,Ue,Uf,Ug,Uh];rfl
 by_cases h12:n=12
 ·subst h12;simp only[EE,Int.reduceEq,Ud,Ue,Uf,Ug,Uh];rfl
 by_cases h13:n=13
 ·subst h13;simp only[EE,Int.reduceEq,Ud,Ue,Uf,Ug,Uh];rfl
 by_cases h16:n=16
 ·subst h16;simp only[EE,Int.reduceEq,Ud,Ue,Uf,Ug,Uh];rfl
 by_cases h17:n=17
 ·subst h17;simp only[EE,Int.reduceEq,Ud,Ue,Uf,Ug,Uh];rfl
 by_cases h18:n=18
 ·subst h18;simp only[EE,Int.reduceEq,Ud,Ue,Uf,Ug,Uh];rfl
 simp only[EE,Ud,Ue,Uf,Ug,Uh,h11,h12,h13,h16,h17,h18];have e:dx n=false:=by unfold dx;simp;omega
 rw[e];rfl
theorem eF(x:xY)(h:za):xC pu 52 [x.val] h (.bool (JD x.op)):=by
 apply yB;apply GF;unfold GC;obtain⟨op,r,m,sub,cc,l,k⟩:=x;by_cases h1:op=1
 ·subst h1;simp only[EE,nth,↓nw,Value.cells,↓BK,zo,zf,ui];rfl
 by_cases h2:op=2
 ·subst h2;simp only[EE,nth,↓nw,Value.cells,↓BK,Int.reduceEq,zo,zf,u5,ui];rfl
 by_cases h3:op=3
 ·subst h3;simp only[EE,nth,↓nw,Value.cells,↓BK,Int.reduceEq,zo,zf,kE,u5,ui];rfl
 by_cases h5:op=5
 ·subst h5;simp only[EE,nth,↓nw,Value.cells,↓BK,Int.reduceEq,zo,zf,ji,kE,u5,ui];rfl
 by_cases h6:op=6
 ·subst h6;simp only[EE,nth,↓nw,Value.cells,↓BK,Int.reduceEq,zo,zf,Zc,ji,kE,u5,ui];rfl
 by_cases h7:op=7
 ·subst h7;simp only[EE,nth,↓nw,Value.cells,↓BK,Int.reduceEq,zo,zf,Z0,Zc,ji,kE,u5,ui];rfl
 by_cases h8:op=8
 ·subst h8;simp only[EE,nth,↓nw,Value.cells,↓BK,Int.reduceEq,zo,zf,Y0,Z0,Zc,ji,kE,u5,ui];rfl
 by_cases h9:op=9
 ·subst h9;simp only[EE,nth,↓nw,Value.cells,↓BK,Int.reduceEq,zo,zf,XU,Y0,Z0,Zc,ji,kE,u5,ui];rfl
 by_cases h10:op=10
 ·subst h10;simp only[EE,nth,↓nw,Value.cells,↓BK,Int.reduceEq,zo,zf,Vt,XU,Y0,Z0,Zc,ji,kE,u5,ui];rfl
 by_cases h11:op=11
 ·subst h11;simp only[EE,nth,↓nw,Value.cells,↓BK,Int.reduceEq,zo,zf,QC,Vt,XU,Y0,Z0,Zc,ji,kE,u5,ui];rfl
 by_cases h12:op=12
 ·subst h12;simp only[EE,nth,↓nw,Value.cells,↓BK,Int.reduceEq,zo,zf,JY,QC,Vt,XU,Y0,Z0,Zc,ji,kE,u5,ui];rfl
 by_cases h17:op=17
 ·subst h17;simp only[EE,nth,↓nw,Value.cells,↓BK,Int.reduceEq,zo,zf,JY,QC,Vt,XU,Y0,Z0,Zc,ji,kE,u5,ui];rfl
 simp only[EE,nth,↓nw,Value.cells,↓BK,zo,zf,JY,QC,Vt,XU,Y0,Z0,Zc,ji,kE,u5,ui,h1,h2,h3,h5,h6,h7,h8,h9,h10,h11,h12,h17];have e:JD op=false:=by unfold JD;simp;omega
 rw[e];rfl
theorem zca(x:xY)(h:za):xC pu 51 [x.val] h (.tuple #[.bool (E4 x.op),.bool (m7 x.op)]):=by
 apply vC rfl;apply IX;unfold Nd;obtain⟨op,r,m,sub,cc,l,k⟩:=x;simp only[EE,↓nw,Value.cells,Nat.reduceAdd,zN,xx];refine xU (eF ⟨op,r,m,sub,cc,l,k⟩ _) ?_;by_cases h1:op=1
 ·subst h1;simp only[EE,nth,↓BK,zo,zf,uo,uq,ur,vp,vq,vr,vt,vu,vw,show JD 1=true from rfl];rfl
 by_cases h3:op=3
 ·subst h3;simp only[EE,nth,↓BK,Int.reduceEq,zo,zf,u2,uo,uq,ur,vp,vq,vr,vt,vu,vw,show JD 3=true from rfl];rfl
 by_cases h5:op=5
 ·subst h5;simp only[EE,nth,↓BK,Int.reduceEq,zo,zf,qL,qv,u2,uo,uq,ur,vp,vq,vr,vt,vu,vw,show JD 5=true from rfl];rfl
 by_cases h7:op=7
 ·subst h7;simp only[EE,nth,↓BK,Int.reduceEq,zo,zf,kh,qL,qv,u2,uo,uq,ur,vp,vq,vr,vt,vu,vw,show JD 7=true from rfl];rfl
 by_cases h10:op=10
 ·subst h10;simp only[EE,nth,↓BK,Int.reduceEq,zo,zf,k7,kh,qL,qv,u2,uo,uq,ur,vp,vq,vr,vt,vu,vw,show JD 10=true from rfl];rfl
 by_cases h2:op=2
 ·subst h2;simp only[EE,nth,↓BK,Int.reduceEq,zo,zf,ju,k7,kh,qL,qv,u2,uo,uq,ur,vp,vq,vr,vt,vu,vw,show JD 2=true from rfl];rfl
 by_cases h6:op=6
 ·subst h6;simp only[EE,nth,↓BK,Int.reduceEq,zo,zf,ju,k7,kh,qL,qv,u2,uo,uq,ur,vp,vq,vr,vt,vu,vw,show JD 6=true from rfl];rfl
 by_cases h8:op=8
 ·subst h8;simp only[EE,nth,↓BK,Int.reduceEq,zo,zf,ju,k7,kh,qL,qv,u2,uo,uq,ur,vp,vq,vr,vt,vu,vw,show JD 8=true from rfl];rfl
 by_cases h9:op=9
 ·subst h9;simp only[EE,nth,↓BK,Int.reduceEq,zo,zf,ju,k7,kh,qL,qv,u2,uo,uq,ur,vp,vq,vr,vt,vu,vw,show JD 9=true from rfl];rfl
 by_cases h11:op=11
 ·subst h11;simp only[EE,nth,↓BK,Int.reduceEq,zo,zf,ju,k7,kh,qL,qv,u2,uo,uq,ur,vp,vq,vr,vt,vu,vw,show JD 11=true from rfl];rfl
 by_cases h12:op=12
 ·subst h12;simp only[EE,nth,↓BK,Int.reduceEq,zo,zf,ju,k7,kh,qL,qv,u2,uo,uq,ur,vp,vq,vr,vt,vu,vw,show JD 12=true from rfl];rfl
 by_cases h17:op=17
 ·subst h17;simp only[EE,nth,↓BK,Int.reduceEq,zo,zf,ju,k7,kh,qL,qv,u2,uo,uq,ur,vp,vq,vr,vt,vu,vw,show JD 17=true from rfl];rfl
 by_cases h4:op=4
 ·subst h4;simp only[EE,nth,↓BK,Int.reduceEq,zo,zf,qv,u2,uo,uq,ur,vp,vq,vr,vt,vu,vw,show JD 4=false from rfl];rfl
 by_cases h15:op=15
 ·subst h15;simp only[EE,nth,↓BK,Int.reduceEq,zo,zf,ju,k7,kh,qL,qv,u2,uo,uq,ur,vp,vq,vr,vt,vu,vw,show JD 15=false from rfl];rfl
 by_cases h16:op=16
 ·subst h16;simp only[EE,nth,↓BK,Int.reduceEq,zo,zf,ju,k7,kh,qL,qv,u2,uo,uq,ur,vp,vq,vr,vt,vu,vw,show JD 16=false from rfl];rfl
 by_cases h14:op=14
 ·subst h14;simp only[EE,nth,↓BK,Int.reduceEq,zo,zf,ju,k7,kh,qL,qv,u2,uo,uq,ur,vp,vq,vr,vt,vu,vw,show JD 14=false from rfl];rfl
 have e3:JD op=false:=by unfold JD;simp;omega
 simp only[EE,nth,↓BK,zo,zf,ju,k7,kh,qL,qv,u2,uo,uq,ur,vp,vq,vr,vt,vu,vw,e3,h1,h3,h5,h7,h10,h4,h15,h16,h14];have e1:E4 op=false:=by unfold E4;simp;omega
 have e2:m7 op=false:=by unfold m7;simp;omega
 rw[e1,e2];rfl
def tailD(i:xY):Bool :=
 if i.op=3\/i.op=4 then decide (i.sub=1\/i.sub=4\/i.sub=8)&&bB i.k
 else if i.op=5\/i.op=16 then bB i.k
 else if i.op=7 then dx i.sub
 else if i.op=8 then dx i.sub&&bB i.k
 else if i.op=9 then decide (i.sub=1\/i.sub=2)
 else if i.op=10 then decide (i.sub=3\/i.sub=4)
 else if i.op=11 then decide (i.sub=19\/i.sub=20)&&(decide (0<=i.k)&&decide (i.k<=63))
 else if i.op=12 then decide (i.sub=19\/i.sub=20)
 else if i.op=17 then W0 i.cc
 else if i.op=19 then W0 i.cc&&(decide (0<=i.l)&&decide (i.l<=10000000))
 else if i.op=18\/i.op=20 then decide (0<=i.l)&&decide (i.l<=10000000)
 else if i.op=23\/i.op=24 then decide (0<=i.k)&&decide (i.k<=65536)
 else true
section
variable {H:za}{b:Nat}{B:Bool}{vs:List aaa}{x:xY}
theorem zhx{r m sub cc l k:Int}(g:H.get b=some (.cells (xY.row ⟨3,r,m,sub,cc,l,k⟩) 50))(hB:B=tailD ⟨3,r,m,sub,cc,l,k⟩):zu (pi b) (xr B) vs H:=by
 by_cases s1:sub=1
 ·subst s1;simp only[EE,nth,↓BK,zo,zf,zB,zX,ZS,ZT,ZU,ZV,ZW,jL,zO,zu,g];refine xU (U2 k _) ?_;simp only[EE];rw[hB];simp[xr,tailD]
 by_cases s4:sub=4
 ·subst s4;simp only[EE,nth,↓BK,zo,zf,zB,zX,ZS,ZT,ZU,ZV,ZW,jL,zO,zu,g,s1];refine xU (U2 k _) ?_;simp only[EE];rw[hB];simp[xr,tailD,s1]
 by_cases s8:sub=8
 ·subst s8;simp only[EE,nth,↓BK,zo,zf,zB,zX,ZS,ZT,ZU,ZV,ZW,jL,zO,zu,g,s1,s4];refine xU (U2 k _) ?_;simp only[EE];rw[hB];simp[xr,tailD,s1,s4]
 simp only[EE,nth,↓BK,zo,zf,zB,ZS,ZT,ZU,ZV,ZW,jL,zO,zu,g,s1,s4,s8];rw[hB];simp[xr,tailD,s1,s4,s8]
theorem zhy{r m sub cc l k:Int}(g:H.get b=some (.cells (xY.row ⟨4,r,m,sub,cc,l,k⟩) 50))(hB:B=tailD ⟨4,r,m,sub,cc,l,k⟩):zu (pi b) (xr B) vs H:=by
 by_cases s1:sub=1
 ·subst s1;simp only[EE,nth,↓BK,Int.reduceEq,zo,zf,zB,zX,ZS,ZT,ZU,ZV,ZW,jL,zO,zu,g];refine xU (U2 k _) ?_;simp only[EE];rw[hB];simp[xr,tailD]
 by_cases s4:sub=4
 ·subst s4;simp only[EE,nth,↓BK,Int.reduceEq,zo,zf,zB,zX,ZS,ZT,ZU,ZV,ZW,jL,zO,zu,g,s1];refine xU (U2 k _) ?_;simp only[EE];rw[hB];simp[xr,tailD,s1]
 by_cases s8:sub=8
 ·subst s8;simp only[EE,nth,↓BK,Int.reduceEq,zo,zf,zB,zX,ZS,ZT,ZU,ZV,ZW,jL,zO,zu,g,s1,s4];refine xU (U2 k _) ?_;simp only[EE];rw[hB];simp[xr,tailD,s1,s4]
 simp only[EE,nth,↓BK,Int.reduceEq,zo,zf,zB,ZS,ZT,ZU,ZV,ZW,jL,zO,zu,g,s1,s4,s8];rw[hB];simp[xr,tailD,s1,s4,s8]
theorem zhz{r m sub cc l k:Int}(g:H.get b=some (.cells (xY.row ⟨5,r,m,sub,cc,l,k⟩) 50))(hB:B=tailD ⟨5,r,m,sub,cc,l,k⟩):zu (pi b) (xr B) vs H:=by
 simp only[EE,nth,↓BK,Int.reduceEq,zo,zf,zX,cV,yf,zO,zu,g];refine xU (U2 k _) ?_;simp only[EE];rw[hB];simp[xr,tailD]
theorem zgg{r m sub cc l k:Int}(g:H.get b=some (.cells (xY.row ⟨16,r,m,sub,cc,l,k⟩) 50))(hB:B=tailD ⟨16,r,m,sub,cc,l,k⟩):zu (pi b) (xr B) vs H:=by
 simp only[EE,nth,↓BK,Int.reduceEq,zo,zf,zX,cV,yf,zO,zu,g];refine xU (U2 k _) ?_;simp only[EE];rw[hB];simp[xr,tailD]
theorem zhA{r m sub cc l k:Int}(g:H.get b=some (.cells (xY.row ⟨7,r,m,sub,cc,l,k⟩) 50))(hB:B=tailD ⟨7,r,m,sub,cc,l,k⟩):zu (pi b) (xr B) vs H:=by
 simp only[EE,nth,↓BK,Int.reduceEq,zo,zf,zB,pP,yi,yf,zO,zu,g];refine xU (GU sub _) ?_;simp only[EE];rw[hB];simp[xr,tailD]
theorem zhB{r m sub cc l k:Int}(g:H.get b=some (.cells (xY.row ⟨8,r,m,sub,cc,l,k⟩) 50))(hB:B=tailD ⟨8,r,m,sub,cc,l,k⟩):zu (pi b) (xr B) vs H:=by
 simp only[EE,nth,↓BK,Int.reduceEq,zo,zf,zB,yo,yi,yf,zO,zu,g];refine xU (GU sub _) ?_;cases ha:dx sub with
 |false=>
  simp only[EE,iK,iL];rw[hB];simp[xr,tailD,ha]
 |true=>
  simp only[EE,zo,zX,iK,iL,g];refine xU (U2 k _) ?_;simp only[EE];rw[hB];simp[xr,tailD,ha]
theorem zhC{r m sub cc l k:Int}(g:H.get b=some (.cells (xY.row ⟨9,r,m,sub,cc,l,k⟩) 50))(hB:B=tailD ⟨9,r,m,sub,cc,l,k⟩):zu (pi b) (xr B) vs H:=by
 by_cases s1:sub=1
 ·subst s1;simp only[EE,nth,↓BK,Int.reduceEq,zo,zf,zB,JU,Ke,yw,yo,yi,yf,zO,zu,g];rw[hB];simp[xr,tailD]
 by_cases s2:sub=2
 ·subst s2;simp only[EE,nth,↓BK,Int.reduceEq,zo,zf,zB,JU,Ke,yw,yo,yi,yf,zO,zu,g,s1];rw[hB];simp[xr,tailD,s1]
 simp only[EE,nth,↓BK,Int.reduceEq,zo,zf,zB,JU,Ke,yw,yo,yi,yf,zO,zu,g,s1,s2];rw[hB];simp[xr,tailD,s1,s2]
theorem zgd{r m sub cc l k:Int}(g:H.get b=some (.cells (xY.row ⟨10,r,m,sub,cc,l,k⟩) 50))(hB:B=tailD ⟨10,r,m,sub,cc,l,k⟩):zu (pi b) (xr B) vs H:=by
 by_cases s3:sub=3
 ·subst s3;simp only[EE,nth,↓BK,Int.reduceEq,zo,zf,zB,JV,Kd,yG,yw,yo,yi,yf,zO,zu,g];rw[hB];simp[xr,tailD]
 by_cases s4:sub=4
 ·subst s4;simp only[EE,nth,↓BK,Int.reduceEq,zo,zf,zB,JV,Kd,yG,yw,yo,yi,yf,zO,zu,g,s3];rw[hB];simp[xr,tailD,s3]
 simp only[EE,nth,↓BK,Int.reduceEq,zo,zf,zB,JV,Kd,yG,yw,yo,yi,yf,zO,zu,g,s3,s4];rw[hB];simp[xr,tailD,s3,s4]
theorem zgf{r m sub cc l k:Int}(g:H.get b=some (.cells (xY.row ⟨12,r,m,sub,cc,l,k⟩) 50))(hB:B=tailD ⟨12,r,m,sub,cc,l,k⟩):zu (pi b) (xr B) vs H:=by
 by_cases s19:sub=19
 ·subst s19;simp only[EE,nth,↓BK,Int.reduceEq,zo,zf,zB,Kb,Kc,wC,yT,yG,yw,yo,yi,yf,zO,zu,g];rw[hB];simp[xr,tailD]
 by_cases s20:sub=20
 ·subst s20;simp only[EE,nth,↓BK,Int.reduceEq,zo,zf,zB,Kb,Kc,wC,yT,yG,yw,yo,yi,yf,zO,zu,g,s19];rw[hB];simp[xr,tailD,s19]
 simp only[EE,nth,↓BK,Int.reduceEq,zo,zf,zB,Kb,Kc,wC,yT,yG,yw,yo,yi,yf,zO,zu,g,s19,s20];rw[hB];simp[xr,tailD,s19,s20]
theorem zge{r m sub cc l k:Int}(g:H.get b=some (.cells (xY.row ⟨11,r,m,sub,cc,l,k⟩) 50))(hB:B=tailD ⟨11,r,m,sub,cc,l,k⟩):zu (pi b) (xr B) vs H:=by
 by_cases s19:sub=19
 ·subst s19;by_cases k0:0<=k
  ·by_cases k1:k<=63
   ·simp only[EE,nth,↓BK,Int.reduceEq,zo,zf,zB,zX,Zx,Zy,Zz,ZA,ZB,ZD,yT,yG,yw,yo,yi,yf,zO,zu,g,k0,k1];rw[hB];simp[xr,tailD,k0,k1]
   ·simp only[EE,nth,↓BK,Int.reduceEq,zo,zf,zB,zX,Zx,Zy,Zz,ZA,ZB,ZD,yT,yG,yw,yo,yi,yf,zO,zu,g,k0,k1];rw[hB];simp[xr,tailD,k0,k1]
  ·simp only[EE,nth,↓BK,Int.reduceEq,zo,zf,zB,zX,Zx,Zy,Zz,ZA,ZB,ZD,yT,yG,yw,yo,yi,yf,zO,zu,g,k0];rw[hB];simp[xr,tailD,k0]
 by_cases s20:sub=20
 ·subst s20;by_cases k0:0<=k
  ·by_cases k1:k<=63
   ·simp only[EE,nth,↓BK,Int.reduceEq,zo,zf,zB,zX,Zx,Zy,Zz,ZA,ZB,ZD,yT,yG,yw,yo,yi,yf,zO,zu,g,s19,k0,k1];rw[hB];simp[xr,tailD,s19,k0,k1]
   ·simp only[EE,nth,↓BK,Int.reduceEq,zo,zf,zB,zX,Zx,Zy,Zz,ZA,ZB,ZD,yT,yG,yw,yo,yi,yf,zO,zu,g,s19,k0,k1];rw[hB];simp[xr,tailD,s19,k0,k1]
  ·simp only[EE,nth,↓BK,Int.reduceEq,zo,zf,zB,zX,Zx,Zy,Zz,ZA,ZB,ZD,yT,yG,yw,yo,yi,yf,zO,zu,g,s19,k0];rw[hB];simp[xr,tailD,s19,k0]
 simp only[EE,nth,↓BK,Int.reduceEq,zo,zf,zB,Zx,Zy,Zz,ZA,ZB,ZD,yT,yG,yw,yo,yi,yf,zO,zu,g,s19,s20];rw[hB];simp[xr,tailD,s19,s20]
theorem zgh{r m sub cc l k:Int}(g:H.get b=some (.cells (xY.row ⟨17,r,m,sub,cc,l,k⟩) 50))(hB:B=tailD ⟨17,r,m,sub,cc,l,k⟩):zu (pi b) (xr B) vs H:=by
 simp only[EE,nth,↓BK,Int.reduceEq,zo,zf,Kl,pO,vk,wC,yT,yG,yw,yo,yi,yf,zO,zu,g];refine xU (zgb cc _) ?_;simp only[EE];rw[hB];simp[xr,tailD]
theorem zgj{r m sub cc l k:Int}(g:H.get b=some (.cells (xY.row ⟨19,r,m,sub,cc,l,k⟩) 50))(hB:B=tailD ⟨19,r,m,sub,cc,l,k⟩):zu (pi b) (xr B) vs H:=by
 simp only[EE,nth,↓BK,Int.reduceEq,zo,zf,Kl,vK,vk,wC,yT,yG,yw,yo,yi,yf,zO,zu,g];refine xU (zgb cc _) ?_;cases ha:W0 cc with
 |false=>
  simp only[EE,Ui,Uj,Uk,Ul];rw[hB];simp[xr,tailD,ha]
 |true=>
  by_cases k0:0<=l
  ·by_cases k1:l<=10000000
   ·simp only[EE,zo,vB,Ui,Uj,Uk,Ul,g,k0,k1];rw[hB];simp[xr,tailD,ha,k0,k1]
   ·simp only[EE,zo,vB,Ui,Uj,Uk,Ul,g,k0,k1];rw[hB];simp[xr,tailD,ha,k0,k1]
  ·simp only[EE,zo,vB,Ui,Uj,Uk,Ul,g,k0];rw[hB];simp[xr,tailD,ha,k0]
theorem zgi{r m sub cc l k:Int}(g:H.get b=some (.cells (xY.row ⟨18,r,m,sub,cc,l,k⟩) 50))(hB:B=tailD ⟨18,r,m,sub,cc,l,k⟩):zu (pi b) (xr B) vs H:=by
 by_cases k0:0<=l
 ·by_cases k1:l<=10000000
  ·simp only[EE,nth,↓BK,Int.reduceEq,zo,zf,vB,YU,YX,uh,vK,vk,wC,yT,yG,yw,yo,yi,yf,zO,zu,g,k0,k1];rw[hB];simp[xr,tailD,k0,k1]
  ·simp only[EE,nth,↓BK,Int.reduceEq,zo,zf,vB,YU,YX,uh,vK,vk,wC,yT,yG,yw,yo,yi,yf,zO,zu,g,k0,k1];rw[hB];simp[xr,tailD,k0,k1]
 ·simp only[EE,nth,↓BK,Int.reduceEq,zo,zf,vB,YU,YX,uh,vK,vk,wC,yT,yG,yw,yo,yi,yf,zO,zu,g,k0];rw[hB];simp[xr,tailD,k0]
theorem zgk{r m sub cc l k:Int}(g:H.get b=some (.cells (xY.row ⟨20,r,m,sub,cc,l,k⟩) 50))(hB:B=tailD ⟨20,r,m,sub,cc,l,k⟩):zu (pi b) (xr B) vs H:=by
 by_cases k0:0<=l
 ·by_cases k1:l<=10000000
  ·simp only[EE,nth,↓BK,Int.reduceEq,zo,zf,vB,YU,YX,uh,vK,vk,wC,yT,yG,yw,yo,yi,yf,zO,zu,g,k0,k1];rw[hB];simp[xr,tailD,k0,k1]
  ·simp only[EE,nth,↓BK,Int.reduceEq,zo,zf,vB,YU,YX,uh,vK,vk,wC,yT,yG,yw,yo,yi,yf,zO,zu,g,k0,k1];rw[hB];simp[xr,tailD,k0,k1]
 ·simp only[EE,nth,↓BK,Int.reduceEq,zo,zf,vB,YU,YX,uh,vK,vk,wC,yT,yG,yw,yo,yi,yf,zO,zu,g,k0];rw[hB];simp[xr,tailD,k0]
theorem zgl{r m sub cc l k:Int}(g:H.get b=some (.cells (xY.row ⟨23,r,m,sub,cc,l,k⟩) 50))(hB:B=tailD ⟨23,r,m,sub,cc,l,k⟩):zu (pi b) (xr B) vs H:=by
 by_cases k0:0<=k
 ·by_cases k1:k<=65536
  ·simp only[EE,nth,↓BK,Int.reduceEq,zo,zf,zX,YV,YW,ZC,uh,vK,vk,wC,yT,yG,yw,yo,yi,yf,zO,zu,g,k0,k1];rw[hB];simp[xr,tailD,k0,k1]
  ·simp only[EE,nth,↓BK,Int.reduceEq,zo,zf,zX,YV,YW,ZC,uh,vK,vk,wC,yT,yG,yw,yo,yi,yf,zO,zu,g,k0,k1];rw[hB];simp[xr,tailD,k0,k1]
 ·simp only[EE,nth,↓BK,Int.reduceEq,zo,zf,zX,YV,YW,ZC,uh,vK,vk,wC,yT,yG,yw,yo,yi,yf,zO,zu,g,k0];rw[hB];simp[xr,tailD,k0]
theorem zgm{r m sub cc l k:Int}(g:H.get b=some (.cells (xY.row ⟨24,r,m,sub,cc,l,k⟩) 50))(hB:B=tailD ⟨24,r,m,sub,cc,l,k⟩):zu (pi b) (xr B) vs H:=by
 by_cases k0:0<=k
 ·by_cases k1:k<=65536
  ·simp only[EE,nth,↓BK,Int.reduceEq,zo,zf,zX,YV,YW,ZC,uh,vK,vk,wC,yT,yG,yw,yo,yi,yf,zO,zu,g,k0,k1];rw[hB];simp[xr,tailD,k0,k1]
  ·simp only[EE,nth,↓BK,Int.reduceEq,zo,zf,zX,YV,YW,ZC,uh,vK,vk,wC,yT,yG,yw,yo,yi,yf,zO,zu,g,k0,k1];rw[hB];simp[xr,tailD,k0,k1]
 ·simp only[EE,nth,↓BK,Int.reduceEq,zo,zf,zX,YV,YW,ZC,uh,vK,vk,wC,yT,yG,yw,yo,yi,yf,zO,zu,g,k0];rw[hB];simp[xr,tailD,k0]
theorem oL(g:H.get b=some (.cells x.row 50))(hB:B=tailD x):zu (pi b) (xr B) vs H:=by
 obtain⟨op,r,m,sub,cc,l,k⟩:=x;by_cases o3:op=3
 ·subst o3;exact zhx g hB
 by_cases o4:op=4
 ·subst o4;exact zhy g hB
 by_cases o5:op=5
 ·subst o5;exact zhz g hB
 by_cases o16:op=16
 ·subst o16;exact zgg g hB
 by_cases o7:op=7
 ·subst o7;exact zhA g hB
 by_cases o8:op=8
 ·subst o8;exact zhB g hB
 by_cases o9:op=9
 ·subst o9;exact zhC g hB
 by_cases o10:op=10
 ·subst o10;exact zgd g hB
 by_cases o11:op=11
 ·subst o11;exact zge g hB
 by_cases o12:op=12
 ·subst o12;exact zgf g hB
 by_cases o17:op=17
 ·subst o17;exact zgh g hB
 by_cases o19:op=19
 ·subst o19;exact zgj g hB
 by_cases o18:op=18
 ·subst o18;exact zgi g hB
 by_cases o20:op=20
 ·subst o20;exact zgk g hB
 by_cases o23:op=23
 ·subst o23;exact zgl g hB
 by_cases o24:op=24
 ·subst o24;exact zgm g hB
 simp only[EE,nth,↓BK,zo,zf,ZC,uh,vK,vk,wC,yT,yG,yw,yo,yi,yf,zO,zu,g,o3,o4,o5,o16,o7,o8,o9,o10,o11,o12,o17,o19,o18,o20,o23,o24];rw[hB];simp[xr,tailD,o3,o4,o5,o16,o7,o8,o9,o10,o11,o12,o17,o19,o18,o20,o23,o24]
end
def QV(x:xY):Bool := !(E4 x.op&&(decide (x.r<0)||decide (15<x.r)))
def KK(x:xY):Bool := !(m7 x.op&&(decide (x.m<0)||decide (15<x.m)))
def eD(x:xY):Bool := !(JD x.op&&decide (x.r=4))
def oX(x:xY):Bool := !(m7 x.op&&(decide (x.m=4) && !qS x.op))
def wm(x:xY):Bool := !decide (x.op<1)&&(!decide (26<x.op)&&(QV x&&(KK x&&(eD x&&(oX x&&tailD x)))))
section
variable {H:za}{b:Nat}{B:Bool}{vs:List aaa}{x:xY}
theorem re{mb:Bool}(hm:m7 x.op=mb)(g:H.get b=some (.cells x.row 50))(hB:B=(oX x&&tailD x)):jM (.bool mb) (pi b) (xr B) vs H:=by
 cases mb with
 |false=>
  simp only[EE,ZE,ZF,ZG,ZH,ZI,ZJ,ZK,ZL,ZM,jM];exact oL g (by rw[hB];simp[oX,hm])
 |true=>
  by_cases m4:x.m=4
  ·by_cases o3:x.op=3
   ·simp only[EE,zo,zf,y5,ZE,ZF,ZG,ZH,ZI,ZJ,ZK,ZL,ZM,jM,g,m4,o3];exact oL g (by rw[hB];simp[oX,qS,o3])
   by_cases o4:x.op=4
   ·simp only[EE,Int.reduceEq,zo,zf,y5,ZE,ZF,ZG,ZH,ZI,ZJ,ZK,ZL,ZM,jM,g,m4,o4];exact oL g (by rw[hB];simp[oX,qS,o4])
   by_cases o5:x.op=5
   ·simp only[EE,Int.reduceEq,zo,zf,y5,ZE,ZF,ZG,ZH,ZI,ZJ,ZK,ZL,ZM,jM,g,m4,o5];exact oL g (by rw[hB];simp[oX,qS,o5])
   by_cases o1:x.op=1
   ·simp only[EE,Int.reduceEq,zo,zf,y5,ZE,ZF,ZG,ZH,ZI,ZJ,ZK,ZL,ZM,jM,g,m4,o1];exact oL g (by rw[hB];simp[oX,qS,o1])
   simp only[EE,zo,zf,y5,ZE,ZF,ZG,ZH,ZI,ZJ,ZK,ZL,ZM,jM,g,m4,o3,o4,o5,o1];have e:qS x.op=false:=by unfold qS;simp[o3,o4,o5,o1]
   rw[hB];simp[xr,oX,hm,m4,e]
  ·simp only[EE,zo,y5,ZE,ZF,ZG,ZH,ZI,ZJ,ZK,ZL,ZM,jM,g,m4];exact oL g (by rw[hB];simp[oX,m4])
theorem nf:xC pu 29 [x.val] H (.bool (wm x)):=by
 apply yB;generalize H.lock=L;apply Gm;unfold Gl;simp only[EE,↓nw,Value.cells,Nat.reduceAdd,zN,xx];have g:(L.push (.cells x.row 50)).get L.next=some (.cells x.row 50):=zv;generalize L.push (.cells x.row 50)=G at g ⊢;generalize L.next=b at g ⊢;simp only[];refine xU (zca x _) ?_;by_cases c1:x.op<1
 ·simp only[EE,zo,zf,xN,xO,xP,uI,uJ,uK,uL,uM,uN,uO,uP,uQ,uR,uS,uT,uU,uV,uW,g,c1];simp[xr,wm,c1]
 by_cases c2:x.op>26
 ·simp only[EE,zo,zf,xN,xO,xP,uI,uJ,uK,uL,uM,uN,uO,uP,uQ,uR,uS,uT,uU,uV,uW,g,c1,c2];have c2':26<x.op:=c2;simp[xr,wm,c2']
 have c2':¬26<x.op:=c2;cases hr:E4 x.op with
 |false=>
  cases hm:m7 x.op with
  |false=>
   simp only[EE,Nat.reduceAdd,zN,zo,xx,zf,uI,uJ,uK,uL,uM,uN,uO,uP,uQ,uR,uS,uT,uU,uV,uW,g,c1,c2];refine xU (eF x _) ?_;cases hw:JD x.op with
   |false=>
    simp only[EE,xN,xO,xP];refine re (x:=x) (B:=wm x) hm g ?_;simp[wm,QV,KK,eD,c1,c2',hr,hm,hw]
   |true=>
    by_cases r4:x.r=4
    ·simp only[EE,zo,yQ,xN,xO,xP,g,r4];simp[xr,wm,QV,KK,eD,hw,r4]
    ·simp only[EE,zo,yQ,xN,xO,xP,g,r4];refine re (x:=x) (B:=wm x) hm g ?_;simp[wm,QV,KK,eD,c1,c2',hr,hm,hw,r4]
  |true=>
   by_cases m0:x.m<0
   ·simp only[EE,zo,zf,y5,xN,xO,xP,uI,uJ,uK,uL,uM,uN,uO,uP,uQ,uR,uS,uT,uU,uV,uW,g,c1,c2,m0];simp[xr,wm,QV,KK,hm,m0]
   by_cases m1:x.m>15
   ·simp only[EE,zo,zf,y5,xN,xO,xP,uI,uJ,uK,uL,uM,uN,uO,uP,uQ,uR,uS,uT,uU,uV,uW,g,c1,c2,m0,m1];have m1':15<x.m:=m1;simp[xr,wm,QV,KK,hm,m1']
   have m1':¬15<x.m:=m1;simp only[EE,Nat.reduceAdd,zN,zo,xx,zf,y5,uI,uJ,uK,uL,uM,uN,uO,uP,uQ,uR,uS,uT,uU,uV,uW,g,c1,c2,m0,m1];refine xU (eF x _) ?_;cases hw:JD x.op with
   |false=>
    simp only[EE,xN,xO,xP];refine re (x:=x) (B:=wm x) hm g ?_;simp[wm,QV,KK,eD,c1,c2',hr,hm,m0,m1',hw]
   |true=>
    by_cases r4:x.r=4
    ·simp only[EE,zo,yQ,xN,xO,xP,g,r4];simp[xr,wm,QV,KK,eD,hw,r4]
    ·simp only[EE,zo,yQ,xN,xO,xP,g,r4];refine re (x:=x) (B:=wm x) hm g ?_;simp[wm,QV,KK,eD,c1,c2',hr,hm,m0,m1',hw,r4]
 |true=>
  by_cases r0:x.r<0
  ·simp only[EE,zo,zf,yQ,xN,xO,xP,uI,uJ,uK,uL,uM,uN,uO,uP,uQ,uR,uS,uT,uU,uV,uW,g,c1,c2,r0];simp[xr,wm,QV,hr,r0]
  by_cases r1:x.r>15
  ·simp only[EE,zo,zf,yQ,xN,xO,xP,uI,uJ,uK,uL,uM,uN,uO,uP,uQ,uR,uS,uT,uU,uV,uW,g,c1,c2,r0,r1];have r1':15<x.r:=r1;simp[xr,wm,QV,hr,r1']
  have r1':¬15<x.r:=r1;cases hm:m7 x.op with
  |false=>
   simp only[EE,Nat.reduceAdd,zN,zo,xx,zf,yQ,uI,uJ,uK,uL,uM,uN,uO,uP,uQ,uR,uS,uT,uU,uV,uW,g,c1,c2,r0,r1];refine xU (eF x _) ?_;cases hw:JD x.op with
   |false=>
    simp only[EE,xN,xO,xP];refine re (x:=x) (B:=wm x) hm g ?_;simp[wm,QV,KK,eD,c1,c2',hr,r0,r1',hm,hw]
   |true=>
    by_cases r4:x.r=4
    ·simp only[EE,zo,yQ,xN,xO,xP,g,r4];simp[xr,wm,QV,KK,eD,hw,r4]
    ·simp only[EE,zo,yQ,xN,xO,xP,g,r4];refine re (x:=x) (B:=wm x) hm g ?_;simp[wm,QV,KK,eD,c1,c2',hr,r0,r1',hm,hw,r4]
  |true=>
   by_cases m0:x.m<0
   ·simp only[EE,zo,zf,yQ,y5,xN,xO,xP,uI,uJ,uK,uL,uM,uN,uO,uP,uQ,uR,uS,uT,uU,uV,uW,g,c1,c2,r0,r1,m0];simp[xr,wm,QV,KK,hm,m0]
   by_cases m1:x.m>15
   ·simp only[EE,zo,zf,yQ,y5,xN,xO,xP,uI,uJ,uK,uL,uM,uN,uO,uP,uQ,uR,uS,uT,uU,uV,uW,g,c1,c2,r0,r1,m0,m1];have m1':15<x.m:=m1;simp[xr,wm,QV,KK,hm,m1']
   have m1':¬15<x.m:=m1;simp only[EE,Nat.reduceAdd,zN,zo,xx,zf,yQ,y5,uI,uJ,uK,uL,uM,uN,uO,uP,uQ,uR,uS,uT,uU,uV,uW,g,c1,c2,r0,r1,m0,m1];refine xU (eF x _) ?_;cases hw:JD x.op with
   |false=>
    simp only[EE,xN,xO,xP];refine re (x:=x) (B:=wm x) hm g ?_;simp[wm,QV,KK,eD,c1,c2',hr,r0,r1',hm,m0,m1',hw]
   |true=>
    by_cases r4:x.r=4
    ·simp only[EE,zo,yQ,xN,xO,xP,g,r4];simp[xr,wm,QV,KK,eD,hw,r4]
    ·simp only[EE,zo,yQ,xN,xO,xP,g,r4];refine re (x:=x) (B:=wm x) hm g ?_;simp[wm,QV,KK,eD,c1,c2',hr,r0,r1',hm,m0,m1',hw,r4]
end
open Go.Rtl (inc)
open Go.Rm (Rd Rd.of Rd.at WS)
open Go.As (WB Z2 kP)
def ud:List xY->Int->Nat->Int
 |[],_,_ => -1
 |x::xs,l,n=>if x.op=20/\x.l=l then (n:Nat) else ud xs l (n+1)
theorem KB{h:za}{f:Go.As.Fn}(F:WB h f)(l:Int):xC pu 30 [f.val,pm l] h (pm (ud f.code l 0)):=by
 apply vC rfl;replace F:=F.lock;generalize h.lock=L at F;apply YG;intro wf;apply IJ;unfold MO;have s0:Sat (.of L) L []:=Sat.self wf.2;have RF:Rd (.of L) (WB · f):=Rd.of (yE.uf L) F λh' o=>F.old o;have cn:=F.code.kY;have cc:=F.code.fC;simp only[EE,Value.cells,↓xg];refine w8 s0 λb2 h2 s2=>?_;have g2:=s2.get;simp only[];have F2:=RF.at s2;have cl:=kP F2.code 3;refine qQ (λm vs h'=>∃i:Nat,i<=f.code.length/\m=f.code.length-i/\vs=[pm 0,pm (i:Nat)]/\h'=h2/\ud f.code l 0=ud (f.code.drop i) l i) f.code.length ⟨0,aaX _,rfl,rfl,rfl,rfl⟩ ?_;rintro m vs h' ⟨i,hi,rfl,rfl,rfl,he⟩;unfold CC;by_cases hc:(i:Int)<(f.code.length:Int)
 ·obtain⟨x,hx⟩:∃x,f.code[i]? = some x:=⟨_,aac (by omega)⟩
  have hd:f.code.drop i=x::f.code.drop (i+1):=by
   rw[List.drop_eq_getElem_cons (by omega)];rw[aac (by omega)]at hx;rw[abP hx]
  rw[hd]at he;obtain⟨bi,oi,ci,ti,ha,hbi,hgi,hle,htk,hki⟩:=Z2 F2.code (i:=i) (r:=x.row) (by rw[aau,hx];rfl) rfl;have q0:=hki 0 (by decide);have q0:ci[oi]? = some (pm x.op):=q0;have q5:=hki 5 (by decide);have q5:ci[oi+5]? = some (pm x.l):=q5;have hin:=inc (show i<4611686018427387904 by have:=F.ru;omega);by_cases e1:x.op=20
  ·by_cases e2:x.l=l
   ·simp only[EE,nth,↓xg,zo,Yd,uB,zf,vB,eN,eO,eP,eQ,eR,hc,g2,cn,cl,ha,hgi,q0,q5,e1,e2];show Value.int .i64 (i:Nat)=.int .i64 (ud f.code l 0);rw[he];unfold ud;rw[aai ⟨e1,e2⟩]
   ·simp only[EE,nth,↓xg,zo,Yd,uB,zf,vB,eN,eO,eP,eQ,eR,nS,hc,g2,cn,cl,ha,hgi,q0,q5,e1,e2,hin];refine⟨f.code.length-(i+1),by omega,i+1,by omega,rfl,rfl,?_⟩;rw[he]
    conv=>lhs;unfold ud
    rw[aae (λq=>e2 q.2)]
  ·simp only[EE,nth,↓xg,zo,Yd,uB,zf,eN,eO,eP,eQ,eR,nS,hc,g2,cn,cl,ha,hgi,q0,e1,hin];refine⟨f.code.length-(i+1),by omega,i+1,by omega,rfl,rfl,?_⟩;rw[he]
   conv=>lhs;unfold ud
   rw[aae (λq=>e1 q.1)]
 ·have e:i=f.code.length:=by omega
  subst e;simp only[EE,nth,Int.reduceNeg,zo,Yd,uB,hc,g2,cn,cl];show Value.int .i64 (-1)=.int .i64 (ud f.code l 0);rw[he,List.drop_length];rfl
open Go.Rtl (Lh Xm U1 J4 get_some)
open Go.As (Pg wR Ws Jo Z6 Ww Fu)
theorem wO:type_of% (And.intro (And.intro (And.intro (And.intro (And.intro (And.intro (And.intro (And.intro (And.intro (And.intro (And.intro (And.intro (And.intro (And.intro (And.intro (And.intro (And.intro (And.intro (And.intro (And.intro (And.intro (And.intro (And.intro (And.intro (And.intro (And.intro (And.intro (And.intro (And.intro (And.intro (And.intro (And.intro (And.intro (And.intro (And.intro (And.intro (And.intro (And.intro (And.intro @n9.eq_1 @oa.eq_1) @gP.eq_1) @gQ.eq_1) @gR.eq_1) @gS.eq_1) @gT.eq_1) @gU.eq_1) @gV.eq_1) @gW.eq_1) @gX.eq_1) @gY.eq_1) @gZ.eq_1) @hO.eq_1) @hQ.eq_1) @hU.eq_1) @hZ.eq_1) @ic.eq_1) @ie.eq_1) @ig.eq_1) @ij.eq_1) @il.eq_1) @iq.eq_1) @XP.eq_1) @XQ.eq_1) @ir.eq_1) @iu.eq_1) @iw.eq_1) @iy.eq_1) @iz.eq_1) @iA.eq_1) @iB.eq_1) @iC.eq_1) @iD.eq_1) @iE.eq_1) @iF.eq_1) @Qv.eq_1) @Qw.eq_1) @Qx.eq_1) @iG.eq_1):=(And.intro (And.intro (And.intro (And.intro (And.intro (And.intro (And.intro (And.intro (And.intro (And.intro (And.intro (And.intro (And.intro (And.intro (And.intro (And.intro (And.intro (And.intro (And.intro (And.intro (And.intro (And.intro (And.intro (And.intro (And.intro (And.intro (And.intro (And.intro (And.intro (And.intro (And.intro (And.intro (And.intro (And.intro (And.intro (And.intro (And.intro (And.intro (And.intro @n9.eq_1 @oa.eq_1) @gP.eq_1) @gQ.eq_1) @gR.eq_1) @gS.eq_1) @gT.eq_1) @gU.eq_1) @gV.eq_1) @gW.eq_1) @gX.eq_1) @gY.eq_1) @gZ.eq_1) @hO.eq_1) @hQ.eq_1) @hU.eq_1) @hZ.eq_1) @ic.eq_1) @ie.eq_1) @ig.eq_1) @ij.eq_1) @il.eq_1) @iq.eq_1) @XP.eq_1) @XQ.eq_1) @ir.eq_1) @iu.eq_1) @iw.eq_1) @iy.eq_1) @iz.eq_1) @iA.eq_1) @iB.eq_1) @iC.eq_1) @iD.eq_1) @iE.eq_1) @iF.eq_1) @Qv.eq_1) @Qw.eq_1) @Qx.eq_1) @iG.eq_1)
def QZ(l:List xY):Bool:=l.any λx => !decide (x.op=20)
def Yi(code:List xY)(n:Nat)(x:xY):Bool := !(decide (x.op=20) && !decide (ud code x.l 0=(n:Int))) && !(decide (x.op=18\/x.op=19)&&decide (ud code x.l 0<0))
def XA(p:Pg)(x:xY):Bool := !(decide (x.op=21)&&(decide (x.sub<0)||decide ((p.funcs.length:Int)<=x.sub))) && !(decide (x.op=6)&&(decide (x.sub<0)||(decide ((p.globals.length:Int)<=x.sub)||(decide (x.k<0)||decide (p.globals.getD x.sub.toNat 0<x.k)))))
def vI(p:Pg)(code:List xY)(n:Nat)(x:xY):Bool:=wm x&&(Yi code n x&&XA p x)
def zbY(p:Pg)(code:List xY)(n:Nat):Bool:=match code[n]? with
 |none=>true
 |some x=>vI p code n x
def mj(p:Pg)(code:List xY):Bool:=(List.range code.length).all (zbY p code)
def oK(p:Pg)(f:Go.As.Fn):Bool:=mj p f.code&&(QZ f.code && !decide (100000<(f.code.length:Int)))
def KG(p:Pg):Bool:=Go.As.qO p&&(p.globals.all Fu&&p.funcs.all (oK p))
theorem Hi{p:Pg}{code:List xY}{n:Nat}{x:xY}(hx:code[n]? = some x)(h:vI p code n x=false):mj p code=false:=by
 have hn:n<code.length:=by
  rcases aax n code.length with q|q
  ·exact q
  ·rw[aak q]at hx;cases hx
 unfold mj;rw[List.all_eq_false];exact⟨n,by simpa using hn,by unfold zbY;rw[hx];simp[h]⟩
theorem Dj{p:Pg}{code:List xY}(h:∀n x,n<code.length->code[n]? = some x->vI p code n x=true):mj p code=true:=by
 unfold mj;rw[aaM];intro n hn;have hn:n<code.length:=by simpa using hn
 unfold zbY;rw[aac hn];exact h n _ hn (aac hn)
section
variable {p:Pg}{f:Go.As.Fn}{lo:yE}{H:za}{b1 b5:Nat}{R:aaa->za->Prop}{J:List aaa->za->Prop}
theorem zeh(RP:Rd lo (wR · p))(hfm:f∈p.funcs)(s:Sat lo H [pt b5 (.cells f.row 47),pt b1 (.cells p.row 25)])(v:aaa)
  (kb:mj p f.code=false->∀h,R (.bool false) h)
  (k:∀h v,mj p f.code=true->Sat lo h [pt b5 (.cells f.row 47),pt b1 (.cells p.row 25)]->J [v,.bool (QZ f.code)] h) :
  LP (iH (pi b5) J R (pi b1)) [v,.bool false,pm 0] H:=by
 refine qQ (λn vs h'=>∃(i:Nat) (v0:aaa),i<=f.code.length/\n=f.code.length-i/\vs=[v0,.bool (QZ (f.code.take i)),pm (i:Nat)]/\(∀m x,m<i->f.code[m]? = some x->vI p f.code m x=true)/\Sat lo h' [pt b5 (.cells f.row 47),pt b1 (.cells p.row 25)]) f.code.length ⟨0,v,aaX _,rfl,rfl,λm x hm=>by omega,s⟩ ?_;rintro n vs h' ⟨i,v0,hi,rfl,rfl,hall,s⟩;have P:=RP.at s;have F:=P.fns f hfm;have g5:=s.get;have cn:=F.code.kY;have cc:=F.code.fC;have cl:=λh'=>kP F.code 3 h';have gvn:=P.globals.kY;have fvn:=P.funcs.kY;have gl:=λh'=>Ww P.globals 3 h';have fl:=λh'=>Z6 P.funcs 3 h';unfold iH;by_cases hc:(i:Int)<(f.code.length:Int)
 ·obtain⟨x,hx,hxm⟩:=get_some (l:=f.code) (k:=i) (by omega);obtain⟨bi,oi,ci,ti,ha,hbi,hgi,hle,htk,hki⟩:=Z2 F.code (i:=i) (r:=x.row) (by rw[aau,hx];rfl) rfl;have et:f.code.take (i+1)=f.code.take i++[x]:=by rw[acx,hx];rfl
  have hsn:QZ (f.code.take (i+1))=(QZ (f.code.take i) || !decide (x.op=20)):=by rw[et];simp[QZ]
  have hin:=inc (show i<4611686018427387904 by have:=F.ru;omega);have no:vI p f.code i x=false->∀h,R (.bool false) h:=λe=>kb (Hi hx e)
  have go:vI p f.code i x=true->∀m y,m<i+1->f.code[m]? = some y->vI p f.code m y=true:=λe m y hm hy=>by
   by_cases q:m=i
   ·subst q;rw[hx]at hy;cases hy;exact e
   ·exact hall m y (by omega) hy
  simp only[EE,nth,Value.cells,↓xg,zN,zo,Yd,xx,G3,uB,tJ,hc,g5,cn,cl,ha,hgi,hle,htk];refine w8 s λb8 h2 s2=>?_;simp only[EE,Nat.reduceAdd,G1];refine z9 s2 (by simp) rfl λh3 s3=>?_;have g8:=s3.get;have g5:=(s3.p 1).get;have g1:=(s3.p 2).get;have st:=s3.drop
  have go2:vI p f.code i x=true->∀(w:aaa) (sb:Bool),sb=(QZ (f.code.take i) || !decide (x.op=20))->∃m,m<f.code.length-i /\ ∃(i':Nat) (v0:aaa),i'<=f.code.length/\m=f.code.length-i' /\ [w,Value.bool sb,pm ((i+1:Nat):Int)]=[v0,.bool (QZ (f.code.take i')),pm (i':Nat)]/\(∀m x,m<i'->f.code[m]? = some x->vI p f.code m x=true)/\Sat lo h3 [pt b5 (.cells f.row 47),pt b1 (.cells p.row 25)]:=λe w sb hsb=>
   ⟨f.code.length-(i+1),by omega,i+1,w,by omega,rfl,by rw[hsn,hsb],go e,st⟩
  cases hsb:QZ (f.code.take i) with
  |true=>
   rw[hsb]at go2;simp only[EE,nth,zb,Nat.reduceAdd,zN,xx,zf,Qw,Qx,g8];refine xU (nf (x:=x)) ?_;cases hR:wm x with
   |false=>
    simp only[EE,Qv];exact no (by simp[vI,hR]) _
   |true=>
    by_cases o20:x.op=20
    ·simp only[EE,zb,Nat.reduceAdd,zN,zo,bE,zf,vB,wO,g8,g5,o20];refine iS (by simp only[yy];rfl) (KB ((RP.at s3).fns f hfm) x.l) ?_;by_cases e1:ud f.code x.l 0=(i:Int)
     ·simp only[EE,nth,zb,Nat.reduceAdd,Int.reduceEq,zo,zf,wO,g8,hin,o20,e1];exact go2 (by simp[vI,Yi,XA,hR,o20,e1]) _ _ (by simp)
     ·simp only[EE,nth,wO,e1];exact no (by simp[vI,Yi,XA,hR,o20,e1]) _
    by_cases o18:x.op=18
    ·simp only[EE,zb,Nat.reduceAdd,Int.reduceEq,zN,zo,bE,zf,vB,wO,g8,g5,o18];refine iS (by simp only[yy];rfl) (KB ((RP.at s3).fns f hfm) x.l) ?_;by_cases e1:ud f.code x.l 0<0
     ·simp only[EE,XP,XQ,e1];exact no (by simp[vI,Yi,XA,hR,o18,e1]) _
     ·simp only[EE,nth,zb,Nat.reduceAdd,Int.reduceEq,zo,zf,wO,g8,hin,o18,e1];exact go2 (by simp[vI,Yi,XA,hR,o18,e1]) _ _ (by simp)
    by_cases o19:x.op=19
    ·simp only[EE,zb,Nat.reduceAdd,Int.reduceEq,zN,zo,bE,zf,vB,wO,g8,g5,o19];refine iS (by simp only[yy];rfl) (KB ((RP.at s3).fns f hfm) x.l) ?_;by_cases e1:ud f.code x.l 0<0
     ·simp only[EE,XP,XQ,e1];exact no (by simp[vI,Yi,XA,hR,o19,e1]) _
     ·simp only[EE,nth,zb,Nat.reduceAdd,Int.reduceEq,zo,zf,wO,g8,hin,o19,e1];exact go2 (by simp[vI,Yi,XA,hR,o19,e1]) _ _ (by simp)
    by_cases o21:x.op=21
    ·by_cases e1:x.sub<0
     ·simp only[EE,zb,Nat.reduceAdd,Int.reduceEq,zo,zf,zB,wO,g8,o21,e1];exact no (by simp[vI,Yi,XA,hR,o21,e1]) _
     by_cases e2:x.sub ≥ (p.funcs.length:Int)
     ·simp only[EE,zb,Nat.reduceAdd,Int.reduceEq,zo,vZ,yZ,zf,zB,wO,g8,g1,fvn,fl,o21,e1,e2];have e2:(p.funcs.length:Int)<=x.sub:=e2;exact no (by simp[vI,Yi,XA,hR,o21,e2]) _
     simp only[EE,nth,zb,Nat.reduceAdd,Int.reduceEq,zo,vZ,yZ,zf,zB,wO,g8,g1,fvn,fl,hin,o21,e1,e2];have e2:¬(p.funcs.length:Int)<=x.sub:=e2;exact go2 (by simp[vI,Yi,XA,hR,o21,e1,e2]) _ _ (by simp)
    by_cases o6:x.op=6
    ·by_cases e1:x.sub<0
     ·simp only[EE,zb,Nat.reduceAdd,Int.reduceEq,zo,zf,zB,wO,g8,o6,e1];exact no (by simp[vI,Yi,XA,hR,o6,e1]) _
     by_cases e2:x.sub ≥ (p.globals.length:Int)
     ·simp only[EE,zb,Nat.reduceAdd,Int.reduceEq,zo,w9,xZ,zf,zB,wO,g8,g1,gvn,gl,o6,e1,e2];have e2:(p.globals.length:Int)<=x.sub:=e2;exact no (by simp[vI,Yi,XA,hR,o6,e2]) _
     by_cases e3:x.k<0
     ·simp only[EE,zb,Nat.reduceAdd,Int.reduceEq,zo,w9,xZ,zf,zB,zX,wO,g8,g1,gvn,gl,o6,e1,e2,e3];exact no (by simp[vI,Yi,XA,hR,o6,e3]) _
     obtain⟨z,hz,hzm⟩:=get_some (l:=p.globals) (k:=x.sub.toNat) (by omega);obtain⟨bz,oz,cz,tz,haz,hbz,hgz,hatz⟩:=Jo (RP.at s3).globals hz;rw[abZ (by omega)]at haz;have hd:p.globals.getD x.sub.toNat 0=z:=by rw[aaF,hz];rfl
     by_cases e4:x.k>z
     ·simp only[EE,zb,Nat.reduceAdd,Int.reduceEq,zo,w9,xZ,zf,zB,zX,wO,g8,g1,gvn,gl,o6,e1,e2,e3,haz,hgz,hatz,e4];have e4:z<x.k:=e4;exact no (by simp only[vI,Yi,XA,hd];simp[hR,o6,e4]) _
     simp only[EE,nth,zb,Nat.reduceAdd,Int.reduceEq,zo,w9,xZ,zf,zB,zX,wO,g8,g1,gvn,gl,hin,o6,e1,e2,e3,haz,hgz,hatz,e4];have e4:¬z<x.k:=e4;have e2:¬(p.globals.length:Int)<=x.sub:=e2;exact go2 (by simp only[vI,Yi,XA,hd];simp[hR,o6,e1,e2,e3,e4]) _ _ (by simp)
    simp only[EE,nth,zb,Nat.reduceAdd,zo,zf,wO,g8,hin,o20,o18,o19,o21,o6];exact go2 (by simp[vI,Yi,XA,hR,o20,o18,o19,o21,o6]) _ _ (by simp)
  |false=>
   rw[hsb]at go2;simp only[EE,nth,zb,Nat.reduceAdd,zN,zo,xx,zf,Qw,Qx,g8];refine xU (nf (x:=x)) ?_;cases hR:wm x with
   |false=>
    simp only[EE,Qv];exact no (by simp[vI,hR]) _
   |true=>
    by_cases o20:x.op=20
    ·simp only[EE,zb,Nat.reduceAdd,zN,zo,bE,zf,vB,wO,g8,g5,o20];refine iS (by simp only[yy];rfl) (KB ((RP.at s3).fns f hfm) x.l) ?_;by_cases e1:ud f.code x.l 0=(i:Int)
     ·simp only[EE,nth,zb,Nat.reduceAdd,Int.reduceEq,zo,zf,wO,g8,hin,o20,e1];exact go2 (by simp[vI,Yi,XA,hR,o20,e1]) _ _ (by simp[o20])
     ·simp only[EE,nth,wO,e1];exact no (by simp[vI,Yi,XA,hR,o20,e1]) _
    by_cases o18:x.op=18
    ·simp only[EE,zb,Nat.reduceAdd,Int.reduceEq,zN,zo,bE,zf,vB,wO,g8,g5,o18];refine iS (by simp only[yy];rfl) (KB ((RP.at s3).fns f hfm) x.l) ?_;by_cases e1:ud f.code x.l 0<0
     ·simp only[EE,XP,XQ,e1];exact no (by simp[vI,Yi,XA,hR,o18,e1]) _
     ·simp only[EE,nth,zb,Nat.reduceAdd,Int.reduceEq,zo,zf,wO,g8,hin,o18,e1];exact go2 (by simp[vI,Yi,XA,hR,o18,e1]) _ _ (by simp[o18])
    by_cases o19:x.op=19
    ·simp only[EE,zb,Nat.reduceAdd,Int.reduceEq,zN,zo,bE,zf,vB,wO,g8,g5,o19];refine iS (by simp only[yy];rfl) (KB ((RP.at s3).fns f hfm) x.l) ?_;by_cases e1:ud f.code x.l 0<0
     ·simp only[EE,XP,XQ,e1];exact no (by simp[vI,Yi,XA,hR,o19,e1]) _
     ·simp only[EE,nth,zb,Nat.reduceAdd,Int.reduceEq,zo,zf,wO,g8,hin,o19,e1];exact go2 (by simp[vI,Yi,XA,hR,o19,e1]) _ _ (by simp[o19])
    by_cases o21:x.op=21
    ·by_cases e1:x.sub<0
     ·simp only[EE,zb,Nat.reduceAdd,Int.reduceEq,zo,zf,zB,wO,g8,o21,e1];exact no (by simp[vI,Yi,XA,hR,o21,e1]) _
     by_cases e2:x.sub ≥ (p.funcs.length:Int)
     ·simp only[EE,zb,Nat.reduceAdd,Int.reduceEq,zo,vZ,yZ,zf,zB,wO,g8,g1,fvn,fl,o21,e1,e2];have e2:(p.funcs.length:Int)<=x.sub:=e2;exact no (by simp[vI,Yi,XA,hR,o21,e2]) _
     simp only[EE,nth,zb,Nat.reduceAdd,Int.reduceEq,zo,vZ,yZ,zf,zB,wO,g8,g1,fvn,fl,hin,o21,e1,e2];have e2:¬(p.funcs.length:Int)<=x.sub:=e2;exact go2 (by simp[vI,Yi,XA,hR,o21,e1,e2]) _ _ (by simp[o21])
    by_cases o6:x.op=6
    ·by_cases e1:x.sub<0
     ·simp only[EE,zb,Nat.reduceAdd,Int.reduceEq,zo,zf,zB,wO,g8,o6,e1];exact no (by simp[vI,Yi,XA,hR,o6,e1]) _
     by_cases e2:x.sub ≥ (p.globals.length:Int)
     ·simp only[EE,zb,Nat.reduceAdd,Int.reduceEq,zo,w9,xZ,zf,zB,wO,g8,g1,gvn,gl,o6,e1,e2];have e2:(p.globals.length:Int)<=x.sub:=e2;exact no (by simp[vI,Yi,XA,hR,o6,e2]) _
     by_cases e3:x.k<0
     ·simp only[EE,zb,Nat.reduceAdd,Int.reduceEq,zo,w9,xZ,zf,zB,zX,wO,g8,g1,gvn,gl,o6,e1,e2,e3];exact no (by simp[vI,Yi,XA,hR,o6,e3]) _
     obtain⟨z,hz,hzm⟩:=get_some (l:=p.globals) (k:=x.sub.toNat) (by omega);obtain⟨bz,oz,cz,tz,haz,hbz,hgz,hatz⟩:=Jo (RP.at s3).globals hz;rw[abZ (by omega)]at haz;have hd:p.globals.getD x.sub.toNat 0=z:=by rw[aaF,hz];rfl
     by_cases e4:x.k>z
     ·simp only[EE,zb,Nat.reduceAdd,Int.reduceEq,zo,w9,xZ,zf,zB,zX,wO,g8,g1,gvn,gl,o6,e1,e2,e3,haz,hgz,hatz,e4];have e4:z<x.k:=e4;exact no (by simp only[vI,Yi,XA,hd];simp[hR,o6,e4]) _
     simp only[EE,nth,zb,Nat.reduceAdd,Int.reduceEq,zo,w9,xZ,zf,zB,zX,wO,g8,g1,gvn,gl,hin,o6,e1,e2,e3,haz,hgz,hatz,e4];have e4:¬z<x.k:=e4;have e2:¬(p.globals.length:Int)<=x.sub:=e2;exact go2 (by simp only[vI,Yi,XA,hd];simp[hR,o6,e1,e2,e3,e4]) _ _ (by simp[o6])
    simp only[EE,nth,zb,Nat.reduceAdd,zo,zf,wO,g8,hin,o20,o18,o19,o21,o6];exact go2 (by simp[vI,Yi,XA,hR,o20,o18,o19,o21,o6]) _ _ (by simp[o20])
 ·have e:i=f.code.length:=by omega
  subst e;rw[acd];simp only[EE,nth,zo,Yd,uB,hc,g5,cn,cl];exact k h' v0 (Dj λn x hn hx=>hall n x hn hx) s
end
open Go.As (qO)
section
variable {p:Pg}{lo:yE}{H:za}{b1:Nat}
theorem zbS(RP:Rd lo (wR · p))(s:Sat lo H [pt b1 (.cells p.row 25)]){B:Bool}(hB:B=p.funcs.all (oK p))(v:aaa):LP (iI (pi b1) (λvs76 h77=>xr B (.bool true) h77) (xr B)) [v,pm 0] H:=by
 refine qQ (λn vs h'=>∃(i:Nat) (v0:aaa),i<=p.funcs.length/\n=p.funcs.length-i/\vs=[v0,pm (i:Nat)]/\(∀k,k<i->Lh p.funcs (oK p) k=true)/\Sat lo h' [pt b1 (.cells p.row 25)])
  p.funcs.length ⟨0,v,aaX _,rfl,rfl,λk hk=>by omega,s⟩ ?_
 rintro n vs h' ⟨i,v0,hi,rfl,rfl,hall,s⟩;have P:=RP.at s;have g1:=s.get;have fvn:=P.funcs.kY;have fl:=λh'=>Z6 P.funcs 3 h';unfold iI;by_cases hc:(i:Int)<(p.funcs.length:Int)
 ·obtain⟨f,hf,hfm⟩:=get_some (l:=p.funcs) (k:=i) (by omega);obtain⟨bi,oi,ci,ti,ha,hbi,hgi,hle,htk,_⟩:=Ws P.funcs (i:=i) (r:=f.row) (by rw[aau,hf];rfl) rfl;have cvn:=(P.fns f hfm).code.kY;have cvc:=(P.fns f hfm).code.fC;have cl:=λh'=>kP (P.fns f hfm).code 3 h';have hin:=inc (show i<4611686018427387904 by have:=P.PK;omega);have no:oK p f=false->B=false:=λe=>by rw[hB,U1 hf e]
  simp only[EE,nth,Value.cells,↓xg,zN,zo,vZ,bE,Td,yZ,tL,hc,g1,fvn,fl,ha,hgi,hle,htk];refine w8 s λb5 h2 s2=>?_;simp only[EE,Nat.reduceAdd,S9];refine z9 s2 (by simp) (by simp[cvc];rfl) λh3 s3=>?_;simp only[nth,↓xg];refine zeh RP hfm s3 _ (λe h=>?_) (λh4 w hgood s4=>?_)
  ·show Value.bool false=.bool B;rw[no (by unfold oK;rw[e];rfl)]
  ·have g5:=s4.get;unfold tK;cases hs:QZ f.code with
   |false=>
    simp only[EE,nth,JQ,JR,JS];rw[no (by unfold oK;simp[hs])];rfl
   |true=>
    by_cases c1:(f.code.length:Int)>100000
    ·simp only[EE,nth,zo,Yd,uB,JQ,JR,JS,g5,cvn,cl,c1];rw[no (by have c1:100000<(f.code.length:Int):=c1;unfold oK;simp[c1])];rfl
    ·simp only[EE,nth,zo,Yd,uB,JQ,JR,JS,tM,g5,cvn,cl,c1,hin]
     exact⟨p.funcs.length-(i+1),by omega,i+1,_,by omega,rfl,rfl,λk hk=>(by
      by_cases q:k=i
      ·subst q;rw[J4 hf];have c1:¬100000<(f.code.length:Int):=c1;unfold oK;simp[hgood,hs,c1]
      ·exact hall k (by omega)),s4.k [1]⟩
 ·have hi9:i=p.funcs.length:=by omega
  subst hi9;simp only[EE,nth,zo,vZ,yZ,hc,g1,fvn,fl];rw[hB,Xm hall];rfl
theorem zbW(RP:Rd lo (wR · p))(s:Sat lo H [pt b1 (.cells p.row 25)]){B:Bool}(hB:B=(p.globals.all Fu&&p.funcs.all (oK p))){vs:List aaa}:iJ (pi b1) (xr B) vs H:=by
 unfold iJ;simp only[↓xg]
 refine qQ (λn vs h'=>∃(i:Nat) (v0:aaa),i<=p.globals.length/\n=p.globals.length-i/\vs=[v0,pm (i:Nat)]/\(∀k,k<i->Lh p.globals Fu k=true)/\Sat lo h' [pt b1 (.cells p.row 25)])
  p.globals.length ⟨0,nth vs 0,aaX _,rfl,rfl,λk hk=>by omega,s⟩ ?_
 rintro n vs h' ⟨i,v0,hi,rfl,rfl,hall,s⟩;have P:=RP.at s;have g1:=s.get;have gvn:=P.globals.kY;have gl:=λh'=>Ww P.globals 3 h';unfold CV;by_cases hc:(i:Int)<(p.globals.length:Int)
 ·obtain⟨z,hz,hzm⟩:=get_some (l:=p.globals) (k:=i) (by omega);obtain⟨bi,oi,ci,ti,ha,hbi,hgi,hat⟩:=Jo P.globals hz;have no:Fu z=false->B=false:=λe=>by rw[hB,U1 hz e];rfl
  have hin:=inc (show i<4611686018427387904 by have:=P.LJ;omega);by_cases z0:z<0
  ·simp only[EE,nth,↓xg,zo,w9,xZ,fe,fh,fj,fo,ft,hc,g1,gvn,gl,ha,hgi,hat,z0];rw[no (by unfold Fu;simp[z0])];rfl
  by_cases z1:z>65536
  ·simp only[EE,nth,↓xg,zo,w9,xZ,fe,fh,fj,fo,ft,hc,g1,gvn,gl,ha,hgi,hat,z0,z1];rw[no (by have z1:65536<z:=z1;unfold Fu;simp[z1])];rfl
  simp only[EE,nth,↓xg,zo,w9,xZ,fe,fh,fj,fo,ft,CU,hc,g1,gvn,gl,ha,hgi,hat,z0,z1,hin]
  exact⟨p.globals.length-(i+1),by omega,i+1,_,by omega,rfl,rfl,λk hk=>(by
   by_cases q:k=i
   ·subst q;rw[J4 hz];have z1:¬65536<z:=z1;unfold Fu;simp[z0,z1]
   ·exact hall k (by omega)),s⟩
 ·have hi9:i=p.globals.length:=by omega
  subst hi9;simp only[EE,nth,↓xg,zo,w9,xZ,hc,g1,gvn,gl];refine zbS (B:=B) RP s ?_ _;rw[hB,Xm hall];rfl
theorem NL{h:za}(P:wR h p):xC pu 15 [p.val] h (.bool (KG p)):=by
 apply yB;replace P:=P.lock;generalize h.lock=L at P;apply YG;intro wf;apply IQ;unfold M6;have s0:Sat (.of L) L []:=Sat.self wf.2;have RP:Rd (.of L) (wR · p):=Rd.of (yE.uf L) P λh' o=>P.old o;have gvn:=P.globals.kY;have fvn:=P.funcs.kY;have gvc:=P.globals.fC;have fvc:=P.funcs.fC;have fl:=λh'=>Z6 P.funcs 3 h';have gl:=λh'=>Ww P.globals 3 h';simp only[EE,Value.cells];refine w8 s0 λb1 h2 s2=>?_;have g1:=s2.get;have no:qO p=false->KG p=false:=λe=>by unfold KG;rw[e];rfl
 by_cases c4:(p.globals.length:Int)>200
 ·simp only[EE,zo,w9,xZ,YJ,YK,YL,YM,YN,YO,YP,YQ,YR,YS,YT,g1,gvn,gl,c4];rw[no (by have c4:(200:Int)<p.globals.length:=c4;unfold qO;simp[c4])];rfl
 by_cases c3:(p.funcs.length:Int)>100
 ·simp only[EE,zo,w9,vZ,xZ,yZ,YJ,YK,YL,YM,YN,YO,YP,YQ,YR,YS,YT,g1,fvn,fl,gvn,gl,c4,c3];rw[no (by have c3:(100:Int)<p.funcs.length:=c3;unfold qO;simp[c3])];rfl
 by_cases c1:p.main<0
 ·simp only[EE,zo,w9,vZ,xZ,yZ,jR,YJ,YK,YL,YM,YN,YO,YP,YQ,YR,YS,YT,g1,fvn,fl,gvn,gl,c4,c3,c1];rw[no (by unfold qO;simp[c1])];rfl
 by_cases c2:p.main ≥ (p.funcs.length:Int)
 ·simp only[EE,zo,w9,vZ,xZ,yZ,jR,YJ,YK,YL,YM,YN,YO,YP,YQ,YR,YS,YT,g1,fvn,fl,gvn,gl,c4,c3,c1,c2];rw[no (by have c2:(p.funcs.length:Int)<=p.main:=c2;unfold qO;simp[c2])];rfl
 by_cases c5:p.params<0
 ·simp only[EE,zo,w9,vZ,xZ,yZ,jR,ku,YJ,YK,YL,YM,YN,YO,YP,YQ,YR,YS,YT,g1,fvn,fl,gvn,gl,c4,c3,c1,c2,c5];rw[no (by unfold qO;simp[c5])];rfl
 by_cases c6:p.params>6
 ·simp only[EE,zo,w9,vZ,xZ,yZ,jR,ku,YJ,YK,YL,YM,YN,YO,YP,YQ,YR,YS,YT,g1,fvn,fl,gvn,gl,c4,c3,c1,c2,c5,c6];rw[no (by have c6:6<p.params:=c6;unfold qO;simp[c6])];rfl
 simp only[EE,zo,w9,vZ,xZ,yZ,jR,ku,YJ,YK,YL,YM,YN,YO,YP,YQ,YR,YS,YT,g1,fvn,fl,gvn,gl,c4,c3,c1,c2,c5,c6];refine zbW RP s2 ?_
 have hs:qO p=true:=by
  have c2:¬(p.funcs.length:Int)<=p.main:=c2;have c3:¬(100:Int)<p.funcs.length:=c3;have c4:¬(200:Int)<p.globals.length:=c4;have c6:¬6<p.params:=c6;unfold qO;simp[c1,c2,c3,c4,c5,c6]
 unfold KG;rw[hs];rfl
end
open Go.As (Yx AN Xw UG m3 Ze hasB gx Wz yC)
theorem ue(k:Int):gx k=bB k:=by
 unfold gx bB;rw[aci];simp only[aaR,aah,IntKind.wrap,IntKind.bits,IntKind.signed];simp;omega
theorem EO(m:List (Int×aaa))(a l:Int):hasB (QU m a (.bool true)) l=(decide (a=l)||hasB m l):=by
 unfold hasB;rw[mT];by_cases h:a=l
 ·rw[aai h];simp[h]
 ·rw[aae h];simp[h]
def kX(l:Int)(x:xY):Bool:=decide (x.op=20/\x.l=l)
def dN:List xY->List (Int×aaa)->Bool
 |[],_=>true
 |x::xs,m=>if x.op=20 then !hasB m x.l&&dN xs (QU m x.l (.bool true)) else dN xs m
def Aa:List xY->List (Int×aaa)->List (Int×aaa)
 |[],m=>m
 |x::xs,m=>if x.op=20 then Aa xs (QU m x.l (.bool true)) else Aa xs m
theorem Fk(gl:List Int):∀(xs:List xY) (m:List (Int×aaa)) (b:Bool),Ze gl xs m b=if (xs.all (Xw gl)&&dN xs m)=true then some (Aa xs m,b||QZ xs) else none
 |[],m,b=>by simp[Ze,dN,Aa,QZ]
 |x::xs,m,b=>by
  unfold Ze dN Aa;by_cases h1:Xw gl x=false
  ·rw[aai h1];simp[h1]
  have h1':Xw gl x=true:=by simpa using h1
  rw[aae h1];by_cases h2:x.op=20
  ·rw[aai h2,aai h2,aai h2];by_cases h3:hasB m x.l=true
   ·rw[aai h3];simp[h3]
   ·have h3':hasB m x.l=false:=(by simpa using h3);rw[aae h3,Fk gl xs];simp[h1',h3',QZ,h2]
  ·rw[aae h2,aae h2,aae h2,Fk gl xs];simp[h1',QZ,h2]
theorem has_add:∀(xs:List xY) (m:List (Int×aaa)) (l:Int),hasB (Aa xs m) l=(hasB m l||xs.any (kX l))
 |[],m,l=>by simp[Aa]
 |x::xs,m,l=>by
  unfold Aa;by_cases h:x.op=20
  ·rw[aai h,has_add xs,EO];simp[kX,h,Bool.or_assoc,Bool.or_comm,Bool.or_left_comm]
  ·rw[aae h,has_add xs];simp[kX,h]
theorem Ax:∀(xs:List xY) (m:List (Int×aaa)),dN xs m=true ↔ ∀(n:Nat) x,xs[n]? = some x->x.op=20->hasB m x.l=false /\ ∀(j:Nat) y,j<n->xs[j]? = some y->kX x.l y=false
 |[],m=>by simp[dN]
 |x::xs,m=>by
  unfold dN;have ih:=λm'=>Ax xs m';by_cases h:x.op=20
  ·rw[aai h,aah,ih]
   constructor
   ·rintro⟨h1,h2⟩ n y hy ho;cases n with
    |zero=>simp only[aaf,aab]at hy;subst hy;exact⟨by simpa using h1,λj z hj=>by omega⟩
    |succ n=>
     simp only[aal]at hy;obtain⟨a,b⟩:=h2 n y hy ho;rw[EO]at a;simp only[acf,aaL]at a;refine⟨a.2,λj z hj hz=>?_⟩;cases j with
     |zero=>simp only[aaf,aab]at hz;subst hz;simp[kX,h,a.1]
     |succ j=>simp only[aal]at hz;exact b j z (by omega) hz
   ·intro H;refine⟨by have:=(H 0 x rfl h).1;simp[this],λn y hy ho=>?_⟩;obtain⟨a,b⟩:=H (n+1) y (by simpa using hy) ho;rw[EO];have c:=b 0 x (by omega) rfl;refine⟨?_,λj z hj hz=>b (j+1) z (by omega) (by simpa using hz)⟩;have c:¬x.l=y.l:=by simpa [kX,h] using c
    simp[a,c]
  ·rw[aae h,ih]
   constructor
   ·intro H n y hy ho;cases n with
    |zero=>simp only[aaf,aab]at hy;subst hy;exact absurd ho h
    |succ n=>
     simp only[aal]at hy;obtain⟨a,b⟩:=H n y hy ho;refine⟨a,λj z hj hz=>?_⟩;cases j with
     |zero=>simp only[aaf,aab]at hz;subst hz;simp[kX,h]
     |succ j=>simp only[aal]at hz;exact b j z (by omega) hz
   ·intro H n y hy ho;obtain⟨a,b⟩:=H (n+1) y (by simpa using hy) ho;exact⟨a,λj z hj hz=>b (j+1) z (by omega) (by simpa using hz)⟩
theorem AM:∀(xs:List xY) (l:Int) (k:Nat),(ud xs l k = -1/\xs.any (kX l)=false) \/ ∃j:Nat,ud xs l k=((k+j:Nat):Int)/\(∃x,xs[j]? = some x/\kX l x=true) /\ ∀(i:Nat) y,i<j->xs[i]? = some y->kX l y=false
 |[],l,k => .inl ⟨rfl,rfl⟩
 |x::xs,l,k=>by
  unfold ud;by_cases h:x.op=20/\x.l=l
  ·rw[aai h];exact .inr ⟨0,rfl,⟨x,rfl,by unfold kX;exact abE h⟩,λi y hi=>by omega⟩
  ·rw[aae h];have hx:kX l x=false:=by unfold kX;exact abR h
   rcases AM xs l (k+1) with⟨a,b⟩|⟨j,a,⟨y,hy,hl⟩,b⟩
   ·exact .inl ⟨a,by simp[hx,b]⟩
   ·refine .inr ⟨j+1,by rw[a];omega,⟨y,by simpa using hy,hl⟩,λi z hi hz=>?_⟩;cases i with
    |zero=>simp only[aaf,aab]at hz;subst hz;exact hx
    |succ i=>exact b i z (by omega) (by simpa using hz)
theorem AL{code:List xY}{n:Nat}{x:xY}(hx:code[n]? = some x)(h:x.op=20):(ud code x.l 0=(n:Int)) ↔ ∀(j:Nat) y,j<n->code[j]? = some y->kX x.l y=false:=by
 have hl:kX x.l x=true:=by simp[kX,h]
 rcases AM code x.l 0 with⟨a,b⟩|⟨j,a,⟨y,hy,hyl⟩,b⟩
 ·rw[List.any_eq_false]at b;exact absurd hl (b x (aaA hx))
 ·rw[a]
  constructor
  ·intro q;have:j=n:=by omega
   subst this;exact b
  ·intro q;rcases Nat.lt_trichotomy j n with c|c|c
   ·have:=q j y c hy;rw[this]at hyl;cases hyl
   ·omega
   ·have:=b n x c hx;rw[this]at hl;cases hl
theorem fJ(code:List xY)(l:Int):(ud code l 0<0) ↔ code.any (kX l)=false:=by
 rcases AM code l 0 with⟨a,b⟩|⟨j,a,⟨y,hy,hyl⟩,b⟩
 ·rw[a,b];simp
 ·rw[a];have:code.any (kX l)=true:=List.any_eq_true.2 ⟨y,aaA hy,hyl⟩;rw[this]
  constructor
  ·intro q;omega
  ·intro q;cases q
theorem zgZ{op:Int}(h:JD op=true):E4 op=true:=by
 unfold JD at h;unfold E4;simp only[aaR]at h ⊢;omega
theorem zcn(x:xY):Wz x=(QV x&&(KK x&&(eD x&&oX x))):=by
 unfold Wz QV KK eD oX;have hw := @zgZ x.op;generalize E4 x.op=R at hw ⊢;generalize JD x.op=W at hw ⊢;generalize m7 x.op=M;generalize qS x.op=F;rw[aci];cases R <;> cases W <;> cases M <;> cases F <;> simp at hw ⊢ <;> omega
def Yy(x:xY):Bool := !decide (x.op=18\/x.op=19)||(decide (0<=x.l)&&decide (x.l<=10000000))
def QR(gl:List Int)(x:xY):Bool := !(decide (x.op=6)&&(decide (x.sub<0)||(decide ((gl.length:Int)<=x.sub)||(decide (x.k<0)||decide (gl.getD x.sub.toNat 0<x.k)))))
theorem zcy(gl:List Int)(x:xY):(yC gl x&&Yy x)=(tailD x&&QR gl x):=by
 obtain⟨op,r,m,sub,cc,l,k⟩:=x;by_cases o3:op=3
 ·subst o3;simp[yC,tailD,Yy,QR,ue]
 by_cases o4:op=4
 ·subst o4;simp[yC,tailD,Yy,QR,ue]
 by_cases o5:op=5
 ·subst o5;simp[yC,tailD,Yy,QR,ue]
 by_cases o16:op=16
 ·subst o16;simp[yC,tailD,Yy,QR,ue]
 by_cases o7:op=7
 ·subst o7;simp[yC,tailD,Yy,QR,ue]
 by_cases o8:op=8
 ·subst o8;simp[yC,tailD,Yy,QR,ue]
 by_cases o9:op=9
 ·subst o9;simp[yC,tailD,Yy,QR,ue]
 by_cases o10:op=10
 ·subst o10;simp[yC,tailD,Yy,QR,ue]
 by_cases o11:op=11
 ·subst o11;simp[yC,tailD,Yy,QR,ue]
 by_cases o12:op=12
 ·subst o12;simp[yC,tailD,Yy,QR,ue]
 by_cases o17:op=17
 ·subst o17;simp[yC,tailD,Yy,QR,ue]
 by_cases o19:op=19
 ·subst o19;simp[yC,tailD,Yy,QR,ue]
 by_cases o18:op=18
 ·subst o18;simp[yC,tailD,Yy,QR,ue]
 by_cases o20:op=20
 ·subst o20;simp[yC,tailD,Yy,QR,ue]
 by_cases o23:op=23
 ·subst o23;simp[yC,tailD,Yy,QR,ue]
 by_cases o24:op=24
 ·subst o24;simp[yC,tailD,Yy,QR,ue]
 by_cases o6:op=6
 ·subst o6;rw[aci];simp[yC,tailD,Yy,QR]
 simp[yC,tailD,Yy,QR,o3,o4,o5,o16,o7,o8,o9,o10,o11,o12,o17,o19,o18,o20,o23,o24,o6]
theorem zes(gl:List Int)(x:xY):(Xw gl x&&Yy x)=(wm x&&QR gl x):=by
 have t:=zcy gl x;unfold Xw wm;rw[zcn];have a:decide (1<=x.op) = !decide (x.op<1):=by rw[aci];simp
 have b:decide (x.op<=26) = !decide (26<x.op):=by rw[aci];simp
 rw[a,b];generalize yC gl x=T at t ⊢;generalize Yy x=J at t ⊢;generalize tailD x=D at t ⊢;generalize QR gl x=L at t ⊢;generalize decide (x.op<1)=U;generalize decide (26<x.op)=V;cases QV x <;> cases KK x <;> cases eD x <;> cases oX x <;> cases U <;> cases V <;> simp;exact t
theorem Ow(p:Pg)(x:xY):XA p x=(!(decide (x.op=21)&&(decide (x.sub<0)||decide ((p.funcs.length:Int)<=x.sub)))&&QR p.globals x):=rfl
theorem HL{gl:List Int}{x:xY}:(Xw gl x=true/\Yy x=true) ↔ (wm x=true/\QR gl x=true):=by
 have:=zes gl x;rw[<- aah,<- aah,this]
theorem PT{gl:List Int}{y:xY}{l:Int}(h:Xw gl y=true)(hl:kX l y=true):0<=l/\l<=10000000:=by
 unfold kX at hl;have hl:=abc hl;unfold Xw at h;simp only[aah]at h;obtain⟨_,_,_,h⟩:=h;unfold yC at h;simp[hl.1,hl.2]at h;exact h
theorem zbG(p:Pg)(code:List xY):(code.all (Xw p.globals)&&dN code []&&code.all (UG p.funcs.length (Aa code [])))=mj p code:=by
 rw[aci];simp only[aah,aaM];have hany:∀l,hasB (Aa code []) l=code.any (kX l):=λl=>by rw[has_add];rfl
 constructor
 ·rintro⟨⟨h1,h2⟩,h3⟩;refine Dj λn x hn hx=>?_;have hm:=aaA hx;have i:=h1 x hm;have hp:=h3 x hm;unfold UG at hp;rw[hany]at hp;simp only[aah,aaz]at hp;obtain⟨p1,p2⟩:=hp
  have jp:(x.op=18\/x.op=19)->code.any (kX x.l)=true:=λq=>by
   rw[abE q]at p1;simpa using p1
  have j:Yy x=true:=by
   unfold Yy;by_cases q:x.op=18\/x.op=19
   ·obtain⟨y,hy,hyl⟩:=List.any_eq_true.1 (jp q);have:=PT (h1 y hy) hyl;simp[this]
   ·simp[q]
  obtain⟨d,le⟩:=HL.1 ⟨i,j⟩;unfold vI;rw[d,Ow,le,abe,abY]
  have lb:Yi code n x=true:=by
   unfold Yi
   have a:(decide (x.op=20) && !decide (ud code x.l 0=(n:Int)))=false:=by
    by_cases q:x.op=20
    ·have:=((Ax code []).1 h2 n x hx q).2;rw[abE ((AL hx q).2 this)];simp
    ·simp[q]
   have b:(decide (x.op=18\/x.op=19)&&decide (ud code x.l 0<0))=false:=by
    by_cases q:x.op=18\/x.op=19
    ·have e:¬ud code x.l 0<0:=λz=>by rw[fJ,jp q]at z;cases z
     rw[abR e];simp
    ·simp[q]
   rw[a,b];rfl
  rw[lb,p2];rfl
 ·intro h
  have H:∀n x,code[n]? = some x->vI p code n x=true:=λn x hx=>by
   rcases hq:vI p code n x with _|_
   ·rw[Hi hx hq]at h;cases h
   ·rfl
  have G:∀n x,code[n]? = some x->Xw p.globals x=true/\Yi code n x=true/\(decide (x.op=21)&&(decide (x.sub<0)||decide ((p.funcs.length:Int)<=x.sub)))=false:=λn x hx=>by
   have:=H n x hx;unfold vI at this;rw[Ow]at this;simp only[aah,aaz]at this;obtain⟨a,b,c,d⟩:=this;exact⟨(HL.2 ⟨a,d⟩).1,b,c⟩
  refine⟨⟨λx hx=>?_,(Ax code []).2 λn x hx q=>⟨rfl,?_⟩⟩,λx hx=>?_⟩
  ·obtain⟨n,hn,rfl⟩:=abS hx;exact(G n _ (aac hn)).1
  ·have:=(G n x hx).2.1;unfold Yi at this;simp only[aah,aaz]at this;have a:=this.1;rw[abE q]at a;have a:ud code x.l 0=(n:Int):=by simpa using a
   exact(AL hx q).1 a
  ·obtain⟨n,hn,rfl⟩:=abS hx;obtain⟨_,lb,c⟩:=G n _ (aac hn);unfold UG;rw[hany,c,aa5,abe];unfold Yi at lb;simp only[aah,aaz]at lb;have b:=lb.2;by_cases q:code[n].op=18\/code[n].op=19
   ·rw[abE q]at b;have b:¬ud code code[n].l 0<0:=by simpa using b
    have e:code.any (kX code[n].l)=true:=by
     rcases hq:code.any (kX code[n].l) with _|_
     ·exact absurd ((fJ _ _).2 hq) b
     ·rfl
    rw[e];simp
   ·rw[abR q];rfl
theorem zgo(p:Pg)(f:Go.As.Fn):oK p f=AN p f:=by
 unfold oK AN;rw[Fk,<- zbG];by_cases h:(f.code.all (Xw p.globals)&&dN f.code [])=true
 ·rw[aai h,h];simp only[m3,abY,Bool.false_or];cases f.code.all (UG p.funcs.length (Aa f.code [])) <;> cases QZ f.code <;> simp
 ·rw[aae h];have h:(f.code.all (Xw p.globals)&&dN f.code [])=false:=by simpa using h
  rw[h];simp[m3]
theorem mw(p:Pg):KG p=Yx p:=by
 unfold KG Yx
 have e:p.funcs.all (oK p)=p.funcs.all (AN p):=by
  congr 1
  exact funext λf=>zgo p f
 rw[e];rfl
end Go.Ar
namespace Go.An
open Go.Ai Go.Proofs Go.Mem Go.Rm
open Go.Rtl (zl zE Old yB xr inc wD yM)
open Go.As (xY Fn Pg wR WB St Fr DO pf dR zj xt)
def YE(p:Pg)(mb:Nat)(S:St)(ev lk wv gl cl:aaa)(lim:Int)(fr:Bool):List aaa :=
 [p.gv,p.fv,pm p.main,pm p.params,xG mb,pm S.kind,pm S.exit,ev,lk,pm S.steps,wv,pm S.used]++(DO S.jb++[pm S.a.k,pm S.a.n,pm S.a.b,pm S.b.k,pm S.b.n,pm S.b.b,.bool S.flags,cl,pm S.stack,pm S.jU,pm lim,gl,.bool fr])
def Zv(p:Pg)(mb:Nat)(S:St)(ev lk wv gl cl:aaa)(lim:Int)(fr:Bool):wQ := .cells (YE p mb S ev lk wv gl cl lim fr) 68
section
variable {p:Pg}{mb:Nat}{S:St}{ev lk wv gl cl:aaa}{lim:Int}{fr:Bool}
theorem vE:(YE p mb S ev lk wv gl cl lim fr).length=73:=by kernel_rfl
theorem Ba{n:Nat}:(n<=(YE p mb S ev lk wv gl cl lim fr).length)=(n<=73):=by rw[vE]
theorem PY:(YE p mb S ev lk wv gl cl lim fr)[1]? = some p.fv:=by kernel_rfl
theorem PZ:(YE p mb S ev lk wv gl cl lim fr)[4]? = some (xG mb):=by kernel_rfl
theorem LX:(YE p mb S ev lk wv gl cl lim fr)[5]? = some (pm S.kind):=by kernel_rfl
theorem zgL:(YE p mb S ev lk wv gl cl lim fr)[7]? = some ev:=by kernel_rfl
theorem zhO:(YE p mb S ev lk wv gl cl lim fr)[8]? = some lk:=by kernel_rfl
theorem zgM:(YE p mb S ev lk wv gl cl lim fr)[9]? = some (pm S.steps):=by kernel_rfl
theorem zdf:(YE p mb S ev lk wv gl cl lim fr)[10]? = some wv:=by kernel_rfl
theorem zad:(YE p mb S ev lk wv gl cl lim fr)[11]? = some (pm S.used):=by kernel_rfl
theorem Od:(YE p mb S ev lk wv gl cl lim fr)[66]? = some (.bool S.flags):=by kernel_rfl
theorem A9:(YE p mb S ev lk wv gl cl lim fr)[67]? = some cl:=by kernel_rfl
theorem Dy:(YE p mb S ev lk wv gl cl lim fr)[68]? = some (pm S.stack):=by kernel_rfl
theorem zae:(YE p mb S ev lk wv gl cl lim fr)[69]? = some (pm S.jU):=by kernel_rfl
theorem zdk:(YE p mb S ev lk wv gl cl lim fr)[70]? = some (pm lim):=by kernel_rfl
theorem zdl:(YE p mb S ev lk wv gl cl lim fr)[71]? = some gl:=by kernel_rfl
theorem zeI:((YE p mb S ev lk wv gl cl lim fr).drop 5).take 5=[pm S.kind,pm S.exit,ev,lk,pm S.steps]:=by kernel_rfl
theorem zdi:((YE p mb S ev lk wv gl cl lim fr).drop 60).take 3=[pm S.a.k,pm S.a.n,pm S.a.b]:=by kernel_rfl
theorem zdj:((YE p mb S ev lk wv gl cl lim fr).drop 63).take 3=[pm S.b.k,pm S.b.n,pm S.b.b]:=by kernel_rfl
variable (k_:Int)(v_:aaa)(q_:V)(f_:Bool)
theorem zaj:zb (YE p mb S ev lk wv gl cl lim fr) 5 [pm k_]=YE p mb {S with kind:=k_} ev lk wv gl cl lim fr:=by kernel_rfl
theorem zhP:zb (YE p mb S ev lk wv gl cl lim fr) 6 [pm k_]=YE p mb {S with exit:=k_} ev lk wv gl cl lim fr:=by kernel_rfl
theorem zhR:zb (YE p mb S ev lk wv gl cl lim fr) 9 [pm k_]=YE p mb {S with steps:=k_} ev lk wv gl cl lim fr:=by kernel_rfl
theorem zgR:zb (YE p mb S ev lk wv gl cl lim fr) 11 [pm k_]=YE p mb {S with used:=k_} ev lk wv gl cl lim fr:=by kernel_rfl
theorem Oe:zb (YE p mb S ev lk wv gl cl lim fr) 66 [.bool f_]=YE p mb {S with flags:=f_} ev lk wv gl cl lim fr:=by kernel_rfl
theorem zal:zb (YE p mb S ev lk wv gl cl lim fr) 68 [pm k_]=YE p mb {S with stack:=k_} ev lk wv gl cl lim fr:=by kernel_rfl
theorem zgS:zb (YE p mb S ev lk wv gl cl lim fr) 69 [pm k_]=YE p mb {S with jU:=k_} ev lk wv gl cl lim fr:=by kernel_rfl
theorem zdn:zb (YE p mb S ev lk wv gl cl lim fr) 60 [pm q_.k,pm q_.n,pm q_.b]=YE p mb {S with a:=q_} ev lk wv gl cl lim fr:=by kernel_rfl
theorem zak:zb (YE p mb S ev lk wv gl cl lim fr) 63 [pm q_.k,pm q_.n,pm q_.b]=YE p mb {S with b:=q_} ev lk wv gl cl lim fr:=by kernel_rfl
theorem zgT:zb (YE p mb S ev lk wv gl cl lim fr) 7 [v_]=YE p mb S v_ lk wv gl cl lim fr:=by kernel_rfl
theorem zhQ:zb (YE p mb S ev lk wv gl cl lim fr) 8 [v_]=YE p mb S ev v_ wv gl cl lim fr:=by kernel_rfl
theorem zgU:zb (YE p mb S ev lk wv gl cl lim fr) 71 [v_]=YE p mb S ev lk wv v_ cl lim fr:=by kernel_rfl
theorem zdo:zb (YE p mb S ev lk wv gl cl lim fr) 67 [v_]=YE p mb S ev lk wv gl v_ lim fr:=by kernel_rfl
theorem Ys{r:Int}(h0:0<=r)(h1:r<16):((YE p mb S ev lk wv gl cl lim fr).drop (12+r.toNat*3)).take 3=[pm (zj S r).k,pm (zj S r).n,pm (zj S r).b]:=by
 have hr:((List.range 16).map λi=>(S.jb.getD i v0).ke)[r.toNat]? = some ((S.jb.getD r.toNat v0).ke):=by
  rw[aau,List.getElem?_range (by omega)];rfl
 obtain⟨a,b⟩:=wD (pf S.jb) hr;have hl:(DO S.jb).length=48:=by kernel_rfl
 have e:∀(X Y:List aaa),X.length=12->(X++Y).drop (12+r.toNat*3)=Y.drop (r.toNat*3):=λX Y hX=>by
  rw[List.drop_append,hX,List.drop_of_length_le (by omega),ack,Nat.add_sub_cancel_left]
 unfold YE;rw[e _ _ rfl,List.drop_append_of_le_length (by omega),List.take_append_of_le_length (by rw[ace,hl];omega)];show(((List.range 16).map λi=>(S.jb.getD i v0).ke).flatten.drop (r.toNat*3)).take 3=_;rw[b];unfold zj;rw[dR h0];rfl
theorem Z7{r:Int}(h1:r<16):(12+r.toNat*3+3<=(YE p mb S ev lk wv gl cl lim fr).length)=True:=by
 rw[vE];simp;omega
theorem Bh{r:Int}(h0:0<=r)(h1:r<16)(hl:S.jb.length=16)(v:V):zb (YE p mb S ev lk wv gl cl lim fr) (12+r.toNat*3) [pm v.k,pm v.n,pm v.b]=YE p mb (xt S r v) ev lk wv gl cl lim fr:=by
 obtain⟨n,rfl⟩:∃n:Nat,r=n:=⟨r.toNat,by omega⟩;have hn:n<16:=by omega
 obtain⟨mem,used,kind,exit,e,l,steps,g,calls,jb,flags,a,b,stack,jU⟩:=S
 match jb,hl with
 |[x0,x1,x2,x3,x4,x5,x6,x7,x8,x9,x10,x11,x12,x13,x14,x15],_=>
  match n,hn with
  |0,_=>rfl
  |1,_=>rfl
  |2,_=>rfl
  |3,_=>rfl
  |4,_=>rfl
  |5,_=>rfl
  |6,_=>rfl
  |7,_=>rfl
  |8,_=>rfl
  |9,_=>rfl
  |10,_=>rfl
  |11,_=>rfl
  |12,_=>rfl
  |13,_=>rfl
  |14,_=>rfl
  |15,_=>rfl
theorem zdm:((YE p mb S ev lk wv gl cl lim fr).drop 12).take 3=[pm (zj S 0).k,pm (zj S 0).n,pm (zj S 0).b]:=Ys (r:=0) (by decide) (by decide)
theorem zdp(hl:S.jb.length=16)(v:V):zb (YE p mb S ev lk wv gl cl lim fr) 12 [pm v.k,pm v.n,pm v.b]=YE p mb (xt S 0 v) ev lk wv gl cl lim fr:=Bh (r:=0) (by decide) (by decide) hl v
theorem zgN:((YE p mb S ev lk wv gl cl lim fr).drop 18).take 3=[pm (zj S 2).k,pm (zj S 2).n,pm (zj S 2).b]:=Ys (r:=2) (by decide) (by decide)
theorem zgV(hl:S.jb.length=16)(v:V):zb (YE p mb S ev lk wv gl cl lim fr) 18 [pm v.k,pm v.n,pm v.b]=YE p mb (xt S 2 v) ev lk wv gl cl lim fr:=Bh (r:=2) (by decide) (by decide) hl v
theorem zgO:((YE p mb S ev lk wv gl cl lim fr).drop 24).take 3=[pm (zj S 4).k,pm (zj S 4).n,pm (zj S 4).b]:=Ys (r:=4) (by decide) (by decide)
theorem zdq(hl:S.jb.length=16)(v:V):zb (YE p mb S ev lk wv gl cl lim fr) 24 [pm v.k,pm v.n,pm v.b]=YE p mb (xt S 4 v) ev lk wv gl cl lim fr:=Bh (r:=4) (by decide) (by decide) hl v
theorem Oc:(YE p mb S ev lk wv gl cl lim fr)[12]? = some (pm (zj S 0).k):=by kernel_rfl
theorem zdg:(YE p mb S ev lk wv gl cl lim fr)[13]? = some (pm (zj S 0).n):=by kernel_rfl
theorem zdh:(YE p mb S ev lk wv gl cl lim fr)[15]? = some (pm (zj S 1).k):=by kernel_rfl
theorem zgK:(YE p mb S ev lk wv gl cl lim fr)[16]? = some (pm (zj S 1).n):=by kernel_rfl
end
open Go.Dm
def vn(v:V):Prop:=wH v.n/\(v.k=1->v.b=0)
theorem pB:vn v0:=⟨XY,λ_=>rfl⟩
theorem Q1{n:Int}(h:wH n):vn (wB n):=⟨h,λ_=>rfl⟩
theorem Iq(t:Bool):vn (kL t):=by
 unfold kL;split
 ·exact Q1 ⟨by decide,by decide⟩
 ·exact Q1 XY
theorem Ip{b n:Int}(h:wH n):vn (iQ b n):=by
 unfold iQ;split
 ·exact pB
 ·exact⟨h,λq=>by cases q⟩
theorem zft{c:Prop}[Decidable c]{x y:Option V}{v:V}(hx:x=some v->vn v)(hy:y=some v->vn v):(if c then x else y)=some v->vn v:=by
 intro h;by_cases hc:c
 ·rw[aai hc]at h;exact hx h
 ·rw[aae hc]at h;exact hy h
theorem zbZ{a b:Int}(h:wH a):wH (a.tmod b):=by
 obtain⟨h1,h2⟩:=h;have e:=Int.natAbs_tmod a b;have l:=Nat.mod_le a.natAbs b.natAbs;rcases Int.le_total 0 a with q|q
 ·have:=Int.tmod_nonneg b q
  constructor <;> omega
 ·have:a.tmod b<=0:=by
   have:=Int.tmod_nonneg b (a := -a) (by omega);rw[Int.neg_tmod]at this;omega
  constructor <;> omega
theorem zcC{op a b:Int}(ha:wH a){v:V}(h:uE op a b=some v):vn v:=by
 have wn:∀n,vn (wB (Go.Rm.vF n)):=λn=>Q1 (AW n);have bn:∀f,vn (wB (kN f a b)):=λf=>Q1 (AW _)
 revert h
 unfold uE
 repeat' apply zft
 all_goals intro h
 all_goals first
  |(cases h;done)
  |(have e:=abP h;rw[<- e];first|exact wn _|exact bn _|exact Iq _|exact Q1 (zbZ ha)|exact Q1 (ER ha _))
theorem Ms{op:Int}{a b v:V}(ha:vn a)(hb:vn b)(h:zH op a b=some v):vn v:=by
 unfold zH at h;split at h
 ·exact zcC ha.1 h
 split at h
 ·simp only[aab]at h;subst h;exact Ip (AW _)
 split at h
 ·simp only[aab]at h;subst h;exact Ip (AW _)
 split at h
 ·simp only[aab]at h;subst h;exact Ip (AW _)
 split at h
 ·unfold vd at h;split at h
  ·simp only[aab]at h;subst h;exact Iq _
  ·cases h
 ·cases h
theorem zbD{op:Int}{a b v:V}(h0:21<=op)(h1:op<=26)(h:zH op a b=some v):v.n=0\/v.n=1:=by
 have tr:∀t,(kL t).n=0\/(kL t).n=1:=λt=>by unfold kL;split;exact .inr rfl;exact .inl rfl
 unfold zH at h;split at h
 ·unfold uE at h;rw[aae (by omega),aae (by omega),aae (by omega),aae (by omega),aae (by omega),aae (by omega),aae (by omega),aae (by omega)]at h
  repeat' (split at h)
  all_goals first
   |(have e:=abP h;rw[<- e];exact tr _)
   |(exfalso;omega)
 split at h
 ·rename_i q;simp at q;omega
 split at h
 ·rename_i q;simp at q;omega
 split at h
 ·rename_i q;simp at q;omega
 split at h
 ·unfold vd at h;split at h
  ·have e:=abP h;rw[<- e];exact tr _
  ·cases h
 ·cases h
theorem zdI{op:Int}{a v:V}(h:bO op a=some v):vn v:=by
 have wn:∀n,vn (wB (Go.Rm.vF n)):=λn=>Q1 (AW n);have nn:∀n,vn (wB (Go.Rm.notM n)):=λn=>Q1 (AW _);unfold bO at h
 repeat' (split at h)
 all_goals first
  |(cases h;done)
  |(have e:=abP h;rw[<- e];first|exact wn _|exact nn _)
theorem zfs{l:List V}(h:∀v,v∈l->vn v)(r:Int):vn (EM l r):=by
 unfold EM;split
 ·exact pB
 ·rw[aaF];cases e:l[r.toNat]? with
  |none=>exact pB
  |some v=>exact h v (aaA e)
def i7(M:MM):Prop := ∀(i:Nat) B,M[i]? = some B->∀a,vn (B.byte a).p
theorem P5{M:MM}{c:Int}{p v:V}(h:i7 M)(e:Wx M c p=some v):vn v:=by
 unfold Wx at e;split at e
 ·cases e
 ·rename_i i hi;simp only[aaq]at e;obtain⟨B,hB,rfl⟩:=e;unfold bN;split
  ·refine⟨?_,λ_=>rfl⟩;show wH (if _ then _ else _);split
   ·exact AW _
   ·split <;> exact AW _
  split
  ·exact h i B hB _
  ·exact pB
theorem Be{M:MM}{i:Nat}{B:MB}(h:i7 M)(hp:∀a,vn (B.byte a).p):i7 (M.set i B):=λj C hC a=>by
 rw[acI]at hC;split at hC
 ·split at hC
  ·cases hC;exact hp a
  ·cases hC
 ·exact h j C hC a
theorem LZ{M M':MM}{c:Int}{p v:V}(h:i7 M)(hv:vn v)(e:kd M c p v=some M'):i7 M':=by
 unfold kd at e;split at e
 ·cases e
 split at e
 ·cases e
 ·rename_i i hi;simp only[aaq]at e;obtain⟨B,hB,rfl⟩:=e;refine Be h λa=>?_;show vn ((if _ then cellOf (norm v) _ else B.byte a).p);split
  ·unfold cellOf norm
   repeat' split
   all_goals first|exact hv|exact pB
  ·exact h i B hB a
theorem P4{M:MM}{n:Int}(h:i7 M):i7 ((Yw M n).getD M):=by
 cases e:Yw M n with
 |none=>exact h
 |some M'=>
  unfold Yw at e;simp only[abU,aaq]at e;obtain⟨i,hi,B,hB,rfl⟩:=e;exact Be h λa=>pB
theorem P6{M:MM}{n:Int}(h:i7 M):i7 ((Xu M n).getD M):=by
 cases e:Xu M n with
 |none=>exact h
 |some M'=>
  unfold Xu at e;simp only[abU,aaq]at e;obtain⟨i,hi,B,hB,rfl⟩:=e;refine Be h λa=>?_;show vn ((if a<_ then zc else B.byte a).p);split
  ·exact pB
  ·exact h i B hB a
theorem Bd{M:MM}(n:Int)(h:i7 M):i7 (yJ M n).1:=by
 unfold yJ;split
 ·exact h
 split
 ·exact h
 ·intro i B hB a;rw[List.getElem?_append]at hB;split at hB
  ·exact h i B hB a
  ·cases hq:i-M.length with
   |zero=>rw[hq]at hB;simp at hB;subst hB;exact pB
   |succ k=>rw[hq]at hB;simp at hB
end Go.An
