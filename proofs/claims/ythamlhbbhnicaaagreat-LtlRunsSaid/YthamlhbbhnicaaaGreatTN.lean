/- A part of the proof. -/
import Derived.Test.YthamlhbbhnicaaaGreatTM
import Derived.Test.YthamlhbbhnicaaaGreatTI
import Derived.Test.YthamlhbbhnicaaaGreatTG
set_option linter.unusedVariables false
set_option linter.unusedSimpArgs false
set_option maxRecDepth 100000
namespace Go.Rm
open Go.Ai Go.Proofs Go.Mem
open Go.Rtl (xG Pg zu wB qE wt zL zC Old uZ Dn Yf)
def yY(ty:TypeId)(n:Nat)(sv:aaa)(rows:List (List aaa)):HP:=λm=>
 (sv=.slice none 0 0/\rows=[] /\ ∀x,m x=none) \/ ∃b c cs,sv=.slice (some ⟨b,0,none⟩) rows.length c/\c≠0/\rows.length*n<=cs.length/\cs.take (rows.length*n)=rows.flatten/\pt b (.cells cs ty) m
section
variable {lo:yU}{h:za}{L:List HP}{ty:TypeId}{n:Nat}{sv:aaa}{rows:List (List aaa)}
theorem kp(s:Sat lo h (yY ty n sv rows::L)):(sv=.slice none 0 0/\rows=[]/\Sat lo h L) \/ ∃b c cs,sv=.slice (some ⟨b,0,none⟩) rows.length c/\c≠0/\rows.length*n<=cs.length/\cs.take (rows.length*n)=rows.flatten/\Sat lo h (pt b (.cells cs ty)::L):=by
 obtain⟨a,ha,d,w,s⟩:=s;rcases ha with⟨e1,e2,e3⟩|⟨b,c,cs,e1,e2,e3,e4,e5⟩
 ·exact .inl ⟨e1,e2,by rw[yU.tY e3]at s;exact s⟩
 ·exact .inr ⟨b,c,cs,e1,e2,e3,e4,a,e5,d,w,s⟩
theorem vS(ty:TypeId)(n:Nat)(s:Sat lo h L):Sat lo h (yY ty n (pp) []::L):=⟨λ_=>none,.inl ⟨rfl,rfl,λ_=>rfl⟩,λ_ _ e=>(by cases e),λ_ _ e=>(by cases e),by rw[yU.tY λ_=>rfl];exact s⟩
theorem tU{b c:Nat}{cs:List aaa}(hc:c≠0)(hl:rows.length*n<=cs.length)(ht:cs.take (rows.length*n)=rows.flatten)(s:Sat lo h (pt b (.cells cs ty)::L)):Sat lo h (yY ty n (.slice (some ⟨b,0,none⟩) rows.length c) rows::L):=by
 obtain⟨a,ha,d,w,s⟩:=s;exact⟨a,.inr ⟨b,c,cs,rfl,hc,hl,ht,ha⟩,d,w,s⟩
theorem ZR{b c:Nat}{cs:List aaa}(hc:c≠0)(hn:∀r,r∈rows->r.length=n)(he:cs=rows.flatten)(s:Sat lo h (pt b (.cells cs ty)::L)):Sat lo h (yY ty n (.slice (some ⟨b,0,none⟩) rows.length c) rows::L) :=
 tU hc (by rw[he,uZ hn];exact aam _) (by rw[he,ace (by rw[uZ hn];exact aam _)]) s
theorem tW(s:Sat lo h (yY ty n sv rows::L)):∃a c,sv=.slice a rows.length c:=by
 rcases kp s with⟨rfl,rfl,_⟩|⟨b,c,cs,rfl,_⟩ <;> exact⟨_,_,rfl⟩
theorem xR(s:Sat lo h (yY ty n sv rows::L)):zV sv=false:=by obtain⟨_,_,rfl⟩:=tW s;rfl
theorem jI(s:Sat lo h (yY ty n sv rows::L)):yN sv=true:=by obtain⟨_,_,rfl⟩:=tW s;rfl
theorem y6(s:Sat lo h (yY ty n sv rows::L))(hn:∀r,r∈rows->r.length=n):zC h sv n rows:=by
 rcases kp s with⟨e1,e2,_⟩|⟨b,c,cs,rfl,hc,hl,hf,s⟩
 ·exact .inl ⟨e1,e2⟩
 ·refine .inr ⟨b,0,c,rfl,λ_=>⟨cs,ty,s.lt,s.get,λi r hr=>?_⟩⟩
  have hi:i<rows.length:=by
   rcases aar i rows.length with a|a
   ·exact a
   ·rw[aal a]at hr;cases hr
  obtain⟨f1,f2⟩:=Dn hn hr;have hm:=abR n (acF hi);rw[acR]at hm;refine⟨by omega,?_⟩;rw[<- f2,<- hf,aay,List.drop_take,List.take_take]
  congr 1
  omega
theorem jH(s:Sat lo h (yY ty n sv rows::L))(hn:∀r,r∈rows->r.length=n)(row:List aaa)(hr:row.length=n)(h0n:0<n)(bz:Nat)(hb:(rows.length+1)*bz<=2^47) :
  ∃b' c' h',Q9 h ty n bz 1 row sv=some (.slice (some ⟨b',0,none⟩) (rows.length+1) c',h')/\Sat lo h' (yY ty n (.slice (some ⟨b',0,none⟩) (rows.length+1) c') (rows++[row])::L):=by
 have hn2:∀r,r∈rows++[row]->r.length=n:=λr q=>by
  rcases aaQ.1 q with q|q
  ·exact hn r q
  ·simp only[aaV]at q;subst q;exact hr
 have hlen:(rows++[row]).length=rows.length+1:=by simp
 rcases kp s with⟨rfl,rfl,s'⟩|⟨b,c,cs,rfl,hc,hl,hf,s⟩
 ·refine⟨h.next,1,h.push (.cells row ty),?_,ZR (cs:=row) (rows:=[]++[row]) (c:=1) (by decide) hn2 (by simp) (s'.push (.cells row ty))⟩;simp only[Q9];rw[aac (by decide),aai (by simp at hb;omega)];rfl
 ·have hroom:roomFor c (rows.length+1) bz=true:=by
   unfold roomFor;cases Nat.beq c 2 <;> simp only[aaC,aaK,acp] <;> omega
  refine⟨h.next,uG c (rows.length+1),(h.set b none).push (.cells (((cs.drop 0).take (rows.length*n))++row) ty),?_,?_⟩
  ·simp only[Q9,s.get];rw[aac (by decide),aai ⟨hc,trivial,s.wr,by omega,hroom,by simp⟩]
  ·have q:=ZR (rows:=rows++[row]) (c:=uG c (rows.length+1)) (tp _ _) hn2 (by rw[abA,hf,List.flatten_append];simp) ((s.forget none).push (.cells (((cs.drop 0).take (rows.length*n))++row) ty));rw[hlen]at q;exact q
theorem rP{cs:List aaa}{i:Nat}{row:List aaa}(hi:i<rows.length)(hn:∀r,r∈rows->r.length=n)(hr:row.length=n)(hl:rows.length*n<=cs.length)(ht:cs.take (rows.length*n)=rows.flatten) :
  (zb cs (i*n) row).take (rows.length*n)=(rows.set i row).flatten:=by
 have hn2:∀r,r∈rows.set i row->r.length=n:=λr q=>by
  rcases acC q with q|rfl
  ·exact hn r q
  ·exact hr
 have hm:i*n+n<=cs.length:=by
  have:=abR n (acF hi);rw[acR]at this;omega
 apply abc;intro j;by_cases hj:j<rows.length*n
 ·rw[aaX hj,KU _ _ _ _ (by rw[hr];exact hm),hr];have e0:=congrArg (λl=>l[j]?) ht;simp only[aaX hj]at e0
  have h0:0<n:=by rcases ab8 n with q|q; · subst q;simp at hj
                  ·exact q
  have hq:j/n<rows.length:=Nat.div_lt_of_lt_mul (by rw[Nat.mul_comm];exact hj);have hj3:j/n*n+j%n=j:=by rw[Nat.mul_comm];exact Nat.div_add_mod j n
  have hmn:j%n<n:=Nat.mod_lt _ h0
  have get:∀(m:List (List aaa)),(∀r,r∈m->r.length=n)->∀x,m[j/n]? = some x->m.flatten[j]? = x[j%n]?:=λm hm x hx=>by
   have:=Yf hm hx hmn
   rwa [hj3]at this
  rw[e0,get _ hn _ (aae hq)];by_cases e:i=j/n
  ·rw[get _ hn2 row (by rw[e,aaM hq]),aai (by rw[e];omega),e]
   congr 1;omega
  ·rw[get _ hn2 _ (by rw[aa4 e,aae hq]),aac];rintro⟨a,b⟩;apply e;exact(Nat.div_eq_of_lt_le a (by rw[acR];exact b)).symm
 ·rw[aal (by simp;omega),aal (by rw[uZ hn2];simp;omega)]
theorem Xh(s:Sat lo h (yY ty n sv rows::L))(hn:∀r,r∈rows->r.length=n){i:Nat}(hi:i<rows.length) :
  ∃b c cs,sv=.slice (some ⟨b,0,none⟩) rows.length c/\h.get b=some (.cells cs ty)/\h.ro<=b/\i*n+n<=cs.length /\ ∀row,row.length=n->Sat lo (h.set b (some (.cells (zb cs (i*n) row) ty))) (yY ty n sv (rows.set i row)::L):=by
 rcases kp s with⟨rfl,rfl,_⟩|⟨b,c,cs,rfl,hc,hl,hf,s⟩
 ·cases hi
 ·refine⟨b,c,cs,rfl,s.get,s.wr,?_,λrow hr=>?_⟩
  ·have:=abR n (acF hi);rw[acR]at this;omega
  ·have q:=tU (n:=n) (rows:=rows.set i row) (c:=c) hc (by rw[aaW,YR];exact hl) (by rw[aaW];exact rP hi hn hr hl hf) (s.set (.cells (zb cs (i*n) row) ty))
   rwa [aaW]at q
theorem V1{b i:Nat}{cs row:List aaa}{K:za->Prop}(gb:h.get b=some (.cells cs ty))(wb:h.ro<=b)(lb:i*n+n<=cs.length)(s3:∀row,row.length=n->Sat lo (h.set b (some (.cells (zb cs (i*n) row) ty))) (yY ty n sv (rows.set i row)::L))
  (hr:row.length=n) (hc:row.all yN=true) (k:∀h',Sat lo h' (yY ty n sv (rows.set i row)::L)->K h'):opt (yJ h b (i*n) row) K:=by
 rw[Ec gb,aai ⟨by omega,wb,hc⟩];exact k _ (s3 row hr)
theorem qV{α:Type}{f:α->List aaa}{n:Nat}(hf:∀a,(f a).length=n)(l:List α):∀r,r∈l.map f->r.length=n:=by
 intro r hr;simp only[abm]at hr;obtain⟨y,_,rfl⟩:=hr;exact hf y
end
def qz(e:Int×Int):List aaa:=[pm e.1,pm e.2]
def wy(e:Int×Int×Int):List aaa:=[pm e.1,pm e.2.1,pm e.2.2]
def yB(b:Nat):aaa := pi b
def yo(z:Int):List aaa:=[pm z]
def uJ(b:Nat):List aaa:=[yB b]
def xo(p:Pg)(mb wb:Nat)(S:St)(ev lk gl cl kv:aaa):wA := .cells [p.gv,p.fv,pm p.main,yB mb,yB wb,pm S.kind,pm S.exit,ev,lk,pm S.steps,gl,cl,kv] 87
section
variable {lo:yU}{h:za}{b mb wb:Nat}{p:Pg}{S:St}{ev lk gl cl kv:aaa}
theorem H2(s:Sat lo h [pt b (xo p mb wb S ev lk gl cl kv),yY 71 3 lk (S.lk.map wy)])(hb:(S.lk.length+1)*24<=2^47)(k_ a c:Int) :
  DC pu 67 [yB b,pm k_,pm a,pm c] h (λ_ h'=>∃lk',Sat lo h' [pt b (xo p mb wb (xh S k_ a c) ev lk' gl cl kv),yY 71 3 lk' ((xh S k_ a c).lk.map wy)]):=by
 apply sR;unfold Cy yB;have gm:=s.get;unfold xo yB at gm;have n0:=xR (s.p 1);have s1:=s.push (.cells [pm k_,pm a,pm c] 71);obtain⟨b',c',h2,a1,s2⟩:=jH (s1.p 2) (qV (f:=wy) (λ_=>rfl) _) [pm k_,pm a,pm c] rfl (by decide) 24 (by rw[aaf];exact hb);rw[aaf]at a1 s2
 have ha:∀r,zB pu .append [31,31] r [lk,.slice (some ⟨h.next,0,none⟩) 1 3] (h.push (.cells [pm k_,pm a,pm c] 71))=some (.slice (some ⟨b',0,none⟩) (S.lk.length+1) c',h2):=λr=>by
  rw[zfB r _ _ 1 [pm k_,pm a,pm c] _ rfl (by simp only[wR,zk];rfl) rfl rfl];exact a1
 have s3:=s2.p 2;have g2:=s3.get;have w2:=s3.wr;unfold xo yB at g2;simp only[EE,zb,aad,Nat.reduceAdd,Nat.reduceLeDiff,yJ,zA,L6,zfC,AB,Ga,pV,WJ,gm,n0,ha,g2,w2];refine⟨rfl,.slice (some ⟨b',0,none⟩) (S.lk.length+1) c',?_⟩;have e1:((xh S k_ a c).lk.map wy)=S.lk.map wy++[[pm k_,pm a,pm c]]:=by simp[xh,wy]
 rw[e1];exact((s3.set _).p 2).drop
theorem Sp(s:Sat lo h [pt b (xo p mb wb S ev lk gl cl kv),yY 78 2 ev (S.ev.map qz)])(hb:(S.ev.length+1)*16<=2^47)(k_ a:Int) :
  DC pu 76 [yB b,pm k_,pm a] h (λ_ h'=>∃ev',Sat lo h' [pt b (xo p mb wb (ke S k_ a) ev' lk gl cl kv),yY 78 2 ev' ((ke S k_ a).ev.map qz)]):=by
 apply N8;unfold Rv yB;have gm:=s.get;unfold xo yB at gm;have n0:=xR (s.p 1);have s1:=s.push (.cells [pm k_,pm a] 78);obtain⟨b',c',h2,a1,s2⟩:=jH (s1.p 2) (qV (f:=qz) (λ_=>rfl) _) [pm k_,pm a] rfl (by decide) 16 (by rw[aaf];exact hb);rw[aaf]at a1 s2
 have ha:∀r,zB pu .append [30,30] r [ev,.slice (some ⟨h.next,0,none⟩) 1 3] (h.push (.cells [pm k_,pm a] 78))=some (.slice (some ⟨b',0,none⟩) (S.ev.length+1) c',h2):=λr=>by
  rw[zfA r _ _ 1 [pm k_,pm a] _ rfl (by simp only[wR,zk];rfl) rfl rfl];exact a1
 have s3:=s2.p 2;have g2:=s3.get;have w2:=s3.wr;unfold xo yB at g2;simp only[EE,zb,aad,Nat.reduceAdd,Nat.reduceLeDiff,yJ,zA,RY,zb9,tk,tl,Bg,WJ,gm,n0,ha,g2,w2];refine⟨rfl,.slice (some ⟨b',0,none⟩) (S.ev.length+1) c',?_⟩;have e1:((ke S k_ a).ev.map qz)=S.ev.map qz++[[pm k_,pm a]]:=by simp[ke,qz]
 rw[e1];exact((s3.set _).p 2).drop
end
theorem wV(l:List V):∀r,r∈l.map V.z9->r.length=3:=qV (f:=V.z9) (λ_=>rfl) l
theorem zc8{h:za}{sv:aaa}{l:List V}(S:zC h sv 3 (l.map V.z9))(r:TypeId)(h':za):zB pu .len [56] r [sv] h'=some (pm l.length,h'):=by
 rcases S with⟨rfl,e⟩|⟨b,off,cp,rfl,_⟩
 ·have:l=[]:=by simpa using e
  subst this;simp only[O5,aaz]
 ·simp only[O5,aaf]
theorem MN{l:List V}{r:Int}(h:r<0\/(l.length:Int)<=r):zT l r=v0:=by
 unfold zT;by_cases h0:r<0
 ·rw[aai h0]
 ·rw[aac h0,aaB,aal (by omega)];rfl
theorem zfQ{h:za}{fb:Nat}{fp rv bl pt:aaa}{l:List V}(hg:h.get fb=some (.cells [fp,rv,bl,pt] 132))(hlt:fb<h.next)(S:zC h rv 3 (l.map V.z9))(r:Int):yO pu 64 [yB fb,pm r] h (vv (zT l r)):=by
 apply vz rfl;apply zbx;unfold zfv yB;have rn:=S.wk;have rl:=zc8 S 3;have g0:∀o,(h.lock.push o).get fb=some (.cells [fp,rv,bl,pt] 132):=λo=>by rw[zt (by show fb<h.next;exact hlt)];exact hg
 by_cases h0:r<0
 ·have e:=MN (l:=l) (.inl h0);simp only[EE,↓nw,Value.cells,zb,aad,Nat.reduceAdd,yJ,zZ,zi,zo,y7,zM,A9,Ba,Bb,h0];rw[e];rfl
 by_cases h1:(l.length:Int)<=r
 ·have e:=MN (l:=l) (.inr h1);have h1':r ≥ (l.length:Int):=h1;simp only[EE,↓nw,Value.cells,zb,aad,Nat.reduceAdd,yJ,zZ,zA,YM,zi,zo,y7,zM,bC,A9,Ba,Bb,h0,g0,rn,rl,h1];rw[e];rfl
 ·obtain⟨v,hv⟩:∃v,l[r.toNat]? = some v:=⟨_,aae (by omega)⟩;obtain⟨b,o,c,t,⟨off,cp,rfl,rfl⟩,hi,hb,hgt,hle,htk,_⟩:=S.spot (i:=r.toNat) (r:=v.z9) (by rw[aaq,hv];rfl) rfl;have hr:r<(l.length:Int):=by omega
  have hr0:0<=r:=by omega
  have g1:∀o,(h.lock.push o).get b=some (.cells c t):=λo=>by rw[zt (by show b<h.next;exact hb)];exact hgt
  have e:zT l r=v:=by
   unfold zT;rw[aac h0,aaB,hv];rfl
  have htk':(c.drop (off+r.toNat*3)).take 3=[pm v.k,pm v.n,pm v.b]:=htk;simp only[EE,↓nw,Value.cells,zb,aad,Nat.reduceAdd,yJ,zZ,zA,YM,zi,zo,y7,bC,Wt,O5,Rx,A9,Ba,Bb,h0,g0,h1,hr,hr0,g1,hle,htk'];rw[e];rfl
theorem zaI{h:za}{fb:Nat}{fp rv bl pt:aaa}{c:Fr}(hg:h.get fb=some (.cells [fp,rv,bl,pt] 132))(hlt:fb<h.next)(S:zC h rv 3 (c.zf.map V.z9))(i:xG)(hn:zV i.av=false):yO pu 66 [yB fb,i.val] h (vv (yE c i)):=by
 apply vz rfl;apply Ha;unfold FP yE yB;by_cases h1:i.b = -1
 ·simp only[EE,↓nw,Value.cells,Int.reduceNeg,zA,xp,zj,y7,qM,vR,Ar,h1];refine yq (WO i.k _) ?_;simp only[EE,zb,aad,Nat.reduceAdd,Int.reduceNeg,yJ,zZ,zi,zo,Nat.le_add_right];rw[aai h1];rfl
 ·simp only[EE,↓nw,Value.cells,Int.reduceNeg,zA,zj,y7,qM,As,h1];have e2:∀a b,Old h.lock ((h.lock.push a).push b):=λa b=>(Old.push _ _).trans (Old.push _ _);have S2:zC h.lock rv 3 (c.zf.map V.z9):=S.lock;refine yq (zfQ (l:=c.zf) (rv:=rv) (fp:=fp) (bl:=bl) (pt:=pt) ?_ ?_ (S2.old (e2 _ _)) i.b) ?_
  ·rw[(e2 _ _).get fb hlt];exact hg
  ·exact aao hlt (e2 _ _).next
  simp only[EE,zb,aad,Nat.reduceAdd,Int.reduceNeg,yJ,zZ,zi,zo,Nat.le_add_right];rw[aac h1];rfl
def Xx(fp rv:aaa)(k9 at_:Int):wA := .cells [fp,rv,pm k9,pm at_] 132
theorem zdM{l:List V}{r k:Nat}(v:V)(hk:k=r+1-l.length):uz l r v=(l++List.replicate k v0).set r v:=by
 unfold uz;rw[aac (by omega),hk];rfl
theorem zdN{lo:yU}{h:za}{fb:Nat}{fp rv:aaa}{bl at_:Int}{l:List V}(s:Sat lo h [pt fb (Xx fp rv bl at_),yY 66 3 rv (l.map V.z9)])(r:Int)(v:V)(hr:r<100000)(hl:l.length<=100000) :
  DC pu 63 [yB fb,pm r,v.val] h (λ_ h'=>∃rv',Sat lo h' [pt fb (Xx fp rv' bl at_),yY 66 3 rv' ((uz l r v).map V.z9)]):=by
 apply zbA;unfold zfx yB V.val;have s1:=s.push (.cells [pm v.k,pm v.n,pm v.b] 66);by_cases h0:r<0
 ·simp only[EE,↓nw,Value.cells,h0];refine⟨rfl,rv,?_⟩;unfold uz;rw[aai h0];exact s1.drop
 simp only[EE,↓nw,Value.cells,↓BK,h0];obtain⟨r,rfl⟩:∃k:Nat,r=k:=⟨r.toNat,by omega⟩;refine qY (I:=λm vs h'=>∃k rv',m=r+1-(l.length+k)/\(k=0\/l.length+k<=r+1)/\vs=[]/\Sat lo h' [pt h.next (.cells [pm v.k,pm v.n,pm v.b] 66),pt fb (Xx fp rv' bl at_),yY 66 3 rv' ((l++List.replicate k v0).map V.z9)]) (n:=r+1-l.length) ⟨0,rv,rfl,.inl rfl,rfl,by rw[List.replicate_zero,ab6];exact s1⟩ ?_;rintro m vs h' ⟨k,rv',rfl,hk,rfl,s2⟩;have g1:=(s2.p 1).get;have w1:=(s2.p 1).wr;have SR:=y6 (s2.p 2) (wV _);have rn:=SR.wk;have rl:=zc8 SR 3;unfold Xx at g1;unfold RN;by_cases hc:(r:Int) ≥ ((l++List.replicate k v0).length:Int)
 ·have s3:=s2.push (.cells v0.z9 66);have hlen:(l++List.replicate k v0).length=l.length+k:=by simp
  obtain⟨b',c',h2,a1,s4⟩:=jH (s3.p 3) (wV _) v0.z9 rfl (by decide) 24 (by simp only[aaf,hlen]at *;omega);rw[aaf]at a1 s4
  have ha:∀r,zB pu .append [56,56] r [rv',.slice (some ⟨h'.next,0,none⟩) 1 3] (h'.push (.cells [pm 0,pm 0,pm 0] 66))=some (.slice (some ⟨b',0,none⟩) ((l++List.replicate k v0).length+1) c',h2):=λr=>
   (Mb r _ _ 1 v0.z9 _ rfl (by simp only[wR,zk];rfl) rfl rfl).trans a1
  have s5:=(s4.p 3);have g5:=s5.get;have w5:=s5.wr;unfold Xx at g5;simp only[EE,↓BK,zb,aad,Nat.reduceAdd,Nat.reduceLeDiff,yJ,zA,YM,zfD,zM,Qm,bC,RM,g1,rn,rl,hc,ha,g5,w5];refine⟨r+1-(l.length+(k+1)),by omega,k+1,.slice (some ⟨b',0,none⟩) ((l++List.replicate k v0).length+1) c',rfl,.inr (by omega),?_⟩;have e:(l++List.replicate (k+1) v0).map V.z9=(l++List.replicate k v0).map V.z9++[v0.z9]:=by rw[List.replicate_succ',<- acf,abp];rfl
  rw[e];exact((((s5.set _).p 2).drop).p 2)
 ·have g0:=s2.get;have hlen:(l++List.replicate k v0).length=l.length+k:=by simp
  obtain⟨b,c,cs,rfl,gb,wb,lb,s3⟩:=Xh (s2.p 2) (wV _) (i:=r) (by rw[aaf];omega);have hr2:(r:Int)<((l++List.replicate k v0).length:Int):=by omega
  have hr3:(0:Int)<=r:=by omega
  rw[aaf]at *
  simp only[EE,zb,aad,Nat.reduceAdd,yJ,zZ,zA,YM,zi,zo,bC,Wt,RO,g0,g1,rn,rl,hc,hr2,hr3,gb,wb,lb,aax];refine⟨rfl,.slice (some ⟨b,0,none⟩) (l++List.replicate k v0).length c,?_⟩;rw[zdM v (k:=k) (by omega)];have:=s3 v.z9 rfl;rw[<- ab5]at this;have q:=(this.p 1).drop;exact q.p 1
section
variable {lo:yU}{h:za}{L:List HP}{b mb wb fb:Nat}{p:Pg}{S:St}{ev lk gl cl kv fp rv:aaa}{c:Fr}
theorem p9{bl at_:Int}{l:List V}(s:Sat lo h (pt fb (Xx fp rv bl at_)::yY 66 3 rv (l.map V.z9)::L))(r:Int):yO pu 64 [yB fb,pm r] h (vv (zT l r)) :=
 zfQ s.get s.lt (y6 (s.p 1) (wV _)) r
theorem GB(s:Sat lo h (pt fb (Xx fp rv c.k9 c.pt)::yY 66 3 rv (c.zf.map V.z9)::L))(i:xG)(hn:zV i.av=false):yO pu 66 [yB fb,i.val] h (vv (yE c i)) :=
 zaI s.get s.lt (y6 (s.p 1) (wV _)) i hn
def AL(S:St)(o:Option V):St:=match o with
 |some q=>xh S 2 q.b q.n
 |none=>S
def zbP(o:Option V):aaa := .tuple #[vv (o.getD v0),.bool o.isSome]
theorem FW(s:Sat lo h [pt b (xo p mb wb S ev lk gl cl kv),yY 71 3 lk (S.lk.map wy),pt fb (Xx fp rv c.k9 c.pt),yY 66 3 rv (c.zf.map V.z9)])(hL:(S.lk.length+1)*24<=2^47)(i:xG)(hn:zV i.av=false)(hc:yN i.av=true) :
  DC pu 69 [yB b,yB fb,i.val] h (λv h'=>v=zbP (yR c i) /\ ∃lk',Sat lo h' [pt b (xo p mb wb (AL S (yR c i)) ev lk' gl cl kv),yY 71 3 lk' ((AL S (yR c i)).lk.map wy),pt fb (Xx fp rv c.k9 c.pt),yY 66 3 rv (c.zf.map V.z9)]):=by
 apply G8;unfold Fy yB;simp only[EE,Value.cells,y7];refine uI s λb1 h1 s1=>?_;simp only[EE,zA,zj,xk];refine uI s1 λb2 h2 s2=>?_;have g1:=(s2.p 1).get;simp only[EE,g1];refine El (p9 (s2.f [4,5]) i.a) ?_;simp only[EE,zA,xp,vR,Am,g1];refine El (WO i.k _) ?_;refine El (zcj 11 _ _ _) ?_;unfold wW;cases hb:yG 11 (zT c.zf i.a) (qj i.k) with
 |none=>
  simp only[EE,Value.cells,y7,fX,acb,aa8,vv,v0];refine uI s2 λb3 h3 s3=>?_;simp only[EE,Nat.reduceAdd,zo];refine yp s3 (by simp) rfl λh4 s4=>?_;simp only[EE,Nat.reduceAdd,zo,zM,fV,fW];refine yp (s4.p 1) (by simp) rfl λh5 s5=>?_;have g5:=s5.get;simp only[EE,zb,aad,Nat.reduceAdd,zZ,zi,g5];have ea:yR c i=none:=by simp[yR,hb]
  rw[ea];exact⟨rfl,lk,s5.k [3,4,5,6]⟩
 |some q=>
  simp only[EE,Value.cells,y7,fX,abG,abh,vv];refine uI s2 λb3 h3 s3=>?_;simp only[EE,Nat.reduceAdd,zo];refine yp s3 (by simp) rfl λh4 s4=>?_;have g4:=s4.get;simp only[EE,zb,Nat.reduceAdd,zA,zj,zP,fW,g4];by_cases hk:q.k=2
  ·have ea:yR c i=some q:=by simp[yR,hb,hk]
   rw[ea];simp only[EE,zb,Nat.reduceAdd,zA,xp,zj,yf,xM,Al,g4,hk];obtain⟨lo1,l1,s5,fr⟩:=(s4.f [3,4]).call (L2:=[pt b (xo p mb wb S ev lk gl cl kv),yY 71 3 lk (S.lk.map wy)]);refine Em (H2 s5 hL 2 q.b q.n) ?_;rintro v h5 ⟨lk',s6⟩;have s7:=fr _ _ s6;have g7:=(s7.p 2).get;simp only[EE,zb,aad,Nat.reduceAdd,zZ,zi,zo,Ak,g7];refine yp (s7.p 3) (by simp) rfl λh8 s8=>?_;have g8:=s8.get;simp only[EE,zb,aad,Nat.reduceAdd,zZ,zi,g8];exact⟨rfl,lk',s8.k [1,2,5,6]⟩
  ·have ea:yR c i=none:=by simp[yR,hb,hk]
   rw[ea];simp only[EE,Nat.reduceAdd,zo,zM,fV,hk];refine yp (s4.p 1) (by simp) rfl λh5 s5=>?_;have g5:=s5.get;simp only[EE,zb,aad,Nat.reduceAdd,zZ,zi,g5];exact⟨rfl,lk,s5.k [3,4,5,6]⟩
def brS(S:St)(o:Option V):St:=match o with
 |some w=>xh S 1 w.n 0
 |none=>S
def brP(c:Fr)(i:xG)(o:Option V):Int:=match o with
 |some w=>if w.n=0 then i.t else i.s
 |none=>c.pt
theorem zgw(s:Sat lo h [pt b (xo p mb wb S ev lk gl cl kv),yY 71 3 lk (S.lk.map wy),pt fb (Xx fp rv c.k9 c.pt),yY 66 3 rv (c.zf.map V.z9)])(hL:(S.lk.length+1)*24<=2^47)(i:xG)(hn:zV i.av=false)(hc:yN i.av=true)(o:Option V)(ho:o=yG i.sub (zT c.zf i.a) (yE c i)) :
  DC pu 73 [yB b,yB fb,i.val] h (λv h'=>v=.bool o.isSome /\ ∃lk',Sat lo h' [pt b (xo p mb wb (brS S o) ev lk' gl cl kv),yY 71 3 lk' ((brS S o).lk.map wy),pt fb (Xx fp rv c.k9 (brP c i o)),yY 66 3 rv (c.zf.map V.z9)]):=by
 apply TL;unfold zbv yB;simp only[EE,Value.cells];refine uI s λb1 h1 s1=>?_;have g1:=s1.get;simp only[EE,zA,zj,yj,xk,g1];refine El (p9 (s1.f [3,4]) i.a) ?_;simp only[EE,aad,Nat.reduceAdd,zZ,qI,g1];refine El (GB (s1.f [3,4]) i hn) ?_;simp only[];refine El (zcj i.sub _ _ _) ?_;rw[<- ho];unfold wW;cases o with
 |none=>
  simp only[EE,Value.cells,y7,Ch,acb,aa8,vv,v0];refine uI s1 λb3 h3 s3=>?_;simp only[EE,Nat.reduceAdd,zo];refine yp s3 (by simp) rfl λh4 s4=>?_;simp only[EE];exact⟨rfl,lk,s4.k [2,3,4,5]⟩
 |some q=>
  simp only[EE,Value.cells,y7,Ch,abG,abh,vv];refine uI s1 λb3 h3 s3=>?_;simp only[EE,Nat.reduceAdd,zo];refine yp s3 (by simp) rfl λh4 s4=>?_;have g4:=s4.get;simp only[EE,zb,Nat.reduceAdd,zA,xp,yf,Lw,g4];obtain⟨lo1,l1,s5,fr⟩:=(s4.f [2,3]).call (L2:=[pt b (xo p mb wb S ev lk gl cl kv),yY 71 3 lk (S.lk.map wy)]);refine Em (H2 s5 hL 1 q.n 0) ?_;rintro v h5 ⟨lk',s6⟩;have s7:=fr _ _ s6;have g7:=(s7.p 3).get;simp only[EE,zA,zj,WU,bD,Xb,Lv,g7];refine yp (s7.p 4) (by simp) rfl λh8 s8=>?_;have g8:=(s8.p 3).get;simp only[EE,zb,Nat.reduceAdd,zA,xp,yf,g8];by_cases hz:q.n=0
  ·rw[show brP c i (some q)=i.t by simp[brP,hz]];have g9:=(s8.p 4).get;simp only[EE,zA,zj,WU,bD,dW,Lu,g9,hz];refine yp s8 (by simp[zb]) rfl λh9 s9=>?_;simp only[EE];exact⟨rfl,lk',s9.k [1,2,0,5]⟩
  ·rw[show brP c i (some q)=i.s by simp[brP,hz]];simp only[EE,hz];exact⟨rfl,lk',s8.k [1,2,0,5]⟩
end
section
variable {g h:za}{F G:Nat->Prop}
theorem zeK{q:Nat}{gs:List (Option Nat)}{B:MB}(x:V2 g q gs B F)(e:∀b o,F b->g.get b=some o->h.get b=some o/\G b):V2 h q gs B G :=
 ⟨x.hl,(e q _ x.fq x.hq).2,(e q _ x.fq x.hq).1,λj p hj=>by
  obtain⟨a,cs,c1,c2,c3⟩:=x.hg j p hj;exact⟨(e p _ a c1).2,cs,(e p _ a c1).1,c2,c3⟩,x.hn,x.hd,x.ht⟩
theorem zgp{p:Nat}{B:MB}(x:En g p B F)(e:∀b o,F b->g.get b=some o->h.get b=some o/\G b):En h p B G:=by
 obtain⟨pg,a,b,c⟩:=x;refine⟨pg,(e p _ b a).1,(e p _ b a).2,?_⟩;cases c with
 |empty a b=>exact .empty a b
 |full q c gs a x=>exact .full q c gs a (zeK x e)
def zgQ(m:Nat)(M:MM)(h:za)(F:Nat->Prop):Prop:=GV h m M F
theorem eE(m:Nat)(M:MM):Mv (zgQ m M):=by
 rintro g h F G ⟨bs,ps,fs,x⟩ e ok;refine⟨bs,ps,λi b=>fs i b /\ ∃o,g.get b=some o,(e m _ x.fm x.hm).1,(e m _ x.fm x.hm).2,x.len,?_,λi q=>x.nm i q.1,λi p B hp hB=>?_,λi j b p q=>x.dis i j b p.1 q.1,λi b q=>?_,ok⟩
 ·rcases x.hb with a|⟨bb,c,a1,a2,a3,a4,a5⟩
  ·exact .inl a
  ·exact .inr ⟨bb,c,a1,a2,(e bb _ a3 a4).2,(e bb _ a3 a4).1,λi q=>a5 i q.1⟩
 ·exact zgp (x.k9 i p B hp hB) λb o hb hg=>⟨(e b o (x.sub i b hb) hg).1,hb,o,hg⟩
 ·obtain⟨q1,o,q2⟩:=q;exact(e b o (x.sub i b q1) q2).2
end
def Z9(m:Nat)(M:MM):HP:=own (zgQ m M)
section
variable {lo:yU}{h:za}{L:List HP}{m:Nat}{M:MM}
theorem ry{F:Nat->Prop}{M':MM}{h1:za}(c:∀h1 F' X',Mv X'->h.next<=h1.next->h1.ro=h.ro->(∀b,¬F b->b<h.next->h1.get b=h.get b)->X' h1 F'->(∀b,F' b->F b\/h.next<=b)->(∀b,F' b->h1.ro<=b/\b<h1.next)->Sat lo h1 (own X'::L))(x:Iz h m M' F h1):Sat lo h1 (Z9 m M'::L):=by
 obtain⟨F',mh,VS,sub⟩:=x;obtain⟨bs,ps,fs,mo⟩:=mh;exact c h1 F' (zgQ m M') (eE m M') VS.next VS.ro (λb hb hlt=>VS.get b hb hlt) ⟨bs,ps,fs,mo⟩ sub mo.ok
theorem R3(s:Sat lo h (Z9 m M::L))(n:Int):DC pu 35 [yB m,pm n] h (λv h1=>v=.tuple #[pm (zW M n).2.1,pm (zW M n).2.2]/\Sat lo h1 (Z9 m (zW M n).1::L)):=by
 obtain⟨F,⟨bs,ps,fs,x⟩,_,c⟩:=Sat.iM (eE m M) s;exact(zbX x n).mono λv h1 ⟨e,mu⟩=>⟨e,ry c mu⟩
theorem zcT(s:Sat lo h (Z9 m M::L))(hL:M.length<=100000){n:Int}(hn:n<9223372036854775808):DC pu 96 [yB m,pm n] h (λv h1=>v=.bool (qN M n).isSome/\Sat lo h1 (Z9 m ((qN M n).getD M)::L)):=by
 obtain⟨F,⟨bs,ps,fs,x⟩,_,c⟩:=Sat.iM (eE m M) s;refine(zeJ x hL hn).mono λv h1 r=>?_;unfold PN at r;cases e:qN M n with
 |none=>rw[e]at r;obtain⟨r1,rfl⟩:=r;exact⟨r1,s⟩
 |some M'=>rw[e]at r;exact⟨r.1,ry c r.2⟩
theorem zhp(s:Sat lo h (Z9 m M::L))(hs:small M){n:Int}(hn:n<9223372036854775808):DC pu 36 [yB m,pm n] h (λv h1=>v=.bool (Xl M n).isSome/\Sat lo h1 (Z9 m ((Xl M n).getD M)::L)):=by
 obtain⟨F,⟨bs,ps,fs,x⟩,_,c⟩:=Sat.iM (eE m M) s;refine(zfm x hs hn).mono λv h1 r=>?_;unfold RT at r;cases e:Xl M n with
 |none=>rw[e]at r;obtain⟨r1,rfl⟩:=r;exact⟨r1,s⟩
 |some M'=>rw[e]at r;exact⟨r.1,ry c r.2⟩
theorem zgK(s:Sat lo h (Z9 m M::L))(hs:small M){c:Int}{p:V}(hc:wD c)(hp:p.ok):DC pu 70 [yB m,pm c,vv p] h (λv h1=>v=wW (kZ M c p)/\Sat lo h1 (Z9 m M::L)):=by
 obtain⟨F,⟨bs,ps,fs,x⟩,_,_⟩:=Sat.iM (eE m M) s;refine(zeU x hs hc hp).mono λv h1 ⟨e,r⟩=>⟨?_,s.zgI e.next e.ro λb hb=>e.get b (λq=>q) hb⟩;unfold EX at r;cases e:kZ M c p with
 |none=>rw[e]at r;exact r
 |some a=>rw[e]at r;exact r
theorem zfa(s:Sat lo h (Z9 m M::L))(hs:small M){c:Int}{p v:V}(hc:wD c)(hp:p.ok):DC pu 71 [yB m,pm c,vv p,vv v] h (λr h1=>r=.bool (wX M c p v).isSome/\Sat lo h1 (Z9 m ((wX M c p v).getD M)::L)):=by
 obtain⟨F,⟨bs,ps,fs,x⟩,_,cl⟩:=Sat.iM (eE m M) s;refine(zdW x hs hc hp).mono λr h1 q=>?_;unfold mP at q;cases e:wX M c p v with
 |none=>rw[e]at q;exact⟨q.1,ry cl q.2⟩
 |some M'=>rw[e]at q;exact⟨q.1,ry cl q.2⟩
theorem zgT(s:Sat lo h L):DC pu 33 [] h (λv h1=>∃m,v=yB m/\Sat lo h1 (Z9 m []::L)):=by
 refine(zgW h).mono λv h1 ⟨e,x,VS⟩=>⟨h.next,e,?_⟩;obtain⟨bs,ps,fs,mo⟩:=x;exact s.ze3 (eE h.next []) VS.next VS.ro (λb hb=>VS.get b (λq=>q) hb) ⟨bs,ps,fs,mo⟩ λb hb=>⟨by rw[hb];exact aam _,(mo.ok b hb).2⟩
end
open Go.Rtl (inc)
def Rd(lo:yU)(X:za->Prop):Prop := ∀h,AS lo h->X h
theorem Rd.mono{lo lo':yU}{X:za->Prop}(x:Rd lo X)(l:lo.Le lo'):Rd lo' X:=λh b=>x h (b.mono l)
theorem Rd.at{lo:yU}{X:za->Prop}{h:za}{L:List HP}(x:Rd lo X)(s:Sat lo h L):X h:=x h s.base
theorem Rd.of{lo:yU}{X:za->Prop}{h0:za}(hl:lo.Has h0)(x:X h0)(m:∀h,Old h0 h->X h):Rd lo X:=λh b=>m h (by obtain⟨a,c,d⟩:=hl.old b;exact⟨a,c,d⟩)
section
variable {lo:yU}{h:za}{L:List HP}{ty:TypeId}{n:Nat}{sv:aaa}{rows:List (List aaa)}
theorem tV(s:Sat lo h (yY ty n sv rows::L))(hn:∀r,r∈rows->r.length=n):∃lo1,lo.Le lo1/\Rd lo1 (zC · sv n rows)/\Sat lo1 h L /\ ∀h' L',Sat lo1 h' L'->Sat lo h' (yY ty n sv rows::L'):=by
 obtain⟨a,ha,d,w,s⟩:=s;refine⟨lo.un a,yU.iE d,λh1 b1=>?_,s,λh' L' s'=>⟨a,ha,d,w,s'⟩⟩;have:Sat lo h1 [yY ty n sv rows]:=⟨a,ha,d,w,b1⟩;exact y6 this hn
end
def Xd(p:Pg)(fb:Nat)(c:Fr):HP:=ex λfp=>ex λrv=>j4 [fact (yh pu 23 p.fv (pm (c.f:Nat))=some fp),pt fb (Xx fp rv c.k9 c.pt),yY 66 3 rv (c.zf.map V.z9)]
section
variable {lo:yU}{h:za}{L:List HP}{p:Pg}{fb:Nat}{c:Fr}
theorem qA(s:Sat lo h (Xd p fb c::L)):∃fp rv,yh pu 23 p.fv (pm (c.f:Nat))=some fp/\Sat lo h (pt fb (Xx fp rv c.k9 c.pt)::yY 66 3 rv (c.zf.map V.z9)::L):=by
 obtain⟨fp,s⟩:=s.PE;obtain⟨rv,s⟩:=s.PE;obtain⟨e,s⟩:=Sat.pX.1 s.open;exact⟨fp,rv,e,s⟩
theorem Qo{fp rv:aaa}(e:yh pu 23 p.fv (pm (c.f:Nat))=some fp)(s:Sat lo h (pt fb (Xx fp rv c.k9 c.pt)::yY 66 3 rv (c.zf.map V.z9)::L)):Sat lo h (Xd p fb c::L) :=
 Sat.Pa fp (Sat.Pa rv (Sat.close (Sat.pX.2 ⟨e,s⟩)))
end
theorem Ea(l:List V)(r:Int)(v:V):(uz l r v).length<=max l.length (r.toNat+1):=by
 unfold uz;split
 ·omega
 ·simp;omega
theorem iB:∀(ps:List Int) (al l:List V) (r:Int) (a:V),ps.length<=al.length->al[ps.length]? = some a->wC (ps++[r]) al l=uz (wC ps al l) r a
 |[],a'::al,l,r,a,_,h=>by simp at h;subst h;rfl
 |[],[],l,r,a,_,h=>by cases h
 |p::ps,a'::al,l,r,a,hl,h=>by
  simp only[abK,wC];exact iB ps al _ r a (by simpa using hl) (by simpa using h)
 |p::ps,[],l,r,a,hl,h=>by simp at hl
theorem XQ:∀(ps:List Int) (al l:List V) {m:Nat},l.length<=m->(∀r,r∈ps->r.toNat<m)->(wC ps al l).length<=m
 |[],al,l,m,h,_=>by cases al <;> exact h
 |p::ps,a::al,l,m,h,hp=>by
  simp only[wC];refine XQ ps al _ ?_ λr hr=>hp r (by simp[hr]);have:=Ea l p a;have:=hp p (by simp);omega
 |p::ps,[],l,m,h,_=>h
section
variable {lo:yU}{h:za}{b mb wb:Nat}{p:Pg}{S:St}{ev lk gl cl kv av:aaa}{fbs:List Nat}{f:Go.Rtl.Fn}{args:List V}{n:Nat}
theorem zi0{h:za}{sv:aaa}{l:List Nat}(S:zC h sv 1 (l.map uJ))(r:TypeId)(h':za):zB pu .len [85] r [sv] h'=some (pm l.length,h'):=by
 rcases S with⟨rfl,e⟩|⟨b,off,cp,rfl,_⟩
 ·have:l=[]:=by simpa using e
  subst this;simp only[eC,aaz]
 ·simp only[eC,aaf]
theorem Bo(l:List Nat):∀r,r∈l.map uJ->r.length=1:=qV (f:=uJ) (λ_=>rfl) l
theorem Sn(hp:Rd lo (wB · p))(ha:Rd lo (zC · av 3 (args.map V.z9)))(s:Sat lo h [pt b (xo p mb wb S ev lk gl cl kv),yY 130 1 cl (fbs.map uJ),Z9 mb S.mem])
  (hf:p.funcs[n]? = some f) (hl:args.length=f.params.length) (hfb:fbs.length=S.calls.length) (hr:∀r,r∈f.params->r<100000) (hpl:f.params.length<=100000) :
  DC pu 38 [yB b,pm (n:Nat),av] h (λv h'=>v=.bool (wQ p S n args).2 /\
   if (wQ p S n args).2=true then ∃fb cl',Sat lo h' [pt b (xo p mb wb (wQ p S n args).1 ev lk gl cl' kv),yY 130 1 cl' ((fbs++[fb]).map uJ),Z9 mb (wQ p S n args).1.mem,Xd p fb ⟨n,wC f.params args [],(zW S.mem f.frame).2.1,f.entry⟩]
   else Sat lo h' [pt b (xo p mb wb (wQ p S n args).1 ev lk gl cl kv),yY 130 1 cl (fbs.map uJ),Z9 mb (wQ p S n args).1.mem]):=by
 apply nc;unfold oV yB;have gm:=s.get;unfold xo yB at gm;have hP:=hp.at s;obtain⟨bf,o,cf,tf,hix,hbf,hgf,hof,htf,hkf⟩:=zC.dJ hP.funcs (i:=n) (r:=f.row) (by rw[aaq,hf];rfl) rfl;have fvn:=hP.funcs.wk;have SC:=y6 (s.p 1) (Bo fbs);have cn:=SC.wk;have cll:=zi0 SC 3;have en:(n:Int).toNat=n:=aax n;by_cases hc:((fbs.length:Nat):Int) ≥ 20000
 ·have e:wQ p S n args=(S,false):=by unfold wQ;rw[aai (by omega)]
  simp only[EE,zA,ue,mA,xj,Sw,VV,gm,hix,cn,cll,hc];rw[e];exact⟨rfl,by simpa using s⟩
 simp only[EE,zA,ue,zj,CW,mA,xj,kQ,Sw,dY,VV,Vg,gm,hix,cn,cll,hc];have k3:=hkf 3 (by decide);simp only[EE,hgf,k3];obtain⟨lo1,l1,s1,fr⟩:=(s.f [2]).call (L2:=[Z9 mb S.mem]);refine Mt (R3 s1 f.frame) ?_;rintro v h2 ⟨rfl,s2⟩;have s3:=fr _ _ s2;obtain⟨M',rB,rE,hA⟩:∃M' rB rE,zW S.mem f.frame=(M',rB,rE):=⟨_,_,_,rfl⟩
 have en:wQ p S n args=if rE=0 then ({S with mem:=M',calls:=S.calls++[⟨n,wC f.params args [],rB,f.entry⟩]},true) else ({S with mem:=M'},false):=by
  unfold wQ;rw[aac (by omega)];simp only[aax,hf,hA]
 rw[hA]at s3 ⊢;have gm3:=(s3.p 1).get;unfold xo yB at gm3;by_cases hE:rE=0
 ·rw[aai hE]at en;rw[en];have hP2:=hp.at s3;have hf2:=hP2.fns f (aau hf);obtain⟨bf2,o2,cf2,tf2,hix2,hbf2,hgf2,hof2,htf2,hkf2⟩:=zC.dJ hP2.funcs (i:=n) (r:=f.row) (by rw[aaq,hf];rfl) rfl;rw[hix]at hix2;obtain⟨e1,e2⟩:bf=bf2/\o=o2:=by simpa using hix2
  subst bf2 o2;have k4:=hkf2 4 (by decide);simp only[EE,Value.cells,zA,yS,zj,Hz,uA,XC,J9,U8,hE,hgf2,k4];refine uI s3 λb1 h3 s4=>?_;have hP4:=hp.at s4;have hf4:=hP4.fns f (aau hf);obtain⟨bf4,o4,cf4,tf4,hix4,hbf4,hgf4,hof4,htf4,hkf4⟩:=zC.dJ hP4.funcs (i:=n) (r:=f.row) (by rw[aaq,hf];rfl) rfl;rw[hix]at hix4;obtain⟨e1,e2⟩:bf=bf4/\o=o4:=by simpa using hix4
  subst bf4 o4;have k14:=hkf4 1 (by decide);have pn:=hf4.params.wk;have pl:=hf4.params.len;simp only[EE,↓BK,hgf4,k14,pn,pl]
  refine qY (λm vs h'=>∃(i:Nat) (rv:aaa),i<=f.params.length/\m=f.params.length-i/\vs=[pm (i:Nat)]/\Sat lo h' [pt b1 (Xx (.pointer (some ⟨bf,o,none⟩)) rv rB f.entry),yY 66 3 rv ((wC (f.params.take i) args []).map V.z9),Z9 mb M',pt b (xo p mb wb S ev lk gl cl kv),yY 130 1 cl (fbs.map uJ)])
   f.params.length ⟨0,pp,aba _,rfl,rfl,?_⟩ ?_
  ·have q:=vS 66 3 s4;rw[acK,show wC [] args []=[] by cases args <;> rfl];exact(q.f [1,0,2,3,4])
  rintro m vs h' ⟨i,rv,hi,rfl,rfl,s5⟩;unfold J8;by_cases hc2:(i:Int)<(f.params.length:Int)
  ·obtain⟨r,hr1⟩:∃r,f.params[i]? = some r:=⟨_,aae (by omega)⟩;obtain⟨a,ha1⟩:∃a,args[i]? = some a:=⟨_,aae (by omega)⟩;obtain⟨b5,o5,c5,t5,ix5,lt5,g5,k5⟩:=((hp.at s5).fns f (aau hf)).params.at hr1;obtain⟨b6,o6,c6,t6,⟨off6,cp6,hav,rfl⟩,hi6,hb6,hg6,hl6,ht6,_⟩:=(ha.at s5).spot (i:=i) (r:=a.z9) (by rw[aaq,ha1];rfl) rfl;subst hav;have hi7:(i:Int)<(args.length:Int):=by omega
   have hi8:(0:Int)<=i:=by omega
   have ht6':(c6.drop (off6+i*3)).take 3=[pm a.k,pm a.n,pm a.b]:=ht6;simp only[EE,nth,↓BK,aad,zZ,zA,zj,zi,Wt,U6,J7,hc2,ix5,g5,k5,hi7,hi8,hg6,hl6,ht6',aax];obtain⟨lo2,l2,s6,fr2⟩:=(s5.f [0,1]).call (L2:=[pt b1 (Xx (.pointer (some ⟨bf,o,none⟩)) rv rB f.entry),yY 66 3 rv ((wC (f.params.take i) args []).map V.z9)]);refine Em (zdN s6 r a (hr r (aau hr1)) ?_) ?_
   ·exact XQ _ _ _ (by simp) λr hr'=>by have:=hr r (List.mem_of_mem_take hr');omega
   rintro v h6 ⟨rv',s7⟩;have s8:=fr2 _ _ s7;simp only[EE,nth,inc (show i<4611686018427387904 by omega)];refine⟨f.params.length-(i+1),by omega,i+1,rv',by omega,rfl,rfl,?_⟩;rw[ab1,hr1];have hlen:(f.params.take i).length=i:=by simp;omega
   have hg:=iB (f.params.take i) args [] r a (by rw[hlen];omega) (by rw[hlen];exact ha1);rw[show(some r).toList=[r] from rfl,hg];exact s8
  ·have hi9:i=f.params.length:=by omega
   subst hi9;rw[ack]at s5;have g5:=(s5.p 3).get;unfold xo yB at g5;have SC5:=xR (s5.p 4);have s6:=s5.push (.cells [yB b1] 130);obtain⟨b',c',h7,a1,s7⟩:=jH (s6.p 5) (Bo fbs) [yB b1] rfl (by decide) 8 (by rw[aaf];omega);rw[aaf]at a1 s7
   have hap:∀r,zB pu .append [85,85] r [cl,.slice (some ⟨h'.next,0,none⟩) 1 3] (h'.push (.cells [yB b1] 130))=some (.slice (some ⟨b',0,none⟩) (fbs.length+1) c',h7):=λr=>
    (zhV r _ _ 1 [yB b1] _ rfl (by simp only[wR,zk];rfl) rfl rfl).trans a1
   unfold yB at hap;simp only[EE,nth,zA,mA,zcc,zac,VV,U7,hc2,g5,SC5,hap];refine yp (s7.p 5) (by simp) rfl λh8 s8=>?_;simp only[EE,aad];refine⟨b1,.slice (some ⟨b',0,none⟩) (fbs.length+1) c',?_⟩;have e1:(fbs++[b1]).map uJ=fbs.map uJ++[[yB b1]]:=by simp[uJ]
   rw[e1];have s9:=s8.k [3,4,0,1,5];have s10:=Qo (p:=p) (fb:=b1) (c:=⟨n,wC f.params args [],rB,f.entry⟩) hix s9;exact s10.f [1,2,3,0]
 ·rw[aac hE]at en;rw[en];simp only[EE,U8,hE];exact s3.f [1,2,0]
end
section
variable {lo:yU}{h:za}{L:List HP}{n:Nat}{sv:aaa}{rows:List (List aaa)}{row:List aaa}{ty:TypeId}
theorem Br(s:Sat lo h (yY ty n sv (rows++[row])::L))(hn:∀r,r∈rows->r.length=n):∃b c cs,sv=.slice (some ⟨b,0,none⟩) (rows.length+1) c/\c≠0/\h.get b=some (.cells cs ty)/\Sat lo h (yY ty n (.slice (some ⟨b,0,none⟩) rows.length c) rows::L):=by
 have hlen:(rows++[row]).length=rows.length+1:=by simp
 rcases kp s with⟨_,e,_⟩|⟨b,c,cs,rfl,hc,hl,hf,s⟩
 ·simp at e
 ·rw[hlen,acR]at hl hf;refine⟨b,c,cs,by rw[hlen],hc,s.get,tU hc (by omega) ?_ s⟩;have:=congrArg (List.take (rows.length*n)) hf;rw[List.take_take,Nat.min_eq_left (by omega),List.flatten_append]at this;rw[this,List.take_left' (by rw[Go.Rtl.uZ hn])]
end
theorem HB{c:Nat}(hc:c≠0):dQ c 0=c:=by
 match c with
 |0=>exact absurd rfl hc
 |1=>rfl
 |k+2=>rfl
theorem Mw:Nat.beq (Tryz.prog.cellsOf 130) 1=true:=by kernel_rfl
def KV(kv:aaa)(kept:Option (Int->Bool)):Prop:=match kept with
 |none=>kv=.nilFunc
 |some K=>∃g,kv=.func (.func g) #[] #[]/\xO Tryz.prog g=true /\ ∀h n,yO Tryz.prog g [.int .i64 n] h (.bool (K n))
theorem PI{k:Nat}(h:k<4611686018427387904):IntKind.wrap .i64 (((k+1:Nat):Int)-1)=(k:Int):=by
 rw[show(((k+1:Nat):Int)-1)=k by omega];exact Go.Mem.ui (by omega) (by omega)
section
variable {lo:yU}{h:za}{L:List HP}{b mb wb fb:Nat}{p:Pg}{S:St}{ev lk gl cl kv:aaa}{fbs:List Nat}{c bk:Fr}{init:List Fr}{kept:Option (Int->Bool)}
theorem pH{h:za}{bb:Nat}{cs:List aaa}{fbs:List Nat}{fb:Nat}(hg:h.get bb=some (.cells cs 130))(hl:(fbs++[fb]).length*1<=cs.length)(ht:cs.take ((fbs++[fb]).length*1)=((fbs++[fb]).map uJ).flatten):cs[fbs.length]? = some (yB fb):=by
 have h1:((fbs++[fb]).map uJ).flatten[fbs.length*1+0]? = (uJ fb)[0]?:=Go.Rtl.Yf (Bo _) (i:=fbs.length) (r:=uJ fb) (by simp) (by decide);rw[<- ht,aaX (by simp)]at h1;rw[abk,acA]at h1;exact h1
theorem O0(s:Sat lo h [pt b (xo p mb wb S ev lk gl cl kv),yY 130 1 cl (([]++[fb]).map uJ),Z9 mb S.mem,Xd p fb c])(hc:S.calls=[c])(hL:S.mem.length<=100000)(hb:c.k9<9223372036854775808)(v:V) :
  DC pu 74 [yB b,v.val] h (λr h'=>r=.bool (qi p kept S v).2 /\ ∃cl',Sat lo h' [pt b (xo p mb wb (qi p kept S v).1 ev lk gl cl' kv),yY 130 1 cl' ([].map uJ),Z9 mb (qi p kept S v).1.mem]):=by
 apply CA;unfold G9 yB V.val
 have el:qi p kept S v=if v.k=1 then ({S with mem:=(qN S.mem c.k9).getD S.mem,calls:=[],kind:=1,exit:=v.n},true) else ({S with mem:=(qN S.mem c.k9).getD S.mem,calls:=[]},false):=by
  unfold qi;rw[hc];rfl
 simp only[EE,Value.cells,zA,mA,VV];refine uI s λb1 h1 s1=>?_;have gm:=(s1.p 1).get;unfold xo yB at gm;rcases kp (s1.p 2) with⟨_,e,_⟩|⟨bb,cc,cs,hcl,hcc,hll,htt,sc⟩
 ·simp at e
 have hcl':cl=.slice (some ⟨bb,0,none⟩) 1 cc:=hcl;subst hcl';have gc:=sc.get;have ac:=pH (fbs:=[]) (fb:=fb) gc hll htt;unfold yB at ac;obtain⟨fp,rv,hfp,sf⟩:=qA (s1.p 4);have gf:=sf.get;unfold Xx at gf;have w1:IntKind.wrap .i64 (((1:Nat):Int)-1)=0:=PI (k:=0) (by decide);have l1:(0:Int)<((1:Nat):Int):=by decide
 rw[aaz]at ac;simp only[EE,aad,Nat.reduceMul,Int.reduceLE,Int.reduceToNat,zA,Hs,zj,CW,Di,dY,SJ,eC,gm,gc,ac,gf,w1,l1];obtain⟨lo1,le1,s2,fr⟩:=(s1.f [3]).call (L2:=[Z9 mb S.mem]);refine Mt (zcT s2 hL hb) ?_;rintro r h2 ⟨rfl,s3⟩;have s4:=fr _ _ s3;have gm2:=(s4.p 2).get;unfold xo yB at gm2;obtain⟨b2,c2,cs2,hcl2,hc2,gc2,sc2⟩:=Br (rows:=[]) (row:=uJ fb) (s4.p 3) (by simp);obtain⟨e1,e2⟩:bb=b2/\cc=c2:=by simpa using hcl2
 subst b2 c2;have hw2:wide pu h2 bb 1=true:=by rw[Iq gc2];exact Mw
 have cs0:=HB hcc;have l01:(0:Int)<=((1:Nat):Int):=by decide
 simp only[EE,aaC,aad,Nat.reduceMul,Int.reduceLE,Int.reduceToNat,zA,mA,zcc,VV,eC,zf0,nf,gm2,w1,hw2,cs0,l01,Nat.sub_zero];refine yp ((sc2.f [3])) (by simp) rfl λh5 s5=>?_;have gm5:=s5.get;simp only[EE,zb,zA,mA,VV,eC,gm5];have gv:=(s5.p 3).get;have z0:((0:Nat):Int)=0:=rfl;simp only[];rw[el];by_cases hk:v.k=1
 ·rw[aai hk];have hne:=(s5.f [0,3]).ne;simp only[EE,Nat.reduceAdd,Nat.reduceLeDiff,ne_eq,zA,xp,zj,WU,j8,zP,yf,WJ,FI,sS,gv,hk,z0,zb4,hne];refine⟨.inl trivial,?_⟩;refine yp s5 (by simp[zb]) rfl λh6 s6=>?_;simp only[EE,Nat.reduceAdd,zhX,HE,WJ];refine yp s6 (by simp[zb]) rfl λh7 s7=>?_;simp only[EE];exact⟨.slice (some ⟨bb,0,none⟩) 0 cc,s7.k [0,1,2]⟩
 ·rw[aac hk];simp only[EE,zA,zj,zP,sS,gv,hk,z0];exact⟨.slice (some ⟨bb,0,none⟩) 0 cc,s5.k [0,1,2]⟩
theorem zgz(x y:Operand):zX pu .neq 46 x y .nilFunc .nilFunc=some (.bool false):=by kernel_rfl
theorem zeH(x y:Operand)(g:FuncId):zX pu .neq 46 x y (.func (.func g) #[] #[]) .nilFunc=some (.bool true):=by kernel_rfl
def bI(K:Int->Bool)(l:List V)(i:Nat):List V:=(List.range l.length).map λ(k:Nat)=>if k<i then (if K (k:Int)=true then l.getD k v0 else v0) else l.getD k v0
theorem OY(K:Int->Bool)(l:List V):bI K l 0=l:=by
 apply abc;intro k;unfold bI;rw[aaq];by_cases h:k<l.length
 ·rw[List.getElem?_range h];simp[aae h]
 ·rw[aal (by simpa using h),aal (by omega)];rfl
theorem zar(K:Int->Bool)(l:List V):bI K l l.length=kW (some K) l:=by
 unfold bI kW;apply List.map_congr_left;intro k hk;rw[aai (abz.1 hk)]
theorem bJ(K:Int->Bool)(l:List V)(i:Nat):(bI K l i).length=l.length:=by simp[bI]
theorem zas{K:Int->Bool}{l:List V}{i:Nat}(h:K (i:Int)=true):bI K l (i+1)=bI K l i:=by
 unfold bI;apply List.map_congr_left;intro k hk;by_cases e:k=i
 ·subst e;simp[h]
 ·by_cases e2:k<i
  ·rw[aai (by omega),aai e2]
  ·rw[aac (by omega),aac e2]
theorem zc6{K:Int->Bool}{l:List V}{i:Nat}(h:K (i:Int)=false):bI K l (i+1)=(bI K l i).set i v0:=by
 apply abc;intro k;by_cases hk:k<l.length
 ·rw[ab0];unfold bI;simp only[aaq,List.getElem?_range hk,abV,aaf,List.length_range];by_cases e:i=k
  ·subst e;rw[aai (by omega),aai rfl,aai hk,h];simp
  ·rw[aac e];by_cases e2:k<i
   ·rw[aai (by omega),aai e2]
   ·rw[aac (by omega),aac e2]
 ·rw[aal (by rw[bJ];omega),aal (by rw[aaW,bJ];omega)]
theorem O1{fbb:Nat}{ini:List Fr}{fi:List Nat}{i:xG}(hp:Rd lo (wB · p))(s:Sat lo h [pt b (xo p mb wb S ev lk gl cl kv),yY 130 1 cl (((fi++[fbb])++[fb]).map uJ),Z9 mb S.mem,Xd p fb c,Xd p fbb bk])(hc:S.calls=(ini++[bk])++[c])(hi:j3 p bk=some i)(hK:KV kv kept)
  (hfi:fi.length<4611686018427387900) (hrl:bk.zf.length<=100000) (hd:i.d<100000) (hL:S.mem.length<=100000) (hb:c.k9<9223372036854775808) (v:V) :
  DC pu 74 [yB b,v.val] h (λr h'=>r=.bool (qi p kept S v).2 /\ ∃cl',Sat lo h' [pt b (xo p mb wb (qi p kept S v).1 ev lk gl cl' kv),yY 130 1 cl' ((fi++[fbb]).map uJ),Z9 mb (qi p kept S v).1.mem,Xd p fbb {bk with zf:=uz (kW kept bk.zf) i.d v,pt:=i.s}]):=by
 apply CA;unfold G9 yB V.val
 have el:qi p kept S v=({S with mem:=(qN S.mem c.k9).getD S.mem,calls:=ini++[{bk with zf:=uz (kW kept bk.zf) i.d v,pt:=i.s}]},true):=by
  unfold qi;rw[hc];simp only[abI,aaY,hi]
 rw[el];simp only[EE,Value.cells,zA,mA,VV];refine uI s λb1 h1 s1=>?_;have gm:=(s1.p 1).get;unfold xo yB at gm;rcases kp (s1.p 2) with⟨_,e,_⟩|⟨bb,cc,cs,hcl,hcc,hll,htt,sc⟩
 ·simp at e
 have hl2:(((fi++[fbb])++[fb]).map uJ).length=fi.length+1+1:=by simp
 have hl3:(fi++[fbb]).length=fi.length+1:=by simp
 rw[hl2]at hcl;subst hcl;have gc:=sc.get;rw[aaf]at hll htt;have ac:=pH (fbs:=fi++[fbb]) (fb:=fb) gc hll htt;unfold yB at ac;rw[hl3]at ac;obtain⟨fp,rv,hfp,sf⟩:=qA (s1.p 4);have gf:=sf.get;unfold Xx at gf;have w1:=PI (k:=fi.length+1) (by omega);have l0:(0:Int)<=((fi.length+1:Nat):Int):=by omega
 have l1:((fi.length+1:Nat):Int)<((fi.length+1+1:Nat):Int):=by omega
 simp only[EE,aad,zA,Hs,zj,CW,Di,dY,SJ,eC,gm,gc,ac,gf,w1,l0,l1,aax,abk];obtain⟨lo1,le1,s2,fr⟩:=(s1.f [3]).call (L2:=[Z9 mb S.mem]);refine Mt (zcT s2 hL hb) ?_;rintro r h2 ⟨rfl,s3⟩;have s4:=fr _ _ s3;have gm2:=(s4.p 2).get;unfold xo yB at gm2;have s4c:=s4.p 3;rw[abp (l₁:=fi++[fbb])]at s4c;obtain⟨b2,c2,cs2,hcl2,hc2,gc2,sc2⟩:=Br s4c (Bo _);have hl4:((fi++[fbb]).map uJ).length=fi.length+1:=by simp
 rw[hl4]at hcl2 sc2;obtain⟨e1,e2⟩:bb=b2/\cc=c2:=by simpa using hcl2
 subst b2 c2;have hw2:wide pu h2 bb 1=true:=by rw[Iq gc2];exact Mw
 have cs0:=HB hcc;have l01:(0:Int)<=((fi.length+1:Nat):Int)/\((fi.length+1:Nat):Int)<=((fi.length+1+1:Nat):Int):=by omega
 simp only[EE,aaC,aad,Nat.reduceMul,zA,mA,zcc,VV,eC,zf0,nf,gm2,w1,hw2,cs0,l01,Nat.sub_zero,aax,and_self];refine yp ((sc2.f [3])) (by simp) rfl λh5 s5=>?_;have gm5:=s5.get;have nz:¬((fi.length+1:Nat):Int)=0:=by omega
 have w2:=PI (k:=fi.length) (by omega);simp only[EE,zb,zA,mA,VV,SJ,eC,Cz,gm5,nz];have s6:=s5.p 1;rcases kp s6 with⟨e,_,_⟩|⟨b6,c6,cs6,hcl6,hc6,hl6,ht6,sc6⟩
 ·cases e
 rw[hl4]at hcl6;obtain⟨e1,e2⟩:bb=b6/\cc=c6:=by simpa using hcl6
 subst b6 c6;rw[aaf]at hl6 ht6;have ac6:=pH (fbs:=fi) (fb:=fbb) sc6.get hl6 ht6;unfold yB at ac6;have gc6:=sc6.get;have l5:(0:Int)<=(fi.length:Int):=by omega
 have l6:((fi.length:Nat):Int)<((fi.length+1:Nat):Int):=by omega
 obtain⟨fpb,rvb,hfpb,sb⟩:=qA (s5.f [5]);have gb:=sb.get;unfold Xx at gb
 obtain⟨ff,hff,hin⟩:∃ff,p.funcs[bk.f]? = some ff/\(0<=bk.pt/\ff.code[bk.pt.toNat]? = some i):=by
  unfold j3 at hi;cases hff:p.funcs[bk.f]? with
  |none=>rw[hff]at hi;cases hi
  |some ff=>
   rw[hff]at hi;simp only[aaI]at hi;split at hi
   ·cases hi
   ·exact⟨ff,rfl,by omega,hi⟩
 have hP:=hp.at s5;obtain⟨bf,o,cf,tf,hix,hbf,hgf,hof,htf,hkf⟩:=zC.dJ hP.funcs (i:=bk.f) (r:=ff.row) (by rw[aaq,hff];rfl) rfl;rw[hfpb]at hix;obtain rfl:=abO hix;have k5:=hkf 5 (by decide);have hfo:=hP.fns ff (aau hff);obtain⟨bi,oi,ci,ti,hii,hbi,hgi,hoi,hti,hki⟩:=zC.ED hfo.code (i:=bk.pt.toNat) (r:=i.row) (by rw[aaq,hin.2];rfl) rfl;have hpt:((bk.pt.toNat:Nat):Int)=bk.pt:=abW hin.1;rw[hpt]at hii;have cdn:=hfo.code.wk;have hti':(ci.drop oi).take 9=[pm i.op,pm i.sub,pm i.a,pm i.b,pm i.d,pm i.k,i.av,pm i.s,pm i.t]:=hti;have hin9:=hfo.ins i (aau hin.2);have ivn:=hin9.args.wk;have ivc:=hin9.args.eT;simp only[EE,Value.cells,aad,zZ,zA,zbT,Hs,zj,uS,qI,pI,MH,bD,xL,gc6,ac6,w2,l5,l6,gb,hgf,k5,hii,hgi,hoi,hti',aax,abk];refine uI s5 λb7 h7 s7=>?_;simp only[EE,Nat.reduceAdd,F4];refine yp s7 (by simp) (by simp only[aa6,abC,ivc,qK,abb]) λh8 s8=>?_;obtain⟨fpb8,rvb8,hfpb8,sb8⟩:=qA (s8.f [6]);have g8:=s8.get;have gm8:=(s8.p 1).get;have gb8:=sb8.get;unfold xo yB at gm8;unfold Xx at gb8
 have fin:∀(h9:za) (zf:List V) (rv9:aaa),zf.length<=100000->zf=kW kept bk.zf->Sat lo h9 [pt fbb (Xx fpb8 rv9 bk.k9 bk.pt),yY 66 3 rv9 (zf.map V.z9),pt b7 (.cells i.row 51),pt b (xo p mb wb {S with mem:=(qN S.mem c.k9).getD S.mem,calls:=ini++[{bk with zf:=uz (kW kept bk.zf) i.d v,pt:=i.s}]} ev lk gl (.slice (some ⟨bb,0,none⟩) (fi.length+1) cc) kv),yY 130 1 (.slice (some ⟨bb,0,none⟩) (fi.length+1) cc) ((fi++[fbb]).map uJ),Z9 mb ((qN S.mem c.k9).getD S.mem),pt b1 (.cells v.z9 66)] ->
   sU (pi b7) (pi b1) (pi fbb) (λr h'=>r=.bool true /\ ∃cl',Sat lo h' [pt b (xo p mb wb {S with mem:=(qN S.mem c.k9).getD S.mem,calls:=ini++[{bk with zf:=uz (kW kept bk.zf) i.d v,pt:=i.s}]} ev lk gl cl' kv),yY 130 1 cl' ((fi++[fbb]).map uJ),Z9 mb ((qN S.mem c.k9).getD S.mem),Xd p fbb {bk with zf:=uz (kW kept bk.zf) i.d v,pt:=i.s}]) [] h9:=by
  intro h9 zf rv9 hlen hregs s9;unfold sU;have q2:=(s9.p 2).get;have q6:=(s9.p 6).get;unfold V.z9 at q6;simp only[EE,aad,Nat.reduceAdd,zZ,zA,zj,zi,x8,q2,q6];obtain⟨lo3,le3,s10,fr3⟩:=s9.call (L2:=[pt fbb (Xx fpb8 rv9 bk.k9 bk.pt),yY 66 3 rv9 (zf.map V.z9)]);refine Em (zdN s10 i.d v hd hlen) ?_;rintro r h10 ⟨rv',s11⟩;have s12:=fr3 _ _ s11;have q12:=(s12.p 2).get;have qf:=s12.get;unfold Xx at qf;simp only[EE,zA,zj,WU,bD,Xb,FO,q12];refine yp s12 (by simp) rfl λh13 s13=>?_;simp only[EE];have s14:=Qo (p:=p) (fb:=fbb) (c:={bk with zf:=uz zf i.d v,pt:=i.s}) hfpb8 (s13.k [0,1,3,4,5]);rw[hregs]at s14;exact⟨_,s14.f [1,2,3,0]⟩
 cases kept with
 |none=>
  have hkv:kv=.nilFunc:=hK;subst hkv;simp only[EE,zb,zA,zbU,HI,gm8,zgz];exact fin h8 bk.zf rvb8 hrl rfl (sb8.zJ 7)
 |some K=>
  obtain⟨g,rfl,hcal,hQ⟩:=hK;simp only[EE,zb,zA,zbU,YM,bC,HI,FN,gm8,zeH];have SR8:=y6 (sb8.p 1) (wV _);have rn8:=SR8.wk;have rl8:∀r h',zB pu .len [56] r [rvb8] h'=some (pm bk.zf.length,h'):=zc8 SR8;simp only[EE,↓BK,gb8,rn8,rl8]
  refine qY (λm vs h'=>∃(k:Nat),k<=bk.zf.length/\m=bk.zf.length-k/\vs=[pm (k:Nat)]/\Sat lo h' [pt fbb (Xx fpb8 rvb8 bk.k9 bk.pt),yY 66 3 rvb8 ((bI K bk.zf k).map V.z9),pt b7 (.cells i.row 51),pt b (xo p mb wb {S with mem:=(qN S.mem c.k9).getD S.mem,calls:=ini++[{bk with zf:=uz (kW (some K) bk.zf) i.d v,pt:=i.s}]} ev lk gl (.slice (some ⟨bb,0,none⟩) (fi.length+1) cc) (.func (.func g) #[] #[])),yY 130 1 (.slice (some ⟨bb,0,none⟩) (fi.length+1) cc) ((fi++[fbb]).map uJ),Z9 mb ((qN S.mem c.k9).getD S.mem),pt b1 (.cells v.z9 66)])
   bk.zf.length ⟨0,aba _,rfl,rfl,by rw[OY];exact sb8.zJ 7⟩ ?_
  rintro m vs h' ⟨k,hk,rfl,rfl,s9⟩;unfold FM;by_cases hkl:(k:Int)<(bk.zf.length:Int)
  ·have g9:=(s9.p 3).get;unfold xo yB at g9;simp only[EE,nth,↓BK,zA,zbU,HI,FK,FL,hkl,g9];refine w8 hcal rfl (hQ h' k) ?_;have gf9:=s9.get;unfold Xx at gf9;obtain⟨b0,c0,cs0',hrv,gb0,wb0,lb0,s10⟩:=Xh (s9.p 1) (wV _) (i:=k) (by rw[aaf,bJ];omega);have hrv':rvb8=.slice (some ⟨b0,0,none⟩) bk.zf.length c0:=by rw[hrv,aaf,bJ]
   cases hKk:K (k:Int) with
   |true=>
    simp only[EE,nth,inc (show k<4611686018427387904 by omega)];exact⟨bk.zf.length-(k+1),by omega,k+1,by omega,rfl,rfl,by rw[zas hKk];exact s9⟩
   |false=>
    have h0k:(0:Int)<=k:=(by omega);simp only[EE,nth,aad,Nat.reduceAdd,zA,YM,zo,zM,bC,Wt,FJ,gf9,hrv',hkl,h0k,aax];refine V1 gb0 wb0 lb0 s10 (row:=v0.z9) rfl rfl λh11 s11=>?_;simp only[EE,nth,inc (show k<4611686018427387904 by omega)];refine⟨bk.zf.length-(k+1),by omega,k+1,by omega,rfl,rfl,?_⟩;rw[zc6 hKk,ab5];exact s11.f [1,0,2,3,4,5,6]
  ·have hk2:k=bk.zf.length:=by omega
   subst hk2;simp only[EE,nth,hkl];exact fin h' _ rvb8 (by rw[bJ];exact hrl) (zar K bk.zf) s9
end
section
variable {lo:yU}{h:za}{L:List HP}{b mb wb fb:Nat}{p:Pg}{S:St}{world:List Int}{ev lk gl cl kv wn:aaa}{fi:List Nat}{c:Fr}{ini:List Fr}{i:xG}{kept:Option (Int->Bool)}
theorem zgX{used:Int}(s:Sat lo h [pt wb (.cells [wn,pm used] 119),yY 2 1 wn (world.map yo)])(h0:0<=used)(h1:used<4611686018427387904)(hl:world.length<4611686018427387904) :
  DC pu 75 [yB wb] h (λv h'=>v=.int .i64 (Zw world used)/\Sat lo h' [pt wb (.cells [wn,pm (used+1)] 119),yY 2 1 wn (world.map yo)]):=by
 apply TH;unfold zbo yB;have gw:=s.get;have hinc:IntKind.wrap .i64 (used+1)=used+1:=Go.Mem.ui (by omega) (by omega);have hdec:IntKind.wrap .i64 (used+1-1)=used:=by rw[show used+1-1=used by omega];exact Go.Mem.ui (by omega) (by omega)
 simp only[EE,zA,zj,WU,Dh,gw,hinc];refine yp s (by simp) rfl λh2 s2=>?_;have g2:=s2.get;have SR:=y6 (s2.p 1) (qV (f:=yo) (λ_=>rfl) world);have ws:=SR.wk
 have hlen:∀h',zB pu .len [26] 3 [wn] h'=some (pm world.length,h'):=λh'=>by
  rcases SR with⟨rfl,e⟩|⟨_,_,_,rfl,_⟩
  ·have:world=[]:=by simpa using e
   subst this;simp only[iG,aaz]
  ·simp only[iG,aaf]
 by_cases hc:(world.length:Int)<used+1
 ·have hc':used+1>(world.length:Int):=hc;simp only[EE,zb,zA,RX,zj,MF,Dh,g2,ws,hlen,hc];refine⟨?_,s2⟩;unfold Zw;rw[aac (by omega),aaB,aal (by omega)];rfl
 ·obtain⟨z,hz⟩:∃z,world[used.toNat]? = some z:=⟨_,aae (by omega)⟩;obtain⟨bb,o,cs,t,⟨off,cp,rfl,rfl⟩,hi,hb,hgt,hle,htk,hat⟩:=SR.spot (i:=used.toNat) (r:=yo z) (by rw[aaq,hz];rfl) rfl;have hat0:cs[off+used.toNat*1]? = some (pm z):=hat 0 (by decide);rw[abk]at hat0;have hu:used<(world.length:Int):=by omega
  rw[aaf]at *
  simp only[EE,zb,aad,zA,xp,RX,zj,MF,Dh,SH,IT,g2,ws,hlen,hc,hdec,h0,hu,hgt,hat0,abk];refine⟨?_,s2⟩;unfold Zw;rw[aac (by omega),aaB,hz];rfl
def wi(p:Pg)(b mb wb:Nat)(world:List Int)(S:St)(ev lk gl cl kv wn:aaa)(fbs:List Nat):List HP :=
 [pt b (xo p mb wb S ev lk gl cl kv),yY 130 1 cl (fbs.map uJ),Z9 mb S.mem,yY 71 3 lk (S.lk.map wy),yY 78 2 ev (S.ev.map qz),yY 3 1 gl (S.gl.map yo),pt wb (.cells [wn,pm S.used] 119),yY 2 1 wn (world.map yo)]
theorem zdV(hp:Rd lo (wB · p))(s:Sat lo h (wi p b mb wb world S ev lk gl cl kv wn (fi++[fb])++Xd p fb c::L))(hi:j3 p c=some i)(hfi:fi.length<4611686018427387900){R:aaa->za->Prop}
  (k:zV i.av=false->yN i.av=true->∀b1 b2 h3,Sat lo h3 (pt b2 (.cells v0.z9 66)::pt b1 (.cells i.row 51)::(wi p b mb wb world S ev lk gl cl kv wn (fi++[fb])++Xd p fb c::L)) ->
   y9 (pm i.op) (pi b1) h3 (pi b2) (pi fb) (pi b) R (λvs9 h10=>opt (Z7 pu .not (nth vs9 1)) λt244=>CD t244 (λj183=>Ai.rv [.bool false] h10 R) (λj183=>j183 [nth vs9 0] h10) (aO (pi b1) (pi b2) (pi fb) R))):sV h (yB b) R:=by
 unfold sV yB;have gm:=s.get;unfold xo yB at gm;rcases kp (s.p 1) with⟨_,e,_⟩|⟨bb,cc,cs,hcl,hcc,hll,htt,sc⟩
 ·simp at e
 have hl2:((fi++[fb]).map uJ).length=fi.length+1:=by simp
 rw[hl2]at hcl;subst hcl;have gc:=sc.get;rw[aaf]at hll htt;have ac:=pH (fbs:=fi) (fb:=fb) gc hll htt;unfold yB at ac;obtain⟨fp,rv,hfp,sf⟩:=qA (s.p 8);have gf:=sf.get;unfold Xx at gf;have w1:=PI (k:=fi.length) (by omega);have l0:(0:Int)<=(fi.length:Int):=by omega
 have l1:((fi.length:Nat):Int)<((fi.length+1:Nat):Int):=by omega
 obtain⟨ff,hff,hin⟩:∃ff,p.funcs[c.f]? = some ff/\(0<=c.pt/\ff.code[c.pt.toNat]? = some i):=by
  unfold j3 at hi;cases hff:p.funcs[c.f]? with
  |none=>rw[hff]at hi;cases hi
  |some ff=>
   rw[hff]at hi;simp only[aaI]at hi;split at hi
   ·cases hi
   ·exact⟨ff,rfl,by omega,hi⟩
 have hP:=hp.at s;obtain⟨bf,o,cf,tf,hix,hbf,hgf,hof,htf,hkf⟩:=zC.dJ hP.funcs (i:=c.f) (r:=ff.row) (by rw[aaq,hff];rfl) rfl;rw[hfp]at hix;obtain rfl:=abO hix;have k5:=hkf 5 (by decide);have hfo:=hP.fns ff (aau hff);obtain⟨bi,oi,ci,ti,hii,hbi,hgi,hoi,hti,hki⟩:=zC.ED hfo.code (i:=c.pt.toNat) (r:=i.row) (by rw[aaq,hin.2];rfl) rfl;have hpt:((c.pt.toNat:Nat):Int)=c.pt:=abW hin.1;rw[hpt]at hii;have cdn:=hfo.code.wk;have hti':(ci.drop oi).take 9=[pm i.op,pm i.sub,pm i.a,pm i.b,pm i.d,pm i.k,i.av,pm i.s,pm i.t]:=hti;have hin9:=hfo.ins i (aau hin.2);have ivn:=hin9.args.wk;have ivc:=hin9.args.eT;simp only[EE,Value.cells,aad,zZ,zA,zbT,Hs,zj,uS,qI,mA,pI,MH,bD,xL,VV,SJ,eC,gm,gc,ac,w1,l0,l1,gf,hgf,k5,hii,hgi,hoi,hti',aax,abk];refine uI s λb1 h1 s1=>?_;simp only[EE,Nat.reduceAdd,F4];refine yp s1 (by simp) (by simp only[aa6,abC,ivc,qK,abb]) λh2 s2=>?_;have g2:=s2.get;simp only[EE,Value.cells,↓BK,zA,zj,y7,zw];refine uI s2 λb2 h3 s3=>?_;have g3:=(s3.p 1).get;simp only[EE,zb,Nat.reduceAdd,g3];exact k ivn ivc b1 b2 h3 s3
theorem step_end{b1 b2:Nat}{v:V}{R:aaa->za->Prop}(hn:zV i.av=false)(s:Sat lo h (pt b2 (.cells v.z9 66)::pt b1 (.cells i.row 51)::Xd p fb c::L))(hw:zu i<100000)(hl:c.zf.length<=100000)
  (k:∀h',Sat lo h' (Xd p fb {c with zf:=uz c.zf (zu i) v,pt:=i.s} :: L)->R (.bool true) h'):∀vs,aO (pi b1) (pi b2) (pi fb) R vs h:=by
 intro vs;unfold aO;have g1:=(s.p 1).get;simp only[EE,aad,Nat.reduceAdd,zZ,qI,g1];refine zew (by simp only[yC,yK,aaK]) (Go.Rtl.Gc i hn h) ?_;have g2:=s.get;unfold V.z9 at g2;obtain⟨fp,rv,hfp,sf⟩:=qA (s.p 2);simp only[EE,aad,Nat.reduceAdd,zZ,zi,g2];obtain⟨lo1,le1,s1,fr⟩:=sf.call (L2:=[pt fb (Xx fp rv c.k9 c.pt),yY 66 3 rv (c.zf.map V.z9)]);refine Mt (zdN s1 (zu i) v hw hl) ?_;rintro r h2 ⟨rv',s2⟩;have s3:=fr _ _ s2;have g3:=(s3.p 3).get;have gf:=s3.get;unfold Xx at gf;simp only[EE,zA,zj,WU,bD,Xb,FT,g3];refine yp s3 (by simp) rfl λh4 s4=>?_;simp only[EE];have s5:=Qo (p:=p) (fb:=fb) (c:={c with zf:=uz c.zf (zu i) v,pt:=i.s}) hfp s4;exact k h4 (s5.f [0] |>.perm (acW _) |> λx=>(x.p 2).drop |> λy=>(y.p 1).drop)
end
section
variable {lo:yU}{h:za}{L:List HP}{b mb wb fb b1 b2:Nat}{p:Pg}{S:St}{world:List Int}{ev lk gl cl kv wn:aaa}{fi:List Nat}{c:Fr}{ini:List Fr}{i:xG}{kept:Option (Int->Bool)}{R:aaa->za->Prop}
theorem iV{h:za}{sv:aaa}{zs:List Int}(S:zC h sv 1 (zs.map yo)):zL h sv zs:=by
 have T:=S;rcases S with⟨e,e2⟩|⟨b,off,cp,rfl,hc⟩
 ·exact .inl ⟨e,by simpa using e2⟩
 ·refine .inr ⟨b,off,cp,by rw[aaf],λhz=>?_⟩;obtain⟨c,t,hb,hg,hat⟩:=hc (by simpa using hz);refine⟨c,t,hb,hg,λi z hiz=>?_⟩;obtain⟨b2,o,c2,t2,⟨off2,cp2,e1,e2⟩,_,_,hg2,_,_,h3⟩:=T.spot (i:=i) (r:=yo z) (by rw[aaq,hiz];rfl) rfl;simp only[abd,aab,abw]at e1;obtain⟨⟨rfl,rfl,_⟩,_,rfl⟩:=e1;rw[hg]at hg2;cases hg2;have:=h3 0 (by decide);rw[e2,abk,acA]at this;exact this
def Ek(b1 b2 fb:Nat)(R:aaa->za->Prop)(vs9:List aaa)(h10:za):Prop:=opt (Z7 pu .not (nth vs9 1)) λt244=>CD t244 (λj183=>Ai.rv [.bool false] h10 R) (λj183=>j183 [nth vs9 0] h10) (aO (pi b1) (pi b2) (pi fb) R)
theorem OX{x:aaa}{h:za}(k:R (.bool false) h):Ek b1 b2 fb R [x,.bool false] h:=by
 unfold Ek;simp only[EE,nth];exact k
theorem QX{x:aaa}{h:za}{v:V}(hn:zV i.av=false)(hw:zu i<100000)(hrl:c.zf.length<=100000)(s:Sat lo h (pt b2 (.cells v.z9 66)::pt b1 (.cells i.row 51)::(wi p b mb wb world S ev lk gl cl kv wn (fi++[fb])++Xd p fb c::L)))
  (k:∀h' ,Sat lo h' (Xd p fb {c with zf:=uz c.zf (zu i) v,pt:=i.s} :: (wi p b mb wb world S ev lk gl cl kv wn (fi++[fb])++L))->R (.bool true) h'):Ek b1 b2 fb R [x,.bool true] h:=by
 unfold Ek;simp only[EE,nth];exact step_end hn (s.f [0,1,10]) hw hrl k _
theorem zi1(h0:i.op=2)(hn:zV i.av=false)(hco:yN i.av=true)(hw:zu i<100000)(hrl:c.zf.length<=100000)(s:Sat lo h (pt b2 (.cells v0.z9 66)::pt b1 (.cells i.row 51)::(wi p b mb wb world S ev lk gl cl kv wn (fi++[fb])++Xd p fb c::L)))
  (k:∀h' ,Sat lo h' (Xd p fb {c with zf:=uz c.zf (zu i) (qj i.k),pt:=i.s} :: (wi p b mb wb world S ev lk gl cl kv wn (fi++[fb])++L))->R (.bool true) h'):y9 (pm i.op) (pi b1) h (pi b2) (pi fb) (pi b) R (Ek b1 b2 fb R):=by
 rw[h0];unfold y9;have g1:=(s.p 1).get;have gm:=(s.p 2).get;unfold xo yB at gm;simp only[EE,zA,xp,vR,FR,g1];refine yq (WO i.k h) ?_;simp only[EE,Nat.reduceAdd,zo,vv];refine yp s (by simp[V.z9,v0]) rfl λh1 s1=>?_;exact QX hn hw hrl s1 k
theorem zi2(h0:i.op=3)(hn:zV i.av=false)(hco:yN i.av=true)(hw:zu i<100000)(hrl:c.zf.length<=100000)(s:Sat lo h (pt b2 (.cells v0.z9 66)::pt b1 (.cells i.row 51)::(wi p b mb wb world S ev lk gl cl kv wn (fi++[fb])++Xd p fb c::L)))
  (k:∀h' ,Sat lo h' (Xd p fb {c with zf:=uz c.zf (zu i) (zT c.zf i.a),pt:=i.s} :: (wi p b mb wb world S ev lk gl cl kv wn (fi++[fb])++L))->R (.bool true) h'):y9 (pm i.op) (pi b1) h (pi b2) (pi fb) (pi b) R (Ek b1 b2 fb R):=by
 rw[h0];unfold y9;have g1:=(s.p 1).get;have gm:=(s.p 2).get;unfold xo yB at gm;simp only[EE,Int.reduceEq,zA,zj,xk,aN,qH,g1];obtain⟨fp,rv,hfp,sf⟩:=qA (s.p 10);refine yq (p9 sf i.a) ?_;simp only[EE,Nat.reduceAdd,zo,vv];refine yp s (by simp[V.z9,v0]) rfl λh1 s1=>?_;exact QX hn hw hrl s1 k
theorem zi3(h0:i.op=4)(hn:zV i.av=false)(hco:yN i.av=true)(hw:zu i<100000)(hrl:c.zf.length<=100000)(s:Sat lo h (pt b2 (.cells v0.z9 66)::pt b1 (.cells i.row 51)::(wi p b mb wb world S ev lk gl cl kv wn (fi++[fb])++Xd p fb c::L)))
  (k:∀h' ,Sat lo h' (Xd p fb {c with zf:=uz c.zf (zu i) ((mM i.sub (zT c.zf i.a)).getD v0),pt:=i.s} :: (wi p b mb wb world S ev lk gl cl kv wn (fi++[fb])++L))->(mM i.sub (zT c.zf i.a)).isSome=true->R (.bool true) h')
  (k0:∀h' ,Sat lo h' (wi p b mb wb world S ev lk gl cl kv wn (fi++[fb])++Xd p fb c::L)->(mM i.sub (zT c.zf i.a)).isSome=false->R (.bool false) h'):y9 (pm i.op) (pi b1) h (pi b2) (pi fb) (pi b) R (Ek b1 b2 fb R):=by
 rw[h0];unfold y9;have g1:=(s.p 1).get;have gm:=(s.p 2).get;unfold xo yB at gm;simp only[EE,Int.reduceEq,zA,zj,yj,xk,aM,xY,qH,g1];obtain⟨fp,rv,hfp,sf⟩:=qA (s.p 10);refine El (p9 sf i.a) ?_;unfold gU;refine El (zje i.sub _ h) ?_;unfold wW;cases hu:mM i.sub (zT c.zf i.a) with
 |none=>
  simp only[EE,Nat.reduceAdd,zo,vv,acb,aa8,v0];refine yp s (by simp[V.z9,v0]) rfl λh1 s1=>?_;exact OX (k0 h1 (s1.drop.drop) (by rw[hu];rfl))
 |some u=>
  simp only[EE,Nat.reduceAdd,zo,vv,abG,abh];refine yp s (by simp[V.z9,v0]) rfl λh1 s1=>?_;exact QX (v:=u) hn hw hrl s1 λh' s'=>k h' (by rw[hu];exact s') (by rw[hu];rfl)
theorem zi7(h0:i.op=8)(hs0:0<=i.sub)(hs1:i.sub<S.gl.length)(hn:zV i.av=false)(hco:yN i.av=true)(hw:zu i<100000)(hrl:c.zf.length<=100000)(s:Sat lo h (pt b2 (.cells v0.z9 66)::pt b1 (.cells i.row 51)::(wi p b mb wb world S ev lk gl cl kv wn (fi++[fb])++Xd p fb c::L)))
  (k:∀h' ,Sat lo h' (Xd p fb {c with zf:=uz c.zf (zu i) (AW (S.gl.getD i.sub.toNat 0) i.k),pt:=i.s} :: (wi p b mb wb world S ev lk gl cl kv wn (fi++[fb])++L))->R (.bool true) h'):y9 (pm i.op) (pi b1) h (pi b2) (pi fb) (pi b) R (Ek b1 b2 fb R):=by
 rw[h0];unfold y9;have g1:=(s.p 1).get;have gm:=(s.p 2).get;unfold xo yB at gm;have SG:=iV (y6 (s.p 7) (qV (f:=yo) (λ_=>rfl) S.gl));obtain⟨z,hz⟩:∃z,S.gl[i.sub.toNat]? = some z:=⟨_,aae (by omega)⟩;obtain⟨bb,o,cs,t,hix,hb,hgt,hat0⟩:=SG.at hz;rw[show((i.sub.toNat:Nat):Int)=i.sub from abW hs0]at hix;have gn:=SG.wk;rw[show S.gl.getD i.sub.toNat 0=z by rw[aaB,hz];rfl]at k;simp only[EE,Int.reduceEq,zA,xp,yS,zj,yj,vR,Sx,aL,jh,xJ,qG,uP,xY,qH,g1,gm,hix,hgt,hat0];refine El (zcd z i.k h) ?_;simp only[EE,Nat.reduceAdd,zo,vv];refine yp s (by simp[V.z9,v0]) rfl λh1 s1=>?_;exact QX (v:=AW z i.k) hn hw hrl s1 k
theorem zi8(h0:i.op=9)(hn:zV i.av=false)(hco:yN i.av=true)(hw:zu i<100000)(hrl:c.zf.length<=100000)(s:Sat lo h (pt b2 (.cells v0.z9 66)::pt b1 (.cells i.row 51)::(wi p b mb wb world S ev lk gl cl kv wn (fi++[fb])++Xd p fb c::L)))
  (k:∀h' ,Sat lo h' (Xd p fb {c with zf:=uz c.zf (zu i) (AW c.k9 i.k),pt:=i.s} :: (wi p b mb wb world S ev lk gl cl kv wn (fi++[fb])++L))->R (.bool true) h'):y9 (pm i.op) (pi b1) h (pi b2) (pi fb) (pi b) R (Ek b1 b2 fb R):=by
 rw[h0];unfold y9;have g1:=(s.p 1).get;have gm:=(s.p 2).get;unfold xo yB at gm;obtain⟨fp,rv,hfp,sf⟩:=qA (s.p 10);have gf:=sf.get;unfold Xx at gf;simp only[EE,Int.reduceEq,zA,xp,zj,Di,vR,aK,wg,jh,xJ,qG,uP,xY,qH,g1,gf];refine El (zcd c.k9 i.k h) ?_;simp only[EE,Nat.reduceAdd,zo,vv];refine yp s (by simp[V.z9,v0]) rfl λh1 s1=>?_;exact QX (v:=AW c.k9 i.k) hn hw hrl s1 k
theorem zio(h0:i.op=11)(hL:(S.lk.length+1)*24<=2^47)(hn:zV i.av=false)(hco:yN i.av=true)(hw:zu i<100000)(hrl:c.zf.length<=100000)(s:Sat lo h (pt b2 (.cells v0.z9 66)::pt b1 (.cells i.row 51)::(wi p b mb wb world S ev lk gl cl kv wn (fi++[fb])++Xd p fb c::L)))
  (o:Option V) (ho:o=yG i.sub (zT c.zf i.a) (yE c i))
  (k:∀h' lk',Sat lo h' (Xd p fb {c with pt:=brP c i o} :: (wi p b mb wb world (brS S o) ev lk' gl cl kv wn (fi++[fb])++L))->R (.bool o.isSome) h'):y9 (pm i.op) (pi b1) h (pi b2) (pi fb) (pi b) R (Ek b1 b2 fb R):=by
 rw[h0];unfold y9;have g1:=(s.p 1).get;have gm:=(s.p 2).get;unfold xo yB at gm;simp only[EE,aad,Nat.reduceAdd,Int.reduceEq,zZ,qI,wZ,wM,wg,jh,xJ,qG,uP,xY,qH,g1];obtain⟨fp,rv,hfp,sf⟩:=qA (s.p 10);obtain⟨lo1,le1,s1,fr⟩:=(sf.f [4,7,0,1]).call (L2:=[pt b (xo p mb wb S ev lk gl cl kv),yY 71 3 lk (S.lk.map wy),pt fb (Xx fp rv c.k9 c.pt),yY 66 3 rv (c.zf.map V.z9)]);refine EI (by simp only[yC,yK,xF,aaK]) (zgw s1 hL i hn hco o ho) ?_;rintro r h2 ⟨rfl,lk',s2⟩;have s3:=fr _ _ s2;simp only[EE];have s4:=Qo (p:=p) (fb:=fb) (c:={c with pt:=brP c i o}) hfp (s3.f [2,3]);have em:(brS S o).mem=S.mem/\(brS S o).ev=S.ev/\(brS S o).gl=S.gl/\(brS S o).used=S.used:=by cases o <;> exact⟨rfl,rfl,rfl,rfl⟩
 refine k h2 lk' ?_;unfold wi;rw[em.1,em.2.1,em.2.2.1,em.2.2.2];exact(s4.f [3,4]).drop.drop.f [0,1,3,4,2]
end
section
variable {lo:yU}{h:za}{L:List HP}{b mb wb fb b1 b2:Nat}{p:Pg}{S:St}{world:List Int}{ev lk gl cl kv wn:aaa}{fi:List Nat}{c:Fr}{ini:List Fr}{i:xG}{kept:Option (Int->Bool)}{R:aaa->za->Prop}
theorem zir(h0:i.op=13)(hu0:0<=S.used)(hu1:S.used<4611686018427387904)(hwl:world.length<4611686018427387904)(hE:(S.ev.length+1)*16<=2^47)(hn:zV i.av=false)(hco:yN i.av=true)(hw:zu i<100000)(hrl:c.zf.length<=100000)(s:Sat lo h (pt b2 (.cells v0.z9 66)::pt b1 (.cells i.row 51)::(wi p b mb wb world S ev lk gl cl kv wn (fi++[fb])++Xd p fb c::L)))
  (k:∀h' ev',Sat lo h' (Xd p fb {c with zf:=uz c.zf (zu i) (qj (Zw world S.used)),pt:=i.s} :: (wi p b mb wb world {ke S 1 (Zw world S.used) with used:=S.used+1} ev' lk gl cl kv wn (fi++[fb])++L))->R (.bool true) h'):y9 (pm i.op) (pi b1) h (pi b2) (pi fb) (pi b) R (Ek b1 b2 fb R):=by
 rw[h0];unfold y9;have g1:=(s.p 1).get;have gm:=(s.p 2).get;unfold xo yB at gm;simp only[EE,Int.reduceEq,zA,zhN,zeE,jg,Wm,ux,wZ,wM,wg,jh,xJ,qG,uP,xY,qH,gm];obtain⟨lo1,le1,s1,fr⟩:=(s.f [8,9]).call (L2:=[pt wb (.cells [wn,pm S.used] 119),yY 2 1 wn (world.map yo)]);refine Em (zgX s1 hu0 hu1 hwl) ?_;rintro r h2 ⟨rfl,s2⟩;have s3:=fr _ _ s2;simp only[aH];obtain⟨lo2,le2,s4,fr2⟩:=(s3.f [4,8]).call (L2:=[pt b (xo p mb wb S ev lk gl cl kv),yY 78 2 ev (S.ev.map qz)]);refine Em (Sp s4 hE 1 (Zw world S.used)) ?_;rintro r h5 ⟨ev',s5⟩;have s6:=fr2 _ _ s5;simp only[];refine yq (WO (Zw world S.used) h5) ?_;simp only[EE,Nat.reduceAdd,zo,vv];refine yp (s6.f [4,5,0,6,7,8,1,9,2,3]) (by simp[V.z9,v0]) rfl λh7 s7=>?_;exact QX (S:={ke S 1 (Zw world S.used) with used:=S.used+1}) (v:=qj (Zw world S.used)) hn hw hrl s7 λh' s'=>k h' ev' s'
theorem zis(h0:i.op=14)(hE:(S.ev.length+1)*16<=2^47)(hn:zV i.av=false)(hco:yN i.av=true)(hw:zu i<100000)(hrl:c.zf.length<=100000)(s:Sat lo h (pt b2 (.cells v0.z9 66)::pt b1 (.cells i.row 51)::(wi p b mb wb world S ev lk gl cl kv wn (fi++[fb])++Xd p fb c::L)))
  (k:(zT c.zf i.a).k=1->∀h' ev',Sat lo h' (Xd p fb {c with zf:=uz c.zf (zu i) v0,pt:=i.s} :: (wi p b mb wb world (ke S 2 (zT c.zf i.a).n) ev' lk gl cl kv wn (fi++[fb])++L))->R (.bool true) h')
  (k0:¬(zT c.zf i.a).k=1->∀h',Sat lo h' (wi p b mb wb world S ev lk gl cl kv wn (fi++[fb])++Xd p fb c::L)->R (.bool false) h'):y9 (pm i.op) (pi b1) h (pi b2) (pi fb) (pi b) R (Ek b1 b2 fb R):=by
 rw[h0];unfold y9;have g1:=(s.p 1).get;have gm:=(s.p 2).get;unfold xo yB at gm;simp only[EE,Int.reduceEq,zA,zj,xk,aI,Ql,Wm,ux,wZ,wM,wg,jh,xJ,qG,uP,xY,qH,g1];obtain⟨fp,rv,hfp,sf⟩:=qA (s.p 10);refine yq (p9 sf i.a) ?_;simp only[EE,Value.cells,y7,Zi,vv];refine uI s λb3 h1 s1=>?_;simp only[EE,Nat.reduceAdd,zo];refine yp s1 (by simp) rfl λh2 s2=>?_;have g2:=s2.get;by_cases hk:(zT c.zf i.a).k=1
 ·simp only[EE,zb,Nat.reduceAdd,zA,xp,zj,zP,yf,Z0,g2,hk];obtain⟨lo2,le2,s4,fr2⟩:=(s2.f [3,7]).call (L2:=[pt b (xo p mb wb S ev lk gl cl kv),yY 78 2 ev (S.ev.map qz)]);refine Em (Sp s4 hE 2 (zT c.zf i.a).n) ?_;rintro r h5 ⟨ev',s5⟩;have s6:=fr2 _ _ s5;simp only[nth];exact QX (S:=ke S 2 (zT c.zf i.a).n) (v:=v0) hn hw hrl ((s6.p 2).drop.f [2,3,0,4,5,6,1]) λh' s'=>k hk h' ev' s'
 ·simp only[EE,zb,Nat.reduceAdd,zA,zj,zP,g2,hk];exact k0 hk h2 s2.drop.drop.drop
theorem zi4(h0:i.op=5)(hL:(S.lk.length+1)*24<=2^47)(hn:zV i.av=false)(hco:yN i.av=true)(hw:zu i<100000)(hrl:c.zf.length<=100000)(s:Sat lo h (pt b2 (.cells v0.z9 66)::pt b1 (.cells i.row 51)::(wi p b mb wb world S ev lk gl cl kv wn (fi++[fb])++Xd p fb c::L)))
  (S1:St) (hS1:S1=if (i.sub=14\/i.sub=15)/\(zT c.zf i.a).k=1/\(yE c i).k=1 then xh S 3 (zT c.zf i.a).n (yE c i).n else S)
  (o:Option V) (ho:o=yG i.sub (zT c.zf i.a) (yE c i))
  (k:o.isSome=true->∀h' lk',Sat lo h' (Xd p fb {c with zf:=uz c.zf (zu i) (o.getD v0),pt:=i.s} :: (wi p b mb wb world S1 ev lk' gl cl kv wn (fi++[fb])++L))->R (.bool true) h')
  (k0:o.isSome=false->∀h' lk',Sat lo h' (wi p b mb wb world S1 ev lk' gl cl kv wn (fi++[fb])++Xd p fb c::L)->R (.bool false) h'):y9 (pm i.op) (pi b1) h (pi b2) (pi fb) (pi b) R (Ek b1 b2 fb R):=by
 rw[h0];unfold y9;have g1:=(s.p 1).get;have gm:=(s.p 2).get;unfold xo yB at gm;simp only[EE,Int.reduceEq,zA,zj,xk,w6,uP,xY,qH,g1];obtain⟨fp,rv,hfp,sf⟩:=qA (s.p 10);refine El (p9 sf i.a) ?_;simp only[EE,aad,Nat.reduceAdd,zZ,qI,g1];refine zew (by simp only[yC,yK,xF,aaK]) (GB sf i hn) ?_;simp only[EE,Value.cells,y7,gV,vv];refine uI s λb3 h1 s1=>?_;simp only[EE,Nat.reduceAdd,zo];refine uI s1 λb4 h2 s2=>?_;simp only[];refine yp (s2.p 1) (by simp) rfl λh3 s3=>?_;simp only[EE,Nat.reduceAdd,zo];refine yp (s3.p 1) (by simp) rfl λh4 s4=>?_;have q4:=(s4.p 3).get;have q3:=(s4.p 1).get;have q2:=s4.get
 have tail:∀(h5:za) (S1:St) (lk':aaa),S1.mem=S.mem->S1.ev=S.ev->S1.gl=S.gl->S1.used=S.used ->
   (∀h' lk',o.isSome=true->Sat lo h' (Xd p fb {c with zf:=uz c.zf (zu i) (o.getD v0),pt:=i.s} :: (wi p b mb wb world S1 ev lk' gl cl kv wn (fi++[fb])++L))->R (.bool true) h') ->
   (∀h' lk',o.isSome=false->Sat lo h' (wi p b mb wb world S1 ev lk' gl cl kv wn (fi++[fb])++Xd p fb c::L)->R (.bool false) h') ->
   Sat lo h5 (pt b4 (.cells (yE c i).z9 66)::pt b3 (.cells (zT c.zf i.a).z9 66)::pt b2 (.cells v0.z9 66)::pt b1 (.cells i.row 51)::(wi p b mb wb world S1 ev lk' gl cl kv wn (fi++[fb])++Xd p fb c::L)) ->
   ∀vs,Ut (pi b1) (pi b3) (pi b4) (pi b2) (λvs31 h32=>Ek b1 b2 fb R [nth vs31 0,nth vs31 1] h32) vs h5:=by
  intro h5 S1 lk' e1 e2 e3 e4 k k0 s5 vs;unfold Ut;have z1:=(s5.p 3).get;have z3:=(s5.p 1).get;have z4:=s5.get;unfold V.z9 at z3 z4;simp only[EE,aad,Nat.reduceAdd,zZ,zA,zj,zi,yj,z1,z3,z4];refine yq (zcj i.sub _ _ h5) ?_;rw[<- ho];unfold wW;cases o with
  |none=>
   simp only[EE,Nat.reduceAdd,zo,vv,acb,aa8,v0];refine yp (s5.p 2) (by simp[V.z9,v0]) rfl λh6 s6=>?_;exact OX (k0 h6 lk' rfl s6.drop.drop.drop.drop)
  |some u=>
   simp only[EE,Nat.reduceAdd,zo,vv,abG,abh];refine yp (s5.p 2) (by simp[V.z9,v0]) rfl λh6 s6=>?_;exact QX (S:=S1) (v:=u) hn hw hrl ((s6.f [1,2,0,3]).drop.drop) λh' s'=>k h' lk' rfl s'
 have gmL:=(s4.p 4).get;unfold xo yB at gmL
 have lkd:∀(K:aaa->za->Prop),(∀v h5 lk',Sat lo h5 (pt b4 (.cells (yE c i).z9 66)::pt b3 (.cells (zT c.zf i.a).z9 66)::pt b2 (.cells v0.z9 66)::pt b1 (.cells i.row 51)::(wi p b mb wb world (xh S 3 (zT c.zf i.a).n (yE c i).n) ev lk' gl cl kv wn (fi++[fb])++Xd p fb c::L))->K v h5) ->
   zq pu (.func (.func 67) #[] #[]) [pi b,pm 3,pm (zT c.zf i.a).n,pm (yE c i).n] h4 K:=by
  intro K hK;obtain⟨lo1,le1,s5,fr⟩:=(s4.f [4,7]).call (L2:=[pt b (xo p mb wb S ev lk gl cl kv),yY 71 3 lk (S.lk.map wy)]);refine Em (H2 s5 hL 3 _ _) ?_;rintro v h5 ⟨lk',s6⟩;exact hK v h5 lk' ((fr _ _ s6).f [2,3,4,5,0,6,7,1])
 have q2':h4.get b4=some (.cells [pm (yE c i).k,pm (yE c i).n,pm (yE c i).b] 66):=q2;have q3':h4.get b3=some (.cells [pm (zT c.zf i.a).k,pm (zT c.zf i.a).n,pm (zT c.zf i.a).b] 66):=q3;have hsub:i.sub=14\/i.sub=15\/(¬i.sub=14 /\ ¬i.sub=15):=by omega
 have fin0:¬((i.sub=14\/i.sub=15)/\(zT c.zf i.a).k=1/\(yE c i).k=1)->∀vs,Ut (pi b1) (pi b3) (pi b4) (pi b2) (λvs31 h32=>Ek b1 b2 fb R [nth vs31 0,nth vs31 1] h32) vs h4:=by
  intro hc vs;rw[aac hc]at hS1;rw[hS1]at k k0;exact tail h4 S lk rfl rfl rfl rfl (λh' lk' e s'=>k e h' lk' s') (λh' lk' e s'=>k0 e h' lk' s') s4 vs
 have fin1:((i.sub=14\/i.sub=15)/\(zT c.zf i.a).k=1/\(yE c i).k=1)->∀(K:aaa->za->Prop),(∀v h5,(∀vs,Ut (pi b1) (pi b3) (pi b4) (pi b2) (λvs31 h32=>Ek b1 b2 fb R [nth vs31 0,nth vs31 1] h32) vs h5)->K v h5) ->
   zq pu (.func (.func 67) #[] #[]) [pi b,pm 3,pm (zT c.zf i.a).n,pm (yE c i).n] h4 K:=by
  intro hc K hK;rw[aai hc]at hS1;rw[hS1]at k k0;refine lkd K λv h5 lk' s5=>hK v h5 λvs=>tail h5 (xh S 3 (zT c.zf i.a).n (yE c i).n) lk' rfl rfl rfl rfl (λh' lk' e s'=>k e h' lk' s') (λh' lk' e s'=>k0 e h' lk' s') s5 vs
 by_cases ha:(zT c.zf i.a).k=1
 ·by_cases hb:(yE c i).k=1
  ·rcases hsub with h14|h15|⟨h14,h15⟩
   ·simp only[EE,zA,xp,zj,yj,zP,yf,QI,Zj,Zk,Zl,Zm,Zn,q2',q3',q4,ha,hb,h14];exact fin1 ⟨.inl h14,ha,hb⟩ _ λv h5 t=>t _
   ·simp only[EE,Int.reduceEq,zA,xp,zj,yj,zP,yf,QI,Zj,Zk,Zl,Zm,Zn,q2',q3',q4,ha,hb,h15];exact fin1 ⟨.inr h15,ha,hb⟩ _ λv h5 t=>t _
   ·simp only[EE,nth,zA,zj,yj,Zj,Zk,Zl,Zm,Zn,q4,h14,h15];exact fin0 (by omega) _
  ·rcases hsub with h14|h15|⟨h14,h15⟩
   ·simp only[EE,nth,zA,zj,yj,zP,Zj,Zk,Zl,Zm,Zn,q2',q3',q4,ha,hb,h14];exact fin0 (by omega) _
   ·simp only[EE,nth,Int.reduceEq,zA,zj,yj,zP,Zj,Zk,Zl,Zm,Zn,q2',q3',q4,ha,hb,h15];exact fin0 (by omega) _
   ·simp only[EE,nth,zA,zj,yj,Zj,Zk,Zl,Zm,Zn,q4,h14,h15];exact fin0 (by omega) _
 ·rcases hsub with h14|h15|⟨h14,h15⟩
  ·simp only[EE,nth,zA,zj,yj,zP,Zj,Zk,Zl,Zm,Zn,q3',q4,ha,h14];exact fin0 (by omega) _
  ·simp only[EE,nth,Int.reduceEq,zA,zj,yj,zP,Zj,Zk,Zl,Zm,Zn,q3',q4,ha,h15];exact fin0 (by omega) _
  ·simp only[EE,nth,zA,zj,yj,Zj,Zk,Zl,Zm,Zn,q4,h14,h15];exact fin0 (by omega) _
end
section
variable {lo:yU}{h:za}{L:List HP}{b mb wb fb b1 b2:Nat}{p:Pg}{S:St}{world:List Int}{ev lk gl cl kv wn:aaa}{fi:List Nat}{c:Fr}{ini:List Fr}{i:xG}{kept:Option (Int->Bool)}{R:aaa->za->Prop}
theorem zi5(h0:i.op=6)(hL:(S.lk.length+1)*24<=2^47)(hsm:small S.mem)(hsub:wD i.sub)(hq:∀q,yR c i=some q->q.ok)(hn:zV i.av=false)(hco:yN i.av=true)(hw:zu i<100000)(hrl:c.zf.length<=100000)(s:Sat lo h (pt b2 (.cells v0.z9 66)::pt b1 (.cells i.row 51)::(wi p b mb wb world S ev lk gl cl kv wn (fi++[fb])++Xd p fb c::L)))
  (k:∀q u,yR c i=some q->kZ S.mem i.sub q=some u->∀h' lk',Sat lo h' (Xd p fb {c with zf:=uz c.zf (zu i) u,pt:=i.s} :: (wi p b mb wb world (xh S 2 q.b q.n) ev lk' gl cl kv wn (fi++[fb])++L))->R (.bool true) h')
  (k0:(∀q u,yR c i=some q->kZ S.mem i.sub q=some u->False)->∀h' lk',Sat lo h' (wi p b mb wb world (AL S (yR c i)) ev lk' gl cl kv wn (fi++[fb])++Xd p fb c::L)->R (.bool false) h'):y9 (pm i.op) (pi b1) h (pi b2) (pi fb) (pi b) R (Ek b1 b2 fb R):=by
 rw[h0];unfold y9;have g1:=(s.p 1).get;have gm:=(s.p 2).get;unfold xo yB at gm;simp only[EE,aad,Nat.reduceAdd,Int.reduceEq,zZ,qI,qG,uP,xY,qH,g1];obtain⟨fp,rv,hfp,sf⟩:=qA (s.p 10);obtain⟨lo1,le1,s1,fr⟩:=(sf.f [4,7,0,1]).call (L2:=[pt b (xo p mb wb S ev lk gl cl kv),yY 71 3 lk (S.lk.map wy),pt fb (Xx fp rv c.k9 c.pt),yY 66 3 rv (c.zf.map V.z9)]);refine EI (by simp only[yC,yK,xF,aaK]) (FW s1 hL i hn hco) ?_;rintro r h2 ⟨rfl,lk',s2⟩;have s3:=fr _ _ s2;have s4:=Qo (p:=p) (fb:=fb) (c:=c) hfp (s3.f [2,3]);have s5:=s4.f [3,4,1,5,6,2,7,8,9,10,0];unfold zbP;cases hA:yR c i with
 |none=>
  rw[hA]at s5 k0;simp only[EE,Value.cells,y7,Vv,vv,acb,aa8,v0];refine uI s5 λb3 h3 s6=>?_;simp only[EE,Nat.reduceAdd,zo];refine yp s6 (by simp) rfl λh4 s7=>?_;simp only[EE];exact k0 (λq u e _=>by cases e) h4 lk' s7.drop.drop.drop
 |some q=>
  rw[hA]at s5 k0;simp only[EE,Value.cells,y7,Vv,vv,abG,abh];refine uI s5 λb3 h3 s6=>?_;simp only[EE,Nat.reduceAdd,zo];refine yp s6 (by simp) rfl λh4 s7=>?_;have z1:=(s7.p 2).get;have z3:=s7.get;have zm:=(s7.p 3).get;unfold xo yB at zm;simp only[EE,zb,aad,Nat.reduceAdd,zZ,zA,zj,zi,CW,yj,dY,aE,z1,z3,zm];obtain⟨lo2,le2,s8,fr2⟩:=(s7.f [5]).call (L2:=[Z9 mb S.mem]);refine Mt (zgK s8 hsm hsub (hq q hA)) ?_;rintro r h5 ⟨rfl,s9⟩;have s10:=fr2 _ _ s9;have s11:=s10.f [2,3,4,5,0];unfold wW;cases hu:kZ S.mem i.sub q with
  |none=>
   simp only[EE,Nat.reduceAdd,zo,vv,acb,aa8,v0];refine yp s11 (by simp[V.z9,v0]) rfl λh6 s12=>?_;exact OX (k0 (λq' u e1 e2=>by cases e1;rw[hu]at e2;cases e2) h6 lk' ((s12.f [5]).drop.drop.drop))
  |some u=>
   simp only[EE,Nat.reduceAdd,zo,vv,abG,abh];refine yp s11 (by simp[V.z9,v0]) rfl λh6 s12=>?_;exact QX (S:=xh S 2 q.b q.n) (v:=u) hn hw hrl ((s12.f [5]).drop) λh' s'=>k q u hA hu h' lk' s'
theorem zi6(h0:i.op=7)(hL:(S.lk.length+1)*24<=2^47)(hsm:small S.mem)(hsub:wD i.sub)(hq:∀q,yR c i=some q->q.ok)(hn:zV i.av=false)(hco:yN i.av=true)(hw:zu i<100000)(hrl:c.zf.length<=100000)(s:Sat lo h (pt b2 (.cells v0.z9 66)::pt b1 (.cells i.row 51)::(wi p b mb wb world S ev lk gl cl kv wn (fi++[fb])++Xd p fb c::L)))
  (k:∀q M,yR c i=some q->wX S.mem i.sub q (zT c.zf i.b)=some M->∀h' lk',Sat lo h' (Xd p fb {c with zf:=uz c.zf (zu i) v0,pt:=i.s} :: (wi p b mb wb world {xh S 2 q.b q.n with mem:=M} ev lk' gl cl kv wn (fi++[fb])++L))->R (.bool true) h')
  (k0:(∀q u,yR c i=some q->wX S.mem i.sub q (zT c.zf i.b)=some u->False)->∀h' lk',Sat lo h' (wi p b mb wb world (AL S (yR c i)) ev lk' gl cl kv wn (fi++[fb])++Xd p fb c::L)->R (.bool false) h'):y9 (pm i.op) (pi b1) h (pi b2) (pi fb) (pi b) R (Ek b1 b2 fb R):=by
 rw[h0];unfold y9;have g1:=(s.p 1).get;have gm:=(s.p 2).get;unfold xo yB at gm;simp only[EE,aad,Nat.reduceAdd,Int.reduceEq,zZ,qI,xJ,qG,uP,xY,qH,g1];obtain⟨fp,rv,hfp,sf⟩:=qA (s.p 10);obtain⟨lo1,le1,s1,fr⟩:=(sf.f [4,7,0,1]).call (L2:=[pt b (xo p mb wb S ev lk gl cl kv),yY 71 3 lk (S.lk.map wy),pt fb (Xx fp rv c.k9 c.pt),yY 66 3 rv (c.zf.map V.z9)]);refine EI (by simp only[yC,yK,xF,aaK]) (FW s1 hL i hn hco) ?_;rintro r h2 ⟨rfl,lk',s2⟩;have s3:=fr _ _ s2;have s4:=Qo (p:=p) (fb:=fb) (c:=c) hfp (s3.f [2,3]);have s5:=s4.f [3,4,1,5,6,2,7,8,9,10,0];unfold zbP;cases hA:yR c i with
 |none=>
  rw[hA]at s5 k0;simp only[EE,Value.cells,y7,Vx,vv,acb,aa8,v0];refine uI s5 λb3 h3 s6=>?_;simp only[EE,Nat.reduceAdd,zo];refine yp s6 (by simp) rfl λh4 s7=>?_;simp only[EE,Vw,Qd,Qe,Qf,Qg,Qh,Qi];exact k0 (λq u e _=>by cases e) h4 lk' s7.drop.drop.drop
 |some q=>
  rw[hA]at s5 k0;simp only[EE,Value.cells,y7,Vx,vv,abG,abh];refine uI s5 λb3 h3 s6=>?_;simp only[EE,Nat.reduceAdd,zo];refine yp s6 (by simp) rfl λh4 s7=>?_;have z1:=(s7.p 2).get;have z3:=s7.get;have zm:=(s7.p 3).get;unfold xo yB at zm;obtain⟨fp7,rv7,hfp7,sf7⟩:=qA (s7.p 11);simp only[EE,zb,aad,Nat.reduceAdd,zZ,zA,zj,zi,CW,yj,qM,dY,Qe,Qf,Qg,Qh,Qi,z1,z3,zm];refine El (p9 sf7 i.b) ?_;simp only[EE,Qd];obtain⟨lo2,le2,s8,fr2⟩:=(s7.f [5]).call (L2:=[Z9 mb S.mem]);refine Mt (zfa s8 hsm hsub (hq q hA)) ?_;rintro r h5 ⟨rfl,s9⟩;have s10:=fr2 _ _ s9;have s11:=s10.f [2,3,4,5,0];cases hu:wX S.mem i.sub q (zT c.zf i.b) with
  |none=>
   rw[hu]at s11;simp only[EE,Vw,aa8];exact k0 (λq' u e1 e2=>by cases e1;rw[hu]at e2;cases e2) h5 lk' ((s11.f [0,1,5]).drop.drop.drop)
  |some M=>
   rw[hu]at s11;simp only[EE,nth,Vw,abh];exact QX (S:={xh S 2 q.b q.n with mem:=M}) (v:=v0) hn hw hrl ((s11.f [5]).drop) λh' s'=>k q M hA hu h' lk' s'
theorem ze2(h0:∀k:Nat,2<=k->k<=14->¬i.op=k)(hn:zV i.av=false)(hco:yN i.av=true)(hw:zu i<100000)(hrl:c.zf.length<=100000)(s:Sat lo h (pt b2 (.cells v0.z9 66)::pt b1 (.cells i.row 51)::(wi p b mb wb world S ev lk gl cl kv wn (fi++[fb])++Xd p fb c::L)))
  (k:∀h',Sat lo h' (Xd p fb {c with zf:=uz c.zf (zu i) v0,pt:=i.s} :: (wi p b mb wb world S ev lk gl cl kv wn (fi++[fb])++L))->R (.bool true) h'):y9 (pm i.op) (pi b1) h (pi b2) (pi fb) (pi b) R (Ek b1 b2 fb R):=by
 unfold y9;have h2:=h0 2 (by decide) (by decide);have h3:=h0 3 (by decide) (by decide);have h4:=h0 4 (by decide) (by decide);have h5:=h0 5 (by decide) (by decide);have h6:=h0 6 (by decide) (by decide);have h7:=h0 7 (by decide) (by decide);have h8:=h0 8 (by decide) (by decide);have h9:=h0 9 (by decide) (by decide);have h10:=h0 10 (by decide) (by decide);have h11:=h0 11 (by decide) (by decide);have h12:=h0 12 (by decide) (by decide);have h13:=h0 13 (by decide) (by decide);have h14:=h0 14 (by decide) (by decide);simp only[Int.cast_ofNat_Int]at h2 h3 h4 h5 h6 h7 h8 h9 h10 h11 h12 h13 h14;simp only[EE,nth,Ql,Wm,ux,wZ,wM,wg,jh,xJ,qG,uP,xY,qH,h2,h3,h4,h5,h6,h7,h8,h9,h10,h11,h12,h13,h14];exact QX (v:=v0) hn hw hrl s k
theorem ziq(h0:i.op=12)(hn:zV i.av=false)(hco:yN i.av=true)(hw:zu i<100000)(hrl:c.zf.length<=100000)(s:Sat lo h (pt b2 (.cells v0.z9 66)::pt b1 (.cells i.row 51)::(wi p b mb wb world S ev lk gl cl kv wn (fi++[fb])++Xd p fb c::L)))
  (k:∀(h':za),Sat lo h' (wi p b mb wb world S ev lk gl cl kv wn (fi++[fb])++Xd p fb c::L)->DC pu 74 [yB b,(zT c.zf i.a).val] h' (λv h''=>∃bl:Bool,v=.bool bl/\R (.bool bl) h'')):y9 (pm i.op) (pi b1) h (pi b2) (pi fb) (pi b) R (Ek b1 b2 fb R):=by
 rw[h0];unfold y9;have g1:=(s.p 1).get;have gm:=(s.p 2).get;unfold xo yB at gm;simp only[EE,Int.reduceEq,zA,zj,xk,ko,ux,wZ,wM,wg,jh,xJ,qG,uP,xY,qH,g1];obtain⟨fp,rv,hfp,sf⟩:=qA (s.p 10);refine yq (p9 sf i.a) ?_;refine Em (k h s.drop.drop) ?_;rintro v h2 ⟨bl,rfl,hR⟩;rw[qD rfl];exact hR
theorem zin(h0:i.op=10)(args:Rd lo (zL · i.av i.args))(hal:i.args.length<=100000)(hL:(S.lk.length+1)*24<=2^47)
  (k:∀lo1 h' lk' av,lo.Le lo1->Rd lo1 (zC · av 3 ((i.args.map (zT c.zf)).map V.z9))->(∀h' L',Sat lo1 h' L'->Sat lo h' L')->Sat lo1 h' (wi p b mb wb world (xh S 4 i.sub 0) ev lk' gl cl kv wn (fi++[fb])++Xd p fb c::L)->DC pu 38 [yB b,pm i.sub,av] h' (λv h''=>∃bl:Bool,v=.bool bl/\R (.bool bl) h'')) (hn:zV i.av=false) (hco:yN i.av=true) (hw:zu i<100000) (hrl:c.zf.length<=100000) (s:Sat lo h (pt b2 (.cells v0.z9 66)::pt b1 (.cells i.row 51)::(wi p b mb wb world S ev lk gl cl kv wn (fi++[fb])++Xd p fb c::L)))
  : y9 (pm i.op) (pi b1) h (pi b2) (pi fb) (pi b) R (Ek b1 b2 fb R):=by
 rw[h0];unfold y9;have g1:=(s.p 1).get;have gm:=(s.p 2).get;unfold xo yB at gm
 have al:∀r h',zB pu .len [22] r [i.av] h'=some (pm i.args.length,h'):=λr h'=>by
  rcases args.at s with⟨e,e2⟩|⟨_,_,_,e,_⟩
  ·rw[e,e2];simp only[iF];rfl
  ·rw[e];simp only[iF]
 simp only[EE,↓BK,Int.reduceEq,zA,yS,kR,aJ,wM,wg,jh,xJ,qG,uP,xY,qH,g1,hn,al]
 refine qY (λm vs h'=>∃(j:Nat) (av:aaa),j<=i.args.length/\m=i.args.length-j/\vs=[av,pm (j:Nat)]/\Sat lo h' (yY 66 3 av (((i.args.take j).map (zT c.zf)).map V.z9)::pt b2 (.cells v0.z9 66)::pt b1 (.cells i.row 51)::(wi p b mb wb world S ev lk gl cl kv wn (fi++[fb])++Xd p fb c::L)))
  i.args.length ⟨0,pp,aba _,rfl,rfl,vS _ _ s⟩ ?_
 rintro m vs h' ⟨j,av,hj,rfl,rfl,s1⟩;unfold Vy;have avn:=xR s1;by_cases hc:(j:Int)<(i.args.length:Int)
 ·obtain⟨z,hz⟩:∃z,i.args[j]? = some z:=⟨_,aae (by omega)⟩;obtain⟨bb,o,cs,t,hix,hb,hgt,hat0⟩:=(args.at s1).at hz;simp only[EE,nth,↓BK,zA,zj,Qj,hc,hix,hgt,hat0];obtain⟨fp,rv,hfp,sf⟩:=qA (s1.p 11);refine yq (p9 sf z) ?_;have s2:=s1.push (.cells (zT c.zf z).z9 66);obtain⟨b',c',h3,a1,s3⟩:=jH (s2.p 1) (wV _) (zT c.zf z).z9 rfl (by decide) 24 (by simp only[aaf,acw];omega);have hlen:(((i.args.take j).map (zT c.zf)).map V.z9).length=j:=by simp;omega
  rw[hlen]at a1 s3
  have hap:∀r,zB pu .append [56,56] r [av,.slice (some ⟨h'.next,0,none⟩) 1 3] (h'.push (.cells (zT c.zf z).z9 66))=some (.slice (some ⟨b',0,none⟩) (j+1) c',h3):=λr=>
   (Mb r _ _ 1 (zT c.zf z).z9 _ rfl (by simp only[wR,zk];rfl) rfl rfl).trans a1
  unfold V.z9 at hap;simp only[EE,nth,Qm,aF,Qk,vv,avn,hap,inc (show j<4611686018427387904 by omega)];refine⟨i.args.length-(j+1),by omega,j+1,.slice (some ⟨b',0,none⟩) (j+1) c',by omega,rfl,rfl,?_⟩;rw[ab1,hz,show(some z).toList=[z] from rfl,abp,abp];exact(s3.p 1).drop
 ·have hj2:j=i.args.length:=by omega
  subst hj2;rw[ack]at s1;simp only[EE,nth,hc];unfold Y8;have z1:=(s1.p 2).get;simp only[EE,zA,zj,yj,z1];obtain⟨lo2,le2,s4,fr2⟩:=(s1.f [3,6]).call (L2:=[pt b (xo p mb wb S ev lk gl cl kv),yY 71 3 lk (S.lk.map wy)]);refine Em (H2 s4 hL 4 i.sub 0) ?_;rintro r h5 ⟨lk',s5⟩;have s6:=fr2 _ _ s5;have z6:=(s6.p 4).get;simp only[EE,nth,zA,zj,yj,aG,z6];obtain⟨lo3,le3,rd,s7,fr3⟩:=tV (s6.p 2) (wV _);refine EI (by simp only[yC,avn,xF,yb,aaK]) (k lo3 h5 lk' av le3 rd (λh' L' s'=>(fr3 h' L' s').drop) ((s7.f [2,3]).drop.drop.f [0,2,3,1])) ?_;rintro v h8 ⟨bl,rfl,hR⟩;rw[qD rfl];exact hR
end
def nF(p:Pg):List Nat->List Fr->List HP
 |fb::fbs,c::cs=>Xd p fb c::nF p fbs cs
 |_,_=>[]
theorem VH(p:Pg)(fb:Nat)(c:Fr):∀(fbs:List Nat) (cs:List Fr),fbs.length=cs.length->nF p (fbs++[fb]) (cs++[c])=nF p fbs cs++[Xd p fb c]
 |[],[],_=>rfl
 |f::fbs,d::cs,h=>by
  simp only[abK,nF];rw[VH p fb c fbs cs (by simpa using h)]
 |[],_::_,h=>by simp at h
 |_::_,[],h=>by simp at h
def NR(lo:yU)(h:za)(p:Pg)(b mb wb:Nat)(world:List Int)(gl kv wn:aaa)(S:St):Prop := ∃ev lk cl fbs,fbs.length=S.calls.length/\Sat lo h (wi p b mb wb world S ev lk gl cl kv wn fbs++nF p fbs S.calls)
structure zhA (p:Pg) (x:xG):Prop where
 w:zu x<100000
 ziD:x.op=8->0<=x.sub/\x.sub<p.globals.length
 zdY:x.op=6\/x.op=7->wD x.sub
 call:x.op=10->∃f,0<=x.sub/\p.funcs[x.sub.toNat]? = some f/\x.args.length=f.params.length/\f.params.length<=100000 /\ ∀r,r∈f.params->r<100000
structure zf8 (p:Pg) (S:St):Prop where
 fr:∀c,c∈S.calls->c.zf.length<=100000/\(∀v,v∈c.zf->wD v.b)/\wD c.k9
 at_:∀c,c∈S.calls->∃i,j3 p c=some i/\zhA p i
 low:∀c,c∈S.calls.dropLast->∃i,j3 p c=some i/\i.op=10
 many:S.calls.length<=20000
 lk:S.lk.length<=20000000
 ev:S.ev.length<=20000000
 used:0<=S.used/\S.used<=20000000
 mem:small S.mem/\S.mem.length<=100000
 gl:S.gl.length=p.globals.length
section
variable {lo:yU}{h:za}{b mb wb:Nat}{p:Pg}{S:St}{world:List Int}{gl kv wn:aaa}{kept:Option (Int->Bool)}
theorem Hj{c:Fr}{i:xG}(hr:∀v,v∈c.zf->wD v.b):∀q,yR c i=some q->q.ok:=by
 intro q hq
 have hb:wD (zT c.zf i.a).b:=by
  unfold zT;split
  ·exact⟨by decide,by decide⟩
  ·rw[aaB];cases e:c.zf[i.a.toNat]? with
   |none=>exact⟨by decide,by decide⟩
   |some v=>exact hr v (aau e)
 have w64_in:∀n:Int,wD (ui n):=λn=>by
  unfold ui wD;simp only[IntKind.wrap,IntKind.bits,IntKind.signed]
  constructor <;> simp <;> omega
 unfold yR at hq;generalize zT c.zf i.a=a at hq hb;unfold yG at hq;have hi:isInt (qj i.k)=true:=rfl;cases ha:isInt a with
 |true=>
  rw[ha,hi]at hq;simp only[ac1,aad,uk]at hq;simp[qj]at hq
 |false=>
  rw[ha,hi]at hq;cases hp:wK a with
  |true=>
   rw[hp]at hq;simp only[aco,abo,abe,ac2,ac1,aad]at hq;split at hq
   ·simp only[aab]at hq;subst hq;unfold AW;split
    ·exact⟨⟨by decide,by decide⟩,⟨by decide,by decide⟩,⟨by decide,by decide⟩⟩
    ·exact⟨⟨by show(-9223372036854775808:Int)<=2;decide,by show(2:Int)<9223372036854775808;decide⟩,w64_in _,hb⟩
   ·cases hq
  |false=>
   rw[hp]at hq;have hpi:wK (qj i.k)=false:=rfl;simp[hpi]at hq
theorem zhe(hp:Rd lo (wB · p))(hK:KV kv kept)(hwl:world.length<4611686018427387904)(x:NR lo h p b mb wb world gl kv wn S)(ok:zf8 p S)(hne:S.calls≠[]) :
  DC pu 39 [yB b] h (λv h'=>v=.bool (kP p world kept S).2/\NR lo h' p b mb wb world gl kv wn (kP p world kept S).1):=by
 apply sW;obtain⟨ev,lk,cl,fbs,hlen,s⟩:=x;rcases abF S.calls with e|⟨ini,c,e⟩
 ·exact absurd e hne
 rcases abF fbs with rfl|⟨fi,fb,rfl⟩
 ·rw[e]at hlen;simp at hlen
 simp only[abM]at *
 have hl:fi.length=ini.length:=by rw[e]at hlen;simpa using hlen
 have hcm:c∈S.calls:=by rw[e];simp
 obtain⟨i,hi,ig⟩:=ok.at_ c hcm;obtain⟨hrl,hrb,hblk⟩:=ok.fr c hcm;have hmany:=ok.many;have hil:ini.length<20000:=by rw[e]at hmany;simp at hmany;omega
 have est:kP p world kept S=xq p world kept S c i:=by
  unfold kP;rw[e,abI];simp only[hi]
 rw[est];rw[e,VH p fb c fi ini hl]at s
 have sx:Sat lo h (wi p b mb wb world S ev lk gl cl kv wn (fi++[fb])++Xd p fb c::nF p fi ini):=s.perm (by
  rw[<- acf];refine List.Perm.trans abB ?_;rw[List.singleton_append];exact List.perm_middle.symm)
 have hL:(S.lk.length+1)*24<=2^47:=by have:=ok.lk;omega
 have hE:(S.ev.length+1)*16<=2^47:=by have:=ok.ev;omega
 have back:∀{S':St} {h':za} {ev' lk':aaa} {c':Fr},S'.calls=ini++[c']->Sat lo h' (Xd p fb c'::(wi p b mb wb world S' ev' lk' gl cl kv wn (fi++[fb])++nF p fi ini))->NR lo h' p b mb wb world gl kv wn S':=by
  intro S' h' ev' lk' c' e' s';refine⟨ev',lk',cl,fi++[fb],by rw[e'];simp[hl],?_⟩;rw[e',VH p fb c' fi ini hl];refine s'.perm ?_;rw[<- acf];exact(abB (l₁:=[Xd p fb c']))
 have done:∀(S':St) (v:V),(S'.calls=S.calls)->(uf S' c i v).calls=ini++[{c with zf:=uz c.zf (zu i) v,pt:=i.s}]:=by
  intro S' v e';unfold uf za0;rw[show({S' with calls:=S'.calls.dropLast++[{c with zf:=uz c.zf (zu i) v,pt:=i.s}]}:St).calls=S'.calls.dropLast++[{c with zf:=uz c.zf (zu i) v,pt:=i.s}] from rfl,e',e,aaY]
 have back0:∀{S':St} {h':za} {ev' lk':aaa},S'.calls=S.calls->Sat lo h' (wi p b mb wb world S' ev' lk' gl cl kv wn (fi++[fb])++Xd p fb c::nF p fi ini)->NR lo h' p b mb wb world gl kv wn S':=by
  intro S' h' ev' lk' e' s';refine back (c':=c) (by rw[e',e]) (s'.perm List.perm_middle)
 refine zdV hp sx hi (by omega) λhn hco b1 b2 h3 s3=>?_;have hw:=ig.w;show y9 (pm i.op) _ h3 _ _ _ _ (Ek b1 b2 fb _);by_cases h2:i.op=2
 ·refine zi1 h2 hn hco hw hrl s3 λh' s'=>?_;have es:xq p world kept S c i=(uf S c i (qj i.k),true):=by unfold xq;rw[aai h2]
  rw[es];exact⟨rfl,back (done S _ rfl) s'⟩
 by_cases h3':i.op=3
 ·refine zi2 h3' hn hco hw hrl s3 λh' s'=>?_;have es:xq p world kept S c i=(uf S c i (zT c.zf i.a),true):=by unfold xq;rw[aac h2,aai h3']
  rw[es];exact⟨rfl,back (done S _ rfl) s'⟩
 by_cases h4:i.op=4
 ·have es:xq p world kept S c i=(match mM i.sub (zT c.zf i.a) with
   |none=>(S,false)
   |some v=>(uf S c i v,true)):=by unfold xq;rw[aac h2,aac h3',aai h4];rfl
  refine zi3 h4 hn hco hw hrl s3 (λh' s' q=>?_) (λh' s' q=>?_)
  ·cases hu:mM i.sub (zT c.zf i.a) with
   |none=>rw[hu]at q;cases q
   |some u=>rw[hu]at es s';rw[es];exact⟨rfl,back (done S _ rfl) s'⟩
  ·cases hu:mM i.sub (zT c.zf i.a) with
   |some u=>rw[hu]at q;cases q
   |none=>rw[hu]at es;rw[es];exact⟨rfl,back0 rfl s'⟩
 by_cases h5:i.op=5
 ·obtain⟨S1,hS1⟩:∃S1,S1=if (i.sub=14\/i.sub=15)/\(zT c.zf i.a).k=1/\(yE c i).k=1 then xh S 3 (zT c.zf i.a).n (yE c i).n else S:=⟨_,rfl⟩;have hS1c:S1.calls=S.calls:=by rw[hS1];split <;> rfl
  have es:xq p world kept S c i=(match yG i.sub (zT c.zf i.a) (yE c i) with
   |none=>(S1,false)
   |some v=>(uf S1 c i v,true)):=by unfold xq;rw[aac h2,aac h3',aac h4,aai h5,hS1];rfl
  obtain⟨o,ho⟩:∃o,o=yG i.sub (zT c.zf i.a) (yE c i):=⟨_,rfl⟩;rw[<- ho]at es;refine zi4 h5 hL hn hco hw hrl s3 S1 hS1 o ho (λq h' lk' s'=>?_) (λq h' lk' s'=>?_)
  ·cases o with
   |none=>cases q
   |some u=>rw[es];exact⟨rfl,back (done S1 _ hS1c) s'⟩
  ·cases o with
   |some u=>cases q
   |none=>rw[es];exact⟨rfl,back0 hS1c s'⟩
 by_cases h6:i.op=6
 ·have es:xq p world kept S c i=(match yR c i with
   |none=>(S,false)
   |some q=>(match kZ S.mem i.sub q with
    |none=>(xh S 2 q.b q.n,false)
    |some v=>(uf (xh S 2 q.b q.n) c i v,true))):=by unfold xq;rw[aac h2,aac h3',aac h4,aac h5,aai h6];rfl
  refine zi5 h6 hL ok.mem.1 (ig.zdY (.inl h6)) (Hj hrb) hn hco hw hrl s3 (λq u e1 e2 h' lk' s'=>?_) (λq0 h' lk' s'=>?_)
  ·rw[e1]at es;simp only[e2]at es;rw[es];exact⟨rfl,back (done (xh S 2 q.b q.n) _ rfl) s'⟩
  ·cases hA:yR c i with
   |none=>rw[hA]at es s';rw[es];exact⟨rfl,back0 rfl s'⟩
   |some q=>
    rw[hA]at es s';cases hu:kZ S.mem i.sub q with
    |some u=>exact(q0 q u hA hu).elim
    |none=>simp only[hu]at es;rw[es];exact⟨rfl,back0 (S':=xh S 2 q.b q.n) rfl s'⟩
 by_cases h7:i.op=7
 ·have es:xq p world kept S c i=(match yR c i with
   |none=>(S,false)
   |some q=>(match wX S.mem i.sub q (zT c.zf i.b) with
    |none=>(xh S 2 q.b q.n,false)
    |some M=>(uf {xh S 2 q.b q.n with mem:=M} c i v0,true))):=by unfold xq;rw[aac h2,aac h3',aac h4,aac h5,aac h6,aai h7];rfl
  refine zi6 h7 hL ok.mem.1 (ig.zdY (.inr h7)) (Hj hrb) hn hco hw hrl s3 (λq M e1 e2 h' lk' s'=>?_) (λq0 h' lk' s'=>?_)
  ·rw[e1]at es;simp only[e2]at es;rw[es];exact⟨rfl,back (done {xh S 2 q.b q.n with mem:=M} _ rfl) s'⟩
  ·cases hA:yR c i with
   |none=>rw[hA]at es s';rw[es];exact⟨rfl,back0 rfl s'⟩
   |some q=>
    rw[hA]at es s';cases hu:wX S.mem i.sub q (zT c.zf i.b) with
    |some u=>exact(q0 q u hA hu).elim
    |none=>simp only[hu]at es;rw[es];exact⟨rfl,back0 (S':=xh S 2 q.b q.n) rfl s'⟩
 by_cases h8:i.op=8
 ·have es:xq p world kept S c i=(uf S c i (AW (S.gl.getD i.sub.toNat 0) i.k),true):=by unfold xq;rw[aac h2,aac h3',aac h4,aac h5,aac h6,aac h7,aai h8]
  obtain⟨g0,g1⟩:=ig.ziD h8;refine zi7 h8 g0 (by rw[ok.gl];exact g1) hn hco hw hrl s3 λh' s'=>?_;rw[es];exact⟨rfl,back (done S _ rfl) s'⟩
 by_cases h9:i.op=9
 ·have es:xq p world kept S c i=(uf S c i (AW c.k9 i.k),true):=by unfold xq;rw[aac h2,aac h3',aac h4,aac h5,aac h6,aac h7,aac h8,aai h9]
  refine zi8 h9 hn hco hw hrl s3 λh' s'=>?_;rw[es];exact⟨rfl,back (done S _ rfl) s'⟩
 by_cases h10:i.op=10
 ·have es:xq p world kept S c i=wQ p (xh S 4 i.sub 0) i.sub (i.args.map (zT c.zf)):=by unfold xq;rw[aac h2,aac h3',aac h4,aac h5,aac h6,aac h7,aac h8,aac h9,aai h10]
  obtain⟨f,f0,f1,f2,f3,f4⟩:=ig.call h10
  have hf:∀h,wB h p->zL h i.av i.args:=λh P=>by
   unfold j3 at hi;cases hff:p.funcs[c.f]? with
   |none=>rw[hff]at hi;cases hi
   |some ff=>
    rw[hff]at hi;simp only[aaI]at hi;split at hi
    ·cases hi
    ·exact((P.fns ff (aau hff)).ins i (aau hi)).args
  refine zin h10 (λh b=>hf h (hp h b)) (by rw[f2];exact f3) hL (λlo1 h' lk' av le rd fr s'=>?_) hn hco hw hrl s3;rw[es];have en:i.sub=((i.sub.toNat:Nat):Int):=(abW f0).symm;obtain⟨lo2,le2,s5,fr2⟩:=(s'.f [0,1,2]).call (L2:=[pt b (xo p mb wb (xh S 4 i.sub 0) ev lk' gl cl kv),yY 130 1 cl ((fi++[fb]).map uJ),Z9 mb (xh S 4 i.sub 0).mem]);have hfb:(fi++[fb]).length=(xh S 4 i.sub 0).calls.length:=by show _=S.calls.length;rw[e];simp[hl]
  have:=Sn (lo:=lo2) (n:=i.sub.toNat) (f:=f) (args:=i.args.map (zT c.zf)) ((hp.mono le).mono le2) (rd.mono le2) s5 f1 (by rw[aaf];exact f2) hfb f4 f3;rw[<- en]at this;refine this.mono ?_;rintro v h6 ⟨rfl,hq⟩;refine⟨_,rfl,rfl,?_⟩;obtain⟨E,hE'⟩:∃E,E=wQ p (xh S 4 i.sub 0) i.sub (i.args.map (zT c.zf)):=⟨_,rfl⟩;rw[<- hE']at hq ⊢
  have EM:E=if 20000<=S.calls.length then (xh S 4 i.sub 0,false) else (if (zW S.mem f.frame).2.2=0 then ({xh S 4 i.sub 0 with mem:=(zW S.mem f.frame).1,calls:=S.calls++[⟨i.sub.toNat,wC f.params (i.args.map (zT c.zf)) [],(zW S.mem f.frame).2.1,f.entry⟩]},true) else ({xh S 4 i.sub 0 with mem:=(zW S.mem f.frame).1},false)):=by
   rw[hE'];unfold wQ;simp only[f1];rfl
  by_cases hb:E.2=true
  ·rw[aai hb]at hq;obtain⟨fb2,cl2,s6⟩:=hq;have s7:=fr _ _ (fr2 _ _ s6);split at EM
   ·rw[EM]at hb;cases hb
   split at EM
   ·subst EM;refine⟨ev,lk',cl2,(fi++[fb])++[fb2],by show _=(S.calls++[_]).length;rw[e];simp[hl],?_⟩;show Sat lo h6 (_++nF p ((fi++[fb])++[fb2]) (S.calls++[_]));rw[VH p fb2 _ _ S.calls (by rw[e];simp[hl]),e,VH p fb c fi ini hl];have s8:=s7.f [0,1,2,4,5,6,7,8,3,9];refine s8.perm ?_;simp only[wi,abK,abT];refine List.Perm.cons _ (List.Perm.cons _ (List.Perm.cons _ (List.Perm.cons _ (List.Perm.cons _ (List.Perm.cons _ (List.Perm.cons _ (List.Perm.cons _ ?_)))))))
    have:(Xd p fb2 ⟨i.sub.toNat,wC f.params (i.args.map (zT c.zf)) [],(zW S.mem f.frame).2.1,f.entry⟩::Xd p fb c::nF p fi ini).Perm ((nF p fi ini++[Xd p fb c])++[Xd p fb2 ⟨i.sub.toNat,wC f.params (i.args.map (zT c.zf)) [],(zW S.mem f.frame).2.1,f.entry⟩]) :=
     (List.Perm.cons _ (abB (l₁:=[Xd p fb c]))).trans (abB (l₁:=[_]))
    exact this
   ·rw[EM]at hb;cases hb
  ·rw[aac hb]at hq;have s7:=fr _ _ (fr2 _ _ hq)
   have hcl:E.1.calls=S.calls/\E.1.lk=(xh S 4 i.sub 0).lk/\E.1.ev=S.ev/\E.1.gl=S.gl/\E.1.used=S.used:=by
    split at EM
    ·subst EM;exact⟨rfl,rfl,rfl,rfl,rfl⟩
    split at EM
    ·subst EM;exact absurd rfl hb
    ·subst EM;exact⟨rfl,rfl,rfl,rfl,rfl⟩
   refine back0 hcl.1 (ev':=ev) (lk':=lk') ?_;unfold wi;rw[hcl.2.1,hcl.2.2.1,hcl.2.2.2.1,hcl.2.2.2.2];exact s7
 by_cases h11:i.op=11
 ·obtain⟨o,ho⟩:∃o,o=yG i.sub (zT c.zf i.a) (yE c i):=⟨_,rfl⟩;have es:xq p world kept S c i=il S c i:=by unfold xq;rw[aac h2,aac h3',aac h4,aac h5,aac h6,aac h7,aac h8,aac h9,aac h10,aai h11]
  unfold il at es;rw[<- ho]at es;refine zio h11 hL hn hco hw hrl s3 o ho λh' lk' s'=>?_;cases o with
  |none=>rw[es];exact⟨rfl,back (S':=S) (c':=c) e s'⟩
  |some w=>
   rw[es];refine⟨rfl,back (c':={c with pt:=if w.n=0 then i.t else i.s}) (ev':=ev) (lk':=lk') ?_ s'⟩;unfold za0;show(S.calls.dropLast++[_])=_;rw[e,aaY]
 by_cases h12:i.op=12
 ·have es:xq p world kept S c i=qi p kept S (zT c.zf i.a):=by unfold xq;rw[aac h2,aac h3',aac h4,aac h5,aac h6,aac h7,aac h8,aac h9,aac h10,aac h11,aai h12]
  refine ziq h12 hn hco hw hrl s3 λh' s'=>?_;rw[es];have eF:∀(r:List Fr) (E:St×Bool),E.1.lk=S.lk->E.1.ev=S.ev->E.1.gl=S.gl->E.1.used=S.used->True:=λ_ _ _ _ _ _=>trivial;rcases abF ini with hini|⟨in2,bk,hini⟩
  ·subst hini
   have hfi:fi=[]:=by cases fi with
    |nil=>rfl
    |cons _ _=>simp at hl
   subst hfi;obtain⟨lo2,le2,s5,fr2⟩:=(s'.f [0,1,2,8]).call (L2:=[pt b (xo p mb wb S ev lk gl cl kv),yY 130 1 cl (([]++[fb]).map uJ),Z9 mb S.mem,Xd p fb c]);refine(O0 (kept:=kept) s5 (by simpa using e) ok.mem.2 hblk.2 (zT c.zf i.a)).mono ?_;rintro v h6 ⟨rfl,cl',s6⟩;refine⟨_,rfl,rfl,?_⟩;have s7:=fr2 _ _ s6;obtain⟨E,hE'⟩:∃E,E=qi p kept S (zT c.zf i.a):=⟨_,rfl⟩;rw[<- hE']at s7 ⊢
   have hcl:E.1.calls=[]/\E.1.lk=S.lk/\E.1.ev=S.ev/\E.1.gl=S.gl/\E.1.used=S.used:=by
    rw[hE'];unfold qi;rw[show S.calls=[c] by simpa using e];simp only[List.getLast?_singleton,List.dropLast_singleton,List.getLast?_nil];split <;> exact⟨rfl,rfl,rfl,rfl,rfl⟩
   refine⟨ev,lk,cl',[],by rw[hcl.1];rfl,?_⟩;unfold wi;rw[hcl.2.1,hcl.2.2.1,hcl.2.2.2.1,hcl.2.2.2.2,hcl.1];exact s7.zJ 8
  ·simp only[abM]at hini;subst hini;rcases abF fi with rfl|⟨fi2,fbb,hfi⟩
   ·simp at hl
   simp only[abM]at hfi;subst hfi;have hl2:fi2.length=in2.length:=by simpa using hl
   have hbm:bk∈S.calls:=by rw[e];simp
   obtain⟨bi,hbi,hb10⟩:=ok.low bk (by rw[e,aaY];simp);obtain⟨bi2,hbi2,hbg⟩:=ok.at_ bk hbm;have:bi2=bi:=by rw[hbi]at hbi2;exact(abO hbi2).symm
   subst this
   have hwd:bi2.d<100000:=by
    have:=hbg.w;unfold Go.Rtl.zu Go.Rtl.wr at this;rw[hb10]at this;simpa using this
   rw[VH p fbb bk fi2 in2 hl2]at s';have s4:Sat lo h' (wi p b mb wb world S ev lk gl cl kv wn ((fi2++[fbb])++[fb])++Xd p fb c::Xd p fbb bk::nF p fi2 in2):=s'.perm (List.Perm.append_left _ (List.Perm.cons _ (abB (l₂:=[Xd p fbb bk]))));obtain⟨lo2,le2,s5,fr2⟩:=(s4.f [0,1,2,8,9]).call (L2:=[pt b (xo p mb wb S ev lk gl cl kv),yY 130 1 cl (((fi2++[fbb])++[fb]).map uJ),Z9 mb S.mem,Xd p fb c,Xd p fbb bk]);refine(O1 (hp.mono le2) s5 e hbi hK (by simp only[abH,List.length_singleton]at hil;omega) (ok.fr bk hbm).1 hwd ok.mem.2 hblk.2 (zT c.zf i.a)).mono ?_;rintro v h6 ⟨rfl,cl',s6⟩;refine⟨_,rfl,rfl,?_⟩;have s7:=fr2 _ _ s6;obtain⟨E,hE'⟩:∃E,E=qi p kept S (zT c.zf i.a):=⟨_,rfl⟩;rw[<- hE']at s7 ⊢
   have hcl:E.1.calls=in2++[{bk with zf:=uz (kW kept bk.zf) bi2.d (zT c.zf i.a),pt:=bi2.s}]/\E.1.lk=S.lk/\E.1.ev=S.ev/\E.1.gl=S.gl/\E.1.used=S.used:=by
    rw[hE'];unfold qi;rw[e];simp only[abI,aaY,hbi];exact⟨trivial,trivial,trivial,trivial,trivial⟩
   refine⟨ev,lk,cl',fi2++[fbb],by rw[hcl.1];simp[hl2],?_⟩;unfold wi;rw[hcl.2.1,hcl.2.2.1,hcl.2.2.2.1,hcl.2.2.2.2,hcl.1,VH p fbb _ fi2 in2 hl2];have s8:=s7.f [0,1,2,4,5,6,7,8,3];refine s8.perm ?_;simp only[abK,abT];refine List.Perm.cons _ (List.Perm.cons _ (List.Perm.cons _ (List.Perm.cons _ (List.Perm.cons _ (List.Perm.cons _ (List.Perm.cons _ (List.Perm.cons _ ?_)))))));exact(abB (l₁:=[_]))
 by_cases h13:i.op=13
 ·have es:xq p world kept S c i=(uf {ke S 1 (Zw world S.used) with used:=S.used+1} c i (qj (Zw world S.used)),true):=by unfold xq;rw[aac h2,aac h3',aac h4,aac h5,aac h6,aac h7,aac h8,aac h9,aac h10,aac h11,aac h12,aai h13]
  refine zir h13 ok.used.1 (by have:=ok.used.2;omega) hwl hE hn hco hw hrl s3 λh' ev' s'=>?_;rw[es];exact⟨rfl,back (done {ke S 1 (Zw world S.used) with used:=S.used+1} _ rfl) s'⟩
 by_cases h14:i.op=14
 ·have es:xq p world kept S c i=(if (zT c.zf i.a).k=1 then (uf (ke S 2 (zT c.zf i.a).n) c i v0,true) else (S,false)):=by unfold xq;rw[aac h2,aac h3',aac h4,aac h5,aac h6,aac h7,aac h8,aac h9,aac h10,aac h11,aac h12,aac h13,aai h14]
  refine zis h14 hE hn hco hw hrl s3 (λhk h' ev' s'=>?_) (λhk h' s'=>?_)
  ·rw[aai hk]at es;rw[es];exact⟨rfl,back (done (ke S 2 (zT c.zf i.a).n) _ rfl) s'⟩
  ·rw[aac hk]at es;rw[es];exact⟨rfl,back0 rfl s'⟩
 have es:xq p world kept S c i=(uf S c i v0,true):=by unfold xq;rw[aac h2,aac h3',aac h4,aac h5,aac h6,aac h7,aac h8,aac h9,aac h10,aac h11,aac h12,aac h13,aac h14]
 refine ze2 (λk k2 k14 hk=>?_) hn hco hw hrl s3 λh' s'=>?_
 ·have:k=2\/k=3\/k=4\/k=5\/k=6\/k=7\/k=8\/k=9\/k=10\/k=11\/k=12\/k=13\/k=14:=by omega
  omega
 ·rw[es];exact⟨rfl,back (done S _ rfl) s'⟩
end
section
variable {lo:yU}{h:za}{L:List HP}{ty:TypeId}{n:Nat}{sv:aaa}{rows:List (List aaa)}
theorem Ny(s:Sat lo h (yY ty n sv rows::L))(hn:∀r,r∈rows->r.length=n)(rows2:List (List aaa))(hn2:∀r,r∈rows2->r.length=n)(bz:Nat)(hb:(rows.length+rows2.length)*bz<=2^47)(hne:rows2≠[]) :
  ∃b' c' h',Q9 h ty n bz rows2.length rows2.flatten sv=some (.slice (some ⟨b',0,none⟩) (rows.length+rows2.length) c',h')/\Sat lo h' (yY ty n (.slice (some ⟨b',0,none⟩) (rows.length+rows2.length) c') (rows++rows2)::L):=by
 have hn3:∀r,r∈rows++rows2->r.length=n:=λr q=>by
  rcases aaQ.1 q with q|q
  ·exact hn r q
  ·exact hn2 r q
 have hlen:(rows++rows2).length=rows.length+rows2.length:=by simp
 have h0:¬rows2.length=0:=λe=>hne (abL.1 e);rcases kp s with⟨rfl,rfl,s'⟩|⟨b,c,cs,rfl,hc,hl,hf,s⟩
 ·refine⟨h.next,1,h.push (.cells rows2.flatten ty),?_,?_⟩
  ·simp only[Q9];rw[aac h0,aai (by simp at hb;omega)];simp
  ·have q:=ZR (cs:=rows2.flatten) (rows:=[]++rows2) (c:=1) (by decide) hn3 (by simp) (s'.push (.cells rows2.flatten ty));rw[hlen]at q;exact q
 ·have hroom:roomFor c (rows.length+rows2.length) bz=true:=by
   unfold roomFor;cases Nat.beq c 2 <;> simp only[aaC,aaK,acp] <;> omega
  refine⟨h.next,uG c (rows.length+rows2.length),(h.set b none).push (.cells (((cs.drop 0).take (rows.length*n))++rows2.flatten) ty),?_,?_⟩
  ·simp only[Q9,s.get];rw[aac h0,aai ⟨hc,trivial,s.wr,by omega,hroom,by simp⟩]
  ·have q:=ZR (rows:=rows++rows2) (c:=uG c (rows.length+rows2.length)) (tp _ _) hn3 (by rw[abA,hf,List.flatten_append]) ((s.forget none).push (.cells (((cs.drop 0).take (rows.length*n))++rows2.flatten) ty));rw[hlen]at q;exact q
end
theorem Eb{h:za}{sv:aaa}{zs:List Int}(S:zL h sv zs):zC h sv 1 (zs.map yo):=by
 rcases S with⟨e,e2⟩|⟨b,off,cp,rfl,hc⟩
 ·exact .inl ⟨e,by rw[e2];rfl⟩
 ·refine .inr ⟨b,off,cp,by rw[aaf],λhz=>?_⟩;obtain⟨c,t,hb,hg,hat⟩:=hc (by simpa using hz);refine⟨c,t,hb,hg,λi r hr=>?_⟩;rw[aaq]at hr;cases hz:zs[i]? with
  |none=>rw[hz]at hr;cases hr
  |some z=>
   rw[hz]at hr;cases hr;have:=hat i z hz
   have hlt:off+i<c.length:=by
    rcases aar (off+i) c.length with q|q
    ·exact q
    ·rw[aal q]at this;cases this
   refine⟨by omega,?_⟩;rw[abk,List.drop_eq_getElem_cons hlt];rw[aae hlt]at this;rw[abO this];rfl
section
variable {lo:yU}{h:za}{L:List HP}{wv:aaa}{world:List Int}
theorem zev(hw:zL h wv world)(hl:world.length*8<=2^47)(s:Sat lo h L):DC pu 60 [wv] h (λv h'=>zV v=false/\yN v=true/\Sat lo h' (yY 2 1 v (world.map yo)::L)):=by
 apply GX;unfold E1;have SR:=Eb hw;rcases hw with⟨rfl,rfl⟩|⟨b,off,cp,rfl,hc⟩
 ·simp only[EE,zeA];exact vS _ _ s
 ·simp only[EE,zck,zgx];have s1:=s.push (.cells [] 2);have s2:Sat lo (h.push (.cells [] 2)) (yY 2 1 (.slice (some ⟨h.next,0,none⟩) 0 2) []::L):=ZR (rows:=[]) (c:=2) (by decide) (by simp) (by simp) s1
  have hap:∀r,zB pu .append [26,26] r [.slice (some ⟨h.next,0,none⟩) 0 2,.slice (some ⟨b,off,none⟩) world.length cp] (h.push (.cells [] 2))=Q9 (h.push (.cells [] 2)) 2 1 8 world.length (world.map yo).flatten (.slice (some ⟨h.next,0,none⟩) 0 2):=λr=>by
   have f:=(SR.old (Old.push h (.cells [] 2))).first (by decide) (qV (f:=yo) (λ_=>rfl) world);rw[aaf]at f;exact zhR r _ _ world.length _ _ rfl f (by simp[yo,List.all_flatten];exact λ_ _=>rfl) (by rw[Go.Rtl.uZ (qV (f:=yo) (λ_=>rfl) world),aaf])
  by_cases h0:world=[]
  ·subst h0;have:Q9 (h.push (.cells [] 2)) 2 1 8 ([]:List Int).length (([]:List Int).map yo).flatten (.slice (some ⟨h.next,0,none⟩) 0 2)=some (.slice (some ⟨h.next,0,none⟩) 0 2,h.push (.cells [] 2)):=rfl;simp only[EE]
   first|exact s2|exact⟨rfl,rfl,s2⟩|exact⟨rfl,rfl,rfl,s2⟩
  ·obtain⟨b',c',h3,a1,s3⟩:=Ny s2 (by simp) (world.map yo) (qV (f:=yo) (λ_=>rfl) world) 8 (by simp;omega) (by simpa using h0);rw[aaf]at a1 s3;simp only[EE,hap,a1];rw[aaz,aay,abT]at s3
   first|exact s3|exact⟨rfl,rfl,s3⟩
theorem zhf(hw:zL h wv world)(hl:world.length*8<=2^47)(s:Sat lo h L):DC pu 34 [wv] h (λv h'=>∃wb wn,v=yB wb/\Sat lo h' (pt wb (.cells [wn,pm 0] 119)::yY 2 1 wn (world.map yo)::L)):=by
 apply TN;unfold zbB;refine EI (by simp only[yC,hw.wk,aaK]) (zev hw hl s) ?_;rintro v h1 ⟨n1,c1,s1⟩;obtain⟨a,c,rfl⟩:=tW s1;rw[aaf]at s1;simp only[EE,Value.cells,zch];refine uI s1 λwb h2 s2=>?_;simp only[EE];exact⟨wb,_,rfl,s2⟩
end
theorem Pw{M:MM}{B:MB}(h:small M)(hb:B.size<2147483648):small (M++[B]):=λi C hC=>by
 rw[aca]at hC;split at hC
 ·exact h i C hC
 ·cases hq:i-M.length with
  |zero=>rw[hq]at hC;simp at hC;subst hC;exact hb
  |succ k=>rw[hq]at hC;simp at hC
def vb(v:V):Prop:=wD v.b
theorem VJ:wD 0:=⟨by decide,by decide⟩
theorem t8:vb v0:=VJ
theorem GR(n:Int):vb (qj n):=VJ
theorem ND{b n:Int}(h:wD b):vb (AW b n):=by
 unfold AW;split
 ·exact VJ
 ·exact h
theorem NF(t:Bool):vb (qW t):=by unfold qW;split <;> exact VJ
theorem zhj{c:Prop}[Decidable c]{x y:Option V}{v:V}(hx:x=some v->vb v)(hy:y=some v->vb v):(if c then x else y)=some v->vb v:=by
 intro h;by_cases hc:c
 ·rw[aai hc]at h;exact hx h
 ·rw[aac hc]at h;exact hy h
theorem zfe{op a b:Int}{v:V}(h:uk op a b=some v):vb v:=by
 revert h
 unfold uk
 repeat' apply zhj
 all_goals intro h
 all_goals first
  |(cases h;done)
  |(have e:=abO h;rw[<- e];first|exact GR _|exact NF _)
theorem zd4{op:Int}{a b v:V}(ha:vb a)(hb:vb b)(h:yG op a b=some v):vb v:=by
 unfold yG at h;split at h
 ·exact zfe h
 split at h
 ·simp only[aab]at h;subst h;exact ND ha
 split at h
 ·simp only[aab]at h;subst h;exact ND hb
 split at h
 ·simp only[aab]at h;subst h;exact ND ha
 split at h
 ·unfold wO at h;split at h
  ·simp only[aab]at h;subst h;exact NF _
  ·cases h
 ·cases h
theorem ziH{op:Int}{a v:V}(h:mM op a=some v):vb v:=by
 unfold mM at h
 repeat' (split at h)
 all_goals first
  |(cases h;done)
  |(simp only[aab]at h;subst h;exact GR _)
theorem zhi{l:List V}(h:∀v,v∈l->vb v)(r:Int):vb (zT l r):=by
 unfold zT;split
 ·exact t8
 ·rw[aaB];cases e:l[r.toNat]? with
  |none=>exact t8
  |some v=>exact h v (aau e)
theorem zd5{l:List V}(h:∀v,v∈l->vb v)(r:Int){w:V}(hw:vb w):∀v,v∈uz l r w->vb v:=by
 intro v hv;unfold uz at hv;split at hv
 ·exact h v hv
 ·rcases acC hv with q|rfl
  ·rcases aaQ.1 q with q|q
   ·exact h v q
   ·rw[List.eq_of_mem_replicate q];exact t8
  ·exact hw
theorem Ee:∀(ps:List Int) (al l:List V),(∀v,v∈al->vb v)->(∀v,v∈l->vb v)->∀v,v∈wC ps al l->vb v
 |[],al,l,_,h=>by cases al <;> exact h
 |p::ps,[],l,_,h=>h
 |p::ps,a::al,l,ha,h=>Ee ps al _ (λv hv=>ha v (by simp[hv])) (zd5 h p (ha a (by simp)))
theorem zff(kept:Option (Int->Bool)){l:List V}(h:∀v,v∈l->vb v):∀v,v∈kW kept l->vb v:=by
 intro v hv;cases kept with
 |none=>exact h v hv
 |some K=>
  unfold kW at hv;simp only[abm]at hv;obtain⟨k,_,rfl⟩:=hv;split
  ·rw[aaB];cases e:l[k]? with
   |none=>exact t8
   |some w=>exact h w (aau e)
  ·exact t8
theorem Dz(kept:Option (Int->Bool))(l:List V):(kW kept l).length=l.length:=by
 cases kept with
 |none=>rfl
 |some K=>simp[kW]
def Js(M:MM):Prop:=small M/\M.length<=100000 /\ ∀(i:Nat) B,M[i]? = some B->∀a,vb (B.byte a).p
theorem zaw{M:MM}{c:Int}{p v:V}(h:Js M)(e:kZ M c p=some v):vb v:=by
 unfold kZ at e;split at e
 ·cases e
 ·rename_i i hi;simp only[aat]at e;obtain⟨B,hB,rfl⟩:=e;unfold eY;split
  ·exact VJ
  split
  ·exact h.2.2 i B hB _
  ·exact t8
theorem DG{M:MM}{i:Nat}{B:MB}(h:Js M)(hs:B.size<2147483648)(hp:∀a,vb (B.byte a).p):Js (M.set i B):=by
 refine⟨λj C hC=>?_,by rw[aaW];exact h.2.1,λj C hC a=>?_⟩
 ·rw[ab0]at hC;split at hC
  ·split at hC
   ·cases hC;exact hs
   ·cases hC
  ·exact h.1 j C hC
 ·rw[ab0]at hC;split at hC
  ·split at hC
   ·cases hC;exact hp a
   ·cases hC
  ·exact h.2.2 j C hC a
theorem O8{M M':MM}{c:Int}{p v:V}(h:Js M)(hv:vb v)(e:wX M c p v=some M'):Js M':=by
 unfold wX at e;split at e
 ·cases e
 split at e
 ·cases e
 ·rename_i i hi;simp only[aat]at e;obtain⟨B,hB,rfl⟩:=e;refine DG h (h.1 i B hB) λa=>?_;show vb ((if _ then cellOf (norm v) _ else B.byte a).p);split
  ·unfold cellOf norm
   repeat' split
   all_goals first|exact hv|exact t8
  ·exact h.2.2 i B hB a
theorem Gr{M:MM}{n:Int}(h:Js M):Js ((qN M n).getD M):=by
 cases e:qN M n with
 |none=>exact h
 |some M'=>
  unfold qN at e;simp only[abY,aat]at e;obtain⟨i,hi,B,hB,rfl⟩:=e;exact DG h (h.1 i B hB) λa=>t8
theorem zax{M:MM}{n:Int}(h:Js M):Js ((Xl M n).getD M):=by
 cases e:Xl M n with
 |none=>exact h
 |some M'=>
  unfold Xl at e;simp only[abY,aat]at e;obtain⟨i,hi,B,hB,rfl⟩:=e;refine DG h (h.1 i B hB) λa=>?_;show vb ((if a<_ then zc else B.byte a).p);split
  ·exact t8
  ·exact h.2.2 i B hB a
theorem QZ{M:MM}(n:Int)(h:Js M):Js (zW M n).1/\wD (zW M n).2.1:=by
 unfold zW;split
 ·exact⟨h,VJ⟩
 split
 ·exact⟨h,VJ⟩
 ·refine⟨⟨?_,by simp;omega,λi B hB a=>?_⟩,?_⟩
  ·exact Pw h.1 (by show n.toNat<_;omega)
  ·rw[aca]at hB;split at hB
   ·exact h.2.2 i B hB a
   ·cases hq:i-M.length with
    |zero=>rw[hq]at hB;simp at hB;subst hB;exact t8
    |succ k=>rw[hq]at hB;simp at hB
  ·show wD ((M.length:Int)+1);constructor <;> omega
end Go.Rm
