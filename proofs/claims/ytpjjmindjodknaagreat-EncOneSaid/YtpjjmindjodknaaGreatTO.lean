import Derived.Test.YtpjjmindjodknaaGreatTN
set_option linter.unusedVariables false
set_option linter.unusedSimpArgs false
set_option maxRecDepth 100000
namespace Go.Ed
open Go.Ai Go.Proofs
open Go.Rtl (zK zE Old inc yz xw vx i0 vS vo)
open Go.Rm (ZG y6 xf vq wD wJ jR yR zV xH Rd Rd.of Rd.at Rd.mono)
open Go.As (zC Pg ZO qI)
open Go.Eb (y4 xO zX i5 vR qi vW YL QD)
open Go.En
def YP(v:aaa)(xs:List zC):HP:=ZG 42 7 v (xs.map zC.row)
theorem YO(xs:List zC):∀r,r∈xs.map zC.row->r.length=7:=xH (f:=zC.row) (λ_=>rfl) xs
theorem Fi(xs:List zC):(xs.map zC.row).flatten.all wG=true:=by
 rw[aaB];intro v hv;obtain⟨r,hr,hv⟩:=List.mem_flatten.1 hv;obtain⟨x,_,rfl⟩:=aa4.1 hr;simp only[zC.row,aaS,abJ,acz]at hv;rcases hv with rfl|rfl|rfl|rfl|rfl|rfl|rfl <;> rfl
section
variable {lo:yT}{h:za}{L:List HP}{v y:aaa}{xs ys:List zC}
theorem kG(s:Sat lo h (YP v xs::L)):zS v=false:=xf s
theorem Wq(s:Sat lo h L)(hm:YP v xs∈L):zE h v 7 (xs.map zC.row):=y6 (vS s hm) (YO xs)
theorem On(s:Sat lo h L)(zs:List zC)(c:Nat)(hc:c≠0):Sat lo (h.push (.cells (zs.map zC.row).flatten 42)) (YP (.slice (some ⟨h.next,0,none⟩) zs.length c) zs::L):=by
 have:=wD (ty:=42) (n:=7) (rows:=zs.map zC.row) (c:=c) hc (YO zs) rfl (s.push (.cells (zs.map zC.row).flatten 42))
 rwa [aau]at this
theorem LD(s:Sat lo h (YP v xs::L))(Y:zE h y 7 (ys.map zC.row))(hne:ys≠[])(Ui:xs.length+ys.length<=100000) :
  ∃b c h',(∀r,zB Tryz.prog .append [48,48] r [v,y] h=some (.slice (some ⟨b,0,none⟩) (xs.length+ys.length) c,h'))/\Sat lo h' (YP (.slice (some ⟨b,0,none⟩) (xs.length+ys.length) c) (xs++ys)::L):=by
 have a:=Y.Ag;have f:=Y.first (by decide) (YO ys);rw[aau]at a f;obtain⟨b,c,h',a1,s2⟩:=jR s (YO xs) (ys.map zC.row) (YO ys) 56 (by rw[aau,aau];omega) (by simpa using hne);rw[aau,aau]at a1 s2;refine⟨b,c,h',λr=>?_,?_⟩
 ·rw[ZS r v y ys.length (ys.map zC.row).flatten h a f (Fi ys) (by rw[vo (YO ys),aau])];exact a1
 ·rw[<- abo]at s2;exact s2
theorem br(s:Sat lo h (YP v xs::L))(ys:List zC)(hne:ys≠[])(Ui:xs.length+ys.length<=100000){cs:List aaa}(hc:cs=(ys.map zC.row).flatten){m cp:Nat}(hm:m=ys.length)(hcp:cp≠0){K:aaa->za->Prop}(k:∀b c h',Sat lo h' (YP (.slice (some ⟨b,0,none⟩) (xs.length+ys.length) c) (xs++ys)::L)->K (.slice (some ⟨b,0,none⟩) (xs.length+ys.length) c) h') :
  zt (zB Tryz.prog .append [48,48] 48 [v,.slice (some ⟨h.next,0,none⟩) m cp] (h.push (.cells cs 42))) K:=by
 subst hc;subst hm;have s1:=(On s ys cp hcp).f [1,0];obtain⟨b,c,h',a1,s2⟩:=LD s1 (Wq s1 (aaC _ aak)) hne Ui;rw[a1];exact k b c h' (s2.p 1).drop
variable {r m:Int}{H:za}{a:Nat}{J:List aaa->za->Prop}
abbrev pK:vr := .cells [.int .i64 11,.int .i64 12,.int .i64 16,.int .i64 17,.int .i64 18] 3
abbrev opsV(a:Nat):aaa := .slice (some ⟨a,0,none⟩) 5 7
theorem zaa{j:Nat}(hj:j<5):∃x,BC[j]? = some x/\([.int .i64 11,.int .i64 12,.int .i64 16,.int .i64 17,.int .i64 18]:List aaa)[j]? = some (.int .i64 x)/\vf Tryz.prog 22 (opsV a) (.int .i64 j)=some (.pointer (some ⟨a,j,none⟩)):=by
 obtain⟨x,hx⟩:∃x,BC[j]? = some x:=⟨_,aag (show j<5 by omega)⟩;refine⟨x,hx,?_,?_⟩
 ·have cs:([.int .i64 11,.int .i64 12,.int .i64 16,.int .i64 17,.int .i64 18]:List aaa)=BC.map λx=>Value.int .i64 x:=rfl;rw[cs,aaH,hx];rfl
 ·rw[Wv,aai (by omega)];simp
theorem zeY{j:Nat}{x:Int}(hx:BC[j]? = some x):Cb r m (j+1)=Cb r m j++[⟨7,m,r,x,0,0,0⟩]:=by
 unfold Cb;rw[abd,hx];simp
theorem pR{j:Nat}(hj:j<=5):(Cb r m j).length=j:=by unfold Cb;rw[aau,aaM];show min j 5=j;omega
theorem zeZ(s:Sat lo h (YP v xs::pt a pK::L))(Ui:xs.length<=1000)(k:∀v' h',Sat lo h' (YP v' (xs++Cb r m 5)::pt a pK::L)->J [v'] h') :
  LP (l5 J (opsV a) (.int .i64 m) (.int .i64 r)) [v,.int .i64 0] h:=by
 refine qo (λn vs h'=>∃(j:Nat) (v':aaa),j<=5/\n=5-j/\vs=[v',.int .i64 j]/\Sat lo h' (YP v' (xs++Cb r m j)::pt a pK::L)) 5 ⟨0,v,aaP _,rfl,rfl,by
  have e:xs++Cb r m 0=xs:=aa7 xs;rw[e];exact s⟩ ?_
 rintro n vs h1 ⟨j,v',hj,rfl,rfl,s1⟩;have vn:=kG s1;unfold l5;by_cases hc:(j:Int)<5
 ·obtain⟨x,hx,h2,h3⟩:=zaa (a:=a) (j:=j) (by omega);have g:=(s1.p 1).get;have hin:=inc (show j<4611686018427387904 by omega);simp only[EE,nth,↓zq,zu,zg,eH,xN,C6,C7,hc,h2,h3,g,vn,hin];refine br s1 [⟨7,m,r,x,0,0,0⟩] (by simp) (by rw[aao,pR hj];simp;omega) rfl rfl (by decide) λb c h2 s2=>?_;simp only[EE];refine⟨5-(j+1),by omega,j+1,_,by omega,rfl,rfl,?_⟩;rw[zeY hx,<- aa1];exact s2
 ·have:j=5:=by omega
  subst this;simp only[EE,nth,hc];exact k _ _ s1
theorem zf4{j:Nat}:BQ m (j+1)=BQ m j++[⟨17,m,0,0,21+(j:Nat),0,0⟩]:=by
 unfold BQ;rw[abG];simp
theorem FK{j:Nat}:(BQ m j).length=j:=by unfold BQ;simp
theorem zeF(s:Sat lo h (YP v xs::L))(Ui:xs.length<=1000)(k:∀v' h',Sat lo h' (YP v' (xs++BQ m 6)::L)->J [v'] h') :
  LP (l6 J (.int .i64 m)) [v,.int .i64 21] h:=by
 refine qo (λn vs h'=>∃(j:Nat) (v':aaa),j<=6/\n=6-j/\vs=[v',.int .i64 (21+(j:Nat))]/\Sat lo h' (YP v' (xs++BQ m j)::L)) 6 ⟨0,v,aaP _,rfl,rfl,by
  have e:xs++BQ m 0=xs:=aa7 xs;rw[e];exact s⟩ ?_
 rintro n vs h1 ⟨j,v',hj,rfl,rfl,s1⟩;have vn:=kG s1;unfold l6;by_cases hc:(21+(j:Int))<=26
 ·have hin:IntKind.wrap .i64 (21+(j:Int)+1)=21+((j+1:Nat):Int):=by rw[yM (by omega) (by omega)];omega
  simp only[EE,nth,↓zq,HR,xN,C8,C9,hc,vn,hin];refine br s1 [⟨17,m,0,0,21+(j:Nat),0,0⟩] (by simp) (by rw[aao,FK];simp;omega) rfl rfl (by decide) λb c h2 s2=>?_;simp only[EE];refine⟨6-(j+1),by omega,j+1,_,by omega,rfl,rfl,?_⟩;rw[zf4,<- aa1];exact s2
 ·have:j=6:=by omega
  subst this;simp only[EE,nth,hc];exact k _ _ s1
theorem zgI{j:Nat}{x k:Int}(hx:BC[j]? = some x):TE m k (j+1)=TE m k j++[⟨8,m,0,x,0,0,k⟩]:=by
 unfold TE;rw[abd,hx];simp
theorem Ml{j:Nat}{k:Int}(hj:j<=5):(TE m k j).length=j:=by unfold TE;rw[aau,aaM];show min j 5=j;omega
theorem zgJ{kk:Int}(s:Sat lo h (YP v xs::pt a pK::L))(Ui:xs.length<=1000)(k:∀v' h',Sat lo h' (YP v' (xs++TE m kk 5)::pt a pK::L)->J [v'] h') :
  LP (l7 J (opsV a) (.int .i64 m) (.int .i64 kk)) [v,.int .i64 0] h:=by
 refine qo (λn vs h'=>∃(j:Nat) (v':aaa),j<=5/\n=5-j/\vs=[v',.int .i64 j]/\Sat lo h' (YP v' (xs++TE m kk j)::pt a pK::L)) 5 ⟨0,v,aaP _,rfl,rfl,by
  have e:xs++TE m kk 0=xs:=aa7 xs;rw[e];exact s⟩ ?_
 rintro n vs h1 ⟨j,v',hj,rfl,rfl,s1⟩;have vn:=kG s1;unfold l7;by_cases hc:(j:Int)<5
 ·obtain⟨x,hx,h2,h3⟩:=zaa (a:=a) (j:=j) (by omega);have g:=(s1.p 1).get;have hin:=inc (show j<4611686018427387904 by omega);simp only[EE,nth,↓zq,zu,zg,yH,xN,Da,Db,hc,h2,h3,g,vn,hin];refine br s1 [⟨8,m,0,x,0,0,kk⟩] (by simp) (by rw[aao,Ml hj];simp;omega) rfl rfl (by decide) λb c h2 s2=>?_;simp only[EE];refine⟨5-(j+1),by omega,j+1,_,by omega,rfl,rfl,?_⟩;rw[zgI hx,<- aa1];exact s2
 ·have:j=5:=by omega
  subst this;simp only[EE,nth,hc];exact k _ _ s1
theorem zgK{j:Nat}{x k:Int}(hx:([1,2,4,8]:List Int)[j]? = some x):Io r m k (j+1)=Io r m k j++[⟨3,r,m,x,0,0,k⟩,⟨4,r,m,x,0,0,k⟩]:=by
 unfold Io;rw[abd,hx,List.flatMap_append];rfl
theorem TD{j:Nat}{k:Int}(hj:j<=4):(Io r m k j).length=2*j:=by
 have:j=0\/j=1\/j=2\/j=3\/j=4:=by omega
 rcases this with rfl|rfl|rfl|rfl|rfl <;> rfl
theorem zgL{kk:Int}(s:Sat lo h (YP v xs::L))(Ui:xs.length<=1000)(k:∀v' h',Sat lo h' (YP v' (xs++Io r m kk 4)::L)->J [v'] h') :
  LP (Uy J (.int .i64 r) (.int .i64 m) (.int .i64 kk)) [v,.int .i64 1] h:=by
 refine qo (λn vs h'=>∃(j:Nat) (v':aaa),j<=4/\n=4-j/\vs=[v',.int .i64 ((2^j:Nat):Int)]/\Sat lo h' (YP v' (xs++Io r m kk j)::L)) 4 ⟨0,v,aaP _,rfl,rfl,by
  have e:xs++Io r m kk 0=xs:=aa7 xs;rw[e];exact s⟩ ?_
 rintro n vs h1 ⟨j,v',hj,rfl,rfl,s1⟩;have vn:=kG s1
 have step:∀{x:Int},([1,2,4,8]:List Int)[j]? = some x->((2^j:Nat):Int)=x->x<=8->0<=x->j<4->Uy J (.int .i64 r) (.int .i64 m) (.int .i64 kk) [v',.int .i64 ((2^j:Nat):Int)] h1 (λvs' h'=>∃m',m'<4-j /\ ∃(j:Nat) (v':aaa),j<=4/\m'=4-j/\vs'=[v',.int .i64 ((2^j:Nat):Int)]/\Sat lo h' (YP v' (xs++Io r m kk j)::L)):=λ{x} hx e x8 x0 h4=>by
  unfold Uy
  have hin:IntKind.wrap .i64 (x*2)=((2^(j+1):Nat):Int):=by
   rw[yM (by omega) (by omega),Nat.pow_succ,<- e];push_cast;rfl
  rw[e];simp only[EE,nth,↓zq,pE,xI,tJ,tK,x8,vn,hin];refine br s1 [⟨3,r,m,x,0,0,kk⟩,⟨4,r,m,x,0,0,kk⟩] (by simp) (by rw[aao,TD hj];simp;omega) rfl rfl (by decide) λb c h2 s2=>?_;simp only[EE,Nat.reduceAdd];refine⟨4-(j+1),by omega,j+1,_,by omega,rfl,rfl,?_⟩;rw[zgK hx,<- aa1];exact s2
 have:j=0\/j=1\/j=2\/j=3\/j=4:=by omega
 rcases this with rfl|rfl|rfl|rfl|rfl
 ·exact step (x:=1) rfl rfl (by decide) (by decide) (by decide)
 ·exact step (x:=2) rfl rfl (by decide) (by decide) (by decide)
 ·exact step (x:=4) rfl rfl (by decide) (by decide) (by decide)
 ·exact step (x:=8) rfl rfl (by decide) (by decide) (by decide)
 ·unfold Uy;have hc:¬((2^4:Nat):Int)<=8:=by decide
  simp only[EE,nth,hc];exact k _ _ s1
end
open Go.Eb (Ue)
section
variable {lo:yT}{h:za}{L:List HP}{v y kv:aaa}{xs ys:List zC}{r m:Int}{H:za}{a:Nat}{J:List aaa->za->Prop}{ks:List Int}
theorem zfH(r m k:Int):(kL r m k).length=19:=by
 unfold kL;rw[aao,aao,Ml (by decide),TD (by decide)];rfl
theorem Tq(r m:Int)(ks:List Int):(ks.flatMap (kL r m)).length=19*ks.length:=by
 induction ks with
 |nil=>rfl
 |cons k ks ih=>rw[List.flatMap_cons,aao,zfH,ih,aa3];omega
theorem zgN(K:Rd lo (zE · kv 1 (ks.map zV)))(kn:zS kv=false)(fk:ks.length<=2)(s:Sat lo h (YP v xs::pt a pK::L))(Ui:xs.length<=100)(k:∀v' h',Sat lo h' (YP v' (xs++ks.flatMap (kL r m))::pt a pK::L)->J [v'] h') :
  LP (fV kv J (.int .i64 m) (.int .i64 r) (opsV a)) [v,.int .i64 0] h:=by
 refine qo (λn vs h'=>∃(j:Nat) (v':aaa),j<=ks.length/\n=ks.length-j/\vs=[v',.int .i64 j]/\Sat lo h' (YP v' (xs++(ks.take j).flatMap (kL r m))::pt a pK::L)) ks.length ⟨0,v,aaP _,rfl,rfl,by
  have e:xs++(ks.take 0).flatMap (kL r m)=xs:=aa7 xs;rw[e];exact s⟩ ?_
 rintro n vs h1 ⟨j,v',hj,rfl,rfl,s1⟩;have vn:=kG s1;have ln:=λr h'=>Mm (K.at s1) r h';unfold fV;by_cases hc:(j:Int)<(ks.length:Int)
 ·obtain⟨z,hz⟩:∃z,ks[j]? = some z:=⟨_,aag (by omega)⟩;obtain⟨b,o,c,t,a1,_,a2,a3⟩:=QD (K.at s1) hz;have et:ks.take (j+1)=ks.take j++[z]:=by rw[abd,hz];rfl
  have hin:=inc (show j<4611686018427387904 by omega)
  have hl:(xs++(ks.take j).flatMap (kL r m)).length<=138:=by
   rw[aao,Tq,aaM];omega
  simp only[EE,nth,↓zq,zu,yU,eI,yH,yQ,Kx,dN,tL,ln,kn,hc,a1,a2,a3,vn];refine br s1 (Oi r m z) (by simp[Oi]) (by simp only[Oi,aa3,abk];omega) rfl rfl (by decide) λb1 c1 h2 s2=>?_;refine zgJ (kk:=z) s2 (by rw[aao];simp only[Oi,aa3,abk];omega) λv2 h3 s3=>?_;simp only[nth,↓zq];refine zgL (kk:=z) s3 (by rw[aao,aao,Ml (by decide)];simp only[Oi,aa3,abk];omega) λv3 h4 s4=>?_;simp only[EE,nth,tM,hin];refine⟨ks.length-(j+1),by omega,j+1,_,by omega,rfl,rfl,?_⟩;rw[et,List.flatMap_append]
  have e:xs++((ks.take j).flatMap (kL r m)++[z].flatMap (kL r m))=xs++(ks.take j).flatMap (kL r m)++Oi r m z++TE m z 5++Io r m z 4:=by
   simp[kL]
  rw[e];exact s4
 ·have:j=ks.length:=by omega
  subst this;rw[abv]at s1;simp only[EE,nth,ln,kn,hc];exact k _ _ s1
theorem zds(r m:Int)(h:za):zd Tryz.prog 48 10 [(0,.agg #[.int .i64 1,.int .i64 m,.int .i64 r,.int .i64 0,.int .i64 0,.int .i64 0,.int .i64 0]),(1,.agg #[.int .i64 15,.int .i64 m,.int .i64 r,.int .i64 0,.int .i64 0,.int .i64 0,.int .i64 0]),(2,.agg #[.int .i64 14,.int .i64 0,.int .i64 m,.int .i64 0,.int .i64 0,.int .i64 0,.int .i64 0]),(3,.agg #[.int .i64 10,.int .i64 r,.int .i64 m,.int .i64 3,.int .i64 0,.int .i64 0,.int .i64 0]),(4,.agg #[.int .i64 10,.int .i64 r,.int .i64 m,.int .i64 4,.int .i64 0,.int .i64 0,.int .i64 0]),(5,.agg #[.int .i64 9,.int .i64 m,.int .i64 0,.int .i64 2,.int .i64 0,.int .i64 0,.int .i64 0]),(6,.agg #[.int .i64 9,.int .i64 m,.int .i64 0,.int .i64 1,.int .i64 0,.int .i64 0,.int .i64 0]),(7,.agg #[.int .i64 12,.int .i64 m,.int .i64 0,.int .i64 19,.int .i64 0,.int .i64 0,.int .i64 0]),(8,.agg #[.int .i64 12,.int .i64 m,.int .i64 0,.int .i64 20,.int .i64 0,.int .i64 0,.int .i64 0]),(9,.agg #[.int .i64 7,.int .i64 r,.int .i64 m,.int .i64 13,.int .i64 0,.int .i64 0,.int .i64 0])] h=some (.slice (some ⟨h.next,0,none⟩) 10 12,h.push (.cells [.int .i64 1,.int .i64 m,.int .i64 r,.int .i64 0,.int .i64 0,.int .i64 0,.int .i64 0,.int .i64 15,.int .i64 m,.int .i64 r,.int .i64 0,.int .i64 0,.int .i64 0,.int .i64 0,.int .i64 14,.int .i64 0,.int .i64 m,.int .i64 0,.int .i64 0,.int .i64 0,.int .i64 0,.int .i64 10,.int .i64 r,.int .i64 m,.int .i64 3,.int .i64 0,.int .i64 0,.int .i64 0,.int .i64 10,.int .i64 r,.int .i64 m,.int .i64 4,.int .i64 0,.int .i64 0,.int .i64 0,.int .i64 9,.int .i64 m,.int .i64 0,.int .i64 2,.int .i64 0,.int .i64 0,.int .i64 0,.int .i64 9,.int .i64 m,.int .i64 0,.int .i64 1,.int .i64 0,.int .i64 0,.int .i64 0,.int .i64 12,.int .i64 m,.int .i64 0,.int .i64 19,.int .i64 0,.int .i64 0,.int .i64 0,.int .i64 12,.int .i64 m,.int .i64 0,.int .i64 20,.int .i64 0,.int .i64 0,.int .i64 0,.int .i64 7,.int .i64 r,.int .i64 m,.int .i64 13,.int .i64 0,.int .i64 0,.int .i64 0] 42)):=yN (by kernel_rfl)
theorem zbU(K:zE h kv 1 (ks.map zV))(fk:ks.length<=2):DC Tryz.prog 76 [.int .i64 r,.int .i64 m,kv] h (λv h'=>Sat (.of h) h' [YP v (ch r m ks)]):=by
 apply YZ;intro wf;apply Ls;unfold Nx;have s0:Sat (.of h) h []:=Sat.self wf.2;have kn:=K.ai;have R:Rd (.of h) (zE · kv 1 (ks.map zV)):=Rd.of (yT.jH h) K λh' o=>K.old o;simp only[EE,bw,eH,oV,Du,zds];refine br (v := .slice none 0 0) (xs:=[]) (wJ _ _ s0) (Qa r m) (by simp[Qa]) (by simp[Qa]) rfl rfl (by decide) λb c h2 s2=>?_;simp only[EE,↓zq,QE];have s3:Sat (.of h) (h2.push pK) [YP (.slice (some ⟨b,0,none⟩) (([]:List zC).length+(Qa r m).length) c) ([]++Qa r m),pt h2.next pK]:=(s2.push pK).f [1,0];refine zeZ s3 (by simp[Qa]) λv4 h4 s4=>?_;unfold tN;simp only[nth,↓zq];refine zeF s4 (by rw[aao,pR (by decide)];simp[Qa]) λv5 h5 s5=>?_;simp only[nth];refine zgN R kn fk (s5.f [0,1]) (by rw[aao,aao,pR (by decide),FK];simp[Qa]) λv6 h6 s6=>?_;have vn:=kG s6;rw[abA]at s6;have s7:Sat (.of h) h6 [YP v6 (ch r m ks)]:=(s6.p 1).drop;clear s2 s3 s4 s5 s6;simp only[EE,nth,vn];exact s7
end
open Go.Rm (YX)
theorem zgk(z:Fin 256):IntKind.wrap .u8 ↑(BitVec.ofInt (IntKind.bits .u8) (((z.val:Nat):Int).fdiv (2^min 2 (IntKind.bits .u8))) &&& BitVec.ofInt (IntKind.bits .u8) 1).toNat=((z.val:Nat):Int)/4%2:=by
 revert z;decide +kernel
theorem ze4{z:Int}(h0:0<=z)(h1:z<256):IntKind.wrap .u8 ↑(BitVec.ofInt (IntKind.bits .u8) (z.fdiv (2^min 2 (IntKind.bits .u8))) &&& BitVec.ofInt (IntKind.bits .u8) 1).toNat=z/4%2:=by
 obtain⟨f,rfl⟩:=UM h0 h1;exact zgk f
theorem zaq(z w:Int):qT z w=z/8%8+w/4%2*8:=by unfold qT;split <;> omega
theorem zat(z w:Int):ZY z w=z%8+w%2*8:=by unfold ZY;split <;> omega
theorem Ty{bs:List Int}(h:bs.length=4):A9 bs=Vy bs:=by unfold A9;rw[aai h]
theorem zdV{bs:List Int}(h:bs.length=8):A9 bs=QN bs:=by unfold A9;rw[aaf (by omega)]
section
variable {lo:yT}{h:za}{L:List HP}{v y kv bv:aaa}{xs ys:List zC}{r m:Int}{H:za}{a p:Nat}{J:List aaa->za->Prop}{ks b:List Int}
def k4N(b:List Int)(p i:Nat):List Int:=(List.range i).map λi=>Vy ((b.drop (p+1+i)).take 4)
theorem Oh{i:Nat}(hi:i<=2)(h1:i=0\/p+4+i<=b.length)(h2:i=2\/b.length<p+1+i+4):k4N b p i=DS b p:=by
 have:i=0\/i=1\/i=2:=by omega
 unfold DS k4N;rcases this with rfl|rfl|rfl
 ·rw[aaf (by omega),aaf (by omega)];rfl
 ·rw[aai (by omega),aaf (by omega)];rfl
 ·rw[aai (by omega),aai (by omega)];rfl
theorem zgM(B:aD lo bv b)(hp:p<=100)(hpl:p<b.length)(l0:aaa)(s:Sat lo h L)(k:∀v' h',Sat lo h' (ZG 2 1 v' ((DS b p).map zV)::L)->J [v'] h') :
  LP (aV [l0,.int .i64 p] bv J) [.slice none 0 0,.int .i64 (p+1:Nat)] h:=by
 refine qo (λn vs h'=>∃(i:Nat) (v':aaa),i<=2/\n=2-i/\vs=[v',.int .i64 (p+1+i:Nat)]/\(i=0\/p+4+i<=b.length)/\Sat lo h' (ZG 2 1 v' ((k4N b p i).map zV)::L)) 2 ⟨0,.slice none 0 0,aaP _,rfl,rfl,.inl rfl,wJ _ _ s⟩ ?_;rintro n vs h1 ⟨i,v',hi,rfl,rfl,hpre,s1⟩;have vn:=xf s1;have bn:=B.nb;have S:=B.rd.at s1;have ln:=λr h'=>zX S r h';have w2:IntKind.wrap .i64 ((p:Int)+2)=((p+2:Nat):Int):=by rw[yM (by omega) (by omega)];omega
 have w4:IntKind.wrap .i64 (((p+1+i:Nat):Int)+4)=((p+1+i+4:Nat):Int):=by rw[yM (by omega) (by omega)];omega
 unfold aV;by_cases c1:((p+1+i:Nat):Int)<=((p+2:Nat):Int)
 ·by_cases c2:((p+1+i+4:Nat):Int)<=(b.length:Int)
  ·obtain⟨tv,e1,tn,eS⟩:=iK S (i:=p+1+i) (j:=p+1+i+4) (by omega) (by omega) (lo:=some (.int .i64 (p+1+i:Nat))) (.inr rfl);have T:=eS _ S;have hl:((b.drop (p+1+i)).take (p+1+i+4-(p+1+i)))=(b.drop (p+1+i)).take 4:=by congr 1;omega
   rw[hl]at T;have hl4:((b.drop (p+1+i)).take 4).length=4:=by rw[aaM,abj];omega
   have hin:=inc (show p+1+i<4611686018427387904 by omega);simp only[EE,nth,Value.cells,↓zq,zp,seval,ab5,qQ,zu,aay,Vs,ZS,YT,uk,yH,yQ,xN,xI,yx,vm,kN,qC,Yt,XZ,vZ,qv,Qn,Qo,Qp,bn,ln,w2,w4,c1,c2];unfold oJ;simp only[EE,nth,Value.cells,↓zq,zp,seval,ab5,qQ,zu,aay,Vs,ZS,YT,uk,yH,yQ,xN,xI,yx,vm,kN,qC,Yt,XZ,vZ,qv,bn,w4,e1,tn,lp,lq,acy];refine aq (by simp only[yi,tn,aaw]) (Mk T (λx hx=>B.byte x (abE (abp hx))) (by omega)) ?_;rw[Ty hl4];have kl:(k4N b p i).length=i:=by unfold k4N;simp
   obtain⟨b2,c2,h2,a1,s2⟩:=Ue s1 (Vy ((b.drop (p+1+i)).take 4)) (by rw[kl];omega);simp only[EE,nth,Value.cells,↓zq,zp,seval,ab5,qQ,zu,aay,Vs,ZS,YT,uk,yH,yQ,xN,xI,yx,vm,kN,qC,Yt,XZ,vZ,qv,oI,oK,vn,a1,hin];refine⟨2-(i+1),by omega,i+1,_,by omega,rfl,rfl,.inr (by omega),?_⟩;have e:k4N b p (i+1)=k4N b p i++[Vy ((b.drop (p+1+i)).take 4)]:=by unfold k4N;rw[abG];simp
   rw[e];exact s2
  ·simp only[EE,nth,Value.cells,↓zq,zp,seval,ab5,qQ,zu,aay,Vs,ZS,YT,uk,yH,yQ,xN,xI,yx,vm,kN,qC,Yt,XZ,vZ,qv,Qn,Qo,Qp,bn,ln,w2,w4,c1,c2];refine k _ _ ?_;rw[<- Oh (b:=b) (p:=p) hi hpre (.inr (by omega))];exact s1
 ·simp only[EE,nth,Value.cells,↓zq,zp,seval,ab5,qQ,zu,aay,Vs,ZS,YT,uk,yH,yQ,xN,xI,yx,vm,kN,qC,Yt,XZ,vZ,qv,Qn,Qo,Qp,bn,ln,w2,w4,c1];refine k _ _ ?_;rw[<- Oh (b:=b) (p:=p) hi hpre (.inl (by omega))];exact s1
theorem Pr{h:za}{sv:aaa}{zs:List Int}(S:y4 h sv zs){n:Nat}{N:Int}(hN:N=n){z:Int}(hz:zs[n]? = some z):∃b o c t,vf Tryz.prog 29 sv (.int .i64 N)=some (.pointer (some ⟨b,o,none⟩))/\b<h.next/\h.get b=some (.cells c t)/\c[o]? = some (.int .u8 z):=by
 subst hN;exact LI S hz
theorem W3{b:List Int}{p:Nat}(hp:p<b.length):b[p]? = some (zU b p):=by
 unfold zU;rw[aag hp];rfl
theorem Wi{b:List Int}(hb:xJ b){p:Nat}(hp:p<b.length):0<=zU b p/\zU b p<256:=hb _ (aaz (W3 hp))
theorem m6(r m:Int)(ks:List Int):(ch r m ks).length=21+19*ks.length:=by
 unfold ch;rw[aao,aao,aao,pR (by decide),FK,Tq];rfl
theorem Fk(b:List Int)(p:Nat):(DS b p).length<=2:=by
 unfold DS;rw[aao];split <;> split <;> simp
def RH(b:List Int)(i:Nat):List zC:=(List.range i).flatMap λi=>RG b (2+i)
theorem NG(b:List Int):∀i,(RH b i).length<=100*i
 |0=>by simp[RH]
 |i+1=>by
  have e:RH b (i+1)=RH b i++RG b (2+i):=by unfold RH;rw[abG];simp
  have:=NG b i;have h2:=m6 (qT (zU b (2+i)) (zU b 0)) (ZY (zU b (2+i)) (zU b 0)) (DS b (2+i));have h3:=Fk b (2+i);rw[e,aao];unfold RG;omega
theorem zgi(B:aD lo bv b)(h3:3<=b.length)(s:Sat lo h L)(k:∀v' h',Sat lo h' (YP v' (g3 b)::L)->J [v'] h') :
  LP (Jn bv J) [.slice none 0 0,.int .i64 2] h:=by
 refine qo (λn vs h'=>∃(i:Nat) (v':aaa),i<=2/\n=2-i/\vs=[v',.int .i64 (2+i:Nat)]/\(i=0\/2+i<=b.length)/\Sat lo h' (YP v' (RH b i)::L)) 2 ⟨0,.slice none 0 0,aaP _,rfl,rfl,.inl rfl,wJ _ _ s⟩ ?_;rintro n vs h1 ⟨i,v',hi,rfl,rfl,hpre,s1⟩;have vn:=kG s1;have bn:=B.nb;have S:=B.rd.at s1;have ln:=λr h'=>zX S r h'
 have fin:(i=2\/b.length<=2+i)->RH b i=g3 b:=λh=>by
  have:i=0\/i=1\/i=2:=by omega
  unfold g3;rw[aai h3];rcases this with rfl|rfl|rfl
  ·omega
  ·rw[aaf (by omega)];simp[RH]
  ·rw[aai (by omega)];show RG b 2++(RG b 3++[])=_;rw[aa7]
 unfold Jn;by_cases c1:((2+i:Nat):Int)<=3
 ·by_cases c2:((2+i:Nat):Int)<(b.length:Int)
  ·have hp:2+i<b.length:=by omega
   obtain⟨q1,o1,cs1,t1,a1,_,a2,a3⟩:=LI S (W3 hp);obtain⟨q2,o2,cs2,t2,e1,_,e2,e3⟩:=Pr S (N:=0) (n:=0) rfl (W3 (show 0<b.length by omega));obtain⟨z0,z1⟩:=Wi B.byte hp;obtain⟨w0,w1⟩:=Wi B.byte (show 0<b.length by omega);have f1:=Mp z0 z1;have f2:=ze4 w0 w1;have f3:=Bn z0 z1;have f4:=mF w0 w1;have u1:=yM (z:=zU b (2+i)/8%8) (by omega) (by omega);have u2:=yM (z:=zU b 0/4%2) (by omega) (by omega);have u3:=yM (z:=zU b 0/4%2*8) (by omega) (by omega);have u4:=yM (z:=zU b (2+i)/8%8+zU b 0/4%2*8) (by omega) (by omega);have u5:=yM (z:=zU b (2+i)%8) (by omega) (by omega);have u6:=yM (z:=zU b 0%2) (by omega) (by omega);have u7:=yM (z:=zU b 0%2*8) (by omega) (by omega);have u8:=yM (z:=zU b (2+i)%8+zU b 0%2*8) (by omega) (by omega);have hin:=inc (show 2+i<4611686018427387904 by omega);simp only[EE,nth,Value.cells,↓zq,zp,seval,ab5,qQ,zu,aay,Vs,ZS,YT,uk,yH,yQ,xN,xI,yx,vm,kN,qC,Yt,XZ,vZ,qv,V9,Ua,bn,ln,c1,c2];unfold oM;simp only[EE,nth,Value.cells,↓zq,zp,seval,ab5,qQ,zu,aay,Vs,ZS,YT,uk,yH,yQ,xN,xI,yx,vm,kN,qC,Yt,XZ,vZ,qv,bn,a1,a2,a3,e1,e2,e3,f1,f2,f3,f4,u1,u2,u3,u4,u5,u6,u7,u8,hin];refine zgM (p:=2+i) B (by omega) hp v' s1 λkv h2 s2=>?_;unfold oL;have kn:=xf s2;have KS:=y6 s2 (xH (f:=zV) (λ_=>rfl) _);simp only[EE,nth,Value.cells,↓zq,zp,seval,ab5,qQ,zu,aay,Vs,ZS,YT,uk,yH,yQ,xN,xI,yx,vm,kN,qC,Yt,XZ,vZ,qv,kn];refine mK (by simp only[yi,kn,aaw];rfl) (zbU KS (Fk b (2+i))) ?_;rintro pv h4 s4;rw[<- zaq,<- zat]at s4;have s5:=s2.join s4;have s6:Sat lo h4 (YP v' (RH b i)::YP pv (RG b (2+i))::ZG 2 1 kv ((DS b (2+i)).map zV)::L):=s5.f [2,0,1];have pvn:=kG s5;have hl1:=NG b i;have hl2:=m6 (qT (zU b (2+i)) (zU b 0)) (ZY (zU b (2+i)) (zU b 0)) (DS b (2+i));have hl3:=Fk b (2+i);have hl4:(RG b (2+i)).length=21+19*(DS b (2+i)).length:=hl2;obtain⟨b5,c5,h5,ea,s7⟩:=LD s6 (Wq s6 (aaC _ aak)) (by intro q;rw[q]at hl4;simp at hl4;omega) (by omega);simp only[EE,nth,Value.cells,↓zq,zp,seval,ab5,qQ,zu,aay,Vs,ZS,YT,uk,yH,yQ,xN,xI,yx,vm,kN,qC,Yt,XZ,vZ,qv,ik,vn,pvn,ea,hin];refine⟨2-(i+1),by omega,i+1,_,by omega,rfl,rfl,.inr (by omega),?_⟩;have e:RH b (i+1)=RH b i++RG b (2+i):=by unfold RH;rw[abG];simp
   rw[e];exact(s7.f [1,2,0]).drop.drop.p 0
  ·simp only[EE,nth,Value.cells,↓zq,zp,seval,ab5,qQ,zu,aay,Vs,ZS,YT,uk,yH,yQ,xN,xI,yx,vm,kN,qC,Yt,XZ,vZ,qv,V9,Ua,bn,ln,c1,c2];refine k _ _ ?_;rw[<- fin (.inr (by omega))];exact s1
 ·simp only[EE,nth,Value.cells,↓zq,zp,seval,ab5,qQ,zu,aay,Vs,ZS,YT,uk,yH,yQ,xN,xI,yx,vm,kN,qC,Yt,XZ,vZ,qv,V9,Ua,bn,ln,c1];refine k _ _ ?_;rw[<- fin (.inl (by omega))];exact s1
theorem Tt(b:List Int):(g3 b).length<=200:=by
 unfold g3
 have q:∀p,(RG b p).length<=59:=λp=>by
  have h2:=m6 (qT (zU b p) (zU b 0)) (ZY (zU b p) (zU b 0)) (DS b p);have h3:=Fk b p;have hl4:(RG b p).length=21+19*(DS b p).length:=h2;omega
 have:=q 2;have:=q 3;split
 ·rw[aao];split
  ·omega
  ·simp;omega
 ·simp
theorem Tu{R:aaa->za->Prop}(s:Sat lo h (YP v xs::L))(Ui:xs.length<=1000)(k:∀v' h',Sat lo h' (YP v' (xs++dP)::L)->R v' h'):Jo R [v] h:=by
 have vn:=kG s;unfold Jo;simp only[EE,nth,Value.cells,↓zq,zp,seval,ab5,qQ,zu,aay,Vs,ZS,YT,uk,yH,yQ,xN,xI,yx,vm,kN,qC,Yt,XZ,vZ,qv,vn];refine br s dP (by simp[dP]) (by simp[dP];omega) rfl rfl (by decide) λb c h2 s2=>?_;have rn:=kG s2;simp only[EE,nth,Value.cells,↓zq,zp,seval,ab5,qQ,zu,aay,rn];exact k _ _ s2
theorem zfu{R:aaa->za->Prop}(B:aD lo bv b)(s:Sat lo h (YP v xs::L))(Ui:xs.length<=900)(k:∀v' h',Sat lo h' (YP v' (xs++g4 b++dP)::L)->R v' h'):Jp bv R [v] h:=by
 have vn:=kG s;have bn:=B.nb;have S:=B.rd.at s;have ln:=λr h'=>zX S r h';unfold Jp;by_cases c:(b.length:Int) ≥ 4
 ·have eg:g4 b=[⟨11,ZY (zU b 2) (zU b 0),0,19,0,0,zU b 3⟩,⟨11,ZY (zU b 2) (zU b 0),0,20,0,0,zU b 3⟩]:=by
   unfold g4;rw[aai (by omega)]
  rw[eg]at k;obtain⟨q2,o2,cs2,t2,a1,_,a2,a3⟩:=Pr S (N:=0) (n:=0) rfl (W3 (show 0<b.length by omega));obtain⟨q3,o3,cs3,t3,e1,_,e2,e3⟩:=Pr S (N:=2) (n:=2) rfl (W3 (show 2<b.length by omega));obtain⟨q4,o4,cs4,t4,i1,_,i2,i3⟩:=Pr S (N:=3) (n:=3) rfl (W3 (show 3<b.length by omega));obtain⟨z0,z1⟩:=Wi B.byte (show 2<b.length by omega);obtain⟨w0,w1⟩:=Wi B.byte (show 0<b.length by omega);obtain⟨y0,y1⟩:=Wi B.byte (show 3<b.length by omega);have f3:=Bn z0 z1;have f4:=mF w0 w1;have u5:=yM (z:=zU b 2%8) (by omega) (by omega);have u6:=yM (z:=zU b 0%2) (by omega) (by omega);have u7:=yM (z:=zU b 0%2*8) (by omega) (by omega);have u8:=yM (z:=zU b 2%8+zU b 0%2*8) (by omega) (by omega);have u9:=yM (z:=zU b 3) (by omega) (by omega);simp only[EE,nth,Value.cells,↓zq,zp,seval,ab5,qQ,zu,aay,Vs,ZS,YT,uk,yH,yQ,xN,xI,yx,vm,kN,qC,Yt,XZ,vZ,qv,bn,ln,c];unfold iq;simp only[EE,nth,Value.cells,↓zq,zp,seval,ab5,qQ,zu,aay,Vs,ZS,YT,uk,yH,yQ,xN,xI,yx,vm,kN,qC,Yt,XZ,vZ,qv,vn,a1,a2,a3,e1,e2,e3,i1,i2,i3,f3,f4,u5,u6,u7,u8,u9];rw[<- zat];refine br s [⟨11,ZY (zU b 2) (zU b 0),0,19,0,0,zU b 3⟩,⟨11,ZY (zU b 2) (zU b 0),0,20,0,0,zU b 3⟩] (by simp) (by simp;omega) rfl rfl (by decide) λb c h2 s2=>?_;exact Tu s2 (by rw[aao];simp;omega) k
 ·have eg:g4 b=[]:=by unfold g4;rw[aaf (by omega)]
  rw[eg,aa7]at k;simp only[EE,nth,Value.cells,↓zq,zp,seval,ab5,qQ,zu,aay,Vs,ZS,YT,uk,yH,yQ,xN,xI,yx,vm,kN,qC,Yt,XZ,vZ,qv,bn,ln,c];exact Tu s (by omega) k
theorem PS(B:aD (.of h) bv b):DC Tryz.prog 35 [bv] h (λv h'=>Sat (.of h) h' [YP v (qD b)]):=by
 apply YZ;intro wf;apply EB;unfold CU;have s0:Sat (.of h) h []:=Sat.self wf.2;have bn:=B.nb;have ln0:=λr h'=>zX (B.rd.at s0) r h'
 have mk:Wh Tryz.prog 67 (.int .i64 0) (.int .i64 0) h=some (.slice (some ⟨h.next,0,none⟩) 0 2,h.push (.cells [] 2)):=by
  rw[XZ _ _ _ _ _ (by decide) (by decide) (by decide)];rfl
 have s1:Sat (.of h) (h.push (.cells [] 2)) []:=(s0.push (.cells [] 2)).drop;generalize h.push (.cells [] 2)=h1 at mk s1
 have rest:∀{l:aaa} {h2:za},Sat (.of h) h2 [YP l (g3 b)]->Jq bv (λv h'=>Sat (.of h) h' [YP v (qD b)]) [l] h2:=λ{l h2} s2=>by
  have vn:=kG s2;have S:=B.rd.at s2;have ln:=λr h'=>zX S r h';have Ui:=Tt b;unfold Jq;by_cases c:(b.length:Int) ≥ 10
  ·have eg:FQ b=[⟨2,ZY (zU b 1) (zU b 0),0,0,0,0,QN ((b.drop 2).take 8)⟩]:=by unfold FQ;rw[aai (by omega)]
   obtain⟨q2,o2,cs2,t2,a1,_,a2,a3⟩:=Pr S (N:=0) (n:=0) rfl (W3 (show 0<b.length by omega));obtain⟨q3,o3,cs3,t3,e1,_,e2,e3⟩:=Pr S (N:=1) (n:=1) rfl (W3 (show 1<b.length by omega));obtain⟨z0,z1⟩:=Wi B.byte (show 1<b.length by omega);obtain⟨w0,w1⟩:=Wi B.byte (show 0<b.length by omega);have f3:=Bn z0 z1;have f4:=mF w0 w1;have u5:=yM (z:=zU b 1%8) (by omega) (by omega);have u6:=yM (z:=zU b 0%2) (by omega) (by omega);have u7:=yM (z:=zU b 0%2*8) (by omega) (by omega);have u8:=yM (z:=zU b 1%8+zU b 0%2*8) (by omega) (by omega);obtain⟨tv,ea,tn,eS⟩:=iK S (i:=2) (j:=10) (by omega) (by omega) (lo:=some (.int .i64 2)) (.inr rfl);have ea:Dr Tryz.prog 29 bv (some (.int .i64 2)) (some (.int .i64 10)) h2=some tv:=ea;have T:y4 h2 tv ((b.drop 2).take 8):=eS _ S;have hl8:((b.drop 2).take 8).length=8:=by rw[aaM,abj];omega
   simp only[EE,nth,Value.cells,↓zq,zp,seval,ab5,qQ,zu,aay,Vs,ZS,YT,uk,yH,yQ,xN,xI,yx,vm,kN,qC,Yt,XZ,vZ,qv,bn,ln,c];unfold im;simp only[EE,nth,Value.cells,↓zq,zp,seval,ab5,qQ,zu,aay,Vs,ZS,YT,uk,yH,yQ,xN,xI,yx,vm,kN,qC,Yt,XZ,vZ,qv,bn,a1,a2,a3,e1,e2,e3,ea,tn,f3,f4,u5,u6,u7,u8,lp,lq,acy];refine zgr (by simp only[yi,tn,aaw]) (Mk T (λx hx=>B.byte x (abE (abp hx))) (by omega)) ?_;rw[zdV hl8];unfold il;rw[<- zat];simp only[EE,nth,Value.cells,↓zq,zp,seval,ab5,qQ,zu,aay,Vs,ZS,YT,uk,yH,yQ,xN,xI,yx,vm,kN,qC,Yt,XZ,vZ,qv,vn];refine br s2 [⟨2,ZY (zU b 1) (zU b 0),0,0,0,0,QN ((b.drop 2).take 8)⟩] (by simp) (by simp;omega) rfl rfl (by decide) λb' c' h3 s3=>?_;refine zfu B s3 (by rw[aao];simp;omega) λv' h4 s4=>?_;have eq:g3 b++[⟨2,ZY (zU b 1) (zU b 0),0,0,0,0,QN ((b.drop 2).take 8)⟩]++g4 b++dP=qD b:=by unfold qD;rw[eg]
   rw[eq]at s4;exact s4
  ·have eg:FQ b=[]:=by unfold FQ;rw[aaf (by omega)]
   simp only[EE,nth,Value.cells,↓zq,zp,seval,ab5,qQ,zu,aay,Vs,ZS,YT,uk,yH,yQ,xN,xI,yx,vm,kN,qC,Yt,XZ,vZ,qv,bn,ln,c];refine zfu B s2 (by omega) λv' h4 s4=>?_;have eq:g3 b++g4 b++dP=qD b:=by unfold qD;rw[eg,aa7]
   rw[eq]at s4;exact s4
 by_cases c:(b.length:Int) ≥ 3
 ·simp only[EE,nth,Value.cells,↓zq,zp,seval,ab5,qQ,zu,aay,Vs,ZS,YT,uk,yH,yQ,xN,xI,yx,vm,kN,qC,Yt,vZ,qv,mk,bn,ln0,c];exact zgi B (by omega) s1 λv' h' s'=>rest s'
 ·simp only[EE,nth,Value.cells,↓zq,zp,seval,ab5,qQ,zu,aay,Vs,ZS,YT,uk,yH,yQ,xN,xI,yx,vm,kN,qC,Yt,vZ,qv,mk,bn,ln0,c];have eg:g3 b=[]:=by unfold g3;rw[aaf (by omega)]
  refine rest ?_;rw[eg];exact wJ _ _ s1
end
end Go.Ed
namespace Go.En
open Go.As (zC)
theorem vV:xJ []:=λx hx=>by cases hx
theorem yu{z:Int}{zs:List Int}(h0:0<=z)(h1:z<256)(h:xJ zs):xJ (z::zs):=λx hx=>by
 rcases aaS.1 hx with rfl|hx
 ·exact⟨h0,h1⟩
 ·exact h x hx
theorem ZP{xs ys:List Int}(h:xJ xs)(h2:xJ ys):xJ (xs++ys):=λx hx=>by
 rcases aaG.1 hx with hx|hx
 ·exact h x hx
 ·exact h2 x hx
theorem D9{base a b:Int}(h:base=72\/base=64):0<=zj base a b/\zj base a b<256:=by unfold zj;split <;> split <;> omega
theorem zde(a b:Int):0<=zW a b/\zW a b<256:=by unfold zW;omega
theorem zbV(a m:Int):xJ (WY a m):=by
 unfold WY;split
 ·exact yu (by omega) (by omega) (yu (by omega) (by omega) vV)
 ·exact yu (by omega) (by omega) vV
theorem Bp(a m k:Int):xJ (uB a m k):=ZP (zbV a m) (kE 4 k)
theorem E3(c:Int):0<=vd c/\vd c<100:=by unfold vd;repeat' split <;> omega
theorem zcH(c:Int):0<=kp c/\kp c<100:=by unfold kp;repeat' split <;> omega
theorem zgc(z:Int):0<=u8 z/\u8 z<256:=by
 have:=kE 1 z (u8 (z.fdiv (2^(8*0)))) (by unfold yX;simp);simpa using this
theorem kd{c:Prop}[Decidable c]{a b:List Int}(h:xJ a)(h2:xJ b):xJ (if c then a else b):=by split <;> assumption
theorem rx{a b:Int}{zs:List Int}(h:xJ zs):xJ (zj 72 a b::zs):=yu (D9 (.inl rfl)).1 (D9 (.inl rfl)).2 h
theorem rq{a b:Int}{zs:List Int}(h:xJ zs):xJ (zj 64 a b::zs):=yu (D9 (.inr rfl)).1 (D9 (.inr rfl)).2 h
theorem tw{a b:Int}{zs:List Int}(h:xJ zs):xJ (zW a b::zs):=yu (zde _ _).1 (zde _ _).2 h
theorem pT(x:zC)(d:Int):xJ (ze x d):=by
 unfold ze;refine kd (rx (yu (z:=137) (by decide) (by decide) (tw (vV)))) ?_;refine kd (kd (ZP (rx (yu (z:=199) (by decide) (by decide) (tw (vV)))) (kE _ _)) (ZP (rx (yu (by omega) (by omega) (vV))) (kE _ _))) ?_;refine kd (kd (ZP (rx (yu (z:=139) (by decide) (by decide) (vV))) (Bp _ _ _)) (kd (ZP (rx (yu (z:=99) (by decide) (by decide) (vV))) (Bp _ _ _)) (ZP (rx (yu (z:=15) (by decide) (by decide) (yu (z:=190) (by decide) (by decide) (vV)))) (Bp _ _ _)))) ?_;refine kd (kd (ZP (rx (yu (z:=137) (by decide) (by decide) (vV))) (Bp _ _ _)) (kd (ZP (rq (yu (z:=137) (by decide) (by decide) (vV))) (Bp _ _ _)) (ZP (rq (yu (z:=136) (by decide) (by decide) (vV))) (Bp _ _ _)))) ?_;refine kd (ZP (rx (yu (z:=141) (by decide) (by decide) (vV))) (Bp _ _ _)) ?_;refine kd (ZP (rx (yu (z:=141) (by decide) (by decide) (yu (by omega) (by omega) (vV)))) (kE _ _)) ?_;refine kd (kd (rx (yu (z:=15) (by decide) (by decide) (yu (z:=175) (by decide) (by decide) (tw (vV))))) (rx (yu (by have:=zcH x.sub;omega) (by have:=zcH x.sub;omega) (tw (vV))))) ?_;refine kd (kd (ZP (rx (yu (z:=105) (by decide) (by decide) (tw (vV)))) (kE _ _)) (ZP (rx (yu (z:=129) (by decide) (by decide) (tw (vV)))) (kE _ _))) ?_;refine kd (rx (yu (z:=247) (by decide) (by decide) (tw (vV)))) ?_;refine kd (kd (rx (yu (z:=15) (by decide) (by decide) (yu (z:=190) (by decide) (by decide) (tw (vV))))) (rx (yu (z:=99) (by decide) (by decide) (tw (vV))))) ?_;refine kd (rx (yu (z:=193) (by decide) (by decide) (tw (yu (zgc _).1 (zgc _).2 (vV))))) ?_;refine kd (rx (yu (z:=211) (by decide) (by decide) (tw (vV)))) ?_;refine kd (yu (z:=72) (by decide) (by decide) (yu (z:=153) (by decide) (by decide) (vV))) ?_;refine kd (rx (yu (z:=247) (by decide) (by decide) (tw (vV)))) ?_;refine kd (rx (yu (z:=57) (by decide) (by decide) (tw (vV)))) ?_;refine kd (ZP (rx (yu (z:=129) (by decide) (by decide) (tw (vV)))) (kE _ _)) ?_;refine kd (rq (yu (z:=15) (by decide) (by decide) (yu (by have:=E3 x.cc;omega) (by have:=E3 x.cc;omega) (tw (rx (yu (z:=15) (by decide) (by decide) (yu (z:=182) (by decide) (by decide) (tw (vV))))))))) ?_;refine kd (yu (z:=233) (by decide) (by decide) (kE _ _)) ?_;refine kd (ZP (yu (z:=15) (by decide) (by decide) (yu (by have:=E3 x.cc;omega) (by have:=E3 x.cc;omega) (vV))) (kE _ _)) ?_;refine kd (yu (z:=232) (by decide) (by decide) (kE _ _)) ?_;refine kd (yu (z:=195) (by decide) (by decide) (vV)) ?_;refine kd (ZP (yu (z:=72) (by decide) (by decide) (yu (z:=129) (by decide) (by decide) (yu (z:=236) (by decide) (by decide) (vV)))) (kE _ _)) ?_;refine kd (ZP (yu (z:=72) (by decide) (by decide) (yu (z:=129) (by decide) (by decide) (yu (z:=196) (by decide) (by decide) (vV)))) (kE _ _)) ?_;refine kd (yu (z:=72) (by decide) (by decide) (yu (z:=237) (by decide) (by decide) (vV))) ?_;refine kd (yu (z:=72) (by decide) (by decide) (yu (z:=239) (by decide) (by decide) (vV))) ?_;exact vV
end Go.En
namespace Go.Ed
open Go.Ai Go.Proofs
open Go.Rtl (zK zE Old inc yz xw vx i0 vS vo)
open Go.Rm (ZG y6 xf vq wD wJ jR yR YX zV xH Rd Rd.of Rd.at Rd.mono)
open Go.As (zC Pg ZO qI uD vw)
open Go.Eb (KQ y4 xO zX i5 vR qi vW YL QD Ue cB lK jK du Wj vu yw)
open Go.Ec (cx Ww)
open Go.En
section
variable {lo:yT}{h:za}{L:List HP}{v y kv cv sv gv lv:aaa}{xs ys:List zC}{r m d:Int}{p n b8:Nat}{J:List aaa->za->Prop}{code st gl:List Int}{x:zC}
theorem zbg(F:aA x):lK x:=by
 cases F with
 |jmp=>exact Go.Eb.dz (by decide)
 |call=>exact Go.Eb.dz (by decide)
 |jcc cc a c=>
  have:cc=21\/cc=22\/cc=23\/cc=24\/cc=25\/cc=26:=by omega
  rcases this with rfl|rfl|rfl|rfl|rfl|rfl <;> exact Go.Eb.dz (by decide)
 |Bk r R=>exact⟨(by show 1<=(6:Int)/\(6:Int)<=26;decide),λe=>R,(λe=>by cases e),(λe=>by simp at e),(λe=>by simp at e),(λe=>by simp at e),(λe=>by simp at e),(λe=>by simp at e),(λe=>by simp at e)⟩
theorem zc6(F:aA x):x.k=0/\(x.op=18\/x.op=19\/x.op=21\/x.op=6):=by
 cases F <;> simp
theorem Tb{h2:za}{L L':List HP}(s:Sat lo h L)(s2:Sat (.of h.lock) h2 L'):lJ lo (cut (vz h h2) h.next (vz h h2).next):=by
 have b:=s.base;have nx:h.next<=h2.next:=((yT.jH h.lock).old s2.base).1;refine⟨b.ro,?_,λq x e=>?_⟩
 ·show h.ro<=(vz h h2).next;rw[Go.Rtl.wC];exact aaW b.FE nx
 ·obtain⟨g1,g2⟩:=b.get q x e;refine⟨?_,?_⟩
  ·rw[Xu g2,vp,aaf (by omega)];exact g1
  ·show q<(vz h h2).next;rw[Go.Rtl.wC];omega
abbrev zbv(o:Option (zC×Nat)):aaa:=match o with
 |some r=>vB [r.1.val,.int .i64 r.2]
 |none=>vB [VQ.val,.int .i64 0]
abbrev Il(lo:yT)(L:List HP)(o:Option (zC×Nat))(v:aaa)(h':za):Prop:=v=zbv o/\Sat lo h' L
theorem OC{i:Nat}{v0 v1:aaa}(B:aD lo cv code)(I:GlR lo sv gv st gl)(F:aA x)(hp:p+n<=code.length)(hn:5<=n/\n<=7)(hd:Go.Ar.zQ d=true)(wf:vQ h)
  (hx:xs[i]? = some x) (s:Sat lo h (YP lv xs::pt b8 (.cells vA 42)::L)) {o:Option (zC×Nat)}
  (hno:¬ze x d=(code.drop p).take n->∀h',vQ h'->Sat lo h' (YP lv xs::pt b8 (.cells vA 42)::L)->J [v1] h')
  (ho:ze x d=(code.drop p).take n->o=(Wu st gl code.length x (((p+n:Nat):Int)+d)).map λi=>(i,n)) :
  lV [lv] [v1,.int .i64 i] h (.int .i64 d) (.int .i64 p) [v0,.int .i64 n] cv (.int .i64 (((p+n:Nat):Int)+d)) sv gv (rp b8) (Il lo L o) J:=by
 have bn:=B.nb;have Ui:=B.Ui;have sn:=I.sn;have gn:=I.gn;obtain⟨bi,oi,ci,ti,ha,hbi,hgi,hle,htk,_⟩:=uD (Wq s aak) (i:=i) (r:=x.row) (by rw[aaH,hx];rfl) rfl;unfold lV;simp only[EE,nth,Value.cells,qQ,wK,uw,ha,hgi,hle,htk];refine By s wf λb16 h1 w1 s1=>?_;have ea:(Value.agg x.row.toArray)=x.val:=rfl;rw[ea];simp only[EE,Nat.reduceAdd,yI];refine KQ s1 w1 (by simp) rfl λh2 w2 s2=>?_;have s2:Sat lo h2 (pt b16 (.cells x.row 42)::YP lv xs::pt b8 (.cells vA 42)::L):=s2;have g16:=s2.get
 have e:zf Tryz.prog 42 (rp b16) h2=some x.val:=by
  simp only[EE,Nat.reduceAdd,qQ,wK,g16]
 simp only[EE,e];refine Wj (by kernel_rfl) rfl w2 s2 rfl (λb o q=>q) (du (zbg F) d) ?_;intro v h3 hl g w3;have s3:=g _ hl;have base:=Tb s2 hl;have s3:Sat lo (vz h2 h3) (vu v (ze x d)::pt b16 (.cells x.row 42)::YP lv xs::pt b8 (.cells vA 42)::L):=s3;generalize vz h2 h3=h4 at s3 base w3 ⊢;have vn:=Go.Eb.y9 s3;have t1:=cx (yw s3 aak);have C:=B.rd _ base;obtain⟨tv,e1,tn,eS⟩:=iK C (i:=p) (j:=p+n) (by omega) hp (lo:=some (.int .i64 p)) (.inr rfl);have T:=eS _ C;have hl2:(code.drop p).take (p+n-p)=(code.drop p).take n:=by congr 1;omega
 rw[hl2]at T;have t2:=cx T;have w4:IntKind.wrap .i64 ((p:Int)+(n:Int))=((p+n:Nat):Int):=by simp only[IntKind.wrap,IntKind.bits,IntKind.signed];simp;omega
 have tl:=Ep (pT x d) (ys:=(code.drop p).take n) (λz hz=>B.byte z (abE (abp hz)));unfold GM;by_cases hq:ze x d=(code.drop p).take n
 ·simp only[EE,nth,aay,zdb,vn,bn,tn,t1,w4,e1,t2,hq];have s4:Sat lo h4 (pt b16 (.cells x.row 42)::pt b8 (.cells vA 42)::L):=(s3.drop.f [1,0,2]).drop;have g16:=s4.get
  have e:zf Tryz.prog 42 (rp b16) h4=some x.val:=by
   simp only[EE,Nat.reduceAdd,qQ,wK,g16]
  have lnc:=λr h'=>zX (B.rd.at s4) r h';unfold Go.Ar.zQ at hd;simp only[aad,aaF]at hd;unfold GL;simp only[EE,e,lnc,bn];refine mK (by simp only[yi,sn,gn,aaw];rfl) (Mh I (by omega) (by omega) (zc6 F).1 (zc6 F).2 s4) ?_;rintro w h5 ⟨s5,y,ok,rfl,hy⟩;have er:vB [y.val,.bool ok]=.tuple #[y.val,.bool ok]:=rfl;rw[er];unfold GK;simp only[EE,Value.cells,uw];refine qc s5 λb17 h6 s6=>?_;simp only[EE,Nat.reduceAdd,yI];refine yf s6 (by simp) rfl λh7 s7=>?_;have s7:Sat lo h7 (pt b17 (.cells y.row 42)::pt b16 (.cells x.row 42)::pt b8 (.cells vA 42)::L):=s7;have ho:=ho hq;cases hg:Wu st gl code.length x (((p+n:Nat):Int)+d) with
  |none=>
   rw[hg]at hy ho;have hy:ok=false:=hy;subst hy;have ho:o=none:=ho;subst ho;unfold GJ;simp only[EE,Nat.reduceAdd,yI,bu];exact Xa VQ rfl rfl (s7.f [2,0,1]) λh' s'=>⟨rfl,s'.drop.drop⟩
  |some i'=>
   rw[hg]at hy ho;obtain⟨rfl,rfl⟩:=hy;have ho:o=some (y,n):=ho;subst ho;have g17:=s7.get
   have e:zf Tryz.prog 42 (rp b17) h7=some y.val:=by
    simp only[EE,Nat.reduceAdd,qQ,wK,g17]
   unfold GI;simp only[EE,Nat.reduceAdd,yI,e];exact Xa y rfl rfl (s7.f [2,0,1]) λh' s'=>⟨rfl,s'.drop.drop⟩
 ·simp only[EE,nth,zdb,vn,bn,tn,t1,w4,e1,t2,tl,hq];exact hno hq _ w3 s3.drop.drop
end
theorem za0{h h':za}{e size bytes n:Nat}{new:List aaa}{s v:aaa}(w:vQ h)(a:UJ h e size bytes n new s=some (v,h')):vQ h':=by
 unfold UJ at a;split at a
 ·split at a
  ·simp only[aab,aae]at a;rw[<- a.2];exact w
  ·split at a
   ·simp only[aab,aae]at a;rw[<- a.2];exact Go.Rtl.YS w _
   ·cases a
 ·split at a
  ·simp only[aab,aae]at a;rw[<- a.2];exact w
  ·split at a
   ·rename_i cs t hg;split at a
    ·simp only[aab,aae]at a;rw[<- a.2];exact Go.Rtl.YS (Go.Rtl.wf_set w (w.1 _ _ hg) _) _
    ·cases a
   ·cases a
 ·cases a
section
variable {lo:yT}{h:za}{L:List HP}{v y kv cv sv gv lv:aaa}{xs ys:List zC}{r m d:Int}{p n b8:Nat}{J:List aaa->za->Prop}{code st gl:List Int}{x:zC}
theorem zdW{v0 v1:aaa}(B:aD lo cv code)(I:GlR lo sv gv st gl)(F:∀x,x∈xs->aA x)(Ui:xs.length<=1000)(hp:p+n<=code.length)(hn:5<=n/\n<=7)(hd:Go.Ar.zQ d=true)(wf:vQ h)
  (s:Sat lo h (YP lv xs::pt b8 (.cells vA 42)::L)) {o:Option (zC×Nat)}
  (hno:(xs.find? λx=>decide (ze x d=(code.drop p).take n))=none->∀h',vQ h'->Sat lo h' (YP lv xs::pt b8 (.cells vA 42)::L)->J [v1] h')
  (ho:∀x,(xs.find? λx=>decide (ze x d=(code.drop p).take n))=some x->o=(Wu st gl code.length x (((p+n:Nat):Int)+d)).map λi=>(i,n)) :
  LP (df [lv] J (.int .i64 d) (.int .i64 p) [v0,.int .i64 n] cv (.int .i64 (((p+n:Nat):Int)+d)) sv gv (rp b8) (Il lo L o)) [v1,.int .i64 0] h:=by
 refine qo (λm vs h'=>∃i:Nat,i<=xs.length/\m=xs.length-i/\vs=[v1,.int .i64 i]/\vQ h'/\Sat lo h' (YP lv xs::pt b8 (.cells vA 42)::L)/\((xs.take i).find? λx=>decide (ze x d=(code.drop p).take n))=none) xs.length ⟨0,aaP _,rfl,rfl,wf,s,rfl⟩ ?_;rintro m vs h1 ⟨i,hi,rfl,rfl,w1,s1,hf⟩;have ln:=λr h'=>vw (Wq s1 aak) r h';have vn:=kG s1;unfold df;by_cases hc:(i:Int)<(xs.length:Int)
 ·obtain⟨x,hx⟩:∃x,xs[i]? = some x:=⟨_,aag (by omega)⟩;have et:xs.take (i+1)=xs.take i++[x]:=by rw[abd,hx];rfl
  have hin:=inc (show i<4611686018427387904 by omega)
  have xs_is:xs=xs.take i++x::xs.drop (i+1):=by
   have hlt:i<xs.length:=by omega
   conv=>lhs;rw[<- abn i xs,abH hlt]
   rw[aag hlt]at hx;rw[abl hx]
  simp only[EE,nth,↓zq,ln,vn,hc];refine OC B I (F x (aaz hx)) hp hn hd w1 hx s1 (λhq h' w' s'=>?_) λhq=>?_
  ·unfold CV;simp only[EE,nth,hin];refine⟨xs.length-(i+1),by omega,i+1,by omega,rfl,rfl,w',s',?_⟩;rw[et,List.find?_append,hf];show([x].find? λx=>decide (ze x d=(code.drop p).take n))=none;rw[List.find?_cons,aaY hq];rfl
  ·refine ho x ?_;rw[xs_is,List.find?_append,hf];show((x::xs.drop (i+1)).find? λx=>decide (ze x d=(code.drop p).take n))=some x;rw[List.find?_cons,aa0 hq]
 ·have:i=xs.length:=by omega
  subst this;rw[abv]at hf;simp only[EE,nth,ln,vn,hc];exact hno hf _ w1 s1
theorem SK(wf:vQ h)(s:Sat lo h (YP v xs::L))(ys:List zC)(hne:ys≠[])(Ui:xs.length+ys.length<=100000){cs:List aaa}(hc:cs=(ys.map zC.row).flatten){m cp:Nat}(hm:m=ys.length)(hcp:cp≠0){K:aaa->za->Prop}(k:∀b c h',vQ h'->Sat lo h' (YP (.slice (some ⟨b,0,none⟩) (xs.length+ys.length) c) (xs++ys)::L)->K (.slice (some ⟨b,0,none⟩) (xs.length+ys.length) c) h') :
  zt (zB Tryz.prog .append [48,48] 48 [v,.slice (some ⟨h.next,0,none⟩) m cp] (h.push (.cells cs 42))) K:=by
 subst hc;subst hm;have s1:=(On s ys cp hcp).f [1,0];have Y:=Wq s1 (aaC _ aak);have a:=Y.Ag;have f:=Y.first (by decide) (YO ys);rw[aau]at a f;obtain⟨b,c,h',a1,s2⟩:=LD s1 Y hne Ui;have q:=a1 48;rw[ZS _ v _ ys.length (ys.map zC.row).flatten _ a f (Fi ys) (by rw[vo (YO ys),aau])]at q;have w2:=za0 (Go.Rtl.YS wf _) q;rw[a1];exact k b c h' w2 (s2.p 1).drop
def Fj(j:Nat):List zC:=(List.range j).map λc=>⟨19,0,0,0,21+(c:Nat),0,0⟩
theorem zfF{j:Nat}:Fj (j+1)=Fj j++[⟨19,0,0,0,21+(j:Nat),0,0⟩]:=by
 unfold Fj;rw[abG];simp
theorem Of{j:Nat}:(Fj j).length=j:=by unfold Fj;simp
theorem zfG(wf:vQ h)(s:Sat lo h (YP v xs::L))(Ui:xs.length<=1000)(k:∀v' h',vQ h'->Sat lo h' (YP v' (xs++Fj 6)::L)->J [v'] h') :
  LP (sV J) [v,.int .i64 21] h:=by
 refine qo (λn vs h'=>∃(j:Nat) (v':aaa),j<=6/\n=6-j/\vs=[v',.int .i64 (21+(j:Nat))]/\vQ h'/\Sat lo h' (YP v' (xs++Fj j)::L)) 6 ⟨0,v,aaP _,rfl,rfl,wf,by
  have e:xs++Fj 0=xs:=aa7 xs;rw[e];exact s⟩ ?_
 rintro n vs h1 ⟨j,v',hj,rfl,rfl,w1,s1⟩;have vn:=kG s1;unfold sV;by_cases hc:(21+(j:Int))<=26
 ·have hin:IntKind.wrap .i64 (21+(j:Int)+1)=21+((j+1:Nat):Int):=by rw[yM (by omega) (by omega)];omega
  simp only[EE,nth,↓zq,mE,xN,GF,GG,hc,vn,hin];refine SK w1 s1 [⟨19,0,0,0,21+(j:Nat),0,0⟩] (by simp) (by rw[aao,Of];simp;omega) rfl rfl (by decide) λb c h2 w2 s2=>?_;simp only[EE];refine⟨6-(j+1),by omega,j+1,_,by omega,rfl,rfl,w2,?_⟩;rw[zfF,<- aa1];exact s2
 ·have:j=6:=by omega
  subst this;simp only[EE,nth,hc];exact k _ _ w1 s1
end
section
variable {lo:yT}{h:za}{L:List HP}{v y kv cv sv gv lv:aaa}{xs ys:List zC}{r m d:Int}{p n b8:Nat}{J:List aaa->za->Prop}{code st gl:List Int}{x:zC}
theorem zdi{a b:Nat}(h:a+b<=2000000000):IntKind.wrap .i64 ((a:Int)+(b:Int))=((a+b:Nat):Int):=by
 simp only[IntKind.wrap,IntKind.bits,IntKind.signed];simp;omega
theorem DA(b:List Int)(p q:Nat):zU (b.drop p) q=zU b (p+q):=by unfold zU;rw[aaR]
theorem zcl{v0:aaa}(B:aD lo cv code)(I:GlR lo sv gv st gl)(hp:p+n<=code.length)(hn:5<=n/\n<=7)(wf:vQ h)
  (s:Sat lo h (pt b8 (.cells vA 42)::L)) {o:Option (zC×Nat)}
  (hno:bR (code.drop p) n=none->∀h',vQ h'->Sat lo h' (pt b8 (.cells vA 42)::L)->J [v0] h')
  (ho:∀x,bR (code.drop p) n=some x->o=(Wu st gl code.length x (((p+n:Nat):Int)+jJ (code.drop p) n)).map λi=>(i,n)) :
  lW (.int .i64 p) [v0,.int .i64 n] cv h sv gv (rp b8) (Il lo L o) J:=by
 have bn:=B.nb;have Ui:=B.Ui;have C:=B.rd.at s;have bd:xJ (code.drop p):=λz hz=>B.byte z (abE hz);have w1:=zdi (a:=p) (b:=n) (by omega);have w2:IntKind.wrap .i64 (((p+n:Nat):Int)-4)=((p+n-4:Nat):Int):=by simp only[IntKind.wrap,IntKind.bits,IntKind.signed];simp;omega
 obtain⟨tv,e1,tn,eS⟩:=iK C (i:=p+n-4) (j:=p+n) (by omega) hp (lo:=some (.int .i64 (p+n-4:Nat))) (.inr rfl);have T:=eS _ C
 have hl:(code.drop (p+n-4)).take (p+n-(p+n-4))=((code.drop p).drop (n-4)).take 4:=by
  rw[List.drop_drop]
  congr 1
  ·omega
  ·congr 1;omega
 rw[hl]at T;have hl4:(((code.drop p).drop (n-4)).take 4).length=4:=by rw[aaM,abj,abj];omega
 have hb4:xJ (((code.drop p).drop (n-4)).take 4):=λz hz=>bd z (abE (abp hz));have hd:Go.Ar.zQ (jJ (code.drop p) n)=true:=bQ hl4 hb4;unfold lW;simp only[EE,nth,bn,w1,w2,e1];refine aq (by simp only[yi,tn,aaw]) (Mk T hb4 (by omega)) ?_;have ed:A9 (((code.drop p).drop (n-4)).take 4)=jJ (code.drop p) n:=Ty hl4;rw[ed];have hit_is:bR (code.drop p) n=(eJ (code.drop p) n).find? λx=>decide (ze x (jJ (code.drop p) n)=(code.drop p).take n):=rfl;rw[hit_is]at hno ho;clear ed hit_is;generalize jJ (code.drop p) n=d at hd ho hno ⊢;have hd2:=hd;unfold Go.Ar.zQ at hd2;simp only[aad,aaF]at hd2;have w3:IntKind.wrap .i64 (((p+n:Nat):Int)+d)=((p+n:Nat):Int)+d:=by simp only[IntKind.wrap,IntKind.bits,IntKind.signed];simp;omega
 unfold CX;simp only[EE,nth,↓zq,uk,xI,w1,w3];have s1:=On s [⟨18,0,0,0,0,0,0⟩,⟨21,0,0,0,0,0,0⟩] 4 (by decide);refine zfG (Go.Rtl.YS wf _) s1 (by simp) λlv h2 wf2 s2=>?_
 have fin:∀{l2:aaa} {h3:za},vQ h3->Sat lo h3 (YP l2 (eJ (code.drop p) n)::pt b8 (.cells vA 42)::L) ->
   LP (df [l2] (λvs52 h53=>J [nth vs52 0] h53) (.int .i64 d) (.int .i64 p) [v0,.int .i64 n] cv (.int .i64 (((p+n:Nat):Int)+d)) sv gv (rp b8) (Il lo L o)) [v0,.int .i64 0] h3:=λ{l2 h3} w3 s3=>
  zdW B I (λx hx=>HW bd hx) (by unfold eJ;simp only[aao,aau,List.length_range,aa3,abk];split <;> simp) hp hn hd w3 s3 (λhf h' w' s'=>hno hf h' w' s'.drop) ho
 unfold CW;by_cases h7:n=7
 ·subst h7;have d7:decide (((7:Nat):Int)=7)=true:=rfl;have C2:=B.rd.at s2;obtain⟨q2,o2,cs2,t2,a1,_,a2,a3⟩:=LI C2 (W3 (show p+2<code.length by omega));obtain⟨q3,o3,cs3,t3,i1,_,i2,i3⟩:=LI C2 (W3 (show p<code.length by omega));obtain⟨z0,z1⟩:=Wi B.byte (show p+2<code.length by omega);obtain⟨y0,y1⟩:=Wi B.byte (show p<code.length by omega);have f1:=Mp z0 z1;have f2:=ze4 y0 y1;have u1:=yM (z:=zU code (p+2)/8%8) (by omega) (by omega);have u2:=yM (z:=zU code p/4%2) (by omega) (by omega);have u3:=yM (z:=zU code p/4%2*8) (by omega) (by omega);have u4:=yM (z:=zU code (p+2)/8%8+zU code p/4%2*8) (by omega) (by omega);have w5:IntKind.wrap .i64 ((p:Int)+2)=((p+2:Nat):Int):=zdi (a:=p) (b:=2) (by omega);have vn:=kG s2;simp only[EE,nth,↓zq,d7];unfold GH;simp only[EE,nth,Int.reduceLE,Int.reduceToNat,zu,Vs,Px,xN,qC,vn,w5,a1,a2,a3,i1,i2,i3,f1,f2,u1,u2,u3,u4];refine SK wf2 s2 [⟨6,qT (zU (code.drop p) 2) (zU (code.drop p) 0),0,0,0,0,0⟩] (by simp) (by simp[Of]) (by rw[DA,DA,zaq];rfl) rfl (by decide) λb c h3 w3 s3=>?_;exact fin w3 s3
 ·have d7:decide ((n:Int)=7)=false:=aaY (by omega);simp only[EE,nth,↓zq,d7];refine fin wf2 ?_
  have e:eJ (code.drop p) n=[⟨18,0,0,0,0,0,0⟩,⟨21,0,0,0,0,0,0⟩]++Fj 6:=by
   unfold eJ;rw[aaf h7,aa7];rfl
  rw[e];exact s2
theorem zdZ(B:aD lo cv code)(I:GlR lo sv gv st gl)(hp:p<=code.length)(s:Sat lo h L) :
  DC Tryz.prog 40 [cv,sv,gv,.int .i64 p] h (Il lo L (VW st gl code.length (code.drop p) p [5,6,7])):=by
 apply YZ;intro wf;have bn:=B.nb;have Ui:=B.Ui;apply Pb;unfold Si;simp only[EE,Value.cells,↓zq,uw];refine By s wf λb8 h2 w2 s2=>?_;refine qo (λm vs h'=>∃j:Nat,j<=3/\m=3-j/\vs=[.int .i64 0,.int .i64 (5+j:Nat)]/\vQ h'/\Sat lo h' (pt b8 (.cells vA 42)::L)/\VW st gl code.length (code.drop p) p (([5,6,7]:List Nat).drop j)=VW st gl code.length (code.drop p) p [5,6,7]) 3 ⟨0,aaP _,rfl,rfl,w2,s2,rfl⟩ ?_;rintro m vs h1 ⟨j,hj,rfl,rfl,w1,s1,hj2⟩;have ln:=λr h'=>zX (B.rd.at s1) r h';generalize VW st gl code.length (code.drop p) p [5,6,7]=o at hj2 ⊢;have wd:IntKind.wrap .i64 ((code.length:Int)-(p:Int))=((code.length-p:Nat):Int):=by simp only[IntKind.wrap,IntKind.bits,IntKind.signed];simp;omega
 have out:o=none->∀vs,lX (rp b8) (Il lo L o) vs h1:=λe vs=>by
  subst e;unfold lX;simp only[EE,Nat.reduceAdd,yI,bu];exact Xa VQ rfl rfl s1 λh' s'=>⟨rfl,s'⟩
 have dl:(code.drop p).length=code.length-p:=abj;unfold CZ;by_cases c1:((5+j:Nat):Int)<=7
 ·have hjd:([5,6,7]:List Nat).drop j=(5+j)::([5,6,7]:List Nat).drop (j+1):=by
   have:j=0\/j=1\/j=2:=by omega
   rcases this with rfl|rfl|rfl <;> rfl
  rw[hjd]at hj2
  have ej:VW st gl code.length (code.drop p) p ((5+j)::([5,6,7]:List Nat).drop (j+1))=if 5+j<=(code.drop p).length then (match bR (code.drop p) (5+j) with
   |some x=>(Wu st gl code.length x (((p+(5+j):Nat):Int)+jJ (code.drop p) (5+j))).map λi=>(i,5+j)
   |none=>VW st gl code.length (code.drop p) p (([5,6,7]:List Nat).drop (j+1))) else none:=rfl
  rw[ej]at hj2;by_cases c2:((5+j:Nat):Int)<=((code.length-p:Nat):Int)
  ·rw[aai (by omega)]at hj2;have hin:=inc (show 5+j<4611686018427387904 by omega);simp only[EE,nth,↓zq,dg,dh,di,dk,bn,ln,wd,c1,c2];refine zcl (n:=5+j) B I (by omega) (by omega) w1 s1 (λhn h' w' s'=>?_) (λx hx=>?_)
   ·rw[hn]at hj2;simp only[EE,nth,CY,hin];exact⟨3-(j+1),by omega,j+1,by omega,rfl,rfl,w',s',hj2⟩
   ·rw[hx]at hj2;exact hj2.symm
  ·rw[aaf (by omega)]at hj2;simp only[EE,nth,dg,dh,di,dk,bn,ln,wd,c1,c2];exact out hj2.symm _
 ·have:j=3:=by omega
  subst this;simp only[EE,nth,Nat.reduceAdd,dg,dh,di,dk,c1];exact out hj2.symm _
end
open Go.Ar (ra yn YQ)
open Go.Eb (dz y9 VO bX yE VL VN kf)
section
variable {lo:yT}{h:za}{L:List HP}{v y kv cv sv gv lv bv:aaa}{xs ys:List zC}{r m d:Int}{p n b8:Nat}{J:List aaa->za->Prop}{b code st gl:List Int}{x:zC}
theorem zbr{i:Nat}{v0:aaa}{vs:List aaa}(B:aD lo bv b)(hr:yn x=true)(hx:xs[i]? = some x)(s:Sat lo h (YP lv xs::pt b8 (.cells vA 42)::L)){o:Option (zC×Nat)}
  (hno:¬qa b (ze x 0)->¬eQ b x->∀h',Sat lo h' (YP lv xs::pt b8 (.cells vA 42)::L)->J [v0] h')
  (h1:qa b (ze x 0)->o=some (x,qJ x)) (h2:¬qa b (ze x 0)->eQ b x->o=some (x,10)) :
  Jf lv [v0,.int .i64 i] bv (rp b8) (Il lo L o) J vs h:=by
 have bn:=B.nb;have Y:=dz hr;obtain⟨op,r,m,sub,cc,l,k⟩:=x
 have load:∀{h':za} {M:List HP},Sat lo h' (YP lv xs::M)->∃bi oi ci ti,vf Tryz.prog 48 lv (.int .i64 i)=some (.pointer (some ⟨bi,oi,none⟩))/\bi<h'.next/\h'.get bi=some (.cells ci ti)/\zf Tryz.prog 42 (.pointer (some ⟨bi,oi,none⟩)) h'=some (zC.val ⟨op,r,m,sub,cc,l,k⟩)/\ci[oi]? = some (.int .i64 op)/\ci[oi+1]? = some (.int .i64 r)/\ci[oi+6]? = some (.int .i64 k):=λ{h' M} s'=>by
  obtain⟨bi,oi,ci,ti,ha,hbi,hgi,hle,htk,hk⟩:=uD (Wq s' aak) (i:=i) (r:=zC.row ⟨op,r,m,sub,cc,l,k⟩) (by rw[aaH,hx];rfl) rfl;refine⟨bi,oi,ci,ti,ha,hbi,hgi,?_,hk 0 (by decide),hk 1 (by decide),hk 6 (by decide)⟩;simp only[abM,qQ,wK,hgi,hle,htk]
 obtain⟨bi,oi,ci,ti,ha,hbi,hgi,hal,k0,k1,k6⟩:=load s;unfold Jf;simp only[EE,nth,ha,hal];refine Kd (cB (du Y 0)) ?_;rintro xv h2' ⟨hl,wf2⟩;have s2:Sat lo h2' (vu xv (ze ⟨op,r,m,sub,cc,l,k⟩ 0)::YP lv xs::pt b8 (.cells vA 42)::L):=s.join hl;have xn:=y9 s2;have X:=yw s2 aak;have lx:=λr h'=>zX X r h';unfold hP;refine aq (by simp only[yi,bn,xn,aaw]) (HS (B.rd.at s2) X B.byte (pT _ _)) ?_;by_cases hbg:qa b (ze ⟨op,r,m,sub,cc,l,k⟩ 0)
 ·have d1:decide (qa b (ze ⟨op,r,m,sub,cc,l,k⟩ 0))=true:=aa0 hbg;rw[h1 hbg];obtain⟨bi,oi,ci,ti,ha,hbi,hgi,hal,k0,k1,k6⟩:=load (s2.f [1,0,2]);simp only[EE,nth,Nat.reduceAdd,yI,oA,d1,ha,hal,xn,lx];exact Xa ⟨op,r,m,sub,cc,l,k⟩ rfl rfl (s2.f [2,0,1]) λh' s'=>⟨rfl,s'.drop.drop⟩
 ·have d1:decide (qa b (ze ⟨op,r,m,sub,cc,l,k⟩ 0))=false:=aaY hbg;simp only[EE,nth,d1];have s3:=s2.drop;obtain⟨bi,oi,ci,ti,ha,hbi,hgi,hal,k0,k1,k6⟩:=load s3;have stop:¬eQ b ⟨op,r,m,sub,cc,l,k⟩->J [v0] h2':=λhw=>hno hbg hw _ s3;have S3:=B.rd.at s3;have lb:=λr h'=>zX S3 r h';unfold hO;by_cases c2:op=2
  ·subst c2;simp only[EE,nth,zu,yU,zg,zc,zw,aR,Je,ha,hgi,k0,k6];refine X2 (YQ k _) ?_;cases hs:Go.Ar.zQ k with
   |false=>
    simp only[EE,nth,Vb,Vc,Vd];exact stop (λe=>by have:=e.2.1;rw[hs]at this;cases this)
   |true=>
    by_cases c10:(b.length:Int) ≥ 10
    ·simp only[EE,Vb,Vc,Vd,bn,lb,c10];unfold oE;simp only[EE,nth,zu,zg,zJ,ha,hgi,k1];refine eL (VO (.inl rfl) 0 r _) ?_;have R:zL r:=Y.r rfl;have a7:=Go.Eb.J7 R.1 R.2;have u1:=yM (z:=184+r%8) (by omega) (by omega)
     have u2:IntKind.wrap .u8 (184+r%8)=184+r%8:=by
      simp only[IntKind.wrap,IntKind.bits,IntKind.signed];simp;omega
     unfold oD;have s4:=yE s3 [zj 72 0 r,184+r%8] 4 (by decide);have gb:(h2'.push (.cells [.int .u8 (zj 72 0 r),.int .u8 (184+r%8)] 5)).get bi=some (.cells ci ti):=by rw[yq hbi];exact hgi
     have gc:=kf (m:=h2'.next+1) gb hbi;simp only[EE,nth,zu,yU,zg,xe,Q3,zJ,zw,ha,hgi,k1,k6,a7,u1,u2,gc];refine bX s4 (Go.Rtl.YS wf2 _) (n:=8) rfl (by decide) rfl (λb o q=>VN q) λtv h5 w5 tn s5=>?_;have s5:Sat lo h5 (vu tv (yX 8 k)::vu (.slice (some ⟨h2'.next,0,none⟩) 2 4) [zj 72 0 r,184+r%8]::YP lv xs::pt b8 (.cells vA 42)::L):=s5;have s5':Sat lo h5 (vu (.slice (some ⟨h2'.next,0,none⟩) 2 4) [zj 72 0 r,184+r%8]::vu tv (yX 8 k)::YP lv xs::pt b8 (.cells vA 42)::L):=s5.f [1,0];refine VL s5' (λb hb=>?_) (yw s5 aak) (by rw[xb];show 2+8<=_;decide) tn λa n c h6 s6=>?_
     ·have:b=h2'.next:=aar.1 hb;omega
     have an:=y9 s6;have s7:Sat lo h6 (YP lv xs::pt b8 (.cells vA 42)::L):=s6.drop.drop;have X6:=yw s6 aak;have X7:y4 h6 (.slice a n c) (QX ⟨2,r,m,sub,cc,l,k⟩):=X6;unfold oC;refine aq (by simp only[yi,bn,an,aaw]) (HS (B.rd.at s6) X7 B.byte (ZP (yu (D9 (.inl rfl)).1 (D9 (.inl rfl)).2 (yu (by show 0<=184+r%8;omega) (by show 184+r%8<256;omega) vV)) (kE 8 k))) ?_;by_cases hw:qa b (QX ⟨2,r,m,sub,cc,l,k⟩)
     ·have d1:decide (qa b (QX ⟨2,r,m,sub,cc,l,k⟩))=true:=aa0 hw;rw[h2 hbg ⟨rfl,hs,by omega,hw⟩];obtain⟨bi,oi,ci,ti,ha,hbi,hgi,hal,k0,k1,k6⟩:=load s7;simp only[EE,nth,Nat.reduceAdd,yI,oB,d1,ha,hal];exact Xa ⟨2,r,m,sub,cc,l,k⟩ rfl rfl (s7.f [1,0]) λh' s'=>⟨rfl,s'.drop⟩
     ·have d1:decide (qa b (QX ⟨2,r,m,sub,cc,l,k⟩))=false:=aaY hw;simp only[EE,nth,d1];exact hno hbg (λe=>hw e.2.2.2) _ s7
    ·simp only[EE,nth,Vb,Vc,Vd,bn,lb,c10];exact stop (λe=>c10 (by have:=e.2.2.1;omega))
  ·have d2:decide (op=2)=false:=aaY c2;simp only[EE,nth,zu,zg,zc,Vb,Vc,Vd,aR,Je,ha,hgi,k0,d2];exact stop (λe=>c2 e.1)
theorem PR(b:List Int):(qD b).length<=300:=by
 unfold qD;have:=Tt b;have h1:(FQ b).length<=1:=by unfold FQ;split <;> simp
 have h2:(g4 b).length<=2:=by unfold g4;split <;> simp
 have h3:dP.length=4:=rfl;rw[aao,aao,aao];omega
theorem PK{b:List Int}{x:zC}{l:List zC}:findD b (x::l)=if yn x=true then (if qa b (ze x 0) then some (x,qJ x) else if eQ b x then some (x,10) else findD b l) else findD b l:=rfl
theorem PE(B:aD (.of h) cv code)(I:GlR (.of h) sv gv st gl)(hp:p<code.length) :
  DC Tryz.prog 17 [cv,sv,gv,.int .i64 p] h (Il (.of h) [] (PF st gl code.length (code.drop p) p)):=by
 apply YZ;intro wf;have bn:=B.nb;have sn:=I.sn;have gn:=I.gn;have Ui:=B.Ui;apply Ez;unfold CI;have s0:Sat (.of h) h []:=Sat.self wf.2;simp only[EE,Value.cells,uw];refine qc s0 λb8 h2 s2=>?_;obtain⟨bb,bo,bc,ea,bS⟩:=Am (B.rd.at s2) hp;have bd:xJ (code.drop p):=λx hx=>B.byte x (abE hx);have B2:aD (.of h) (.slice (some ⟨bb,bo,none⟩) (code.length-p) bc) (code.drop p):=⟨λh b=>bS h (B.rd h b),rfl,by rw[abj];omega,bd⟩;simp only[EE,bn,ea];generalize (Value.slice (some ⟨bb,bo,none⟩) (code.length-p) bc)=bv at B2 ⊢;have B3:aD (.of h2) bv (code.drop p):=⟨Rd.of (yT.jH h2) (B2.rd.at s2) λh' o=>zE.old (B2.rd.at s2) o,B2.nb,B2.Ui,bd⟩;refine mK (by simp only[yi,B2.nb,aaw]) (PS B3) ?_;rintro lv h3 s3';have s3:Sat (.of h) h3 (YP lv (qD (code.drop p))::pt b8 (.cells vA 42)::[]):=s2.join s3';unfold hZ;have gf:=PR (code.drop p);have eo:∃xs,qD (code.drop p)=xs:=⟨_,rfl⟩
 have dd:PF st gl code.length (code.drop p) p=match findD (code.drop p) (qD (code.drop p)) with
  |some r=>some r
  |none=>VW st gl code.length (code.drop p) p [5,6,7]:=rfl
 obtain⟨xs,exs⟩:=eo;rw[exs]at s3 gf dd;generalize PF st gl code.length (code.drop p) p=o at dd ⊢;simp only[↓zq];refine qo (λm vs h'=>∃i:Nat,i<=xs.length/\m=xs.length-i/\vs=[.int .i64 0,.int .i64 i]/\Sat (.of h) h' (YP lv xs::pt b8 (.cells vA 42)::[])/\findD (code.drop p) (xs.drop i)=findD (code.drop p) xs) xs.length ⟨0,aaP _,rfl,rfl,s3,rfl⟩ ?_;rintro m vs h1 ⟨i,hi,rfl,rfl,s1,hf⟩;have ln:=λr h'=>vw (Wq s1 aak) r h';have vn:=kG s1;unfold hU;by_cases hc:(i:Int)<(xs.length:Int)
 ·have hlt:i<xs.length:=by omega
  obtain⟨x,hx⟩:∃x,xs[i]? = some x:=⟨_,aag hlt⟩
  have ed:xs.drop i=x::xs.drop (i+1):=by
   rw[abH hlt];rw[aag hlt]at hx;rw[abl hx]
  rw[ed,PK]at hf;have hin:=inc (show i<4611686018427387904 by omega);obtain⟨bi,oi,ci,ti,ha,hbi,hgi,hle,htk,_⟩:=uD (Wq s1 aak) (i:=i) (r:=x.row) (by rw[aaH,hx];rfl) rfl;have ex:Value.agg x.row.toArray=x.val:=rfl;simp only[EE,nth,↓zq,qQ,wK,hQ,ln,vn,hc,ha,hgi,hle,htk,ex];refine X2 (ra (x:=x)) ?_;cases hr:yn x with
  |false=>
   rw[hr,aaf (by decide)]at hf;simp only[EE,nth,Jg,hin];exact⟨xs.length-(i+1),by omega,i+1,by omega,rfl,rfl,s1,hf⟩
  |true=>
   rw[aai hr]at hf;simp only[EE];refine zbr (o:=o) B2 hr hx s1 (λn1 n2 h' s'=>?_) (λn1=>?_) (λn1 n2=>?_)
   ·rw[aaf n1,aaf n2]at hf;simp only[EE,nth,Jg,hin];exact⟨xs.length-(i+1),by omega,i+1,by omega,rfl,rfl,s',hf⟩
   ·rw[aai n1]at hf;rw[dd,<- hf]
   ·rw[aaf n1,aai n2]at hf;rw[dd,<- hf]
 ·have:i=xs.length:=by omega
  subst this;rw[List.drop_length]at hf;have hf:none=findD (code.drop p) xs:=hf;rw[<- hf]at dd;simp only[EE,nth,ln,vn,hc];refine mK (by simp only[yi,bn,sn,gn,aaw];rfl) (zdZ B I (Nat.le_of_lt hp) s1) ?_;rintro v h4 ⟨rfl,s4⟩;have dd:o=VW st gl code.length (code.drop p) p [5,6,7]:=dd;rw[<- dd];have s5:Sat (.of h) h4 (pt b8 (.cells vA 42)::[]):=s4.drop;unfold hX;cases o with
  |none=>
   have er:zbv none=.tuple #[VQ.val,.int .i64 0]:=rfl;rw[er];simp only[EE,Nat.reduceAdd,yI];exact Xa VQ rfl rfl s5 λh' s'=>⟨rfl,s'⟩
  |some r=>
   obtain⟨y,k⟩:=r;have er:zbv (some (y,k))=.tuple #[y.val,.int .i64 k]:=rfl;rw[er];simp only[EE,Nat.reduceAdd,yI];exact Xa y rfl rfl s5 λh' s'=>⟨rfl,s'⟩
end
end Go.Ed
namespace Go.Ec
open Go.Ai Go.Proofs
def cls:List Nat:=[0,0,1,1,1,1,1,1,1,1,1,1,1,1,1,1,1,1,1,1,1,1,1,1,1,1,1,1,1,1,1,1,1,1,1,1,1,1,1,1,1,1,1,1,1,1,1,3,1,1,1,1,1,1,1,1,1,1,1,1,1,1,1,1,1,1,1,1,1,1,1,1,1,1,1,1,1,1,1,1,1,1,1,1,1,1,1,1,1,1,1,1,1,1,1,1,1,1,1,1,1,1,1,1,1,1,1,1,1,1,1,1,1,1,1,1,1,1,1,1,1,1,1,1,1,1,0,0,0,0,0,0,0,0,0,0,0,0,0,0,0,0,0,0,0]
set_option maxRecDepth 100000 in
theorem fits:Xe Tryz.prog cls=true:=by decide +kernel
set_option maxRecDepth 100000 in
theorem Pt:zeA (run Tryz.prog cls 4000 (.call 7 []) (FL 100 []))=true:=by kernel_rfl
theorem za4(h:za):vt Tryz.prog 7 [] h (.bool true):=by
 refine⟨rfl,?_⟩;obtain⟨h',he⟩:=zbQ Pt;have:=Lg (P:=Tryz.prog) (m:=100) (tabs:=[]) (v := .bool true) (f:=7) rfl (aaE (by kernel_rfl)) (λx hx=>by cases hx) ((O1 fits mixed he).mono (λv h1 q=>q.1)) (h:=h.lock) (λx hx=>by cases hx);exact this.mono (λv h1 q=>q.1)
end Go.Ec
namespace Go.Ee
open Go.Ai Go.Proofs
open Go.Rtl (zK zE Old inc yz xw vx i0 vS vo)
open Go.Rm (ZG y6 xf vq wD wJ jR yR YX zV xH Rd Rd.of Rd.at Rd.mono)
open Go.As (zC Pg ZO qI uD vw)
open Go.Eb (KQ y4 xO qi zX vu yw y9 QF)
open Go.En
open Go.Ed
section
variable {lo:yT}{h:za}{L:List HP}{cv sv gv:aaa}{code:List Int}{mn pn at_ by_:Int}{b8 b10:Nat}{c8:List aaa}
end
open Go.Rtl (pS bD Uq wC)
open Go.Rm (cw)
section
variable {lo:yT}{h h':za}{L:List HP}{x y:aaa}{xs ys:List Int}
end
open Go.As (kR)
open Go.Eb (yE J8)
open Go.Ar (dw YV Yr)
open Go.Eb (YY)
section
variable {lo:yT}{h:za}{L:List HP}{rv:aaa}{raw:List Int}{at_ by_:Int}{p:Pg}
end
end Go.Ee
namespace Go.En
open Go.Ai Go.Proofs
open Go.As (zC Pg kH Zl)
open Go.Ar (yn zQ)
theorem zae{x:zC}(h:yn x=true)(hk:Go.Mem.UW x.k)(n6:¬KD x)(n20:¬x.op=20) :
  ∃y,Shape y/\yn y=true/\y.op=x.op /\ ¬KD y/\(∀d,ze x d=ze y 0):=by
 have h1:1<=x.op/\x.op<=26:=by
  have h2:=h;unfold yn at h2;simp only[aad,aaq,aan]at h2;omega
 unfold KD at n6;obtain⟨op,r,m,sub,cc,l,k⟩:=x;simp only at h1 n6 n20 hk;have:op=1\/op=2\/op=3\/op=4\/op=5\/op=7\/op=8\/op=9\/op=10\/op=11\/op=12\/op=13\/op=14\/op=15\/op=16\/op=17\/op=22\/op=23\/op=24\/op=25\/op=26:=by omega
 rcases this with rfl|rfl|rfl|rfl|rfl|rfl|rfl|rfl|rfl|rfl|rfl|rfl|rfl|rfl|rfl|rfl|rfl|rfl|rfl|rfl|rfl
 ·exact⟨_,.mov r m,h,rfl,n6,λ_=>rfl⟩
 ·exact⟨_,.movk r k hk,h,rfl,n6,λ_=>rfl⟩
 ·exact⟨_,.load r m sub k,h,rfl,n6,λ_=>rfl⟩
 ·exact⟨_,.Eo r m sub k,h,rfl,n6,λ_=>rfl⟩
 ·exact⟨_,.lea r m k,h,rfl,n6,λ_=>rfl⟩
 ·exact⟨_,.NC r m sub,h,rfl,n6,λ_=>rfl⟩
 ·exact⟨_,.aluk r sub k,h,rfl,n6,λ_=>rfl⟩
 ·exact⟨_,.un r sub,h,rfl,n6,λ_=>rfl⟩
 ·exact⟨_,.ext r m sub,h,rfl,n6,λ_=>rfl⟩
 ·exact⟨_,.shift r sub k,h,rfl,n6,λ_=>rfl⟩
 ·exact⟨_,.shiftc r sub,h,rfl,n6,λ_=>rfl⟩
 ·exact⟨_,.cqo,h,rfl,n6,λ_=>rfl⟩
 ·exact⟨_,.idiv m,h,rfl,n6,λ_=>rfl⟩
 ·exact⟨_,.cmp r m,h,rfl,n6,λ_=>rfl⟩
 ·exact⟨_,.cmpk r k,h,rfl,n6,λ_=>rfl⟩
 ·exact⟨_,.set r cc,h,rfl,n6,λ_=>rfl⟩
 ·exact⟨_,.ret,h,rfl,n6,λ_=>rfl⟩
 ·exact⟨_,.enter k,h,rfl,n6,λ_=>rfl⟩
 ·exact⟨_,.leave k,h,rfl,n6,λ_=>rfl⟩
 ·exact⟨_,.inI,h,rfl,n6,λ_=>rfl⟩
 ·exact⟨_,.outI,h,rfl,n6,λ_=>rfl⟩
theorem zap{st gl:List Int}{x:zC}(h:yn x=true)(hk:Go.Mem.UW x.k)(n6:¬KD x)(n20:¬x.op=20) :
  ∃y:zC,y.op=x.op/\Cj st gl (ze x 0).length (ze x 0) 0=some (y,(ze x 0).length)/\0<(ze x 0).length:=by
 obtain⟨y,S,hr,eo,nf,eb⟩:=zae h hk n6 n20;have e0:ze x 0=ze y 0:=eb 0;have sp:=Ei S;have bg:qa (ze y 0) (ze y 0):=⟨sp,aaj _,abv⟩;have R:=(AZ (pT y 0) S hr).1 bg;refine⟨y,eo,?_,by rw[e0];exact sp⟩;rw[e0];unfold Cj;rw[R]
 have hi:kH gl y=true:=by
  have:=(Go.Ar.Be (gl:=gl) (x:=y)).2 ⟨hr,?_⟩
  ·exact this.1
  ·unfold Go.Ar.VA;rw[aaY (λq=>nf (.inr (.inr (.inr q))))];rfl
 simp only[hi];rfl
theorem AA(gl:List Int)(st:List Nat)(code:List zC)(o:Nat):∀(xs:List zC) (n:Nat),(∀x,x∈xs->¬KD x)->Wk gl st code o xs n=xs.flatMap λx=>ze x 0
 |[],n,_=>rfl
 |x::xs,n,h=>by
  rw[List.flatMap_cons,<- AA gl st code o xs (n+qJ x) λy hy=>h y (aaC _ hy)];show ze x _++_=_;rw[Aw (h x aak)]
end Go.En
namespace Go.Ee
open Go.Ai Go.Proofs
open Go.Rtl (zK zE Old inc yz xw vx i0 vS vo I3)
open Go.Rm (ZG y6 xf vq wD wJ jR yR YX zV xH Rd Rd.of Rd.at Rd.mono)
open Go.As (zC Pg kR ZO qI uD vw)
open Go.Eb (KQ y4 xO qi zX vu yw y9 QF yE J8 cB)
open Go.En
open Go.Ed
theorem LM{a b c:aaa}(ha:zS a=false)(hb:zS b=false)(hc:zS c=false):ak (.tuple #[a,b,c]) 0=some a:=(Ao (by simp only[yi,ha,hb,hc,aaw])).trans rfl
theorem LN{a b c:aaa}(ha:zS a=false)(hb:zS b=false)(hc:zS c=false):ak (.tuple #[a,b,c]) 1=some b:=(Ao (by simp only[yi,ha,hb,hc,aaw])).trans rfl
theorem LO{a b c:aaa}(ha:zS a=false)(hb:zS b=false)(hc:zS c=false):ak (.tuple #[a,b,c]) 2=some c:=(Ao (by simp only[yi,ha,hb,hc,aaw])).trans rfl
section
variable {lo:yT}{h:za}{L:List HP}{rv:aaa}{raw:List Int}{at_ by_:Int}{p:Pg}
def yes(v:aaa)(_:za):Prop:=v=.bool true
end
end Go.Ee
namespace Go.Ef
open Go.Ai Go.Proofs
open Go.Rtl (zK zE Old inc yz xw vx i0 vS vo I3 lF cu MO)
open Go.Rm (ZG y6 xf vq wD wJ jR yR YX zV xH Rd Rd.of Rd.at Rd.mono)
open Go.As (zC Pg kR ZO qI uD vw Zl kH)
open Go.Ar (mB fnP pgP BD dw YV Yr)
open Go.Eb (KQ y4 xO qi zX vu yw y9 QF yE J8 cB Lf iO YY gF MD)
open Go.En
open Go.Ed
open Go.Ee (yes LM LN LO)
abbrev U9(cv fv:aaa)(code:List zC):Pg:=⟨.slice none 0 0,[],fv,[⟨⟨#[102]⟩,cv,code⟩],0,0⟩
section
variable {lo:yT}{h:za}{L:List HP}{x:zC}{av:aaa}{ahead:List zC}
theorem T5{cv:aaa}{code:List zC}{bf c:Nat}(hc:c≠0)(s:Sat lo h (pt bf (.cells [.string ⟨#[102]⟩,cv] 50)::YP cv code::L)):Sat lo h (pgP (U9 cv (.slice (some ⟨bf,0,none⟩) 1 c) code)::L):=by
 have s1:=wD (ty:=50) (n:=2) (rows:=[Go.As.Fn.row ⟨⟨#[102]⟩,cv,code⟩]) (c:=c) hc (by intro r hr;rw[aar.1 hr];rfl) rfl s;have s2:Sat lo h (YP cv code::aj []::ZG 50 2 (.slice (some ⟨bf,0,none⟩) 1 c) [Go.As.Fn.row ⟨⟨#[102]⟩,cv,code⟩]::L):=(lF (s1.f [1,0])).f [1,0,2];have s3:=cu s2;have s4:=wJ (ty:=3) (n:=1) (s3.f [1,0]);exact Sat.close (M:=[ZG 3 1 (.slice none 0 0) [],ZG 50 2 (.slice (some ⟨bf,0,none⟩) 1 c) [Go.As.Fn.row ⟨⟨#[102]⟩,cv,code⟩],aj [fnP ⟨⟨#[102]⟩,cv,code⟩]]) s4
theorem BB(cv fv:aaa)(code:List zC)(hl:code.length<=1000):wx (U9 cv fv code).funcs<=1000000:=by
 have:=I0 code;show vi code+0<=1000000;omega
theorem bZ{cv fv:aaa}{code:List zC}(hl:code.length<=1000)(s:Sat lo h (pgP (U9 cv fv code)::L)):kR h (U9 cv fv code):=by
 refine BD s (aaP _) (by show 1*24<=_;decide) λf hf=>?_;rw[aar.1 hf];show code.length*56<=_;omega
theorem D2(cv fv:aaa)(code:List zC)(hn:∀x,x∈code->¬KD x):gh (U9 cv fv code)=code.flatMap λx=>ze x 0:=by
 show Wk _ _ code 0 code 0++[]=_;rw[aa7];exact AA _ _ _ _ _ _ hn
theorem P9{cv fv:aaa}{code:List zC}(hg:Zl (U9 cv fv code)=true):∀x,x∈code->Go.Ar.yn x=true:=by
 have hd:YV (U9 cv fv code)=true:=by rw[Yr];exact hg
 unfold YV at hd;simp only[aad,aaB]at hd;obtain⟨h1,h2,h3⟩:=hd;have a:=h3 _ (aar.2 rfl);unfold Go.Ar.dO at a;simp only[aad]at a;have a1:=a.1;unfold Go.Ar.bE at a1;rw[aaB]at a1;intro x hx;obtain⟨n,hn⟩:=ab9 hx;have hn':=(aaZ.1 hn).1;have b:=a1 n (by simpa using hn');unfold Go.Ar.PU at b;rw[hn]at b;have b:Go.Ar.vy (U9 cv fv code) code n x=true:=b;unfold Go.Ar.vy at b;simp only[aad]at b;exact b.1
theorem zag{b:Nat}{o:vr}(g:h.get b=some o)(l:b<h.next):Rd (.of h) (λh'=>h'.get b=some o/\b<h'.next):=λh' base=>by
 obtain⟨n,_,d⟩:=(yT.jH h).old base;exact⟨by rw[d b l];exact g,aap l n⟩
theorem zeg{b2 b6:Nat}{cv sv gv:aaa}{bs:List Int}(RA:Rd lo (zE · av 7 (ahead.map zC.row)))(R2:Rd lo λh'=>h'.get b2=some (.cells x.row 42)/\b2<h'.next)(RB:Rd lo (y4 · cv bs))(cn:zS cv=false)
  (nf:¬KD x) (n20:¬x.op=20) (eb:ze x 0=bs) (l0:0<bs.length) (l1:bs.length<=10) (Ui:ahead.length<=30) (s:Sat lo h [pt b6 (.cells (au cv sv gv 0 0) 31)]) :
  aE (.bool false) yes [.bool false] av (rp b2) (rp b6) (.bool false) h:=by
 have an:zS av=false:=zE.ai (RA.at s);unfold aE;simp only[EE,↓zq,↓zq];refine qo (λm vs h'=>∃(j:Nat) (v:aaa) (xs:List zC),j<=ahead.length/\m=ahead.length-j/\vs=[v,.int .i64 j]/\(∀z,z∈xs->¬KD z)/\xs.length<=j/\Sat lo h' [YP v xs,pt b6 (.cells (au cv sv gv 0 0) 31)]) ahead.length ⟨0,_,[],aaP _,rfl,rfl,λz hz=>(by cases hz),aaj _,wJ _ _ s⟩ ?_;rintro m vs h1 ⟨j,v,xs,hj,rfl,rfl,hxs,hxl,s1⟩;have vn:=kG s1;have la:=λr h'=>vw (RA.at s1) r h';unfold nk;by_cases hc:(j:Int)<(ahead.length:Int)
 ·obtain⟨z,hz⟩:∃z,ahead[j]? = some z:=⟨_,aag (by omega)⟩;obtain⟨bi,oi,ci,ti,ha,hbi,hgi,hle,htk,hk⟩:=uD (RA.at s1) (i:=j) (r:=z.row) (by rw[aaH,hz];rfl) rfl;have k0:=hk 0 (by decide);have k0:ci[oi]? = some (.int .i64 z.op):=k0;have hin:=inc (show j<4611686018427387904 by omega);have go:∀vs' v' (xs':List zC) h',vs'=[v',.int .i64 ((j+1:Nat):Int)]->(∀z,z∈xs'->¬KD z)->xs'.length<=j+1->Sat lo h' [YP v' xs',pt b6 (.cells (au cv sv gv 0 0) 31)]->∃m,m<ahead.length-j /\ ∃(j:Nat) (v:aaa) (xs:List zC),j<=ahead.length/\m=ahead.length-j/\vs'=[v,.int .i64 j]/\(∀z,z∈xs->¬KD z)/\xs.length<=j/\Sat lo h' [YP v xs,pt b6 (.cells (au cv sv gv 0 0) 31)]:=λvs' v' xs' h' ev h1 h2 h3=>⟨_,by omega,j+1,v',xs',by omega,rfl,ev,h1,h2,h3⟩;by_cases o18:z.op=18
  ·simp only[EE,nth,↓zq,zu,zg,zc,Xi,Xj,Xk,Xl,Xm,Xn,Xo,Xp,ZZ,Z0,Z1,Z2,Z3,Z4,Z5,an,la,hc,ha,hgi,k0,o18,hin];exact go _ _ _ _ rfl hxs (by omega) s1
  by_cases o19:z.op=19
  ·simp only[EE,nth,↓zq,Int.reduceEq,zu,zg,zc,Xi,Xj,Xk,Xl,Xm,Xn,Xo,Xp,ZZ,Z0,Z1,Z2,Z3,Z4,Z5,an,la,hc,ha,hgi,k0,o19,hin];exact go _ _ _ _ rfl hxs (by omega) s1
  by_cases o21:z.op=21
  ·simp only[EE,nth,↓zq,Int.reduceEq,zu,zg,zc,Xi,Xj,Xk,Xl,Xm,Xn,Xo,Xp,ZZ,Z0,Z1,Z2,Z3,Z4,Z5,an,la,hc,ha,hgi,k0,o21,hin];exact go _ _ _ _ rfl hxs (by omega) s1
  by_cases o6:z.op=6
  ·simp only[EE,nth,↓zq,Int.reduceEq,zu,zg,zc,Xi,Xj,Xk,Xl,Xm,Xn,Xo,Xp,ZZ,Z0,Z1,Z2,Z3,Z4,Z5,an,la,hc,ha,hgi,k0,o6,hin];exact go _ _ _ _ rfl hxs (by omega) s1
  by_cases o20:z.op=20
  ·simp only[EE,nth,↓zq,Int.reduceEq,zu,zg,zc,Xi,Xj,Xk,Xl,Xm,Xn,Xo,Xp,ZZ,Z0,Z1,Z2,Z3,Z4,Z5,an,la,hc,ha,hgi,k0,o20,hin];exact go _ _ _ _ rfl hxs (by omega) s1
  simp only[EE,nth,↓zq,zu,zg,zc,Xi,Xj,Xk,Xl,Xm,Xn,Xo,Xp,ZZ,Z0,Z1,Z2,Z3,Z4,Z5,an,la,hc,ha,hgi,k0,o18,o19,o21,o6,o20,hin];unfold sq;have ex:Value.agg z.row.toArray=z.val:=rfl;simp only[EE,nth,qQ,wK,xN,ha,hgi,hle,htk,ex,vn];refine br s1 [z] (by simp) (by show xs.length+1<=_;omega) rfl rfl (by decide) λb c h3 s3=>?_;refine go _ _ _ _ rfl (λy hy=>?_) (by rw[aao];show xs.length+1<=_;omega) s3;rcases aaG.1 hy with q|q
  ·exact hxs y q
  ·rw[aar.1 q];rintro(q|q|q|q)
   ·exact o18 q
   ·exact o19 q
   ·exact o21 q
   ·exact o6 q
 ·have:j=ahead.length:=by omega
  subst this;simp only[EE,nth,an,la,hc];unfold nJ;simp only[EE,nth,SX];have Y1:=Wq s1 aak;have xc:=Fi xs;refine mB (bz:=56) (λr v x k new h a b c d=>ZS r v x k new h a b c d) (zE.old Y1 (Old.push _ _)) (by decide) (Go.Ed.YO _) xc (by rw[aau];omega) s1.base.FE (aaJ _) ?_;intro lv h6 W e6 r6;have s6:Sat lo h6 (YP lv xs::YP v xs::pt b6 (.cells (au cv sv gv 0 0) 31)::[]):=MO W (Go.Ed.YO _) e6 r6 s1;have ln:=kG s6;obtain⟨op,r,m,sub,cd,l,k⟩:=x;have g2:=(R2.at s6).1;have l2:=(R2.at s1).2
  have gm:∀N M:Nat,h1.next<=N->(cut (cut h6 h1.next N) N M).get b2=some (.cells (zC.row ⟨op,r,m,sub,cd,l,k⟩) 42):=λN M hN=>by
   rw[Xu (by omega),Xu l2];exact g2
  have gm1:=gm (h1.next+1) h6.next (by omega);unfold nI;simp only[EE,Nat.reduceAdd,qQ,wK,xN,gm1,ln];refine br s6 [⟨op,r,m,sub,cd,l,k⟩] (by simp) (by show xs.length+1<=_;omega) rfl rfl (by decide) λb c h7 s7=>?_;have s8:=T5 (c:=3) (by decide) (s7.push (.cells [.string ⟨#[102]⟩,.slice (some ⟨b,0,none⟩) (xs.length+1) c] 50));simp only[EE,Value.cells,zcJ,NI,Dv,Dz];refine qc s8 λb16 h9 s9=>?_;simp only[EE,Nat.reduceAdd,zcI];refine yf s9 (by simp) rfl λh10 s10=>?_;obtain⟨cv1,fv1,fn1,s10⟩:∃cv1 fv1:aaa,zS fv1=false/\Sat lo h10 (pt b16 (.cells [.slice none 0 0,fv1,.int .i64 0,.int .i64 0] 25)::pgP (U9 cv1 fv1 (xs++[(⟨op,r,m,sub,cd,l,k⟩:zC)]))::YP v xs::pt b6 (.cells (au cv sv gv 0 0) 31)::[]):=⟨_,_,rfl,s10⟩;have g16:=s10.get;simp only[EE,Nat.reduceAdd,qQ,Wf,g16];have hlen:(xs++[(⟨op,r,m,sub,cd,l,k⟩:zC)]).length<=1000:=by rw[aao];show xs.length+1<=_;omega
  have gq:=dw (bZ hlen (s10.p 1));rw[Yr]at gq;refine aq (by simp only[yi];rfl) gq ?_;unfold nH;cases hg:Zl (U9 cv1 fv1 (xs++[(⟨op,r,m,sub,cd,l,k⟩:zC)])) with
  |false=>
   simp only[EE];rfl
  |true=>
   simp only[EE,Nat.reduceAdd,qQ,Wf,g16];refine mK (by simp only[yi];rfl) (iO (bZ hlen (s10.p 1)) λ_=>BB _ _ _ hlen) ?_;rintro w h11 hv;unfold Lf at hv;rw[aai hg]at hv;obtain⟨cv2,sv2,gv2,rfl,s11⟩:=hv;have s12:=s10.join s11;have cn2:=y9 s12;have cc2:=QF s12;have sn2:=xf (s12.p 1);have sc2:=vq (s12.p 1);have gn2:=xf (s12.p 2);have gc2:=vq (s12.p 2);unfold nG;simp only[EE,Value.cells,VV];refine qc s12 λb17 h13 s13=>?_;simp only[EE,Nat.reduceAdd,VT];refine yf s13 (by simp) (by simp[cc2,sc2,gc2];rfl) λh14 s14=>?_;have s14:Sat lo h14 (pt b17 (.cells (au cv2 sv2 gv2 0 0) 31)::vu cv2 (gh (U9 cv1 fv1 (xs++[(⟨op,r,m,sub,cd,l,k⟩:zC)])))::ZG 3 1 sv2 ((YY (U9 cv1 fv1 (xs++[(⟨op,r,m,sub,cd,l,k⟩:zC)])).funcs).map zV)::ZG 3 1 gv2 (([]:List Int).map zV)::pt b16 (.cells [.slice none 0 0,fv1,.int .i64 0,.int .i64 0] 25)::pgP (U9 cv1 fv1 (xs++[(⟨op,r,m,sub,cd,l,k⟩:zC)]))::YP v xs::pt b6 (.cells (au cv sv gv 0 0) 31)::[]):=s14
   have ebs:gh (U9 cv1 fv1 (xs++[(⟨op,r,m,sub,cd,l,k⟩:zC)]))=(xs.flatMap λx=>ze x 0)++bs:=by
    rw[D2 _ _ _ (λy hy=>by
     rcases aaG.1 hy with q|q
     ·exact hxs y q
     ·rw[aar.1 q];exact nf),List.flatMap_append,<- eb]
    show _++(_++[])=_;rw[aa7]
   have sz:=BB cv1 fv1 (xs++[(⟨op,r,m,sub,cd,l,k⟩:zC)]) hlen;have ez:=mI (vh (U9 cv1 fv1 (xs++[(⟨op,r,m,sub,cd,l,k⟩:zC)])).globals 16777216) (qG (U9 cv1 fv1 (xs++[(⟨op,r,m,sub,cd,l,k⟩:zC)])).funcs 0) (U9 cv1 fv1 (xs++[(⟨op,r,m,sub,cd,l,k⟩:zC)])).funcs 0;rw[<- ez]at sz;have sz:(gh (U9 cv1 fv1 (xs++[(⟨op,r,m,sub,cd,l,k⟩:zC)]))).length<=1000000:=sz;rw[ebs]at s14 sz;generalize (xs.flatMap λx=>ze x 0)=pre at s14 sz;have B2:=yw s14 (aaC _ aak);have B1:=RB.at s14;have ln1:=λr h'=>zX B1 r h';have ln2:=λr h'=>zX B2 r h';have g17:=s14.get;have g6:=(s14.p 7).get;rw[aao]at sz;obtain⟨b,o,c,ea,S4⟩:=Am (n:=pre.length) B2 (by rw[aao];omega);have B4:=S4 h14 B2;rw[List.drop_left]at B4
   have wd:IntKind.wrap .i64 (((pre++bs).length:Int)-(bs.length:Int))=(pre.length:Int):=by
    rw[aao];simp only[IntKind.wrap,IntKind.bits,IntKind.signed];simp;omega
   have ge:((pre++bs).length:Int) ≥ (bs.length:Int):=by rw[aao];omega
   have t1:=Go.Ec.cx B1;have t4:=Go.Ec.cx B4;simp only[EE,zu,aay,jI,zc5,uA,nn,np,nq,nt,nu,nv,nz,nB,nC,nD,nE,nF,g17,g6,cn,cn2,ln1,ln2,ge,wd,ea,t1,t4,acy,aay];rfl
end
section
variable {lo:yT}{h:za}{L:List HP}{x:zC}{av:aaa}{ahead:List zC}
theorem zek(k64:Go.Mem.UW x.k)(A:zE h av 7 (ahead.map zC.row))(aw:∀h',Old h h'->vt Tryz.prog 7 [] h' (.bool true)) :
  DC Tryz.prog 5 [x.val,av] h yes:=by
 apply YZ;intro wf;apply F7;unfold F6;have s0:Sat (.of h) h []:=Sat.self wf.2;have RA:Rd (.of h) (zE · av 7 (ahead.map zC.row)):=Rd.of (yT.jH h) A λh' o=>zE.old A o;have RQ:Rd (.of h) (λh'=>vt Tryz.prog 7 [] h' (.bool true)):=λh' b=>aw h' (by obtain⟨a,c,d⟩:=(yT.jH h).old b;exact⟨a,c,d⟩);have an:zS av=false:=zE.ai A;obtain⟨op,r,m,sub,cd,l,k⟩:=x;simp only[EE,Value.cells];refine qc s0 λb2 h2 s2=>?_;have g2:=s2.get;refine X2 (RQ.at s2) ?_;have la:=λr h'=>vw (RA.at s2) r h';by_cases c0:(ahead.length:Int)>30
 ·simp only[EE,jT,jU,jV,jW,jX,jY,jZ,j0,j1,j2,an,la,c0];rfl
 by_cases o18:op=18
 ·simp only[EE,zu,zg,zc,jT,jU,jV,jW,jX,jY,jZ,j0,j1,j2,g2,an,la,c0,o18];rfl
 by_cases o19:op=19
 ·simp only[EE,Int.reduceEq,zu,zg,zc,jT,jU,jV,jW,jX,jY,jZ,j0,j1,j2,g2,an,la,c0,o19];rfl
 by_cases o21:op=21
 ·simp only[EE,Int.reduceEq,zu,zg,zc,jT,jU,jV,jW,jX,jY,jZ,j0,j1,j2,g2,an,la,c0,o21];rfl
 by_cases o6:op=6
 ·simp only[EE,Int.reduceEq,zu,zg,zc,jT,jU,jV,jW,jX,jY,jZ,j0,j1,j2,g2,an,la,c0,o6];rfl
 by_cases o20:op=20
 ·simp only[EE,Int.reduceEq,zu,zg,zc,jT,jU,jV,jW,jX,jY,jZ,j0,j1,j2,g2,an,la,c0,o20];rfl
 simp only[EE,nth,zu,zg,zc,jT,jU,jV,jW,jX,jY,jZ,j0,j1,j2,g2,an,la,c0,o18,o19,o21,o6,o20];unfold nY
 have e2:zf Tryz.prog 42 (rp b2) h2=some (zC.val ⟨op,r,m,sub,cd,l,k⟩):=by
  simp only[EE,Nat.reduceAdd,qQ,wK,g2]
 have s3:=On s2 [⟨op,r,m,sub,cd,l,k⟩] 3 (by decide);have s3:Sat (.of h) (h2.push (.cells [.int .i64 op,.int .i64 r,.int .i64 m,.int .i64 sub,.int .i64 cd,.int .i64 l,.int .i64 k] 42)) (YP (.slice (some ⟨h2.next,0,none⟩) 1 3) [⟨op,r,m,sub,cd,l,k⟩]::pt b2 (.cells (zC.row ⟨op,r,m,sub,cd,l,k⟩) 42)::[]):=s3;simp only[EE,Value.cells,zcJ,NI,Dv,Dz,xN,e2];have s4:=T5 (c:=3) (by decide) (s3.push (.cells [.string ⟨#[102]⟩,.slice (some ⟨h2.next,0,none⟩) 1 3] 50));refine qc s4 λb5 h5 s5=>?_;simp only[EE,Nat.reduceAdd,zcI];refine yf s5 (by simp) rfl λh6 s6=>?_;obtain⟨cv1,fv1,fn1,s6⟩:∃cv fv,zS fv=false/\Sat (.of h) h6 (pt b5 (.cells [.slice none 0 0,fv,.int .i64 0,.int .i64 0] 25)::pgP (U9 cv fv [⟨op,r,m,sub,cd,l,k⟩])::pt b2 (.cells (zC.row ⟨op,r,m,sub,cd,l,k⟩) 42)::[]):=⟨_,_,rfl,s6⟩;have g5:=s6.get;simp only[EE,Nat.reduceAdd,qQ,Wf,g5];refine mK (by simp only[yi];rfl) (cB (iO (bZ (by simp) (s6.p 1)) λ_=>BB _ _ _ (by simp))) ?_;rintro v h7 ⟨hv,w7⟩;unfold Lf at hv;cases hg:Zl (U9 cv1 fv1 [⟨op,r,m,sub,cd,l,k⟩]) with
 |false=>
  rw[aaf (by rw[hg];decide)]at hv;obtain⟨rfl,s7⟩:=hv;have s8:=s6.join s7;unfold aG;simp only[EE,Value.cells,VV];refine qc s8 λb6 h9 s9=>?_;simp only[EE,Nat.reduceAdd,VT];refine yf s9 (by simp) rfl λh10 s10=>?_;have g5:=(s10.p 1).get;simp only[EE,Nat.reduceAdd,qQ,Wf,g5];have gq:=dw (bZ (by simp) (s10.p 2));rw[Yr,hg]at gq;refine aq (by simp only[yi];rfl) gq ?_;simp only[EE,Int.reduceEq,aF];rfl
 |true=>
  rw[aai hg]at hv;obtain⟨cv,sv,gv,rfl,s7⟩:=hv;have s8:=s6.join s7;have cn:=y9 s8;have cc:=QF s8;have sn:=xf (s8.p 1);have sc:=vq (s8.p 1);have gn:=xf (s8.p 2);have gc:=vq (s8.p 2)
  have hb:gh (U9 cv1 fv1 [⟨op,r,m,sub,cd,l,k⟩])=ze ⟨op,r,m,sub,cd,l,k⟩ 0:=by
   rw[D2 _ _ _ (λx hx=>by rw[aar.1 hx];rintro(q|q|q|q);exact o18 q;exact o19 q;exact o21 q;exact o6 q)];show _++[]=_;rw[aa7]
  obtain⟨y,yo,yd,yl⟩:=zap (st:=[0]) (gl:=[]) (P9 hg _ (aar.2 rfl)) k64 (by rintro(q|q|q|q);exact o18 q;exact o19 q;exact o21 q;exact o6 q) o20;have hl:=size_le ⟨op,r,m,sub,cd,l,k⟩;unfold qJ at hl;have hbb:=pT ⟨op,r,m,sub,cd,l,k⟩ 0;rw[hb]at s8;generalize eb:ze ⟨op,r,m,sub,cd,l,k⟩ 0=bs at s8 yd yl hl hbb;have s7':Sat (.of h7) h7 []:=Sat.self w7.2;have B7:y4 h7 cv bs:=yw s8 aak;have N7:zK h7 sv [0]:=I3 s8 (aaC _ aak);have G7:zK h7 gv []:=I3 s8 (aaC _ (aaC _ aak));have I:RN (.of h7) cv sv gv bs [0] []:=⟨Rd.of (yT.jH h7) B7 λh' o=>zE.old B7 o,Rd.of (yT.jH h7) N7 λh' o=>N7.old o,Rd.of (yT.jH h7) G7 λh' o=>G7.old o,cn,sn,gn,cc,sc,gc,by omega,by decide,by decide,λg hg=>by cases hg⟩;have P7:=bZ (by simp) (s8.p 4);have RP:Rd (.of h7) (kR · (U9 cv1 fv1 [⟨op,r,m,sub,cd,l,k⟩])):=Rd.of (yT.jH h7) P7 λh' o=>P7.old o;have R5:=zag (s8.p 3).get (s8.p 3).lt;have R2:=zag (s8.p 5).get (s8.p 5).lt;have A7:=RA.at s8;have RA7:Rd (.of h7) (zE · av 7 (ahead.map zC.row)):=Rd.of (yT.jH h7) A7 λh' o=>zE.old A7 o;unfold aG;simp only[EE,Value.cells,VV];refine qc s7' λb6 h9 s9=>?_;simp only[EE,Nat.reduceAdd,VT];refine yf s9 (by simp) (by simp[cc,sc,gc];rfl) λh10 s10=>?_;have s10:Sat (.of h7) h10 [pt b6 (.cells (au cv sv gv 0 0) 31)]:=s10;have g5:=(R5.at s10).1;have g6:=s10.get;simp only[EE,Nat.reduceAdd,qQ,Wf,g5];have gq:=dw (RP.at s10);rw[Yr,hg]at gq;refine aq (by simp only[yi];rfl) gq ?_;have lb:=λr h'=>zX (I.rc.at s10) r h';have l0:¬(bs.length:Int)=0:=by omega
  have e6:zf Tryz.prog 31 (rp b6) h10=some (zbs cv sv gv 0 0):=by
   simp only[EE,Nat.reduceAdd,qQ,UF,g6]
  simp only[EE,zu,jI,uA,nU,nV,nW,nX,aF,g6,e6,cn,lb,l0];refine mK (by simp only[yi];rfl) (Td (i:=0) I hbb s10) ?_;rintro v h11 ⟨rfl,s11⟩
  have ev:zbb bs [0] [] 0=.tuple #[y.val,.int .i64 bs.length,.int .i64 0]:=by
   unfold zbb;rw[aai ⟨by decide,by omega⟩];have:Cj [0] [] bs.length (bs.drop (Int.toNat 0)) (Int.toNat 0)=some (y,bs.length):=yd;rw[this];rfl
  rw[ev];obtain⟨yop,yr,ym,ysub,ycc,yl',yk⟩:=y;have yo:yop=op:=yo;subst yo;have g2:=(R2.at s11).1;unfold nT;simp only[EE,Value.cells,uw,LM,LN,LO];refine qc s11 λb8 h12 s12=>?_;simp only[EE,Nat.reduceAdd,yI];refine yf s12 (by simp) rfl λh13 s13=>?_;have g2:=(R2.at s13).1;simp only[EE,Value.cells,Nat.reduceAdd,qQ,wK,uw,g2];refine qc s13 λb11 h14 s14=>?_;simp only[EE,Nat.reduceAdd,yI];refine yf s14 (by simp) rfl λh15 s15=>?_;have s15:Sat (.of h7) h15 [pt b11 (.cells (zC.row ⟨yop,r,m,sub,cd,l,k⟩) 42),pt b8 (.cells (zC.row ⟨yop,yr,ym,ysub,ycc,yl',yk⟩) 42),pt b6 (.cells (au cv sv gv 0 0) 31)]:=s15;have g6:=(s15.p 2).get;simp only[EE,zu,ua,jI,uA,ji,iR,g6];have Rn:aD (.of h15) cv bs:=⟨Rd.of (yT.jH h15) (I.rc.at s15) λh' o=>zE.old (I.rc.at s15) o,cn,by omega,hbb⟩;have Gl:GlR (.of h15) sv gv [0] []:=⟨Rd.of (yT.jH h15) (I.rs.at s15) λh' o=>(I.rs.at s15).old o,Rd.of (yT.jH h15) (I.rg.at s15) λh' o=>(I.rg.at s15).old o,sn,gn,by decide,by decide,λg hg=>by cases hg⟩;refine mK (by simp only[yi,cn,sn,gn,aaw];rfl) (PE (p:=0) Rn Gl yl) ?_;rintro v h16 ⟨rfl,s16⟩;have ed:PF [0] [] bs.length (bs.drop 0) 0=some (⟨yop,yr,ym,ysub,ycc,yl',yk⟩,bs.length):=(zdO (st:=[0]) (gl:=[]) hbb bs.length 0).trans yd;rw[ed];have er:zbv (some (⟨yop,yr,ym,ysub,ycc,yl',yk⟩,bs.length))=.tuple #[zC.val ⟨yop,yr,ym,ysub,ycc,yl',yk⟩,.int .i64 bs.length]:=rfl;rw[er];have s17:=s15.join s16;unfold nS;simp only[EE,Value.cells,uw];refine qc s17 λb12 h18 s18=>?_;simp only[EE,Nat.reduceAdd,yI];refine yf s18 (by simp) rfl λh19 s19=>?_;have s19:Sat (.of h7) h19 [pt b12 (.cells (zC.row ⟨yop,yr,ym,ysub,ycc,yl',yk⟩) 42),pt b11 (.cells (zC.row ⟨yop,r,m,sub,cd,l,k⟩) 42),pt b8 (.cells (zC.row ⟨yop,yr,ym,ysub,ycc,yl',yk⟩) 42),pt b6 (.cells (au cv sv gv 0 0) 31)]:=s19;have g12:=s19.get;have g11:=(s19.p 1).get;have g8:=(s19.p 2).get;have g6:=(s19.p 3).get;have lb:=λr h'=>zX (I.rc.at s19) r h';have e0:∀z:Int,(!decide (z=z))=false:=λz=>by simp
  simp only[EE,nth,Nat.reduceAdd,qQ,zu,aay,jI,zg,wK,uA,zc,zei,nK,nL,nM,nN,nO,nP,nQ,nR,g12,g11,g8,g6,cn,lb,aay,acy];exact zeg RA7 R2 I.rc cn (λhf=>by rcases hf with q|q|q|q;exact o18 q;exact o19 q;exact o21 q;exact o6 q) o20 eb yl hl (by omega) (by have:=s19.drop.drop.drop;exact this)
end
end Go.Ef
namespace Go.As
open Go.Ai Go.Proofs
open Go.Rtl (zK zE Old)
theorem absH_lt(w:World)(b:Nat)(o:vr)(h:(absH pu w).get b=some o):b<(absH pu w).next:=(IN pu w).ar b o h
theorem c2:Tryz.prog.cellsOf 2=1:=by kernel_rfl
theorem c3:Tryz.prog.cellsOf 3=1:=by kernel_rfl
theorem c50:Tryz.prog.cellsOf 42=7:=by kernel_rfl
theorem y2:Tryz.prog.bytesOf 2=8:=by kernel_rfl
theorem y3:Tryz.prog.bytesOf 3=8:=by kernel_rfl
theorem y50:Tryz.prog.bytesOf 42=56:=by kernel_rfl
theorem IL:reachBytes=140737488351232:=rfl
theorem Om{α:Type}{n:Nat}{Q:Nat->α->Prop}(h:∀i,i<n->∃z,Q i z):∃l:List α,l.length=n /\ ∀i z,l[i]? = some z->Q i z:=by
 obtain⟨f,hf⟩:=Classical.axiomOfChoice (r:=λ(i:Fin n) z=>Q i.1 z) λi=>h i.1 i.2;refine⟨List.ofFn f,by simp,λi z hz=>?_⟩;rw[List.getElem?_ofFn]at hz;split at hz
 ·rename_i hi;simp only[aab]at hz;subst hz;exact hf ⟨i,hi⟩
 ·cases hz
section
variable {h:za}(hw:∀b o,h.get b=some o->b<h.next)
include hw
omit hw in
theorem zah{cs:List aaa}(r:BX pu h 42 cs):∃x:zC,cs=x.row/\True:=by
 obtain⟨hl,hf⟩:=Ea Tryz.underlying42 r;rw[c50]at hl
 match cs,hl with
 |[a0,a1,a2,a3,a4,a5,a6],_=>
  have f0:BX pu h 3 (([a0,a1,a2,a3,a4,a5,a6].drop 0).take (Tryz.prog.cellsOf 3)):=hf _ (abB (i:=0) rfl);have f1:BX pu h 3 (([a0,a1,a2,a3,a4,a5,a6].drop 1).take (Tryz.prog.cellsOf 3)):=hf _ (abB (i:=1) rfl);have f2:BX pu h 3 (([a0,a1,a2,a3,a4,a5,a6].drop 2).take (Tryz.prog.cellsOf 3)):=hf _ (abB (i:=2) rfl);have f3:BX pu h 3 (([a0,a1,a2,a3,a4,a5,a6].drop 3).take (Tryz.prog.cellsOf 3)):=hf _ (abB (i:=3) rfl);have f4:BX pu h 3 (([a0,a1,a2,a3,a4,a5,a6].drop 4).take (Tryz.prog.cellsOf 3)):=hf _ (abB (i:=4) rfl);have f5:BX pu h 3 (([a0,a1,a2,a3,a4,a5,a6].drop 5).take (Tryz.prog.cellsOf 3)):=hf _ (abB (i:=5) rfl);have f6:BX pu h 2 (([a0,a1,a2,a3,a4,a5,a6].drop 6).take (Tryz.prog.cellsOf 2)):=hf _ (abB (i:=6) rfl);simp only[c2,c3,abT,List.drop_succ_cons,List.take_succ_cons,List.take_zero]at f0 f1 f2 f3 f4 f5 f6;obtain⟨z0,e0,_⟩:=ct Tryz.underlying3 f0;obtain⟨z1,e1,_⟩:=ct Tryz.underlying3 f1;obtain⟨z2,e2,_⟩:=ct Tryz.underlying3 f2;obtain⟨z3,e3,_⟩:=ct Tryz.underlying3 f3;obtain⟨z4,e4,_⟩:=ct Tryz.underlying3 f4;obtain⟨z5,e5,_⟩:=ct Tryz.underlying3 f5;obtain⟨z6,e6,_⟩:=ct Tryz.underlying2 f6;simp only[abr,and_true]at e0 e1 e2 e3 e4 e5 e6;subst e0 e1 e2 e3 e4 e5 e6;exact⟨⟨z0,z1,z2,z3,z4,z5,z6⟩,rfl,trivial⟩
theorem OG{α:Type}{row:α->List aaa}{ok:α->Prop}{ts te:TypeId}{n bz:Nat}(hu:Tryz.prog.underlying ts=some (.slice te))(hs:Tryz.prog.cellsOf te=n)(hb:Tryz.prog.bytesOf te=bz)(h0n:0<n)(h8:8<=bz)
  (hrow:∀cs,BX pu h te cs->∃x,cs=row x/\ok x) {a:aaa} (r:BX pu h ts [a]):∃l:List α,zE h a n (l.map row)/\l.length*bz<=140737488351232 /\ ∀x,x∈l->ok x:=by
 rcases zaw hu hs hb h0n r with e|⟨b,off,len,e,hl,hc⟩
 ·simp only[abr,and_true]at e;exact⟨[],.inl ⟨e,rfl⟩,by simp,λx hx=>by cases hx⟩
 ·simp only[abr,and_true]at e;subst e;rw[IL]at hl;by_cases h0:0<len
  ·obtain⟨c,t,hg,hat⟩:=hc h0
   obtain⟨l,e1,e2⟩:=Om (n:=len) (Q:=λi x=>off+i*n+n<=c.length/\(c.drop (off+i*n)).take n=row x/\ok x) λi hi=>by
    obtain⟨h1,h2⟩:=hat i hi;obtain⟨x,hx,hok⟩:=hrow _ h2;exact⟨x,h1,hx,hok⟩
   refine⟨l,.inr ⟨b,off,0,by rw[aau,e1],λ_=>⟨c,t,hw b _ hg,hg,λi r hr=>?_⟩⟩,?_,λx hx=>?_⟩
   ·rw[aaH]at hr;cases hx:l[i]? with
    |none=>rw[hx]at hr;cases hr
    |some x=>
     rw[hx]at hr;simp only[abw,aab]at hr;subst hr;exact⟨(e2 i x hx).1,(e2 i x hx).2.1⟩
   ·rw[e1];exact hl
   ·obtain⟨k,hk,rfl⟩:=List.getElem_of_mem hx;exact(e2 k _ (aag hk)).2.2
  ·have:len=0:=by omega
   subst this;exact⟨[],.inr ⟨b,off,0,rfl,λq=>absurd rfl q⟩,by simp,λx hx=>by cases hx⟩
end
end Go.As
namespace Go.Ef
open Go.Ai Go.Proofs
open Go.Rtl (zK zE Old)
open Go.As (zC Pg kR absH_lt Om IL c2 c50 y50 zah OG)
open Go.Ee (yes)
open Go.En
theorem zfP{z:Int}(h:(Lit.int .i64 z).wf=true):Go.Mem.UW z:=by
 have : -9223372036854775808<=z/\z<=9223372036854775807:=by simpa [Lit.wf,IntKind.min,IntKind.max,IntKind.signed,IntKind.bits] using h
 unfold Go.Mem.UW;omega
theorem rd_ins64{h:za}{cs:List aaa}(r:BX Tryz.prog h 42 cs):∃x:zC,cs=x.row/\Go.Mem.UW x.k:=by
 obtain⟨x,e,_⟩:=zah r;refine⟨x,e,?_⟩;obtain⟨hl,hf⟩:=Ea Tryz.underlying42 r;have f6:=hf _ (abB (i:=6) rfl);rw[e]at f6;have f6:BX Tryz.prog h 2 ((x.row.drop 6).take (Tryz.prog.cellsOf 2)):=f6;rw[c2]at f6;obtain⟨z,ez,kz⟩:=ct Tryz.underlying2 f6
 have:x.k=z:=by
  have ez:[Value.int .i64 x.k]=[.int .i64 z]:=ez;simpa using ez
 rw[this];exact zfP kz
theorem rd_code{h:za}(hw:∀b o,h.get b=some o->b<h.next){a:aaa}(r:BX Tryz.prog h 48 [a]):∃l:List zC,zE h a 7 (l.map zC.row):=by
 obtain⟨code,C,hc,hi⟩:=OG hw Tryz.underlying48 c50 y50 (by decide) (by decide) (λcs r=>rd_ins64 r) r;exact⟨code,C⟩
theorem one_law{h:za}{x:zC}{av:aaa}{ahead:List zC}(k64:Go.Mem.UW x.k)(A:zE h av 7 (ahead.map zC.row)):DC Tryz.prog 5 [x.val,av] h yes:=zek k64 A λh' e=>Go.Ec.za4 h'
end Go.Ef
