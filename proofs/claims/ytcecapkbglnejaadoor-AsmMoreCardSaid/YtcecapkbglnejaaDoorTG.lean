/- A part of the proof. -/
import Derived.Test.YtcecapkbglnejaaDoorTF
import Derived.Test.YtcecapkbglnejaaDoorTD
set_option linter.unusedVariables false
set_option linter.unusedSimpArgs false
set_option maxRecDepth 100000
namespace Go.Mem
open Go.Ai Go.Proofs
theorem GQ (h:za):DC Tryd.prog 42 [] h (fun v h1=>v = .pointer (some ⟨h.next,0,none⟩)/\f9 h1 h.next [] (fun b=>b=h.next)/\qY iz h h1):=by
 apply Zq;intro hwf;have hro:=hwf.2
 apply Bo
 unfold E9
 simp -implicitDefEqProofs only [zq,zC,zM,vN,xo,yx,nw,Value.cells,M1,Oq,D0]
 refine ⟨⟨_,[],fun _ _=>False,⟨z7,rfl,rfl,.inl ⟨rfl,rfl⟩,fun _ e=>e,fun i p B hp=>by simp at hp,fun i j b e=>e.elim,fun i b e=>e.elim,fun b hb => ?_⟩⟩,(qY.refl _ _).push _⟩
 subst hb
 simp only [vr,yd];omega
theorem oV (c n:Nat):uS c n ≠ 0:=by
 unfold uS
 split
 ·cases Nat.ble n _ <;> simp
 ·simp
theorem sD (M:MM):live M<=M.length:=List.length_filter_le _ _
theorem CV (M:MM) (B:MB) (hf:B.uX=false):live (M ++ [B])=live M + 1:=by simp [live,hf]
def fresh (n:Int):MB:=⟨n.toNat,false,fun _=>KK⟩
def xJ (M:MM) (n:Int):MM × Int × Int:=if n < 0\/65536 < n then (M,0,1) else if 100000<=M.length then (M,0,2) else (M ++ [fresh n],M.length + 1,0)
def U4 (h:za) (m:Nat) (M:MM) (F:Nat->Prop) (n:Int) (r:Value) (h1:za):Prop:=r = .tuple #[.int .i64 (xJ M n).2.1,.int .i64 (xJ M n).2.2]/\iT h m (xJ M n).1 F h1
section
variable {h:za} {m:Nat} {bs:Value} {ps:List Nat} {fs:Nat->Nat->Prop} {M:MM} {F:Nat->Prop}
theorem Zi.grow (x:Zi h m bs ps fs M F) {h1:za} {B:MB} {p q c:Nat} (hf:B.uX=false) (Za:qY F h h1) (hp:h.next<=p/\p < h1.next) (hq:h.next<=q/\q < h1.next) (hpq:p ≠ q) (hro:h.ro<=h.next)
  (e1:h1.get m=some (.cells [.slice (some ⟨q,0,none⟩) (M.length + 1) c,.int .i64 (live M + 1:Nat)] 119)) (hc:c ≠ 0) (e2:h1.get q=some (.cells ((ps.map fun p => .pointer (some ⟨p,0,none⟩)) ++ [.pointer (some ⟨p,0,none⟩)]) 123))
  (e3:h1.get p=some (.cells [.int .i64 B.size,.slice none 0 0,.bool B.uX] 126)) (e4:∀ b,F b->b ≠ m->(∀ c,bs ≠ .slice (some ⟨b,0,none⟩) M.length c)->h1.get b=h.get b) (hu:∀ k,B.byte k=KK) :
  Zi h1 m (.slice (some ⟨q,0,none⟩) (M.length + 1) c) (ps ++ [p]) (fun i b=>if i=M.length then b=p else fs i b) (M ++ [B]) (fun b=>F b\/b=p\/b=q):=by
 have hnew:∀ b,h.next<=b->F b->False:=fun b hl hb=>by have:=(x.ok b hb).2;omega
 have hlp:=x.len
 refine ⟨by rw [CV M B hf];exact e1,.inl x.fm,by simp [x.len],?_,?_,?_,?_,?_,?_⟩
 ·refine .inr ⟨q,c,by simp,hc,.inr (.inr rfl),by rw [e2];simp,fun i hi => ?_⟩
  split at hi
  ·exact hpq hi.symm
  ·exact hnew q hq.1 (x.sub i q hi)
 ·intro i hi
  split at hi
  ·subst hi;exact hnew m hp.1 x.fm
  ·exact x.nm i hi
 ·intro i p' B' hp' hB'
  by_cases e:i=M.length
  ·subst e
   rw [<- hlp] at hp'
   rw [NM (MI _),Nat.sub_self] at hp' hB'
   simp at hp' hB'
   subst hp' hB'
   simp only [MA]
   exact ⟨_,e3,rfl,.empty rfl hu⟩
  ·have hlt:i < M.length:=by
    rcases MX i M.length with a | a
    ·exact a
    ·rw [MO (by simp;omega)] at hB';cases hB'
   rw [NC (by omega)] at hp' hB'
   simp only [MJ e]
   refine (x.jU i p' B' hp' hB').zI (fun b hb=>e4 b (x.sub i b hb) (fun q => ?_) (fun c q => ?_))
   ·subst q;exact x.nm i hb
   ·rcases x.hb with ⟨rfl,_⟩ | ⟨bb,c',r,_,_,_,r5⟩
    ·cases hlt
    ·rw [r] at q;cases q;exact r5 i hb
 ·intro i j b hi hj
  split at hi <;> split at hj
  ·rename_i a1 a2;rw [a1,a2]
  ·exact (hnew b (by rw [hi];exact hp.1) (x.sub j b hj)).elim
  ·exact (hnew b (by rw [hj];exact hp.1) (x.sub i b hi)).elim
  ·exact x.Bd i j b hi hj
 ·intro i b hi
  split at hi
  ·exact .inr (.inl hi)
  ·exact .inl (x.sub i b hi)
 ·intro b hb
  have n1:=Za.next
  have n2:=Za.ro
  rcases hb with hb | hb | hb
  ·have:=x.ok b hb;omega
  ·omega
  ·omega
theorem B7 (x:Zi h m bs ps fs M F) (n:Int) :
  DC Tryd.prog 44 [.pointer (some ⟨m,0,none⟩),.int .i64 n] h (U4 h m M F n):=by
 apply Zq;intro hwf;have hro:=hwf.2
 apply nS
 unfold rM
 have hm0:iT h m M F h:=⟨F,⟨bs,ps,fs,x⟩,.refl _ _,fun b hb => .inl hb⟩
 have hbad:n < 0\/65536 < n->U4 h m M F n (.tuple #[.int .i64 0,.int .i64 1]) h:=fun e=>by
  unfold U4 xJ;rw [MK e];exact ⟨rfl,hm0⟩
 by_cases h1:n < 0
 ·simp -implicitDefEqProofs only [zq,yF,zC,zM,yy,Yf,xj,xR,wY,vy,zB,zK,xo,yx,nw,Value.cells,BK,M1,MT,wL,yd,zL,Zl,zu,Wc,ZX,qi,Z1,h1]
  exact hbad (.inl h1)
 by_cases h2:65536 < n
 ·simp -implicitDefEqProofs only [zq,yF,zC,zM,yy,vW,ye,xR,wY,vy,Zr,zB,zK,xo,yx,nw,Value.cells,BK,M1,MT,wL,wg,yd,zL,MP,Zl,zu,Wc,ZX,qi,Z1,h1,h2]
  exact hbad (.inr h2)
 have hm:=x.hm
 have hln:∀ n c,zo Tryd.prog .len [117] 3 [.slice n M.length c] h=some (.int .i64 M.length,h):=fun _ _=>by simp only [Yy]
 by_cases h3:100000<=(M.length:Int)
 ·have:U4 h m M F n (.tuple #[.int .i64 0,.int .i64 2]) h:=by
   unfold U4 xJ;rw [MJ (by omega),MK (by omega)];exact ⟨rfl,hm0⟩
  rcases x.hb with ⟨e1,rfl⟩ | ⟨bb,c,rfl,hc,fb,hbb,_⟩
  ·rw [e1] at h3;simp at h3
  ·simp -implicitDefEqProofs only [zq,yF,zC,zM,yy,zS,vW,ye,xR,wY,vy,Zr,fy,zB,zK,xo,z8,yx,nw,Value.cells,BK,MD,M1,MT,wL,wg,yd,zL,MP,Zl,zu,Wc,ZX,qi,Z1,Yy,h1,h2,hm,h3]
   exact this
 have hal:xJ M n=(M ++ [fresh n],(M.length:Int) + 1,0):=by unfold xJ;rw [MJ (by omega),MJ (by omega)]
 have okm:=x.ok m x.fm
 have hl:=sD M
 have hmn:¬ m=h.next:=by omega
 have hmn1:¬ m=h.next + 1:=by omega
 have hmn2:¬ m=h.next + 1 + 1:=by omega
 have hw1:IntKind.wrap .i64 ((live M:Int) + 1)=((live M + 1:Nat):Int):=by rw [kC (by omega) (by omega)];omega
 have hn0:((n.toNat:Nat):Int)=n:=by omega
 have hmn2':¬ h.next + 1 + 1=m:=by omega
 have hmn':¬ h.next=m:=by omega
 have hm2:m < h.next + 1 + 1:=by omega
 have hm3:m < h.next + 1 + 1 + 1:=by omega
 have hnb:∀ p v e,(h.push (.cells v e)).push (.cells [.pointer (some ⟨h.next,0,none⟩)] 123)=p->wW p 1 1 (.slice (some ⟨h.next + 1,0,none⟩) 1 3)=some [.pointer (some ⟨h.next,0,none⟩)]:=fun p v e hp=>by
  subst hp
  have:(((h.push (.cells v e)).push (.cells [.pointer (some ⟨h.next,0,none⟩)] 123)).get (h.next + 1))=some (.cells [.pointer (some ⟨h.next,0,none⟩)] 123):=zE rfl
  simp only [wW,this]
  rfl
 have hap:=fun v h' hh=>F5 117 v (.slice (some ⟨h.next + 1,0,none⟩) 1 3) 1 [.pointer (some ⟨h.next,0,none⟩)] h' rfl (hnb h' [.int .i64 n,.slice none 0 0,.bool false] 126 hh) rfl rfl
 unfold U4
 rw [hal]
 rcases x.hb with ⟨rfl,rfl⟩ | ⟨bb,c,rfl,hc,fb,hbb,hfb⟩
 ·have hps:ps = []:=Oh.1 x.len
  have h30:¬ (100000:Int)<=((0:Nat):Int):=by decide
  have hle:h.ro<=m:=okm.1
  have hw0:IntKind.wrap .i64 ((live []:Int) + 1)=((live [] + 1:Nat):Int):=rfl
  simp -implicitDefEqProofs only [zq,yF,zC,zM,zS,vW,ye,xR,wY,vy,Zr,fy,qV,zB,zK,xo,z8,yx,vV,YX,nth,nw,Value.cells,BK,MD,MH,M1,MT,MY,M0,Nx,NO,ze,Nw,Nq,MA,MS,ND,Nat.reduceAdd,Nat.reduceLeDiff,Nat.reduceMul,Nat.reduceEqDiff,NB,MI,wg,yd,vr,W1,zO,zZ,QT,xU,zL,MP,Zl,zu,Ce,ZV,Wc,ZX,qi,Z1,Yy,h1,h2,h30,hm,hap,Xv,Nat.reducePow,okm,hm2,hw0,M0]
  refine ⟨rfl,_,⟨_,_,_,x.grow (p:=h.next) (q:=h.next + 1 + 1) (B:=fresh n) rfl (((((((qY.refl F h).push _).push _).push _).set (.inl x.fm) _).set (.inl x.fm) _)) ?_ ?_ (by omega) hro zZ (by simp) ?_ ?_ ?_ (fun _=>rfl)⟩,(((((((qY.refl F h).push _).push _).push _).set (.inl x.fm) _).set (.inl x.fm) _)),fun b hb => ?_⟩
  ·simp only [vM,yd];omega
  ·simp only [vM,yd];omega
  ·rw [zN hmn2',zN hmn2',zE (by simp only [yd])];rw [hps];rfl
  ·rw [zN hmn',zN hmn',zO (by simp only [yd];omega)]
   rw [zO (by simp only [yd];omega),z7]
   show some (xS.cells [.int .i64 n,_,_] 126)=some (xS.cells [.int .i64 ((n.toNat:Nat):Int),_,_] 126)
   rw [hn0]
   rfl
  ·intro b hb hbm1 hbb1
   have hlt:=(x.ok b hb).2
   rw [zN hbm1,zN hbm1,zO (by simp only [yd];omega)]
   rw [zO (by simp only [yd];omega),zO hlt]
  ·rcases hb with hb | hb | hb
   ·exact .inl hb
   ·exact .inr (by omega)
   ·exact .inr (by omega)
 ·have okb:=x.ok bb fb
  have hroom:roomFor c (M.length + 1) 8=true:=by
   unfold roomFor
   cases Nat.beq c 2 <;> simp only [MV,M7,Ow] <;> omega
  have hlp:M.length<=ps.length:=by rw [x.len];omega
  have hbm:¬ bb=m:=by intro e;subst e;rw [hbb] at hm;simp at hm
  have hmb:¬ m=bb:=fun e=>hbm e.symm
  have hb0:¬ bb=h.next:=by omega
  have hb2:¬ bb=h.next + 1 + 1:=by omega
  have hz:List.take M.length (List.map (fun p=>Value.pointer (some ⟨p,0,none⟩)) ps)=List.map (fun p=>Value.pointer (some ⟨p,0,none⟩)) ps:=List.take_of_length_le (by simp [x.len])
  simp -implicitDefEqProofs only [zq,yF,zC,zM,zS,vW,ye,xR,wY,vy,Zr,fy,qV,zB,zK,xo,z8,yx,vV,YX,nth,nw,Value.cells,BK,MD,MH,M1,MT,MY,M0,Nf,Nx,NO,ze,Nw,Nq,NP,MA,MS,ND,Nat.reduceAdd,Nat.reduceLeDiff,Nat.reduceMod,Nat.reduceEqDiff,NB,MI,wg,yd,vM,vr,W1,zO,zZ,zN,ne_eq,QT,xU,zL,MP,Zl,zu,Ce,ZV,Wc,ZX,qi,Z1,Yy,h1,h2,h3,hm,hap,Xv,okb,okm,hbb,hroom,hlp,N4,hc,hmb,hm2,hz,hw1]
  refine ⟨rfl,_,⟨_,_,_,x.grow (p:=h.next) (q:=h.next + 1 + 1) (B:=fresh n) rfl (((((((qY.refl F h).push _).push _).set (.inl fb) _).push _).set (.inl x.fm) _).set (.inl x.fm) _) ?_ ?_ (by omega) hro zZ (oV _ _) ?_ ?_ ?_ (fun _=>rfl)⟩,(((((((qY.refl F h).push _).push _).set (.inl fb) _).push _).set (.inl x.fm) _).set (.inl x.fm) _),fun b hb => ?_⟩
  ·simp only [vM,yd];omega
  ·simp only [vM,yd];omega
  ·rw [zN hmn2',zN hmn2',zE (by simp only [vM,yd])]
  ·have:¬ h.next=bb:=fun e=>hb0 e.symm
   rw [zN hmn',zN hmn',zO (by simp only [vM,yd];omega)]
   rw [zN this]
   rw [zO (by simp only [yd];omega),z7]
   show some (xS.cells [.int .i64 n,_,_] 126)=some (xS.cells [.int .i64 ((n.toNat:Nat):Int),_,_] 126)
   rw [hn0]
   rfl
  ·intro b hb hbm1 hbb1
   have hlt:=(x.ok b hb).2
   rw [zN hbm1,zN hbm1,zO (by simp only [vM,yd];omega)]
   rw [zN (fun e=>hbb1 c (by rw [e]))]
   rw [zO (by simp only [yd];omega),zO hlt]
  ·rcases hb with hb | hb | hb
   ·exact .inl hb
   ·exact .inr (by omega)
   ·exact .inr (by omega)
end
def fw (b n:Int):V:=if b < 1 then v0 else ⟨2,n,b⟩
section
variable {h:za} {m:Nat} {bs:Value} {ps:List Nat} {fs:Nat->Nat->Prop} {M:MM} {F:Nat->Prop}
theorem fI (x:Zi h m bs ps fs M F) {n:Int} {i:Nat} (hi:idx M n=some i):n=i + 1/\i < M.length /\ ∃ q B pg,ps[i]? = some q/\M[i]? = some B/\B.uX=false/\h.get q=some (.cells [.int .i64 B.size,pg,.bool B.uX] 126)/\fs i q/\Zj h pg B (fs i):=by
 obtain ⟨hn,B,hB,hf⟩:=aV hi
 have hlt:i < M.length:=by
  rcases MX i M.length with a | a
  ·exact a
  ·rw [MO a] at hB;cases hB
 obtain ⟨q,hq⟩:∃ q,ps[i]? = some q:=⟨_,MF (by rw [x.len];exact hlt)⟩
 obtain ⟨pg,hbk,fq,hpg⟩:=x.jU i q B hq hB
 exact ⟨hn,hlt,q,B,pg,hq,hB,hf,hbk,fq,hpg⟩
theorem Zi.swap (x:Zi h m bs ps fs M F) {h1:za} {i p bb c:Nat} {B:MB} (hbs:bs = .slice (some ⟨bb,0,none⟩) M.length c) (hi:i < M.length) (Za:qY F h h1) (hp:h.next<=p/\p < h1.next)
  (e1:h1.get m=some (.cells [bs,.int .i64 (live (M.set i B))] 119)) (e2:h1.get bb=some (.cells ((ps.set i p).map fun p => .pointer (some ⟨p,0,none⟩)) 123))
  (e3:h1.get p=some (.cells [.int .i64 B.size,.slice none 0 0,.bool B.uX] 126)) (hu:∀ k,B.byte k=KK) (e4:∀ b,F b->b ≠ m->b ≠ bb->h1.get b=h.get b) :
  Zi h1 m bs (ps.set i p) (fun k b=>if k=i then b=p else fs k b) (M.set i B) (fun b=>F b\/b=p):=by
 have hnew:∀ b,h.next<=b->F b->False:=fun b hl hb=>by have:=(x.ok b hb).2;omega
 have hlp:=x.len
 have hbb:F bb/\c ≠ 0 /\ ∀ i,¬ fs i bb:=by
  rcases x.hb with ⟨rfl,_⟩ | ⟨bb',c',r,r1,r2,_,r4⟩
  ·cases hi
  ·rw [hbs] at r;cases r;exact ⟨r2,r1,r4⟩
 refine ⟨e1,.inl x.fm,by simp [hlp],?_,?_,?_,?_,?_,?_⟩
 ·refine .inr ⟨bb,c,by rw [hbs,NU],hbb.2.1,.inl hbb.1,e2,fun k hk => ?_⟩
  split at hk
  ·exact hnew bb (by rw [hk];exact hp.1) hbb.1
  ·exact hbb.2.2 k hk
 ·intro k hk
  split at hk
  ·exact hnew m (by rw [hk];exact hp.1) x.fm
  ·exact x.nm k hk
 ·intro k q C hq hC
  by_cases e:k=i
  ·subst e
   rw [NA (by omega)] at hq hC
   cases hq;cases hC
   simp only [MA]
   exact ⟨_,e3,rfl,.empty rfl hu⟩
  ·rw [NS (fun z=>e z.symm)] at hq hC
   simp only [MJ e]
   exact (x.jU k q C hq hC).zI (fun b hb=>e4 b (x.sub k b hb) (fun z=>by subst z;exact x.nm k hb) (fun z=>by subst z;exact hbb.2.2 k hb))
 ·intro a b z ha hz
  split at ha <;> split at hz
  ·rename_i e1 e2;rw [e1,e2]
  ·exact (hnew z (by rw [ha];exact hp.1) (x.sub b z hz)).elim
  ·exact (hnew z (by rw [hz];exact hp.1) (x.sub a z ha)).elim
  ·exact x.Bd a b z ha hz
 ·intro k b hk
  split at hk
  ·exact .inr hk
  ·exact .inl (x.sub k b hk)
 ·intro b hb
  have n1:=Za.next
  have n2:=Za.ro
  have o1:=x.ok m x.fm
  rcases hb with hb | hb
  ·have:=x.ok b hb;omega
  ·omega
theorem AG {M:MM} {i:Nat} {B B':MB} (h:M[i]? = some B) (hf:B.uX=false) (hf':B'.uX=true):live (M.set i B') + 1=live M:=by
 unfold live
 induction M generalizing i with
 | nil=>cases h
 | cons A M ih=>
   cases i with
   | zero=>simp at h;subst h;simp [hf,hf']
   | succ i=>simp at h;simp only [Nq,NW];split <;> simp [<- ih h]
def gone (B:MB):MB:=⟨B.size,true,fun _=>KK⟩
def Y4 (M:MM) (n:Int):Option MM:=(idx M n).bind fun i=>(M[i]?).map fun B=>M.set i (gone B)
def rC (h:za) (m:Nat) (M:MM) (F:Nat->Prop) (n:Int) (r:Value) (h1:za):Prop:=match Y4 M n with
 | none=>r = .bool false/\h1=h
 | some M'=>r = .bool true/\iT h m M' F h1
theorem Eh (x:Zi h m bs ps fs M F) (hL:M.length<=100000) {n:Int} (hn:n < 9223372036854775808):DC Tryd.prog 94 [.pointer (some ⟨m,0,none⟩),.int .i64 n] h (rC h m M F n):=by
 apply Zq;intro hwf;have hro:=hwf.2
 apply tj
 unfold Bm
 refine zW (by kernel_rfl) rfl (sd x.r hn) ?_
 rintro v h1 ⟨rfl,rfl⟩
 cases hi:idx M n with
 | none=>
   simp -implicitDefEqProofs only [zq,zC,zM,yy,xR,vN,j9,zB,zK,xo,Ny,nw,Value.cells,MT,zL,Zl,zu,Ux,qi,Z1,Ny,qd]
   unfold rC Y4
   simp only [hi,Ny,and_self]
 | some i=>
   obtain ⟨hni,hlt,q,B,pg,hq,hB,hf,hbk,fq,_⟩:=fI x hi
   have hfm:Y4 M n=some (M.set i (gone B)):=by unfold Y4;rw [hi];simp [hB]
   rcases x.hb with ⟨rfl,_⟩ | ⟨bb,c,hbs,hc,fb,hbb,nb⟩
   ·cases hlt
   have hm:=x.hm
   have hw:IntKind.wrap .i64 (n - 1)=(i:Int):=by rw [kC (by omega) (by omega)];omega
   have hc1:0<=(i:Int)/\(i:Int) < (M.length:Int):=by omega
   have okm:=x.ok m x.fm
   have okb:=x.ok bb fb
   have hbm:¬ bb=m:=by intro e;subst e;rw [hbb] at hm;simp at hm
   have hmb:¬ m=bb:=fun e=>hbm e.symm
   have hb0:¬ bb=h1.next:=by omega
   have hm0:¬ m=h1.next:=by omega
   have hi1:i + 1<=ps.length:=by rw [x.len];omega
   have hlv:=AG (B':=gone B) hB hf rfl
   have hl:=sD M
   have hll:((live M:Nat):Int) - 1=((live (M.set i (gone B)):Nat):Int):=by omega
   have hlw:IntKind.wrap .i64 (((live M:Nat):Int) - 1)=((live (M.set i (gone B)):Nat):Int):=by rw [hll];exact kC (by omega) (by omega)
   have hset:∀ v:Value,ze (ps.map fun p=>Value.pointer (some ⟨p,0,none⟩)) i [v]=(ps.map fun p=>Value.pointer (some ⟨p,0,none⟩)).set i v:=fun v=>rfl
   rw [hbs] at hm
   simp -implicitDefEqProofs only [zq,zC,zM,zS,xR,vN,j9,zB,zK,xo,yx,vV,WU,Nd,nw,Value.cells,MD,MH,MT,MY,M0,Nf,Nx,NO,ze,Nw,Nq,MA,ND,Nat.reduceAdd,NB,MI,vr,W1,zO,zN,xU,zL,MP,Zl,zu,Ga,ZV,oS,jV,qi,Z1,uq,pE,Nd,qd,hq,hbk,hm,hw,hc1,hbb,M4,N4,okb,okm,hmb,hi1,hlw]
   unfold rC
   rw [hfm]
   have Za:qY F h1 (((h1.push (.cells [.int .i64 B.size,.slice none 0 0,.bool true] 126)).set bb (some (.cells ((ps.map fun p=>Value.pointer (some ⟨p,0,none⟩)).set i (.pointer (some ⟨h1.next,0,none⟩))) 123))).set m
     (some (.cells [.slice (some ⟨bb,0,none⟩) M.length c,.int .i64 (live (M.set i (gone B)))] 119))):=(((qY.refl _ _).push _).set (.inl fb) _).set (.inl x.fm) _
   refine ⟨rfl,_,⟨_,_,_,x.swap (p:=h1.next) (B:=gone B) hbs hlt Za ⟨MI _,?_⟩ ?_ ?_ ?_ (fun _=>rfl) ?_⟩,Za,fun b hb => ?_⟩
   ·simp only [vM,yd];omega
   ·rw [zZ,hbs]
   ·rw [zN hbm,zZ,List.map_set]
   ·have n1:¬ h1.next=m:=fun e=>hm0 e.symm
    have n2:¬ h1.next=bb:=fun e=>hb0 e.symm
    rw [zN n1,zN n2,z7]
    rfl
   ·intro b hb b1 b2
    have:=x.ok b hb
    rw [zN b1,zN b2,zO this.2]
   ·rcases hb with hb | hb
    ·exact .inl hb
    ·exact .inr (by omega)
def zc:Cl:=⟨1,0,v0⟩
def Yd (B:MB) (k:Nat):MB:={ B with byte:=fun a=>if a < k then zc else B.byte a }
theorem ry (B:MB):Yd B 0=B:=by
 unfold Yd
 congr 1
theorem ru (B:MB) (k:Nat):{ Yd B k with byte:=iL (Yd B k).byte k zc } = Yd B (k + 1):=by
 unfold Yd iL
 simp only [MB.mk.injEq,Oq]
 funext a
 by_cases e:a=k
 ·subst e;rw [MK rfl,MK (by omega)]
 ·rw [MJ e]
  by_cases e2:a < k
  ·rw [MK e2,MK (by omega)]
  ·rw [MJ e2,MJ (by omega)]
def Xb (M:MM) (n:Int):Option MM:=(idx M n).bind fun i=>(M[i]?).map fun B=>M.set i (Yd B B.size)
def rY (h:za) (m:Nat) (M:MM) (F:Nat->Prop) (n:Int) (r:Value) (h1:za):Prop:=match Xb M n with
 | none=>r = .bool false/\h1=h
 | some M'=>r = .bool true/\iT h m M' F h1
def HB (h:za) (m:Nat) (bs:Value) (ps:List Nat) (M:MM) (F:Nat->Prop) (i:Nat) (B:MB) (n:Nat) (vs:List Value) (h':za):Prop :=
 ∃ k fs F',k<=B.size/\n=B.size - k/\vs = [.int .i64 k]/\Zi h' m bs ps fs (M.set i (Yd B k)) F'/\qY F h h' /\ ∀ b,F' b->F b\/h.next<=b
theorem A7 {M:MM} {i:Nat} {A B:MB}:(M.set i A).set i B=M.set i B:=by simp
theorem E4 (x:Zi h m bs ps fs M F) (hs:small M) {n:Int} (hn:n < 9223372036854775808):DC Tryd.prog 45 [.pointer (some ⟨m,0,none⟩),.int .i64 n] h (rY h m M F n):=by
 apply Zq;intro hwf;have hro:=hwf.2
 apply tn
 unfold Bp
 refine zW (by kernel_rfl) rfl (sd x.r hn) ?_
 rintro v h1 ⟨rfl,rfl⟩
 cases hi:idx M n with
 | none=>
   simp -implicitDefEqProofs only [zq,zC,zM,yy,vN,zB,zK,xo,yx,Ny,BK,mi,Ux,Ny,qd]
   unfold rY Xb
   simp only [hi,Ny,and_self]
 | some i=>
   obtain ⟨hni,hlt,q,B,pg,hq,hB,hf,hbk,fq,_⟩:=fI x hi
   have hfm:Xb M n=some (M.set i (Yd B B.size)):=by unfold Xb;rw [hi];simp [hB]
   have hz:=hs i B hB
   simp -implicitDefEqProofs only [zq,zC,zM,zS,xR,vN,zB,zK,xo,yx,Nd,BK,MD,zL,zu,mi,jV,uq,Nd,qd,hq,hbk]
   refine kD (HB h1 m bs ps M F i B) B.size ⟨0,fs,F,by omega,rfl,rfl,by rw [ry,nE hB];exact x,.refl _ _,fun b hb => .inl hb⟩ ?_
   rintro n' vs h2 ⟨k,fs2,F2,hk,rfl,rfl,y,e2,s2⟩
   have hmi:(M.set i (Yd B k))[i]? = some (Yd B k):=NA hlt
   obtain ⟨pg2,hbk2,fq2,hpg2⟩:=y.jU i q _ hq hmi
   have hzs:(Yd B k).size=B.size:=rfl
   have hzf:(Yd B k).uX=B.uX:=rfl
   by_cases hki:k < B.size
   ·have hki':(k:Int) < (B.size:Int):=by omega
    have hmd:=CX hbk2 hpg2 fq2 (fun b hb=>y.ok b (y.sub i b hb)) (by rw [e2.ro];have:=e2.next;omega) (a:=k) (by omega) (by omega) (by omega)
    simp -implicitDefEqProofs only [zq,zC,zM,yy,vy,qV,Vg,zK,nth,Int.reduceEq,wL,MP,hki']
    refine zW (by kernel_rfl) rfl hmd ?_
    rintro v h3 ⟨g,pq,cq,gs,F3,rfl,hbk3,hfull,hgs,fp3,ef3,hsub3,hok3⟩
    rw [M4] at hgs
    obtain ⟨cs,hcs,hle,hput⟩:=hfull.put hgs
    have hput':=hput zc
    have hr1:(k:Int).tmod 64=((k % 64:Nat):Int):=by rw [N2 (by omega)];omega
    have hb1:0<=((k % 64:Nat):Int)/\((k % 64:Nat):Int) < 64:=by omega
    have fg:=(hfull.hg _ g hgs).1
    have okg:=(hok3 g fg).1
    have hw2:IntKind.wrap .i64 ((k:Int) + 1)=((k + 1:Nat):Int):=by rw [kC (by omega) (by omega)];omega
    simp -implicitDefEqProofs only [zq,xR,vV,MT,MY,M0,Nx,NO,ze,MA,ND,Nat.reduceAdd,NB,xU,Wa,GF,qd,hr1,hb1,M4,hcs,hle,okg,hw2]
    have hne:q ≠ g:=by intro e;subst e;rw [hcs] at hbk3;simp at hbk3
    generalize hH:h3.set g _=H
    have hfull2:j1 H pq gs (Yd B (k + 1)) F3:=by
     rw [<- hH,<- ru];exact hput'
    have ef4:qY (fs2 i) h2 H:=by
     rw [<- hH];exact ef3.set (hsub3 g fg) _
    have hbk4:H.get q=some (.cells [.int .i64 B.size,.slice (some ⟨pq,0,none⟩) gs.length cq,.bool B.uX] 126):=by
     rw [<- hH,zN hne];exact hbk3
    have hok4:∀ b,F3 b->H.ro<=b/\b < H.next:=by
     rw [<- hH];exact hok3
    have z:=y.iL hq hmi (B':=Yd B (k + 1)) rfl ef4 ⟨_,hbk4,fp3,.full pq cq gs rfl hfull2⟩ hsub3 hok4
    rw [A7] at z
    have hcl:∀ b,fs2 i b->F b\/h1.next<=b:=fun b hb=>s2 b (y.sub i b hb)
    refine ⟨B.size - (k + 1),by omega,k + 1,_,_,by omega,rfl,rfl,z,e2.more ef4 hcl,fun b hb => ?_⟩
    rcases hb with hb | hb
    ·exact s2 b hb
    ·rcases hsub3 b hb with q | q
     ·exact hcl b q
     ·exact .inr (by have:=e2.next;omega)
   ·have hkb:k=B.size:=by omega
    subst hkb
    have hki':¬ (B.size:Int) < (B.size:Int):=by omega
    simp -implicitDefEqProofs only [zq,zC,zM,zS,vy,qV,Vg,zK,nth,Int.reduceEq,wg,MP,hki']
    unfold rY
    rw [hfm]
    exact ⟨rfl,_,⟨_,_,_,y⟩,e2,s2⟩
end
def Lq (H:za) (F:Nat->Prop) (h':za):Prop:=qY iz H h' /\ ∀ b,F b->H.next<=b
theorem Lq.Za {H h1 h2:za} {F:Nat->Prop} (o:Lq H F h1) (e:qY iz h1 h2):Lq H F h2:=⟨o.1.trans e,o.2⟩
end Go.Mem
