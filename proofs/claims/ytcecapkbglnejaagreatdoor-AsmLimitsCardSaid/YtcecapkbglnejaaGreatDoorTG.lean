/- A part of the proof. -/
import Derived.Test.YtcecapkbglnejaaGreatDoorTF
import Derived.Test.YtcecapkbglnejaaGreatDoorTD
set_option linter.unusedVariables false
set_option linter.unusedSimpArgs false
set_option maxRecDepth 100000
namespace Go.Mem
open Go.Ai Go.Proofs
theorem Nn (h:za):DC Tryz.prog 60 [] h (fun v h1=>v = .pointer (some ⟨h.next,0,none⟩)/\n5 h1 h.next [] (fun b=>b=h.next)/\ZR pL h h1):=by
 apply YA;intro hwf;have hro:=hwf.2
 apply FD
 unfold LN
 simp -implicitDefEqProofs only [zu,zG,zR,qB,wy,yK,nw,Value.cells,SG,aab,Iw]
 refine ⟨⟨_,[],fun _ _=>False,⟨yd,rfl,rfl,.inl ⟨rfl,rfl⟩,fun _ e=>e,fun i p B hp=>by simp at hp,fun i j b e=>e.elim,fun i b e=>e.elim,fun b hb => ?_⟩⟩,(ZR.refl _ _).push _⟩
 subst hb
 simp only [qd,yo];omega
theorem BG (c n:Nat):ji c n ≠ 0:=by
 unfold ji
 split
 ·cases Nat.ble n _ <;> simp
 ·simp
theorem De (M:MM):live M<=M.length:=List.length_filter_le _ _
theorem Ho (M:MM) (B:MB) (hf:B.jG=false):live (M ++ [B])=live M + 1:=by simp [live,hf]
def fresh (n:Int):MB:=⟨n.toNat,false,fun _=>eu⟩
def w8 (M:MM) (n:Int):MM × Int × Int:=if n < 0\/65536 < n then (M,0,1) else if 100000<=M.length then (M,0,2) else (M ++ [fresh n],M.length + 1,0)
def aT (h:za) (m:Nat) (M:MM) (F:Nat->Prop) (n:Int) (r:Value) (h1:za):Prop:=r = .tuple #[.int .i64 (w8 M n).2.1,.int .i64 (w8 M n).2.2]/\re h m (w8 M n).1 F h1
section
variable {h:za} {m:Nat} {bs:Value} {ps:List Nat} {fs:Nat->Nat->Prop} {M:MM} {F:Nat->Prop}
theorem XR.grow (x:XR h m bs ps fs M F) {h1:za} {B:MB} {p q c:Nat} (hf:B.jG=false) (XK:ZR F h h1) (hp:h.next<=p/\p < h1.next) (hq:h.next<=q/\q < h1.next) (hpq:p ≠ q) (hro:h.ro<=h.next)
  (e1:h1.get m=some (.cells [.slice (some ⟨q,0,none⟩) (M.length + 1) c,.int .i64 (live M + 1:Nat)] 148)) (hc:c ≠ 0) (e2:h1.get q=some (.cells ((ps.map fun p => .pointer (some ⟨p,0,none⟩)) ++ [.pointer (some ⟨p,0,none⟩)]) 152))
  (e3:h1.get p=some (.cells [.int .i64 B.size,.slice none 0 0,.bool B.jG] 155)) (e4:∀ b,F b->b ≠ m->(∀ c,bs ≠ .slice (some ⟨b,0,none⟩) M.length c)->h1.get b=h.get b) (hu:∀ k,B.byte k=eu) :
  XR h1 m (.slice (some ⟨q,0,none⟩) (M.length + 1) c) (ps ++ [p]) (fun i b=>if i=M.length then b=p else fs i b) (M ++ [B]) (fun b=>F b\/b=p\/b=q):=by
 have hnew:∀ b,h.next<=b->F b->False:=fun b hl hb=>by have:=(x.ok b hb).2;omega
 have hlp:=x.len
 refine ⟨by rw [Ho M B hf];exact e1,.inl x.fm,by simp [x.len],?_,?_,?_,?_,?_,?_⟩
 ·refine .inr ⟨q,c,by simp,hc,.inr (.inr rfl),by rw [e2];simp,fun i hi => ?_⟩
  split at hi
  ·exact hpq hi.symm
  ·exact hnew q hq.1 (x.sub i q hi)
 ·intro i hi
  split at hi
  ·subst hi;exact hnew m hp.1 x.fm
  ·exact x.nm i hi
 ·intro i p' B' hp' hB'
  by_cases e:i=M.length
  ·subst e
   rw [<- hlp] at hp'
   rw [Tu (Sp _),Nat.sub_self] at hp' hB'
   simp at hp' hB'
   subst hp' hB'
   simp only [Sf]
   exact ⟨_,e3,rfl,.empty rfl hu⟩
  ·have hlt:i < M.length:=by
    rcases SC i M.length with a | a
    ·exact a
    ·rw [Sr (by simp;omega)] at hB';cases hB'
   rw [Tl (by omega)] at hp' hB'
   simp only [Sl e]
   refine (x.Xf i p' B' hp' hB').zH (fun b hb=>e4 b (x.sub i b hb) (fun q => ?_) (fun c q => ?_))
   ·subst q;exact x.nm i hb
   ·rcases x.hb with ⟨rfl,_⟩ | ⟨bb,c',r,_,_,_,r5⟩
    ·cases hlt
    ·rw [r] at q;cases q;exact r5 i hb
 ·intro i j b hi hj
  split at hi <;> split at hj
  ·rename_i a1 a2;rw [a1,a2]
  ·exact (hnew b (by rw [hi];exact hp.1) (x.sub j b hj)).elim
  ·exact (hnew b (by rw [hj];exact hp.1) (x.sub i b hi)).elim
  ·exact x.Fm i j b hi hj
 ·intro i b hi
  split at hi
  ·exact .inr (.inl hi)
  ·exact .inl (x.sub i b hi)
 ·intro b hb
  have n1:=XK.next
  have n2:=XK.ro
  rcases hb with hb | hb | hb
  ·have:=x.ok b hb;omega
  ·omega
  ·omega
theorem Gt (x:XR h m bs ps fs M F) (n:Int) :
  DC Tryz.prog 62 [.pointer (some ⟨m,0,none⟩),.int .i64 n] h (aT h m M F n):=by
 apply YA;intro hwf;have hro:=hwf.2
 apply AA
 unfold CI
 have hm0:re h m M F h:=⟨F,⟨bs,ps,fs,x⟩,.refl _ _,fun b hb => .inl hb⟩
 have hbad:n < 0\/65536 < n->aT h m M F n (.tuple #[.int .i64 0,.int .i64 1]) h:=fun e=>by
  unfold aT w8;rw [Sn e];exact ⟨rfl,hm0⟩
 by_cases h1:n < 0
 ·simp -implicitDefEqProofs only [zu,y9,zG,zR,yR,WU,wj,vh,uM,qj,zF,zP,wy,yK,nw,Value.cells,BK,SG,Sy,uz,yo,zw,XU,zi,Qb,Wz,j0,WD,h1]
  exact hbad (.inl h1)
 by_cases h2:65536 < n
 ·simp -implicitDefEqProofs only [zu,y9,zG,zR,yR,qU,yp,vh,uM,qj,X0,zF,zP,wy,yK,nw,Value.cells,BK,SG,Sy,uz,vE,yo,zw,Su,XU,zi,Qb,Wz,j0,WD,h1,h2]
  exact hbad (.inr h2)
 have hm:=x.hm
 have hln:∀ n c,zn Tryz.prog .len [146] 3 [.slice n M.length c] h=some (.int .i64 M.length,h):=fun _ _=>by simp only [Vf]
 by_cases h3:100000<=(M.length:Int)
 ·have:aT h m M F n (.tuple #[.int .i64 0,.int .i64 2]) h:=by
   unfold aT w8;rw [Sl (by omega),Sn (by omega)];exact ⟨rfl,hm0⟩
  rcases x.hb with ⟨e1,rfl⟩ | ⟨bb,c,rfl,hc,fb,hbb,_⟩
  ·rw [e1] at h3;simp at h3
  ·simp -implicitDefEqProofs only [zu,y9,zG,zR,yR,zZ,qU,yp,vh,uM,qj,X0,nt,zF,zP,wy,yh,yK,nw,Value.cells,BK,Si,SG,Sy,uz,vE,yo,zw,Su,XU,zi,Qb,Wz,j0,WD,Vf,h1,h2,hm,h3]
   exact this
 have hal:w8 M n=(M ++ [fresh n],(M.length:Int) + 1,0):=by unfold w8;rw [Sl (by omega),Sl (by omega)]
 have okm:=x.ok m x.fm
 have hl:=De M
 have hmn:¬ m=h.next:=by omega
 have hmn1:¬ m=h.next + 1:=by omega
 have hmn2:¬ m=h.next + 1 + 1:=by omega
 have hw1:IntKind.wrap .i64 ((live M:Int) + 1)=((live M + 1:Nat):Int):=by rw [Yb (by omega) (by omega)];omega
 have hn0:((n.toNat:Nat):Int)=n:=by omega
 have hmn2':¬ h.next + 1 + 1=m:=by omega
 have hmn':¬ h.next=m:=by omega
 have hm2:m < h.next + 1 + 1:=by omega
 have hm3:m < h.next + 1 + 1 + 1:=by omega
 have hnb:∀ p v e,(h.push (.cells v e)).push (.cells [.pointer (some ⟨h.next,0,none⟩)] 152)=p->uJ p 1 1 (.slice (some ⟨h.next + 1,0,none⟩) 1 3)=some [.pointer (some ⟨h.next,0,none⟩)]:=fun p v e hp=>by
  subst hp
  have:(((h.push (.cells v e)).push (.cells [.pointer (some ⟨h.next,0,none⟩)] 152)).get (h.next + 1))=some (.cells [.pointer (some ⟨h.next,0,none⟩)] 152):=zJ rfl
  simp only [uJ,this]
  rfl
 have hap:=fun v h' hh=>My 146 v (.slice (some ⟨h.next + 1,0,none⟩) 1 3) 1 [.pointer (some ⟨h.next,0,none⟩)] h' rfl (hnb h' [.int .i64 n,.slice none 0 0,.bool false] 155 hh) rfl rfl
 unfold aT
 rw [hal]
 rcases x.hb with ⟨rfl,rfl⟩ | ⟨bb,c,rfl,hc,fb,hbb,hfb⟩
 ·have hps:ps = []:=T1.1 x.len
  have h30:¬ (100000:Int)<=((0:Nat):Int):=by decide
  have hle:h.ro<=m:=okm.1
  have hw0:IntKind.wrap .i64 ((live []:Int) + 1)=((live [] + 1:Nat):Int):=rfl
  simp -implicitDefEqProofs only [zu,y9,zG,zR,zZ,qU,yp,vh,uM,qj,X0,nt,ZO,zF,zP,wy,yh,yK,qS,VF,nth,nw,Value.cells,BK,Si,So,SG,Sy,SD,SF,Tf,Tw,zf,Te,S8,Sf,Sx,Tm,Nat.reduceAdd,Nat.reduceLeDiff,Nat.reduceMul,Nat.reduceEqDiff,Tk,Sp,vE,yo,qd,Kd,zU,yg,cR,vf,zw,Su,XU,zi,GB,Wx,Qb,Wz,j0,WD,Vf,h1,h2,h30,hm,hap,Uh,Nat.reducePow,okm,hm2,hw0,SF]
  refine ⟨rfl,_,⟨_,_,_,x.grow (p:=h.next) (q:=h.next + 1 + 1) (B:=fresh n) rfl (((((((ZR.refl F h).push _).push _).push _).set (.inl x.fm) _).set (.inl x.fm) _)) ?_ ?_ (by omega) hro yg (by simp) ?_ ?_ ?_ (fun _=>rfl)⟩,(((((((ZR.refl F h).push _).push _).push _).set (.inl x.fm) _).set (.inl x.fm) _)),fun b hb => ?_⟩
  ·simp only [qA,yo];omega
  ·simp only [qA,yo];omega
  ·rw [zS hmn2',zS hmn2',zJ (by simp only [yo])];rw [hps];rfl
  ·rw [zS hmn',zS hmn',zU (by simp only [yo];omega)]
   rw [zU (by simp only [yo];omega),yd]
   show some (vi.cells [.int .i64 n,_,_] 155)=some (vi.cells [.int .i64 ((n.toNat:Nat):Int),_,_] 155)
   rw [hn0]
   rfl
  ·intro b hb hbm1 hbb1
   have hlt:=(x.ok b hb).2
   rw [zS hbm1,zS hbm1,zU (by simp only [yo];omega)]
   rw [zU (by simp only [yo];omega),zU hlt]
  ·rcases hb with hb | hb | hb
   ·exact .inl hb
   ·exact .inr (by omega)
   ·exact .inr (by omega)
 ·have okb:=x.ok bb fb
  have hroom:roomFor c (M.length + 1) 8=true:=by
   unfold roomFor
   cases Nat.beq c 2 <;> simp only [SA,SK,aaf] <;> omega
  have hlp:M.length<=ps.length:=by rw [x.len];omega
  have hbm:¬ bb=m:=by intro e;subst e;rw [hbb] at hm;simp at hm
  have hmb:¬ m=bb:=fun e=>hbm e.symm
  have hb0:¬ bb=h.next:=by omega
  have hb2:¬ bb=h.next + 1 + 1:=by omega
  have hz:List.take M.length (List.map (fun p=>Value.pointer (some ⟨p,0,none⟩)) ps)=List.map (fun p=>Value.pointer (some ⟨p,0,none⟩)) ps:=List.take_of_length_le (by simp [x.len])
  simp -implicitDefEqProofs only [zu,y9,zG,zR,zZ,qU,yp,vh,uM,qj,X0,nt,ZO,zF,zP,wy,yh,yK,qS,VF,nth,nw,Value.cells,BK,Si,So,SG,Sy,SD,SF,SX,Tf,Tw,zf,Te,S8,Tx,Sf,Sx,Tm,Nat.reduceAdd,Nat.reduceLeDiff,Nat.reduceMod,Nat.reduceEqDiff,Tk,Sp,vE,yo,qA,qd,Kd,zU,yg,zS,ne_eq,cR,vf,zw,Su,XU,zi,GB,Wx,Qb,Wz,j0,WD,Vf,h1,h2,h3,hm,hap,Uh,okb,okm,hbb,hroom,hlp,TN,hc,hmb,hm2,hz,hw1]
  refine ⟨rfl,_,⟨_,_,_,x.grow (p:=h.next) (q:=h.next + 1 + 1) (B:=fresh n) rfl (((((((ZR.refl F h).push _).push _).set (.inl fb) _).push _).set (.inl x.fm) _).set (.inl x.fm) _) ?_ ?_ (by omega) hro yg (BG _ _) ?_ ?_ ?_ (fun _=>rfl)⟩,(((((((ZR.refl F h).push _).push _).set (.inl fb) _).push _).set (.inl x.fm) _).set (.inl x.fm) _),fun b hb => ?_⟩
  ·simp only [qA,yo];omega
  ·simp only [qA,yo];omega
  ·rw [zS hmn2',zS hmn2',zJ (by simp only [qA,yo])]
  ·have:¬ h.next=bb:=fun e=>hb0 e.symm
   rw [zS hmn',zS hmn',zU (by simp only [qA,yo];omega)]
   rw [zS this]
   rw [zU (by simp only [yo];omega),yd]
   show some (vi.cells [.int .i64 n,_,_] 155)=some (vi.cells [.int .i64 ((n.toNat:Nat):Int),_,_] 155)
   rw [hn0]
   rfl
  ·intro b hb hbm1 hbb1
   have hlt:=(x.ok b hb).2
   rw [zS hbm1,zS hbm1,zU (by simp only [qA,yo];omega)]
   rw [zS (fun e=>hbb1 c (by rw [e]))]
   rw [zU (by simp only [yo];omega),zU hlt]
  ·rcases hb with hb | hb | hb
   ·exact .inl hb
   ·exact .inr (by omega)
   ·exact .inr (by omega)
end
def np (b n:Int):V:=if b < 1 then v0 else ⟨2,n,b⟩
section
variable {h:za} {m:Nat} {bs:Value} {ps:List Nat} {fs:Nat->Nat->Prop} {M:MM} {F:Nat->Prop}
theorem nI (x:XR h m bs ps fs M F) {n:Int} {i:Nat} (hi:idx M n=some i):n=i + 1/\i < M.length /\ ∃ q B pg,ps[i]? = some q/\M[i]? = some B/\B.jG=false/\h.get q=some (.cells [.int .i64 B.size,pg,.bool B.jG] 155)/\fs i q/\XS h pg B (fs i):=by
 obtain ⟨hn,B,hB,hf⟩:=iq hi
 have hlt:i < M.length:=by
  rcases SC i M.length with a | a
  ·exact a
  ·rw [Sr a] at hB;cases hB
 obtain ⟨q,hq⟩:∃ q,ps[i]? = some q:=⟨_,Sk (by rw [x.len];exact hlt)⟩
 obtain ⟨pg,hbk,fq,hpg⟩:=x.Xf i q B hq hB
 exact ⟨hn,hlt,q,B,pg,hq,hB,hf,hbk,fq,hpg⟩
theorem XR.swap (x:XR h m bs ps fs M F) {h1:za} {i p bb c:Nat} {B:MB} (hbs:bs = .slice (some ⟨bb,0,none⟩) M.length c) (hi:i < M.length) (XK:ZR F h h1) (hp:h.next<=p/\p < h1.next)
  (e1:h1.get m=some (.cells [bs,.int .i64 (live (M.set i B))] 148)) (e2:h1.get bb=some (.cells ((ps.set i p).map fun p => .pointer (some ⟨p,0,none⟩)) 152))
  (e3:h1.get p=some (.cells [.int .i64 B.size,.slice none 0 0,.bool B.jG] 155)) (hu:∀ k,B.byte k=eu) (e4:∀ b,F b->b ≠ m->b ≠ bb->h1.get b=h.get b) :
  XR h1 m bs (ps.set i p) (fun k b=>if k=i then b=p else fs k b) (M.set i B) (fun b=>F b\/b=p):=by
 have hnew:∀ b,h.next<=b->F b->False:=fun b hl hb=>by have:=(x.ok b hb).2;omega
 have hlp:=x.len
 have hbb:F bb/\c ≠ 0 /\ ∀ i,¬ fs i bb:=by
  rcases x.hb with ⟨rfl,_⟩ | ⟨bb',c',r,r1,r2,_,r4⟩
  ·cases hi
  ·rw [hbs] at r;cases r;exact ⟨r2,r1,r4⟩
 refine ⟨e1,.inl x.fm,by simp [hlp],?_,?_,?_,?_,?_,?_⟩
 ·refine .inr ⟨bb,c,by rw [hbs,TD],hbb.2.1,.inl hbb.1,e2,fun k hk => ?_⟩
  split at hk
  ·exact hnew bb (by rw [hk];exact hp.1) hbb.1
  ·exact hbb.2.2 k hk
 ·intro k hk
  split at hk
  ·exact hnew m (by rw [hk];exact hp.1) x.fm
  ·exact x.nm k hk
 ·intro k q C hq hC
  by_cases e:k=i
  ·subst e
   rw [Tj (by omega)] at hq hC
   cases hq;cases hC
   simp only [Sf]
   exact ⟨_,e3,rfl,.empty rfl hu⟩
  ·rw [TA (fun z=>e z.symm)] at hq hC
   simp only [Sl e]
   exact (x.Xf k q C hq hC).zH (fun b hb=>e4 b (x.sub k b hb) (fun z=>by subst z;exact x.nm k hb) (fun z=>by subst z;exact hbb.2.2 k hb))
 ·intro a b z ha hz
  split at ha <;> split at hz
  ·rename_i e1 e2;rw [e1,e2]
  ·exact (hnew z (by rw [ha];exact hp.1) (x.sub b z hz)).elim
  ·exact (hnew z (by rw [hz];exact hp.1) (x.sub a z ha)).elim
  ·exact x.Fm a b z ha hz
 ·intro k b hk
  split at hk
  ·exact .inr hk
  ·exact .inl (x.sub k b hk)
 ·intro b hb
  have n1:=XK.next
  have n2:=XK.ro
  have o1:=x.ok m x.fm
  rcases hb with hb | hb
  ·have:=x.ok b hb;omega
  ·omega
theorem EP {M:MM} {i:Nat} {B B':MB} (h:M[i]? = some B) (hf:B.jG=false) (hf':B'.jG=true):live (M.set i B') + 1=live M:=by
 unfold live
 induction M generalizing i with
 | nil=>cases h
 | cons A M ih=>
   cases i with
   | zero=>simp at h;subst h;simp [hf,hf']
   | succ i=>simp at h;simp only [S8,TF];split <;> simp [<- ih h]
def gone (B:MB):MB:=⟨B.size,true,fun _=>eu⟩
def VO (M:MM) (n:Int):Option MM:=(idx M n).bind fun i=>(M[i]?).map fun B=>M.set i (gone B)
def Cy (h:za) (m:Nat) (M:MM) (F:Nat->Prop) (n:Int) (r:Value) (h1:za):Prop:=match VO M n with
 | none=>r = .bool false/\h1=h
 | some M'=>r = .bool true/\re h m M' F h1
theorem IP (x:XR h m bs ps fs M F) (hL:M.length<=100000) {n:Int} (hn:n < 9223372036854775808):DC Tryz.prog 114 [.pointer (some ⟨m,0,none⟩),.int .i64 n] h (Cy h m M F n):=by
 apply YA;intro hwf;have hro:=hwf.2
 apply DG
 unfold FB
 refine z7 (by kernel_rfl) rfl (C0 x.r hn) ?_
 rintro v h1 ⟨rfl,rfl⟩
 cases hi:idx M n with
 | none=>
   simp -implicitDefEqProofs only [zu,zG,zR,yR,vh,qB,XJ,zF,zP,wy,Tg,nw,Value.cells,Sy,zw,XU,zi,JW,j0,WD,Tg,jV]
   unfold Cy VO
   simp only [hi,Tg,and_self]
 | some i=>
   obtain ⟨hni,hlt,q,B,pg,hq,hB,hf,hbk,fq,_⟩:=nI x hi
   have hfm:VO M n=some (M.set i (gone B)):=by unfold VO;rw [hi];simp [hB]
   rcases x.hb with ⟨rfl,_⟩ | ⟨bb,c,hbs,hc,fb,hbb,nb⟩
   ·cases hlt
   have hm:=x.hm
   have hw:IntKind.wrap .i64 (n - 1)=(i:Int):=by rw [Yb (by omega) (by omega)];omega
   have hc1:0<=(i:Int)/\(i:Int) < (M.length:Int):=by omega
   have okm:=x.ok m x.fm
   have okb:=x.ok bb fb
   have hbm:¬ bb=m:=by intro e;subst e;rw [hbb] at hm;simp at hm
   have hmb:¬ m=bb:=fun e=>hbm e.symm
   have hb0:¬ bb=h1.next:=by omega
   have hm0:¬ m=h1.next:=by omega
   have hi1:i + 1<=ps.length:=by rw [x.len];omega
   have hlv:=EP (B':=gone B) hB hf rfl
   have hl:=De M
   have hll:((live M:Nat):Int) - 1=((live (M.set i (gone B)):Nat):Int):=by omega
   have hlw:IntKind.wrap .i64 (((live M:Nat):Int) - 1)=((live (M.set i (gone B)):Nat):Int):=by rw [hll];exact Yb (by omega) (by omega)
   have hset:∀ v:Value,zf (ps.map fun p=>Value.pointer (some ⟨p,0,none⟩)) i [v]=(ps.map fun p=>Value.pointer (some ⟨p,0,none⟩)).set i v:=fun v=>rfl
   rw [hbs] at hm
   simp -implicitDefEqProofs only [zu,zG,zR,zZ,vh,qB,XJ,zF,zP,wy,yK,qS,Q2,SS,nw,Value.cells,Si,So,Sy,SD,SF,SX,Tf,Tw,zf,Te,S8,Sf,Tm,Nat.reduceAdd,Tk,Sp,qd,Kd,zU,zS,vf,zw,Su,XU,zi,MF,Wx,BB,Xo,j0,WD,kE,B0,SS,jV,hq,hbk,hm,hw,hc1,hbb,SJ,TN,okb,okm,hmb,hi1,hlw]
   unfold Cy
   rw [hfm]
   have XK:ZR F h1 (((h1.push (.cells [.int .i64 B.size,.slice none 0 0,.bool true] 155)).set bb (some (.cells ((ps.map fun p=>Value.pointer (some ⟨p,0,none⟩)).set i (.pointer (some ⟨h1.next,0,none⟩))) 152))).set m
     (some (.cells [.slice (some ⟨bb,0,none⟩) M.length c,.int .i64 (live (M.set i (gone B)))] 148))):=(((ZR.refl _ _).push _).set (.inl fb) _).set (.inl x.fm) _
   refine ⟨rfl,_,⟨_,_,_,x.swap (p:=h1.next) (B:=gone B) hbs hlt XK ⟨Sp _,?_⟩ ?_ ?_ ?_ (fun _=>rfl) ?_⟩,XK,fun b hb => ?_⟩
   ·simp only [qA,yo];omega
   ·rw [yg,hbs]
   ·rw [zS hbm,yg,List.map_set]
   ·have n1:¬ h1.next=m:=fun e=>hm0 e.symm
    have n2:¬ h1.next=bb:=fun e=>hb0 e.symm
    rw [zS n1,zS n2,yd]
    rfl
   ·intro b hb b1 b2
    have:=x.ok b hb
    rw [zS b1,zS b2,zU this.2]
   ·rcases hb with hb | hb
    ·exact .inl hb
    ·exact .inr (by omega)
def zc:Cl:=⟨1,0,v0⟩
def WS (B:MB) (k:Nat):MB:={ B with byte:=fun a=>if a < k then zc else B.byte a }
theorem Cw (B:MB):WS B 0=B:=by
 unfold WS
 congr 1
theorem Cv (B:MB) (k:Nat):{ WS B k with byte:=pX (WS B k).byte k zc } = WS B (k + 1):=by
 unfold WS pX
 simp only [MB.mk.injEq,aab]
 funext a
 by_cases e:a=k
 ·subst e;rw [Sn rfl,Sn (by omega)]
 ·rw [Sl e]
  by_cases e2:a < k
  ·rw [Sn e2,Sn (by omega)]
  ·rw [Sl e2,Sl (by omega)]
def VU (M:MM) (n:Int):Option MM:=(idx M n).bind fun i=>(M[i]?).map fun B=>M.set i (WS B B.size)
def CU (h:za) (m:Nat) (M:MM) (F:Nat->Prop) (n:Int) (r:Value) (h1:za):Prop:=match VU M n with
 | none=>r = .bool false/\h1=h
 | some M'=>r = .bool true/\re h m M' F h1
def N7 (h:za) (m:Nat) (bs:Value) (ps:List Nat) (M:MM) (F:Nat->Prop) (i:Nat) (B:MB) (n:Nat) (vs:List Value) (h':za):Prop :=
 ∃ k fs F',k<=B.size/\n=B.size - k/\vs = [.int .i64 k]/\XR h' m bs ps fs (M.set i (WS B k)) F'/\ZR F h h' /\ ∀ b,F' b->F b\/h.next<=b
theorem Fg {M:MM} {i:Nat} {A B:MB}:(M.set i A).set i B=M.set i B:=by simp
theorem LH (x:XR h m bs ps fs M F) (hs:small M) {n:Int} (hn:n < 9223372036854775808):DC Tryz.prog 63 [.pointer (some ⟨m,0,none⟩),.int .i64 n] h (CU h m M F n):=by
 apply YA;intro hwf;have hro:=hwf.2
 apply DI
 unfold FE
 refine z7 (by kernel_rfl) rfl (C0 x.r hn) ?_
 rintro v h1 ⟨rfl,rfl⟩
 cases hi:idx M n with
 | none=>
   simp -implicitDefEqProofs only [zu,zG,zR,yR,qB,zF,zP,wy,yK,Tg,BK,sO,JW,Tg,jV]
   unfold CU VU
   simp only [hi,Tg,and_self]
 | some i=>
   obtain ⟨hni,hlt,q,B,pg,hq,hB,hf,hbk,fq,_⟩:=nI x hi
   have hfm:VU M n=some (M.set i (WS B B.size)):=by unfold VU;rw [hi];simp [hB]
   have hz:=hs i B hB
   simp -implicitDefEqProofs only [zu,zG,zR,zZ,vh,qB,zF,zP,wy,yK,SS,BK,Si,zw,zi,sO,Xo,kE,SS,jV,hq,hbk]
   refine Zb (N7 h1 m bs ps M F i B) B.size ⟨0,fs,F,by omega,rfl,rfl,by rw [Cw,Aj hB];exact x,.refl _ _,fun b hb => .inl hb⟩ ?_
   rintro n' vs h2 ⟨k,fs2,F2,hk,rfl,rfl,y,e2,s2⟩
   have hmi:(M.set i (WS B k))[i]? = some (WS B k):=Tj hlt
   obtain ⟨pg2,hbk2,fq2,hpg2⟩:=y.Xf i q _ hq hmi
   have hzs:(WS B k).size=B.size:=rfl
   have hzf:(WS B k).jG=B.jG:=rfl
   by_cases hki:k < B.size
   ·have hki':(k:Int) < (B.size:Int):=by omega
    have hmd:=Hq hbk2 hpg2 fq2 (fun b hb=>y.ok b (y.sub i b hb)) (by rw [e2.ro];have:=e2.next;omega) (a:=k) (by omega) (by omega) (by omega)
    simp -implicitDefEqProofs only [zu,zG,zR,yR,qj,ZO,KB,zP,nth,Int.reduceEq,uz,Su,hki']
    refine z7 (by kernel_rfl) rfl hmd ?_
    rintro v h3 ⟨g,pq,cq,gs,F3,rfl,hbk3,hfull,hgs,fp3,ef3,hsub3,hok3⟩
    rw [SJ] at hgs
    obtain ⟨cs,hcs,hle,hput⟩:=hfull.put hgs
    have hput':=hput zc
    have hr1:(k:Int).tmod 64=((k % 64:Nat):Int):=by rw [TL (by omega)];omega
    have hb1:0<=((k % 64:Nat):Int)/\((k % 64:Nat):Int) < 64:=by omega
    have fg:=(hfull.hg _ g hgs).1
    have okg:=(hok3 g fg).1
    have hw2:IntKind.wrap .i64 ((k:Int) + 1)=((k + 1:Nat):Int):=by rw [Yb (by omega) (by omega)];omega
    simp -implicitDefEqProofs only [zu,vh,qS,Sy,SD,SF,Tf,Tw,zf,Sf,Tm,Nat.reduceAdd,Tk,vf,Qa,Na,jV,hr1,hb1,SJ,hcs,hle,okg,hw2]
    have hne:q ≠ g:=by intro e;subst e;rw [hcs] at hbk3;simp at hbk3
    generalize hH:h3.set g _=H
    have hfull2:Xs H pq gs (WS B (k + 1)) F3:=by
     rw [<- hH,<- Cv];exact hput'
    have ef4:ZR (fs2 i) h2 H:=by
     rw [<- hH];exact ef3.set (hsub3 g fg) _
    have hbk4:H.get q=some (.cells [.int .i64 B.size,.slice (some ⟨pq,0,none⟩) gs.length cq,.bool B.jG] 155):=by
     rw [<- hH,zS hne];exact hbk3
    have hok4:∀ b,F3 b->H.ro<=b/\b < H.next:=by
     rw [<- hH];exact hok3
    have z:=y.pX hq hmi (B':=WS B (k + 1)) rfl ef4 ⟨_,hbk4,fp3,.full pq cq gs rfl hfull2⟩ hsub3 hok4
    rw [Fg] at z
    have hcl:∀ b,fs2 i b->F b\/h1.next<=b:=fun b hb=>s2 b (y.sub i b hb)
    refine ⟨B.size - (k + 1),by omega,k + 1,_,_,by omega,rfl,rfl,z,e2.more ef4 hcl,fun b hb => ?_⟩
    rcases hb with hb | hb
    ·exact s2 b hb
    ·rcases hsub3 b hb with q | q
     ·exact hcl b q
     ·exact .inr (by have:=e2.next;omega)
   ·have hkb:k=B.size:=by omega
    subst hkb
    have hki':¬ (B.size:Int) < (B.size:Int):=by omega
    simp -implicitDefEqProofs only [zu,zG,zR,zZ,qj,ZO,KB,zP,nth,Int.reduceEq,vE,Su,hki']
    unfold CU
    rw [hfm]
    exact ⟨rfl,_,⟨_,_,_,y⟩,e2,s2⟩
end
def PY (H:za) (F:Nat->Prop) (h':za):Prop:=ZR pL H h' /\ ∀ b,F b->H.next<=b
theorem PY.XK {H h1 h2:za} {F:Nat->Prop} (o:PY H F h1) (e:ZR pL h1 h2):PY H F h2:=⟨o.1.trans e,o.2⟩
end Go.Mem
