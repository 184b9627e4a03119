/- A part of the proof. -/
import Derived.Test.YtfhacoddmpbgnaaGreatDoorTF
import Derived.Test.YtfhacoddmpbgnaaGreatDoorTD
set_option linter.unusedVariables false
set_option linter.unusedSimpArgs false
set_option maxRecDepth 100000
namespace Go.Mem
open Go.Ai Go.Proofs
theorem PA (h:za):DC Tryz.prog 45 [] h (fun v h1=>v = .pointer (some ⟨h.next,0,none⟩)/\ss h1 h.next [] (fun b=>b=h.next)/\jN tM h h1):=by
 apply jO;intro hwf;have hro:=hwf.2
 apply H5
 unfold N6
 simp -implicitDefEqProofs only [zu,zG,zR,vO,yP,yc,nw,Value.cells,aax,true_and,Nf]
 refine ⟨⟨_,[],fun _ _=>False,⟨zo,rfl,rfl,.inl ⟨rfl,rfl⟩,fun _ e=>e,fun i p B hp=>by simp at hp,fun i j b e=>e.elim,fun i b e=>e.elim,fun b hb => ?_⟩⟩,(jN.refl _ _).push _⟩
 subst hb
 simp only [vN,z9];omega
theorem eR (c n:Nat):w8 c n ≠ 0:=by
 unfold w8
 split
 ·cases Nat.ble n _ <;> simp
 ·simp
theorem Fw (M:MM):live M<=M.length:=List.length_filter_le _ _
theorem L4 (M:MM) (B:MB) (hf:B.kb=false):live (M ++ [B])=live M + 1:=by simp [live,hf]
def fresh (n:Int):MB:=⟨n.toNat,false,fun _=>iq⟩
def y1 (M:MM) (n:Int):MM × Int × Int:=if n < 0\/65536 < n then (M,0,1) else if 100000<=M.length then (M,0,2) else (M ++ [fresh n],M.length + 1,0)
def dE (h:za) (m:Nat) (M:MM) (F:Nat->Prop) (n:Int) (r:Value) (h1:za):Prop:=r = .tuple #[.int .i64 (y1 M n).2.1,.int .i64 (y1 M n).2.2]/\Ad h m (y1 M n).1 F h1
section
variable {h:za} {m:Nat} {bs:Value} {ps:List Nat} {fs:Nat->Nat->Prop} {M:MM} {F:Nat->Prop}
theorem ZW.grow (x:ZW h m bs ps fs M F) {h1:za} {B:MB} {p q c:Nat} (hf:B.kb=false) (YK:jN F h h1) (hp:h.next<=p/\p < h1.next) (hq:h.next<=q/\q < h1.next) (hpq:p ≠ q) (hro:h.ro<=h.next)
  (e1:h1.get m=some (.cells [.slice (some ⟨q,0,none⟩) (M.length + 1) c,.int .i64 (live M + 1:Nat)] 138)) (hc:c ≠ 0) (e2:h1.get q=some (.cells ((ps.map fun p => .pointer (some ⟨p,0,none⟩)) ++ [.pointer (some ⟨p,0,none⟩)]) 142))
  (e3:h1.get p=some (.cells [.int .i64 B.size,.slice none 0 0,.bool B.kb] 145)) (e4:∀ b,F b->b ≠ m->(∀ c,bs ≠ .slice (some ⟨b,0,none⟩) M.length c)->h1.get b=h.get b) (hu:∀ k,B.byte k=iq) :
  ZW h1 m (.slice (some ⟨q,0,none⟩) (M.length + 1) c) (ps ++ [p]) (fun i b=>if i=M.length then b=p else fs i b) (M ++ [B]) (fun b=>F b\/b=p\/b=q):=by
 have hnew:∀ b,h.next<=b->F b->False:=fun b hl hb=>by have:=(x.ok b hb).2;omega
 have hlp:=x.len
 refine ⟨by rw [L4 M B hf];exact e1,.inl x.fm,by simp [x.len],?_,?_,?_,?_,?_,?_⟩
 ·refine .inr ⟨q,c,by simp,hc,.inr (.inr rfl),by rw [e2];simp,fun i hi => ?_⟩
  split at hi
  ·exact hpq hi.symm
  ·exact hnew q hq.1 (x.sub i q hi)
 ·intro i hi
  split at hi
  ·subst hi;exact hnew m hp.1 x.fm
  ·exact x.nm i hi
 ·intro i p' B' hp' hB'
  by_cases e:i=M.length
  ·subst e
   rw [<- hlp] at hp'
   rw [abb (aah _),Nat.sub_self] at hp' hB'
   simp at hp' hB'
   subst hp' hB'
   simp only [if_true]
   exact ⟨_,e3,rfl,.empty rfl hu⟩
  ·have hlt:i < M.length:=by
    rcases aar i M.length with a | a
    ·exact a
    ·rw [aaj (by simp;omega)] at hB';cases hB'
   rw [abl (by omega)] at hp' hB'
   simp only [if_neg e]
   refine (x.kM i p' B' hp' hB').zB (fun b hb=>e4 b (x.sub i b hb) (fun q => ?_) (fun c q => ?_))
   ·subst q;exact x.nm i hb
   ·rcases x.hb with ⟨rfl,_⟩ | ⟨bb,c',r,_,_,_,r5⟩
    ·cases hlt
    ·rw [r] at q;cases q;exact r5 i hb
 ·intro i j b hi hj
  split at hi <;> split at hj
  ·rename_i a1 a2;rw [a1,a2]
  ·exact (hnew b (by rw [hi];exact hp.1) (x.sub j b hj)).elim
  ·exact (hnew b (by rw [hj];exact hp.1) (x.sub i b hi)).elim
  ·exact x.Ol i j b hi hj
 ·intro i b hi
  split at hi
  ·exact .inr (.inl hi)
  ·exact .inl (x.sub i b hi)
 ·intro b hb
  have n1:=YK.next
  have n2:=YK.ro
  rcases hb with hb | hb | hb
  ·have:=x.ok b hb;omega
  ·omega
  ·omega
theorem IT (x:ZW h m bs ps fs M F) (n:Int) :
  DC Tryz.prog 47 [.pointer (some ⟨m,0,none⟩),.int .i64 n] h (dE h m M F n):=by
 apply jO;intro hwf;have hro:=hwf.2
 apply CS
 unfold Ew
 have hm0:Ad h m M F h:=⟨F,⟨bs,ps,fs,x⟩,.refl _ _,fun b hb => .inl hb⟩
 have hbad:n < 0\/65536 < n->dE h m M F n (.tuple #[.int .i64 0,.int .i64 1]) h:=fun e=>by
  unfold dE y1;rw [if_pos e];exact ⟨rfl,hm0⟩
 by_cases h1:n < 0
 ·simp -implicitDefEqProofs only [zu,yI,zG,zR,yD,WA,yT,xG,ve,vR,zF,zQ,yP,yc,nw,Value.cells,BK,aax,aav,wV,z9,zC,Xm,zj,Kd,Wg,kq,Wk,h1]
  exact hbad (.inl h1)
 by_cases h2:65536 < n
 ·simp -implicitDefEqProofs only [zu,yI,zG,zR,yD,uM,yf,xG,ve,vR,Xr,zF,zQ,yP,yc,nw,Value.cells,BK,aax,aav,wV,wg,z9,zC,not_false_eq_true,Xm,zj,Kd,Wg,kq,Wk,h1,h2]
  exact hbad (.inr h2)
 have hm:=x.hm
 have hln:∀ n c,zg Tryz.prog .len [136] 3 [.slice n M.length c] h=some (.int .i64 M.length,h):=fun _ _=>by simp only [Vl]
 by_cases h3:100000<=(M.length:Int)
 ·have:dE h m M F n (.tuple #[.int .i64 0,.int .i64 2]) h:=by
   unfold dE y1;rw [if_neg (by omega),if_pos (by omega)];exact ⟨rfl,hm0⟩
  rcases x.hb with ⟨e1,rfl⟩ | ⟨bb,c,rfl,hc,fb,hbb,_⟩
  ·rw [e1] at h3;simp at h3
  ·simp -implicitDefEqProofs only [zu,yI,zG,zR,yD,zU,uM,yf,xG,ve,vR,Xr,ri,zF,zQ,yP,ya,yc,nw,Value.cells,BK,aaf,aax,aav,wV,wg,z9,zC,not_false_eq_true,Xm,zj,Kd,Wg,kq,Wk,Vl,h1,h2,hm,h3]
   exact this
 have hal:y1 M n=(M ++ [fresh n],(M.length:Int) + 1,0):=by unfold y1;rw [if_neg (by omega),if_neg (by omega)]
 have okm:=x.ok m x.fm
 have hl:=Fw M
 have hmn:¬ m=h.next:=by omega
 have hmn1:¬ m=h.next + 1:=by omega
 have hmn2:¬ m=h.next + 1 + 1:=by omega
 have hw1:IntKind.wrap .i64 ((live M:Int) + 1)=((live M + 1:Nat):Int):=by rw [ZV (by omega) (by omega)];omega
 have hn0:((n.toNat:Nat):Int)=n:=by omega
 have hmn2':¬ h.next + 1 + 1=m:=by omega
 have hmn':¬ h.next=m:=by omega
 have hm2:m < h.next + 1 + 1:=by omega
 have hm3:m < h.next + 1 + 1 + 1:=by omega
 have hnb:∀ p v e,(h.push (.cells v e)).push (.cells [.pointer (some ⟨h.next,0,none⟩)] 142)=p->xA p 1 1 (.slice (some ⟨h.next + 1,0,none⟩) 1 3)=some [.pointer (some ⟨h.next,0,none⟩)]:=fun p v e hp=>by
  subst hp
  have:(((h.push (.cells v e)).push (.cells [.pointer (some ⟨h.next,0,none⟩)] 142)).get (h.next + 1))=some (.cells [.pointer (some ⟨h.next,0,none⟩)] 142):=zD rfl
  simp only [xA,this]
  rfl
 have hap:=fun v h' hh=>OR 136 v (.slice (some ⟨h.next + 1,0,none⟩) 1 3) 1 [.pointer (some ⟨h.next,0,none⟩)] h' rfl (hnb h' [.int .i64 n,.slice none 0 0,.bool false] 145 hh) rfl rfl
 unfold dE
 rw [hal]
 rcases x.hb with ⟨rfl,rfl⟩ | ⟨bb,c,rfl,hc,fb,hbb,hfb⟩
 ·have hps:ps = []:=abp.1 x.len
  have h30:¬ (100000:Int)<=((0:Nat):Int):=by decide
  have hle:h.ro<=m:=okm.1
  have hw0:IntKind.wrap .i64 ((live []:Int) + 1)=((live [] + 1:Nat):Int):=rfl
  simp -implicitDefEqProofs only [zu,yI,zG,zR,zU,uM,yf,xG,ve,vR,Xr,ri,jJ,zF,zQ,yP,ya,yc,vS,V9,nth,nw,Value.cells,BK,aaf,aal,aax,aav,aaz,aaw,aaX,abj,zf,aaY,aaW,if_true,if_false,aaZ,Nat.reduceAdd,Nat.reduceLeDiff,Nat.reduceMul,Nat.reduceEqDiff,and_true,aah,wg,z9,vN,Jf,zt,zM,eZ,yU,zC,not_false_eq_true,Xm,zj,I6,Wy,Kd,Wg,kq,Wk,Vl,h1,h2,h30,hm,hap,Ze,Nat.reducePow,okm,hm2,hw0,aaw]
  refine ⟨rfl,_,⟨_,_,_,x.grow (p:=h.next) (q:=h.next + 1 + 1) (B:=fresh n) rfl (((((((jN.refl F h).push _).push _).push _).set (.inl x.fm) _).set (.inl x.fm) _)) ?_ ?_ (by omega) hro zM (by simp) ?_ ?_ ?_ (fun _=>rfl)⟩,(((((((jN.refl F h).push _).push _).push _).set (.inl x.fm) _).set (.inl x.fm) _)),fun b hb => ?_⟩
  ·simp only [ua,z9];omega
  ·simp only [ua,z9];omega
  ·rw [zE hmn2',zE hmn2',zD (by simp only [z9])];rw [hps];rfl
  ·rw [zE hmn',zE hmn',zt (by simp only [z9];omega)]
   rw [zt (by simp only [z9];omega),zo]
   show some (xE.cells [.int .i64 n,_,_] 145)=some (xE.cells [.int .i64 ((n.toNat:Nat):Int),_,_] 145)
   rw [hn0]
   rfl
  ·intro b hb hbm1 hbb1
   have hlt:=(x.ok b hb).2
   rw [zE hbm1,zE hbm1,zt (by simp only [z9];omega)]
   rw [zt (by simp only [z9];omega),zt hlt]
  ·rcases hb with hb | hb | hb
   ·exact .inl hb
   ·exact .inr (by omega)
   ·exact .inr (by omega)
 ·have okb:=x.ok bb fb
  have hroom:roomFor c (M.length + 1) 8=true:=by
   unfold roomFor
   cases Nat.beq c 2 <;> simp only [cond_true,cond_false,abY] <;> omega
  have hlp:M.length<=ps.length:=by rw [x.len];omega
  have hbm:¬ bb=m:=by intro e;subst e;rw [hbb] at hm;simp at hm
  have hmb:¬ m=bb:=fun e=>hbm e.symm
  have hb0:¬ bb=h.next:=by omega
  have hb2:¬ bb=h.next + 1 + 1:=by omega
  have hz:List.take M.length (List.map (fun p=>Value.pointer (some ⟨p,0,none⟩)) ps)=List.map (fun p=>Value.pointer (some ⟨p,0,none⟩)) ps:=abB (by simp [x.len])
  simp -implicitDefEqProofs only [zu,yI,zG,zR,zU,uM,yf,xG,ve,vR,Xr,ri,jJ,zF,zQ,yP,ya,yc,vS,V9,nth,nw,Value.cells,BK,aaf,aal,aax,aav,aaz,aaw,aak,aaX,abj,zf,aaY,aaW,abh,if_true,if_false,aaZ,Nat.reduceAdd,Nat.reduceLeDiff,Nat.reduceMod,Nat.reduceEqDiff,and_true,aah,wg,z9,ua,vN,Jf,zt,zM,zE,ne_eq,eZ,yU,zC,not_false_eq_true,Xm,zj,I6,Wy,Kd,Wg,kq,Wk,Vl,h1,h2,h3,hm,hap,Ze,okb,okm,hbb,hroom,hlp,aa6,hc,hmb,hm2,hz,hw1]
  refine ⟨rfl,_,⟨_,_,_,x.grow (p:=h.next) (q:=h.next + 1 + 1) (B:=fresh n) rfl (((((((jN.refl F h).push _).push _).set (.inl fb) _).push _).set (.inl x.fm) _).set (.inl x.fm) _) ?_ ?_ (by omega) hro zM (eR _ _) ?_ ?_ ?_ (fun _=>rfl)⟩,(((((((jN.refl F h).push _).push _).set (.inl fb) _).push _).set (.inl x.fm) _).set (.inl x.fm) _),fun b hb => ?_⟩
  ·simp only [ua,z9];omega
  ·simp only [ua,z9];omega
  ·rw [zE hmn2',zE hmn2',zD (by simp only [ua,z9])]
  ·have:¬ h.next=bb:=fun e=>hb0 e.symm
   rw [zE hmn',zE hmn',zt (by simp only [ua,z9];omega)]
   rw [zE this]
   rw [zt (by simp only [z9];omega),zo]
   show some (xE.cells [.int .i64 n,_,_] 145)=some (xE.cells [.int .i64 ((n.toNat:Nat):Int),_,_] 145)
   rw [hn0]
   rfl
  ·intro b hb hbm1 hbb1
   have hlt:=(x.ok b hb).2
   rw [zE hbm1,zE hbm1,zt (by simp only [ua,z9];omega)]
   rw [zE (fun e=>hbb1 c (by rw [e]))]
   rw [zt (by simp only [z9];omega),zt hlt]
  ·rcases hb with hb | hb | hb
   ·exact .inl hb
   ·exact .inr (by omega)
   ·exact .inr (by omega)
end
def CN (b n:Int):V:=if b < 1 then v0 else ⟨2,n,b⟩
def SQ (a:Int) (v:Value) (_:za):Prop:=v = .int .i64 a
section
variable {h:za} {m:Nat} {bs:Value} {ps:List Nat} {fs:Nat->Nat->Prop} {M:MM} {F:Nat->Prop}
theorem rK (x:ZW h m bs ps fs M F) {n:Int} {i:Nat} (hi:idx M n=some i):n=i + 1/\i < M.length /\ ∃ q B pg,ps[i]? = some q/\M[i]? = some B/\B.kb=false/\h.get q=some (.cells [.int .i64 B.size,pg,.bool B.kb] 145)/\fs i q/\Xg h pg B (fs i):=by
 obtain ⟨hn,B,hB,hf⟩:=mL hi
 have hlt:i < M.length:=by
  rcases aar i M.length with a | a
  ·exact a
  ·rw [aaj a] at hB;cases hB
 obtain ⟨q,hq⟩:∃ q,ps[i]? = some q:=⟨_,aab (by rw [x.len];exact hlt)⟩
 obtain ⟨pg,hbk,fq,hpg⟩:=x.kM i q B hq hB
 exact ⟨hn,hlt,q,B,pg,hq,hB,hf,hbk,fq,hpg⟩
theorem ZW.swap (x:ZW h m bs ps fs M F) {h1:za} {i p bb c:Nat} {B:MB} (hbs:bs = .slice (some ⟨bb,0,none⟩) M.length c) (hi:i < M.length) (YK:jN F h h1) (hp:h.next<=p/\p < h1.next)
  (e1:h1.get m=some (.cells [bs,.int .i64 (live (M.set i B))] 138)) (e2:h1.get bb=some (.cells ((ps.set i p).map fun p => .pointer (some ⟨p,0,none⟩)) 142))
  (e3:h1.get p=some (.cells [.int .i64 B.size,.slice none 0 0,.bool B.kb] 145)) (hu:∀ k,B.byte k=iq) (e4:∀ b,F b->b ≠ m->b ≠ bb->h1.get b=h.get b) :
  ZW h1 m bs (ps.set i p) (fun k b=>if k=i then b=p else fs k b) (M.set i B) (fun b=>F b\/b=p):=by
 have hnew:∀ b,h.next<=b->F b->False:=fun b hl hb=>by have:=(x.ok b hb).2;omega
 have hlp:=x.len
 have hbb:F bb/\c ≠ 0 /\ ∀ i,¬ fs i bb:=by
  rcases x.hb with ⟨rfl,_⟩ | ⟨bb',c',r,r1,r2,_,r4⟩
  ·cases hi
  ·rw [hbs] at r;cases r;exact ⟨r2,r1,r4⟩
 refine ⟨e1,.inl x.fm,by simp [hlp],?_,?_,?_,?_,?_,?_⟩
 ·refine .inr ⟨bb,c,by rw [hbs,aa3],hbb.2.1,.inl hbb.1,e2,fun k hk => ?_⟩
  split at hk
  ·exact hnew bb (by rw [hk];exact hp.1) hbb.1
  ·exact hbb.2.2 k hk
 ·intro k hk
  split at hk
  ·exact hnew m (by rw [hk];exact hp.1) x.fm
  ·exact x.nm k hk
 ·intro k q C hq hC
  by_cases e:k=i
  ·subst e
   rw [aaT (by omega)] at hq hC
   cases hq;cases hC
   simp only [if_true]
   exact ⟨_,e3,rfl,.empty rfl hu⟩
  ·rw [abk (fun z=>e z.symm)] at hq hC
   simp only [if_neg e]
   exact (x.kM k q C hq hC).zB (fun b hb=>e4 b (x.sub k b hb) (fun z=>by subst z;exact x.nm k hb) (fun z=>by subst z;exact hbb.2.2 k hb))
 ·intro a b z ha hz
  split at ha <;> split at hz
  ·rename_i e1 e2;rw [e1,e2]
  ·exact (hnew z (by rw [ha];exact hp.1) (x.sub b z hz)).elim
  ·exact (hnew z (by rw [hz];exact hp.1) (x.sub a z ha)).elim
  ·exact x.Ol a b z ha hz
 ·intro k b hk
  split at hk
  ·exact .inr hk
  ·exact .inl (x.sub k b hk)
 ·intro b hb
  have n1:=YK.next
  have n2:=YK.ro
  have o1:=x.ok m x.fm
  rcases hb with hb | hb
  ·have:=x.ok b hb;omega
  ·omega
theorem Hj {M:MM} {i:Nat} {B B':MB} (h:M[i]? = some B) (hf:B.kb=false) (hf':B'.kb=true):live (M.set i B') + 1=live M:=by
 unfold live
 induction M generalizing i with
 | nil=>cases h
 | cons A M ih=>
   cases i with
   | zero=>simp at h;subst h;simp [hf,hf']
   | succ i=>simp at h;simp only [aaW,aby];split <;> simp [<- ih h]
def gone (B:MB):MB:=⟨B.size,true,fun _=>iq⟩
def jL (M:MM) (n:Int):Option MM:=(idx M n).bind fun i=>(M[i]?).map fun B=>M.set i (gone B)
def Em (h:za) (m:Nat) (M:MM) (F:Nat->Prop) (n:Int) (r:Value) (h1:za):Prop:=match jL M n with
 | none=>r = .bool false/\h1=h
 | some M'=>r = .bool true/\Ad h m M' F h1
theorem Nv (x:ZW h m bs ps fs M F) (hL:M.length<=100000) {n:Int} (hn:n < 9223372036854775808):DC Tryz.prog 120 [.pointer (some ⟨m,0,none⟩),.int .i64 n] h (Em h m M F n):=by
 apply jO;intro hwf;have hro:=hwf.2
 apply Ga
 unfold H3
 refine zT (by kernel_rfl) rfl (E9 x hn) ?_
 rintro v h1 ⟨rfl,rfl⟩
 cases hi:idx M n with
 | none=>
   simp -implicitDefEqProofs only [zu,zG,zR,yD,xG,vO,Y7,zF,zQ,yP,aa2,nw,Value.cells,aav,zC,Xm,zj,cM,kq,Wk,aa2,kh]
   unfold Em jL
   simp only [hi,aa2,and_self]
 | some i=>
   obtain ⟨hni,hlt,q,B,pg,hq,hB,hf,hbk,fq,_⟩:=rK x hi
   have hfm:jL M n=some (M.set i (gone B)):=by unfold jL;rw [hi];simp [hB]
   rcases x.hb with ⟨rfl,_⟩ | ⟨bb,c,hbs,hc,fb,hbb,nb⟩
   ·cases hlt
   have hm:=x.hm
   have hw:IntKind.wrap .i64 (n - 1)=(i:Int):=by rw [ZV (by omega) (by omega)];omega
   have hc1:0<=(i:Int)/\(i:Int) < (M.length:Int):=by omega
   have okm:=x.ok m x.fm
   have okb:=x.ok bb fb
   have hbm:¬ bb=m:=by intro e;subst e;rw [hbb] at hm;simp at hm
   have hmb:¬ m=bb:=fun e=>hbm e.symm
   have hb0:¬ bb=h1.next:=by omega
   have hm0:¬ m=h1.next:=by omega
   have hi1:i + 1<=ps.length:=by rw [x.len];omega
   have hlv:=Hj (B':=gone B) hB hf rfl
   have hl:=Fw M
   have hll:((live M:Nat):Int) - 1=((live (M.set i (gone B)):Nat):Int):=by omega
   have hlw:IntKind.wrap .i64 (((live M:Nat):Int) - 1)=((live (M.set i (gone B)):Nat):Int):=by rw [hll];exact ZV (by omega) (by omega)
   have hset:∀ v:Value,zf (ps.map fun p=>Value.pointer (some ⟨p,0,none⟩)) i [v]=(ps.map fun p=>Value.pointer (some ⟨p,0,none⟩)).set i v:=fun v=>rfl
   rw [hbs] at hm
   simp -implicitDefEqProofs only [zu,zG,zR,zU,xG,vO,Y7,zF,zQ,yP,yc,vS,K9,aaC,nw,Value.cells,aaf,aal,aav,aaz,aaw,aak,aaX,abj,zf,aaY,aaW,if_true,aaZ,Nat.reduceAdd,and_true,aah,vN,Jf,zt,zE,yU,zC,not_false_eq_true,Xm,zj,OU,Wy,Ds,YL,kq,Wk,qq,DN,aaC,kh,hq,hbk,hm,hw,hc1,hbb,aau,aa6,okb,okm,hmb,hi1,hlw]
   unfold Em
   rw [hfm]
   have YK:jN F h1 (((h1.push (.cells [.int .i64 B.size,.slice none 0 0,.bool true] 145)).set bb (some (.cells ((ps.map fun p=>Value.pointer (some ⟨p,0,none⟩)).set i (.pointer (some ⟨h1.next,0,none⟩))) 142))).set m
     (some (.cells [.slice (some ⟨bb,0,none⟩) M.length c,.int .i64 (live (M.set i (gone B)))] 138))):=(((jN.refl _ _).push _).set (.inl fb) _).set (.inl x.fm) _
   refine ⟨rfl,_,⟨_,_,_,x.swap (p:=h1.next) (B:=gone B) hbs hlt YK ⟨aah _,?_⟩ ?_ ?_ ?_ (fun _=>rfl) ?_⟩,YK,fun b hb => ?_⟩
   ·simp only [ua,z9];omega
   ·rw [zM,hbs]
   ·rw [zE hbm,zM,acs]
   ·have n1:¬ h1.next=m:=fun e=>hm0 e.symm
    have n2:¬ h1.next=bb:=fun e=>hb0 e.symm
    rw [zE n1,zE n2,zo]
    rfl
   ·intro b hb b1 b2
    have:=x.ok b hb
    rw [zE b1,zE b2,zt this.2]
   ·rcases hb with hb | hb
    ·exact .inl hb
    ·exact .inr (by omega)
def zc:Cl:=⟨1,0,v0⟩
def Wx (B:MB) (k:Nat):MB:={ B with byte:=fun a=>if a < k then zc else B.byte a }
theorem Ek (B:MB):Wx B 0=B:=by
 unfold Wx
 congr 1
theorem Ej (B:MB) (k:Nat):{ Wx B k with byte:=tY (Wx B k).byte k zc } = Wx B (k + 1):=by
 unfold Wx tY
 simp only [MB.mk.injEq,true_and]
 funext a
 by_cases e:a=k
 ·subst e;rw [if_pos rfl,if_pos (by omega)]
 ·rw [if_neg e]
  by_cases e2:a < k
  ·rw [if_pos e2,if_pos (by omega)]
  ·rw [if_neg e2,if_neg (by omega)]
def Ur (M:MM) (n:Int):Option MM:=(idx M n).bind fun i=>(M[i]?).map fun B=>M.set i (Wx B B.size)
def E1 (h:za) (m:Nat) (M:MM) (F:Nat->Prop) (n:Int) (r:Value) (h1:za):Prop:=match Ur M n with
 | none=>r = .bool false/\h1=h
 | some M'=>r = .bool true/\Ad h m M' F h1
def Rz (h:za) (m:Nat) (bs:Value) (ps:List Nat) (M:MM) (F:Nat->Prop) (i:Nat) (B:MB) (n:Nat) (vs:List Value) (h':za):Prop :=
 ∃ k fs F',k<=B.size/\n=B.size - k/\vs = [.int .i64 k]/\ZW h' m bs ps fs (M.set i (Wx B k)) F'/\jN F h h' /\ ∀ b,F' b->F b\/h.next<=b
theorem HH {M:MM} {i:Nat} {A B:MB}:(M.set i A).set i B=M.set i B:=by simp
theorem N0 (x:ZW h m bs ps fs M F) (hs:small M) {n:Int} (hn:n < 9223372036854775808):DC Tryz.prog 48 [.pointer (some ⟨m,0,none⟩),.int .i64 n] h (E1 h m M F n):=by
 apply jO;intro hwf;have hro:=hwf.2
 apply Gc
 unfold H6
 refine zT (by kernel_rfl) rfl (E9 x hn) ?_
 rintro v h1 ⟨rfl,rfl⟩
 cases hi:idx M n with
 | none=>
   simp -implicitDefEqProofs only [zu,zG,zR,yD,vO,zF,zQ,yP,yc,aa2,BK,Bs,cM,aa2,kh]
   unfold E1 Ur
   simp only [hi,aa2,and_self]
 | some i=>
   obtain ⟨hni,hlt,q,B,pg,hq,hB,hf,hbk,fq,_⟩:=rK x hi
   have hfm:Ur M n=some (M.set i (Wx B B.size)):=by unfold Ur;rw [hi];simp [hB]
   have hz:=hs i B hB
   simp -implicitDefEqProofs only [zu,zG,zR,zU,xG,vO,zF,zQ,yP,yc,aaC,BK,aaf,zC,zj,Bs,YL,qq,aaC,kh,hq,hbk]
   refine kj (Rz h1 m bs ps M F i B) B.size ⟨0,fs,F,by omega,rfl,rfl,by rw [Ek,Cw hB];exact x,.refl _ _,fun b hb => .inl hb⟩ ?_
   rintro n' vs h2 ⟨k,fs2,F2,hk,rfl,rfl,y,e2,s2⟩
   have hmi:(M.set i (Wx B k))[i]? = some (Wx B k):=aaT hlt
   obtain ⟨pg2,hbk2,fq2,hpg2⟩:=y.kM i q _ hq hmi
   have hzs:(Wx B k).size=B.size:=rfl
   have hzf:(Wx B k).kb=B.kb:=rfl
   by_cases hki:k < B.size
   ·have hki':(k:Int) < (B.size:Int):=by omega
    have hmd:=L6 hbk2 hpg2 fq2 (fun b hb=>y.ok b (y.sub i b hb)) (by rw [e2.ro];have:=e2.next;omega) (a:=k) (by omega) (by omega) (by omega)
    simp -implicitDefEqProofs only [zu,zG,zR,yD,vR,jJ,Jv,zQ,nth,Int.reduceEq,wV,not_false_eq_true,hki']
    refine zT (by kernel_rfl) rfl hmd ?_
    rintro v h3 ⟨g,pq,cq,gs,F3,rfl,hbk3,hfull,hgs,fp3,ef3,hsub3,hok3⟩
    rw [aau] at hgs
    obtain ⟨cs,hcs,hle,hput⟩:=hfull.put hgs
    have hput':=hput zc
    have hr1:(k:Int).tmod 64=((k % 64:Nat):Int):=by rw [abG (by omega)];omega
    have hb1:0<=((k % 64:Nat):Int)/\((k % 64:Nat):Int) < 64:=by omega
    have fg:=(hfull.hg _ g hgs).1
    have okg:=(hok3 g fg).1
    have hw2:IntKind.wrap .i64 ((k:Int) + 1)=((k + 1:Nat):Int):=by rw [ZV (by omega) (by omega)];omega
    simp -implicitDefEqProofs only [zu,xG,vS,aav,aaz,aaw,aaX,abj,zf,if_true,aaZ,Nat.reduceAdd,and_true,yU,Kc,Pm,kh,hr1,hb1,aau,hcs,hle,okg,hw2]
    have hne:q ≠ g:=by intro e;subst e;rw [hcs] at hbk3;simp at hbk3
    generalize hH:h3.set g _=H
    have hfull2:YT H pq gs (Wx B (k + 1)) F3:=by
     rw [<- hH,<- Ej];exact hput'
    have ef4:jN (fs2 i) h2 H:=by
     rw [<- hH];exact ef3.set (hsub3 g fg) _
    have hbk4:H.get q=some (.cells [.int .i64 B.size,.slice (some ⟨pq,0,none⟩) gs.length cq,.bool B.kb] 145):=by
     rw [<- hH,zE hne];exact hbk3
    have hok4:∀ b,F3 b->H.ro<=b/\b < H.next:=by
     rw [<- hH];exact hok3
    have z:=y.tY hq hmi (B':=Wx B (k + 1)) rfl ef4 ⟨_,hbk4,fp3,.full pq cq gs rfl hfull2⟩ hsub3 hok4
    rw [HH] at z
    have hcl:∀ b,fs2 i b->F b\/h1.next<=b:=fun b hb=>s2 b (y.sub i b hb)
    refine ⟨B.size - (k + 1),by omega,k + 1,_,_,by omega,rfl,rfl,z,e2.more ef4 hcl,fun b hb => ?_⟩
    rcases hb with hb | hb
    ·exact s2 b hb
    ·rcases hsub3 b hb with q | q
     ·exact hcl b q
     ·exact .inr (by have:=e2.next;omega)
   ·have hkb:k=B.size:=by omega
    subst hkb
    have hki':¬ (B.size:Int) < (B.size:Int):=by omega
    simp -implicitDefEqProofs only [zu,zG,zR,zU,vR,jJ,Jv,zQ,nth,Int.reduceEq,wg,not_false_eq_true,hki']
    unfold E1
    rw [hfm]
    exact ⟨rfl,_,⟨_,_,_,y⟩,e2,s2⟩
end
def SZ (H:za) (F:Nat->Prop) (h':za):Prop:=jN tM H h' /\ ∀ b,F b->H.next<=b
theorem SZ.YK {H h1 h2:za} {F:Nat->Prop} (o:SZ H F h1) (e:jN tM h1 h2):SZ H F h2:=⟨o.1.trans e,o.2⟩
end Go.Mem
