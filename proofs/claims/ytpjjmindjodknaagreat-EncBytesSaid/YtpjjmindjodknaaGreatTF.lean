import Derived.Test.YtpjjmindjodknaaGreatChecked
import Derived.KernelRfl
import Derived.Test.YtpjjmindjodknaaGreatTE
set_option linter.unusedVariables false
set_option linter.unusedSimpArgs false
set_option maxRecDepth 100000
namespace Go.Mem
open Go.Ai Go.Proofs Go.Proofs.Tryz
noncomputable abbrev zz:=prog
abbrev VK:=Value->za->Prop
abbrev LK:=List Value->za->Prop
abbrev ci (n:Int):Operand := .const (.int .i64 n)
abbrev fn (n:Nat):Value := .func (.func n) #[] #[]
variable {h:za} {t0 t1 t2 t3 t4 t5 t6:Value} {R:VK}
def qs:FuncId->Nat:=fun g=>0
theorem mixed:prog.follows .mixedOrders=true:=Pm Tryz.checked
theorem xB {f:FuncId} {args:List Value} {X:Prop} (e:Fi zz (U8 zz qs) 200 f args h R=X) (hw:X):DC zz f args h R:=XY mixed (q:=qs) (n:=200) (Eq.mpr e hw)
theorem xA (b off:Nat) (h:za):zc Tryz.prog 2 (.pointer (some ⟨b,off,none⟩)) h=zq h b off:=ym (by kernel_rfl) b off h
theorem zi (b off:Nat) (h:za):zc Tryz.prog 3 (.pointer (some ⟨b,off,none⟩)) h=zq h b off:=ym (by kernel_rfl) b off h
theorem IJ (b off:Nat) (h:za):zc Tryz.prog 5 (.pointer (some ⟨b,off,none⟩)) h=zq h b off:=ym (by kernel_rfl) b off h
theorem WX (n:Int) (h:za):wM Tryz.prog 21 2 (.int .i32 n) h=some (.int .i64 (IntKind.wrap .i64 n),h):=zK (by kernel_rfl)
theorem QJ (n:Int) (h:za):wM Tryz.prog 2 5 (.int .i64 n) h=some (.int .u8 (IntKind.wrap .u8 n),h):=zK (by kernel_rfl)
theorem WY (n:Int) (h:za):wM Tryz.prog 3 5 (.int .i64 n) h=some (.int .u8 (IntKind.wrap .u8 n),h):=zK (by kernel_rfl)
theorem D1 (n:Int) (h:za):wM Tryz.prog 5 3 (.int .u8 n) h=some (.int .i64 (IntKind.wrap .i64 n),h):=zK (by kernel_rfl)
structure V where
 k:Int
 n:Int
 b:Int
 deriving DecidableEq
def V.mJ (v:V):List Value:=[.int .i64 v.k,.int .i64 v.n,.int .i64 v.b]
def V.val (v:V):Value := .agg #[.int .i64 v.k,.int .i64 v.n,.int .i64 v.b]
def v0:V:=⟨0,0,0⟩
structure Cl where
 k:Int
 n:Int
 p:V
 deriving DecidableEq
def Cl.mJ (c:Cl):List Value:=[.int .u8 c.k,.int .u8 c.n,.int .i64 c.p.k,.int .i64 c.p.n,.int .i64 c.p.b]
def AU:Cl:=⟨0,0,v0⟩
structure MB where
 size:Nat
 Qa:Bool
 byte:Nat->Cl
abbrev MM:=List MB
def FQ:Option Nat->Value
 | none => .pointer none
 | some g => .pointer (some ⟨g,0,none⟩)
def gD (h:za) (g:Nat) (f:Nat->Cl):Prop := ∃ cs,h.get g=some (.cells cs 180)/\cs.length=320 /\ ∀ k j,k < 64->j < 5->cs[k * 5 + j]? = (f k).mJ[j]?
structure Vk (h:za) (q:Nat) (gs:List (Option Nat)) (B:MB) (F:Nat->Prop):Prop where
 hl:gs.length=(B.size + 63) / 64
 fq:F q
 hq:h.get q=some (.cells (gs.map FQ) 165)
 hg:∀ (j g:Nat),gs[j]? = some (some g)->F g/\gD h g (fun k=>B.byte (64 * j + k))
 hn:∀ j:Nat,gs[j]? = some none->∀ k,k < 64->B.byte (64 * j + k)=AU
 hd:∀ i j g:Nat,gs[i]? = some (some g)->gs[j]? = some (some g)->i=j
 ht:∀ k,64 * gs.length<=k->B.byte k=AU
inductive Wn (h:za) (pg:Value) (B:MB) (F:Nat->Prop):Prop
 | empty (e:pg = .slice none 0 0) (u:∀ k,B.byte k=AU):Wn h pg B F
 | full (q c:Nat) (gs:List (Option Nat)) (e:pg = .slice (some ⟨q,0,none⟩) gs.length c) (x:Vk h q gs B F):Wn h pg B F
def lh (h:za) (p:Nat) (B:MB) (F:Nat->Prop):Prop := ∃ pg,h.get p=some (.cells [.int .i64 B.size,pg,.bool B.Qa] 161)/\F p/\Wn h pg B F
def live (M:MM):Nat:=(M.filter fun B => !B.Qa).length
structure Fo (h:za) (m:Nat) (bs:Value) (ps:List Nat) (fs:Nat->Nat->Prop) (M:MM) (F:Nat->Prop):Prop where
 hm:h.get m=some (.cells [bs,.int .i64 (live M)] 154)
 fm:F m
 len:ps.length=M.length
 hb:(M = []/\bs = .slice none 0 0) \/ ∃ bb c,bs = .slice (some ⟨bb,0,none⟩) M.length c/\c ≠ 0/\F bb/\h.get bb=some (.cells (ps.map fun p => .pointer (some ⟨p,0,none⟩)) 158) /\ ∀ i,¬ fs i bb
 nm:∀ i,¬ fs i m
 QF:∀ i p B,ps[i]? = some p->M[i]? = some B->lh h p B (fs i)
 FC:∀ i j b,fs i b->fs j b->i=j
 sub:∀ i b,fs i b->F b
 ok:∀ b,F b->True/\b < h.next
structure bo (h:za) (m:Nat) (bs:Value) (ps:List Nat) (fs:Nat->Nat->Prop) (M:MM) (F:Nat->Prop):Prop where
 hm:h.get m=some (.cells [bs,.int .i64 (live M)] 154)
 fm:F m
 len:ps.length=M.length
 hb:(M = []/\bs = .slice none 0 0) \/ ∃ bb c,bs = .slice (some ⟨bb,0,none⟩) M.length c/\c ≠ 0/\F bb/\h.get bb=some (.cells (ps.map fun p => .pointer (some ⟨p,0,none⟩)) 158) /\ ∀ i,¬ fs i bb
 nm:∀ i,¬ fs i m
 QF:∀ i p B,ps[i]? = some p->M[i]? = some B->lh h p B (fs i)
 FC:∀ i j b,fs i b->fs j b->i=j
 sub:∀ i b,fs i b->F b
 ok:∀ b,F b->h.ro<=b/\b < h.next
theorem bo.r {h:za} {m:Nat} {bs:Value} {ps:List Nat} {fs:Nat->Nat->Prop} {M:MM} {F:Nat->Prop} (x:bo h m bs ps fs M F):Fo h m bs ps fs M F:=⟨x.hm,x.fm,x.len,x.hb,x.nm,x.QF,x.FC,x.sub,fun b hb=>⟨trivial,(x.ok b hb).2⟩⟩
def AZ (h:za) (m:Nat) (M:MM) (F:Nat->Prop):Prop := ∃ bs ps fs,bo h m bs ps fs M F
structure aa (F:Nat->Prop) (h h':za):Prop where
 next:h.next<=h'.next
 ro:h'.ro=h.ro
 get:∀ b,¬ F b->b < h.next->h'.get b=h.get b
theorem aa.refl (F:Nat->Prop) (h:za):aa F h h:=⟨NG _,rfl,fun _ _ _=>rfl⟩
theorem aa.trans {F:Nat->Prop} {a b c:za} (x:aa F a b) (y:aa F b c):aa F a c :=
 ⟨Oc x.next y.next,y.ro.trans x.ro,fun i hi hlt=>(y.get i hi (NH hlt x.next)).trans (x.get i hi hlt)⟩
theorem aa.mono {F G:Nat->Prop} {a b:za} (x:aa F a b) (h:∀ i,F i->G i):aa G a b:=⟨x.next,x.ro,fun i hi hlt=>x.get i (fun e=>hi (h i e)) hlt⟩
def Ng:Nat->Prop:=fun _=>False
theorem aa.push {F:Nat->Prop} {h h':za} (x:aa F h h') (o:wi):aa F h (h'.push o) :=
 ⟨OS x.next,x.ro,fun b hb hlt=>(zQ (NH hlt x.next)).trans (x.get b hb hlt)⟩
theorem aa.set {F:Nat->Prop} {h h':za} (x:aa F h h') {b:Nat} (hb:F b\/h.next<=b) (o:Option wi):aa F h (h'.set b o) :=
 ⟨x.next,x.ro,fun c hc hlt=>(vf (by rcases hb with e | e; (intro q;subst q;exact hc e);omega)).trans (x.get c hc hlt)⟩
section mono
variable {h h':za}
theorem gD.zK {g:Nat} {f:Nat->Cl} (x:gD h g f) (e:h'.get g=h.get g):gD h' g f:=by obtain ⟨cs,a,b⟩:=x;exact ⟨cs,e.trans a,b⟩
theorem Vk.zK {q:Nat} {gs:List (Option Nat)} {B:MB} {F:Nat->Prop} (x:Vk h q gs B F) (e:∀ b,F b->h'.get b=h.get b):Vk h' q gs B F :=
 ⟨x.hl,x.fq,(e q x.fq).trans x.hq,fun j g hj=>⟨(x.hg j g hj).1,(x.hg j g hj).2.zK (e g (x.hg j g hj).1)⟩,x.hn,x.hd,x.ht⟩
theorem Vk.more {q:Nat} {gs:List (Option Nat)} {B:MB} {F G:Nat->Prop} (x:Vk h q gs B F) (e:∀ b,F b->G b):Vk h q gs B G :=
 ⟨x.hl,e q x.fq,x.hq,fun j g hj=>⟨e _ (x.hg j g hj).1,(x.hg j g hj).2⟩,x.hn,x.hd,x.ht⟩
theorem Wn.zK {pg:Value} {B:MB} {F:Nat->Prop} (x:Wn h pg B F) (e:∀ b,F b->h'.get b=h.get b):Wn h' pg B F:=by
 cases x with
 | empty a b=>exact .empty a b
 | full q c gs a x=>exact .full q c gs a (x.zK e)
theorem Wn.more {pg:Value} {B:MB} {F G:Nat->Prop} (x:Wn h pg B F) (e:∀ b,F b->G b):Wn h pg B G:=by
 cases x with
 | empty a b=>exact .empty a b
 | full q c gs a x=>exact .full q c gs a (x.more e)
theorem lh.zK {p:Nat} {B:MB} {F:Nat->Prop} (x:lh h p B F) (e:∀ b,F b->h'.get b=h.get b):lh h' p B F:=by
 obtain ⟨pg,a,b,c⟩:=x;exact ⟨pg,(e p b).trans a,b,c.zK e⟩
theorem lh.more {p:Nat} {B:MB} {F G:Nat->Prop} (x:lh h p B F) (e:∀ b,F b->G b):lh h p B G:=by
 obtain ⟨pg,a,b,c⟩:=x;exact ⟨pg,a,e p b,c.more e⟩
theorem Fo.zK {m:Nat} {bs:Value} {ps:List Nat} {fs:Nat->Nat->Prop} {M:MM} {F:Nat->Prop} (x:Fo h m bs ps fs M F) (e:∀ b,F b->h'.get b=h.get b) (hn:h.next<=h'.next):Fo h' m bs ps fs M F :=
 ⟨(e m x.fm).trans x.hm,x.fm,x.len,by
   rcases x.hb with a | ⟨bb,c,a,b,d,g,o⟩
   ·exact .inl a
   ·exact .inr ⟨bb,c,a,b,d,(e bb d).trans g,o⟩,x.nm,fun i p B hp hB=>(x.QF i p B hp hB).zK (fun b hb=>e b (x.sub i b hb)),x.FC,x.sub,fun b hb=>by
    exact ⟨trivial,NH (x.ok b hb).2 hn⟩⟩
theorem bo.zK {m:Nat} {bs:Value} {ps:List Nat} {fs:Nat->Nat->Prop} {M:MM} {F:Nat->Prop} (x:bo h m bs ps fs M F) (e:∀ b,F b->h'.get b=h.get b) (hn:h.next<=h'.next) (hr:h'.ro=h.ro):bo h' m bs ps fs M F :=
 ⟨(e m x.fm).trans x.hm,x.fm,x.len,by
   rcases x.hb with a | ⟨bb,c,a,b,d,g,o⟩
   ·exact .inl a
   ·exact .inr ⟨bb,c,a,b,d,(e bb d).trans g,o⟩,x.nm,fun i p B hp hB=>(x.QF i p B hp hB).zK (fun b hb=>e b (x.sub i b hb)),x.FC,x.sub,fun b hb=>by
    have:=x.ok b hb;rw [hr];omega⟩
theorem AZ.zK {m:Nat} {M:MM} {F:Nat->Prop} (x:AZ h m M F) (e:∀ b,F b->h'.get b=h.get b) (hn:h.next<=h'.next) (hr:h'.ro=h.ro):AZ h' m M F:=by
 obtain ⟨bs,ps,fs,x⟩:=x;exact ⟨bs,ps,fs,x.zK e hn hr⟩
theorem AZ.CP {m:Nat} {M:MM} {F G:Nat->Prop} (x:AZ h m M F) (e:aa G h h') (hd:∀ b,F b->¬ G b):AZ h' m M F:=by
 obtain ⟨bs,ps,fs,x⟩:=x
 exact ⟨bs,ps,fs,x.zK (fun b hb=>e.get b (hd b hb) (x.ok b hb).2) e.next e.ro⟩
end mono
theorem Eu {M:MM} {i:Nat} {B B':MB} (h:M[i]? = some B) (hf:B'.Qa=B.Qa):live (M.set i B')=live M:=by
 unfold live
 induction M generalizing i with
 | nil=>rfl
 | cons A M ih=>
   cases i with
   | zero=>simp at h;subst h;simp [hf,OU];split <;> rfl
   | succ i=>simp at h;simp only [List.set_cons_succ,OU];split <;> simp [ih h]
theorem bo.Fl {h h1:za} {m:Nat} {bs:Value} {ps:List Nat} {fs:Nat->Nat->Prop} {M:MM} {F:Nat->Prop} (x:bo h m bs ps fs M F) {i q:Nat} {B B':MB} {F2:Nat->Prop} (hq:ps[i]? = some q) (hB:M[i]? = some B) (hf:B'.Qa=B.Qa)
  (CP:aa (fs i) h h1) (hb:lh h1 q B' F2) (h2:∀ b,F2 b->fs i b\/h.next<=b) (h3:∀ b,F2 b->h1.ro<=b/\b < h1.next) :
  bo h1 m bs ps (fun k=>if k=i then F2 else fs k) (M.set i B') (fun b=>F b\/F2 b):=by
 have old:∀ b,F b->¬ fs i b->h1.get b=h.get b:=fun b hb hn=>CP.get b hn (x.ok b hb).2
 have hnew:∀ b,h.next<=b->F b->False:=fun b hl hb=>by have:=(x.ok b hb).2;omega
 have hlt:i < M.length:=by
  rcases NZ i M.length with a | a
  ·exact a
  ·rw [NM a] at hB;cases hB
 refine ⟨by rw [old m x.fm (x.nm i),x.hm,Eu hB hf],.inl x.fm,by rw [x.len,Pu],?_,?_,?_,?_,?_,?_⟩
 ·rcases x.hb with ⟨rfl,_⟩ | ⟨bb,c,e1,e2,e3,e4,e5⟩
  ·cases hB
  ·refine .inr ⟨bb,c,by rw [e1,Pu],e2,.inl e3,(old bb e3 (e5 i)).trans e4,fun k hk => ?_⟩
   split at hk
   ·rcases h2 bb hk with a | a
    ·exact e5 i a
    ·exact hnew bb a e3
   ·exact e5 k hk
 ·intro k hk
  split at hk
  ·rcases h2 m hk with a | a
   ·exact x.nm i a
   ·exact hnew m a x.fm
  ·exact x.nm k hk
 ·intro k p C hp hC
  by_cases e:k=i
  ·subst e
   rw [OK hlt] at hC
   cases hC
   rw [hq] at hp;cases hp
   simp only [NK]
   exact hb
  ·rw [OY (fun q=>e q.symm)] at hC
   simp only [NJ e]
   exact (x.QF k p C hp hC).zK (fun b hb=>old b (x.sub k b hb) (fun hc=>e (x.FC k i b hb hc)))
 ·intro a b z ha hz
  split at ha <;> split at hz
  ·rename_i e1 e2;rw [e1,e2]
  ·rename_i e1 e2
   rcases h2 z ha with c | c
   ·exact absurd (x.FC b i z hz c) e2
   ·exact (hnew z c (x.sub b z hz)).elim
  ·rename_i e1 e2
   rcases h2 z hz with c | c
   ·exact absurd (x.FC a i z ha c) e1
   ·exact (hnew z c (x.sub a z ha)).elim
  ·exact x.FC a b z ha hz
 ·intro k b hk
  split at hk
  ·exact .inr hk
  ·exact .inl (x.sub k b hk)
 ·intro b hb
  have n1:=CP.next
  have n2:=CP.ro
  rcases hb with hb | hb
  ·have:=x.ok b hb;omega
  ·exact h3 b hb
theorem gC {n:Int} (h1 : -9223372036854775808<=n) (h2:n < 9223372036854775808):IntKind.wrap .i64 n=n:=by
 simp only [IntKind.wrap,IntKind.bits,IntKind.signed];simp;omega
def idx (M:MM) (n:Int):Option Nat:=if 1<=n/\n<=M.length then (match M[n.toNat - 1]? with
 | some B=>if B.Qa=true then none else some (n.toNat - 1)
 | none=>none) else none
def zp:List Value:=(List.replicate 64 [Value.int .u8 0,.int .u8 0,.int .i64 0,.int .i64 0,.int .i64 0]).flatten
theorem Fj:zp.length=320:=by kernel_rfl
theorem Iz:∀ k j,k < 64->j < 5->zp[k * 5 + j]? = AU.mJ[j]?:=by
 have h:(List.range 64).all (fun k=>(List.range 5).all fun j=>decide (k * 5 + j < zp.length))=true:=by decide +kernel
 have key:∀ k:Fin 64,∀ j:Fin 5,zp[k.1 * 5 + j.1]? = AU.mJ[j.1]?:=by
  intro k j
  have hl:k.1 * 5 + j.1 < zp.length:=by rw [Fj];omega
  have e1:zp[k.1 * 5 + j.1]? = ([Value.int .u8 0,.int .u8 0,.int .i64 0,.int .i64 0,.int .i64 0]:List Value)[j.1]?:=by
   have aux:∀ (n:Nat) (l:List Value),l.length=5->∀ k j,k < n->j < 5->((List.replicate n l).flatten)[k * 5 + j]? = l[j]?:=by
    intro n l hl
    induction n with
    | zero=>intro k j hk;omega
    | succ n ih=>
      intro k j hk hj
      rw [List.replicate_succ,Ph]
      cases k with
      | zero=>rw [Oi (by omega)];simp
      | succ k=>rw [Ot (by omega),hl,show (k + 1) * 5 + j - 5=k * 5 + j by omega];exact ih k j (by omega) hj
   exact aux 64 _ rfl k.1 j.1 k.2 j.2
  rw [e1];rfl
 exact fun k j hk hj=>key ⟨k,hk⟩ ⟨j,hj⟩
theorem Cy {h h1:za} {q j g:Nat} {gs:List (Option Nat)} {B:MB} {F:Nat->Prop} (hl:gs.length=(B.size + 63) / 64) (hg:∀ (j g:Nat),gs[j]? = some (some g)->F g/\gD h g (fun k=>B.byte (64 * j + k))) (hn:∀ j:Nat,gs[j]? = some none->∀ k,k < 64->B.byte (64 * j + k)=AU)
  (hd:∀ i j g:Nat,gs[i]? = some (some g)->gs[j]? = some (some g)->i=j) (ht:∀ k,64 * gs.length<=k->B.byte k=AU) (hj:gs[j]? = some none) (hq:h1.get q=some (.cells ((gs.set j (some g)).map FQ) 165)) (fq:F q)
  (hold:∀ (i g:Nat),gs[i]? = some (some g)->h1.get g=h.get g) (hnew:h1.get g=some (.cells zp 180)) (fg:¬ F g):Vk h1 q (gs.set j (some g)) B (fun b=>F b\/b=g):=by
 have hlt:j < gs.length:=by
  rcases NZ j gs.length with a | a
  ·exact a
  ·rw [NM a] at hj;cases hj
 have hs:∀ i o,(gs.set j (some g))[i]? = some o->(i=j/\o=some g)\/(i ≠ j/\gs[i]? = some o):=by
  intro i o hi
  by_cases e:i=j
  ·subst e;rw [OK hlt] at hi;exact .inl ⟨rfl,(PE hi).symm⟩
  ·rw [OY (fun q=>e q.symm)] at hi;exact .inr ⟨e,hi⟩
 refine ⟨by simp [hl],.inl fq,hq,fun i g' hi => ?_,fun i hi => ?_,fun a b g' ha hb => ?_,by simpa using ht⟩
 ·rcases hs i _ hi with ⟨rfl,e⟩ | ⟨_,e⟩
  ·cases e
   refine ⟨.inr rfl,zp,hnew,Fj,fun k j' hk hj' => ?_⟩
   rw [Iz k j' hk hj'];show _=(B.byte (64 * i + k)).mJ[j']?;rw [hn i hj k hk]
  ·exact ⟨.inl (hg i g' e).1,(hg i g' e).2.zK (hold i g' e)⟩
 ·rcases hs i _ hi with ⟨_,e⟩ | ⟨_,e⟩
  ·cases e
  ·exact hn i e
 ·rcases hs a _ ha with ⟨e1,e2⟩ | ⟨_,e2⟩ <;> rcases hs b _ hb with ⟨e3,e4⟩ | ⟨_,e4⟩
  ·rw [e1,e3]
  ·cases e2;exact absurd (hg _ _ e4).1 fg
  ·cases e4;exact absurd (hg _ _ e2).1 fg
  ·exact hd a b g' e2 e4
section
variable {h:za} {p:Nat} {B:MB} {F:Nat->Prop} {pg:Value} {a:Int}
def Gz (h:za) (p:Nat) (B:MB) (F:Nat->Prop) (a:Int) (v:Value) (h1:za):Prop :=
 ∃ g q c gs F',v=FQ (some g)/\h1.get p=some (.cells [.int .i64 B.size,.slice (some ⟨q,0,none⟩) gs.length c,.bool B.Qa] 161)/\Vk h1 q gs B F'/\gs[a.toNat / 64]? = some (some g)/\F' p/\aa F h h1/\(∀ b,F' b->F b\/h.next<=b) /\ ∀ b,F' b->h1.ro<=b/\b < h1.next
theorem Gz.mk {h h1:za} {p q c g:Nat} {gs:List (Option Nat)} {B:MB} {F:Nat->Prop} {a:Int} (fp:F p) (ok:∀ b,F b->h.ro<=b/\b < h.next) (hl:gs.length=(B.size + 63) / 64) (hj:gs[a.toNat / 64]? = some none) (fq:F q\/h.next<=q)
  (hg:∀ (j g:Nat),gs[j]? = some (some g)->F g/\gD h g (fun k=>B.byte (64 * j + k))) (hn:∀ j:Nat,gs[j]? = some none->∀ k,k < 64->B.byte (64 * j + k)=AU)
  (hd:∀ i j g:Nat,gs[i]? = some (some g)->gs[j]? = some (some g)->i=j) (ht:∀ k,64 * gs.length<=k->B.byte k=AU)
  (CP:aa F h h1) (hqn:q < h1.next) (hgn:h.next<=g/\g < h1.next) (hro:h.ro<=h.next)
  (hp1:h1.get p=some (.cells [.int .i64 B.size,.slice (some ⟨q,0,none⟩) gs.length c,.bool B.Qa] 161)) (hq1:h1.get q=some (.cells ((gs.set (a.toNat / 64) (some g)).map FQ) 165)) (hg1:h1.get g=some (.cells zp 180))
  (hold:∀ (i g:Nat),gs[i]? = some (some g)->h1.get g=h.get g):Gz h p B F a (.pointer (some ⟨g,0,none⟩)) h1:=by
 have P:=Cy (F:=fun b=>F b\/b=q) (h1:=h1) hl (fun j g hj=>⟨.inl (hg j g hj).1,(hg j g hj).2⟩) hn hd ht hj hq1 (.inr rfl) hold hg1 (by
  rintro (e | e)
  ·have:=ok _ e;omega
  ·subst e;rw [hq1] at hg1;simp at hg1)
 have hlt:a.toNat / 64 < gs.length:=by
  rcases NZ (a.toNat / 64) gs.length with e | e
  ·exact e
  ·rw [NM e] at hj;cases hj
 refine ⟨g,q,c,_,_,rfl,by rw [Pu];exact hp1,P,OK hlt,.inl (.inl fp),CP,fun b hb => ?_,fun b hb => ?_⟩
 ·rcases hb with (hb | hb) | hb
  ·exact .inl hb
  ·subst hb;exact fq
  ·subst hb;exact .inr hgn.1
 ·have n1:=CP.next
  have n2:=CP.ro
  rcases hb with (hb | hb) | hb
  ·have:=ok b hb;omega
  ·subst hb
   rcases fq with fq | fq
   ·have:=ok b fq;omega
   ·omega
  ·subst hb;omega
end
def right (M:MM) (c:Int) (p:V):Option Nat :=
 if p.k=2/\(c=1\/c=4\/c=8) then (match idx M p.b with
  | some i=>(match M[i]? with
    | some B=>if 0<=p.n/\p.n<=B.size - c/\p.n.tmod c=0 then some i else none
    | none=>none)
  | none=>none) else none
def Eh (n:Int):Prop := -9223372036854775808<=n/\n < 9223372036854775808
def V.ok (v:V):Prop:=Eh v.k/\Eh v.n/\Eh v.b
def small (M:MM):Prop := ∀ (i:Nat) (B:MB),M[i]? = some B->B.size < 2147483648
section
variable {h:za} {m:Nat} {bs:Value} {ps:List Nat} {fs:Nat->Nat->Prop} {M:MM} {F:Nat->Prop} {c:Int} {p:V}
end
section
variable {h:za} {m:Nat} {bs:Value} {ps:List Nat} {fs:Nat->Nat->Prop} {M:MM} {F:Nat->Prop} {c:Int} {p:V}
end
theorem aa.more {F G:Nat->Prop} {a b c:za} (x:aa F a b) (y:aa G b c) (hg:∀ i,G i->F i\/a.next<=i):aa F a c :=
 ⟨Oc x.next y.next,y.ro.trans x.ro,fun i hi hlt=>by
  have hn:¬ G i:=fun e=>by
   rcases hg i e with q | q
   ·exact hi q
   ·omega
  rw [y.get i hn (NH hlt x.next),x.get i hi hlt]⟩
theorem VV (vs:List Value):∀ (cs:List Value) (o i:Nat),o + vs.length<=cs.length->(zt cs o vs)[i]? = if o<=i/\i < o + vs.length then vs[i - o]? else cs[i]?:=by
 induction vs with
 | nil=>intro cs o i _;rw [NJ (by simp)];rfl
 | cons v vs ih=>
   intro cs o i h
   simp only [OM] at h ⊢
   unfold zt
   rw [ih (cs.set o v) (o + 1) i (by rw [Pu];omega)]
   by_cases h1:o + 1<=i/\i < o + 1 + vs.length
   ·rw [NK h1,NK (by omega),show i - o=i - (o + 1) + 1 by omega,Oa]
   ·rw [NJ h1]
    by_cases h2:i=o
    ·subst h2;rw [NK (by omega),OK (by omega)];simp
    ·rw [NJ (by omega),OY (by omega)]
def Fl (f:Nat->Cl) (a:Nat) (c:Cl):Nat->Cl:=fun k=>if k=a then c else f k
theorem Vk.put {h:za} {q:Nat} {gs:List (Option Nat)} {B:MB} {F:Nat->Prop} (x:Vk h q gs B F) {a g:Nat} (hg:gs[a / 64]? = some (some g)) :
  ∃ cs,h.get g=some (.cells cs 180)/\a % 64 * 5 + 5<=cs.length /\ ∀ c:Cl,Vk (h.set g (some (.cells (zt cs (a % 64 * 5) c.mJ) 180))) q gs { B with byte:=Fl B.byte a c } F:=by
 obtain ⟨hl,fq,hq,hgs,hn,hd,ht⟩:=x
 obtain ⟨fg,cs,hc,hlen,hcs⟩:=hgs _ g hg
 refine ⟨cs,hc,by omega,fun c=>⟨hl,fq,?_,fun j g' hj=>⟨(hgs j g' hj).1,?_⟩,fun j hj k hk => ?_,hd,fun k hk => ?_⟩⟩
 ·rw [vf (by intro e;subst e;rw [hq] at hc;simp at hc),hq]
 ·by_cases e:g'=g
  ·subst e
   have ej:j=a / 64:=hd j _ g' hj hg
   subst ej
   refine ⟨_,kD,by rw [Xc,hlen],fun k j hk hj => ?_⟩
   have vlen:c.mJ.length=5:=rfl
   rw [VV _ _ _ _ (by rw [vlen];omega),vlen]
   show _=(Fl B.byte a c (64 * (a / 64) + k)).mJ[j]?
   unfold Fl
   by_cases ek:k=a % 64
   ·rw [NK (by omega),NK (by omega),show k * 5 + j - a % 64 * 5=j by omega]
   ·rw [NJ (by omega),NJ (by omega)];exact hcs k j hk hj
  ·have ej:j ≠ a / 64:=by intro ej;subst ej;rw [hg] at hj;cases hj;exact e rfl
   obtain ⟨cs',hc',hlen',hcs'⟩:=(hgs j g' hj).2
   refine ⟨cs',by rw [vf e,hc'],hlen',fun k j' hk hj' => ?_⟩
   rw [hcs' k j' hk hj']
   show _=(Fl B.byte a c (64 * j + k)).mJ[j']?
   unfold Fl
   rw [NJ (by omega)]
 ·show Fl B.byte a c (64 * j + k)=AU
  unfold Fl
  rw [NJ (by intro e;have:j=a / 64:=by omega
             subst this;rw [hg] at hj;cases hj)]
  exact hn j hj k hk
 ·show Fl B.byte a c k=AU
  have hlt:a / 64 < gs.length:=by
   rcases NZ (a / 64) gs.length with e | e
   ·exact e
   ·rw [NM e] at hg;cases hg
  unfold Fl
  rw [NJ (by omega)]
  exact ht k hk
section
variable {h:za} {m:Nat} {bs:Value} {ps:List Nat} {fs:Nat->Nat->Prop} {M:MM} {F:Nat->Prop} {c:Int} {p v:V}
end
theorem JG (c n:Nat):vP c n ≠ 0:=by
 unfold vP
 split
 ·cases Nat.ble n _ <;> simp
 ·simp
def fresh (n:Int):MB:=⟨n.toNat,false,fun _=>AU⟩
section
variable {h:za} {m:Nat} {bs:Value} {ps:List Nat} {fs:Nat->Nat->Prop} {M:MM} {F:Nat->Prop}
end
def LH (a:Int) (v:Value) (_:za):Prop:=v = .int .i64 a
section
variable {h:za} {m:Nat} {bs:Value} {ps:List Nat} {fs:Nat->Nat->Prop} {M:MM} {F:Nat->Prop}
theorem bo.swap (x:bo h m bs ps fs M F) {h1:za} {i p bb c:Nat} {B:MB} (hbs:bs = .slice (some ⟨bb,0,none⟩) M.length c) (hi:i < M.length) (CP:aa F h h1) (hp:h.next<=p/\p < h1.next)
  (e1:h1.get m=some (.cells [bs,.int .i64 (live (M.set i B))] 154)) (e2:h1.get bb=some (.cells ((ps.set i p).map fun p => .pointer (some ⟨p,0,none⟩)) 158))
  (e3:h1.get p=some (.cells [.int .i64 B.size,.slice none 0 0,.bool B.Qa] 161)) (hu:∀ k,B.byte k=AU) (e4:∀ b,F b->b ≠ m->b ≠ bb->h1.get b=h.get b) :
  bo h1 m bs (ps.set i p) (fun k b=>if k=i then b=p else fs k b) (M.set i B) (fun b=>F b\/b=p):=by
 have hnew:∀ b,h.next<=b->F b->False:=fun b hl hb=>by have:=(x.ok b hb).2;omega
 have hlp:=x.len
 have hbb:F bb/\c ≠ 0 /\ ∀ i,¬ fs i bb:=by
  rcases x.hb with ⟨rfl,_⟩ | ⟨bb',c',r,r1,r2,_,r4⟩
  ·cases hi
  ·rw [hbs] at r;cases r;exact ⟨r2,r1,r4⟩
 refine ⟨e1,.inl x.fm,by simp [hlp],?_,?_,?_,?_,?_,?_⟩
 ·refine .inr ⟨bb,c,by rw [hbs,Pu],hbb.2.1,.inl hbb.1,e2,fun k hk => ?_⟩
  split at hk
  ·exact hnew bb (by rw [hk];exact hp.1) hbb.1
  ·exact hbb.2.2 k hk
 ·intro k hk
  split at hk
  ·exact hnew m (by rw [hk];exact hp.1) x.fm
  ·exact x.nm k hk
 ·intro k q C hq hC
  by_cases e:k=i
  ·subst e
   rw [OK (by omega)] at hq hC
   cases hq;cases hC
   simp only [N5]
   exact ⟨_,e3,rfl,.empty rfl hu⟩
  ·rw [OY (fun z=>e z.symm)] at hq hC
   simp only [NJ e]
   exact (x.QF k q C hq hC).zK (fun b hb=>e4 b (x.sub k b hb) (fun z=>by subst z;exact x.nm k hb) (fun z=>by subst z;exact hbb.2.2 k hb))
 ·intro a b z ha hz
  split at ha <;> split at hz
  ·rename_i e1 e2;rw [e1,e2]
  ·exact (hnew z (by rw [ha];exact hp.1) (x.sub b z hz)).elim
  ·exact (hnew z (by rw [hz];exact hp.1) (x.sub a z ha)).elim
  ·exact x.FC a b z ha hz
 ·intro k b hk
  split at hk
  ·exact .inr hk
  ·exact .inl (x.sub k b hk)
 ·intro b hb
  have n1:=CP.next
  have n2:=CP.ro
  have o1:=x.ok m x.fm
  rcases hb with hb | hb
  ·have:=x.ok b hb;omega
  ·omega
def gone (B:MB):MB:=⟨B.size,true,fun _=>AU⟩
end
def MC (H:za) (F:Nat->Prop) (h':za):Prop:=aa Ng H h' /\ ∀ b,F b->H.next<=b
theorem MC.CP {H h1 h2:za} {F:Nat->Prop} (o:MC H F h1) (e:aa Ng h1 h2):MC H F h2:=⟨o.1.trans e,o.2⟩
end Go.Mem
