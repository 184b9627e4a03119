/- A part of the proof. -/
import Derived.Test.YtcecapkbglnejaaDoorTM
import Derived.Test.YtcecapkbglnejaaDoorTI
set_option linter.unusedVariables false
set_option linter.unusedSimpArgs false
set_option maxRecDepth 100000
namespace Go.Rm
open Go.Ai Go.Proofs Go.Mem
open Go.Rtl (zG zX Old xC wM WX)
def qy (ty:TypeId) (n:Nat) (sv:Value) (rows:List (List Value)):HP:=fun m=>
 (sv = .slice none 0 0/\rows = [] /\ ∀ x,m x=none) \/ ∃ b c cs,sv = .slice (some ⟨b,0,none⟩) rows.length c/\c ≠ 0/\rows.length * n<=cs.length/\cs.take (rows.length * n)=rows.flatten/\pt b (.cells cs ty) m
section
variable {lo:yQ} {h:za} {L:List HP} {ty:TypeId} {n:Nat} {sv:Value} {rows:List (List Value)}
theorem jT (s:Sat lo h (qy ty n sv rows :: L)):(sv = .slice none 0 0/\rows = []/\Sat lo h L) \/ ∃ b c cs,sv = .slice (some ⟨b,0,none⟩) rows.length c/\c ≠ 0/\rows.length * n<=cs.length/\cs.take (rows.length * n)=rows.flatten/\Sat lo h (pt b (.cells cs ty) :: L):=by
 obtain ⟨a,ha,d,w,s⟩:=s
 rcases ha with ⟨e1,e2,e3⟩ | ⟨b,c,cs,e1,e2,e3,e4,e5⟩
 ·exact .inl ⟨e1,e2,by rw [yQ.iK e3] at s;exact s⟩
 ·exact .inr ⟨b,c,cs,e1,e2,e3,e4,a,e5,d,w,s⟩
theorem W2 (ty:TypeId) (n:Nat) (s:Sat lo h L):Sat lo h (qy ty n (.slice none 0 0) [] :: L):=⟨fun _=>none,.inl ⟨rfl,rfl,fun _=>rfl⟩,fun _ _ e=>(by cases e),fun _ _ e=>(by cases e),by rw [yQ.iK fun _=>rfl];exact s⟩
theorem re {b c:Nat} {cs:List Value} (hc:c ≠ 0) (hl:rows.length * n<=cs.length) (ht:cs.take (rows.length * n)=rows.flatten) (s:Sat lo h (pt b (.cells cs ty) :: L)):Sat lo h (qy ty n (.slice (some ⟨b,0,none⟩) rows.length c) rows :: L):=by
 obtain ⟨a,ha,d,w,s⟩:=s
 exact ⟨a,.inr ⟨b,c,cs,rfl,hc,hl,ht,ha⟩,d,w,s⟩
theorem Wy {b c:Nat} {cs:List Value} (hc:c ≠ 0) (hn:∀ r,r ∈ rows->r.length=n) (he:cs=rows.flatten) (s:Sat lo h (pt b (.cells cs ty) :: L)):Sat lo h (qy ty n (.slice (some ⟨b,0,none⟩) rows.length c) rows :: L) :=
 re hc (by rw [he,xC hn];exact MI _) (by rw [he,List.take_of_length_le (by rw [xC hn];exact MI _)]) s
theorem Q2 (s:Sat lo h (qy ty n sv rows :: L)):∃ a c,sv = .slice a rows.length c:=by
 rcases jT s with ⟨rfl,rfl,_⟩ | ⟨b,c,cs,rfl,_⟩ <;> exact ⟨_,_,rfl⟩
theorem qx (s:Sat lo h (qy ty n sv rows :: L)):yc sv=false:=by obtain ⟨_,_,rfl⟩:=Q2 s;rfl
theorem ZI (s:Sat lo h (qy ty n sv rows :: L)):xE sv=true:=by obtain ⟨_,_,rfl⟩:=Q2 s;rfl
theorem Zh (s:Sat lo h (qy ty n sv rows :: L)) (hn:∀ r,r ∈ rows->r.length=n):zX h sv n rows:=by
 rcases jT s with ⟨e1,e2,_⟩ | ⟨b,c,cs,rfl,hc,hl,hf,s⟩
 ·exact .inl ⟨e1,e2⟩
 ·refine .inr ⟨b,0,c,rfl,fun _=>⟨cs,ty,s.lt,s.get,fun i r hr => ?_⟩⟩
  have hi:i < rows.length:=by
   rcases MX i rows.length with a | a
   ·exact a
   ·rw [MO a] at hr;cases hr
  obtain ⟨f1,f2⟩:=wM hn hr
  have hm:=N3 n (Nat.succ_le_of_lt hi)
  rw [Nat.succ_mul] at hm
  refine ⟨by omega,?_⟩
  rw [<- f2,<- hf,MT,List.drop_take,List.take_take]
  congr 1
  omega
theorem UY (s:Sat lo h (qy ty n sv rows :: L)) (hn:∀ r,r ∈ rows->r.length=n) (row:List Value) (hr:row.length=n) (h0n:0 < n) (bz:Nat) (hb:(rows.length + 1) * bz<=2 ^ 47) :
  ∃ b' c' h',Xv h ty n bz 1 row sv=some (.slice (some ⟨b',0,none⟩) (rows.length + 1) c',h')/\Sat lo h' (qy ty n (.slice (some ⟨b',0,none⟩) (rows.length + 1) c') (rows ++ [row]) :: L):=by
 have hn2:∀ r,r ∈ rows ++ [row]->r.length=n:=fun r q=>by
  rcases Ns.1 q with q | q
  ·exact hn r q
  ·simp only [NZ] at q;subst q;exact hr
 have hlen:(rows ++ [row]).length=rows.length + 1:=by simp
 rcases jT s with ⟨rfl,rfl,s'⟩ | ⟨b,c,cs,rfl,hc,hl,hf,s⟩
 ·refine ⟨h.next,1,h.push (.cells row ty),?_,Wy (cs:=row) (rows:=[] ++ [row]) (c:=1) (by decide) hn2 (by simp) (s'.push (.cells row ty))⟩
  simp only [Xv]
  rw [MJ (by decide),MK (by simp at hb;omega)];rfl
 ·have hroom:roomFor c (rows.length + 1) bz=true:=by
   unfold roomFor
   cases Nat.beq c 2 <;> simp only [MV,M7,Ow] <;> omega
  refine ⟨h.next,uS c (rows.length + 1),(h.set b none).push (.cells (((cs.drop 0).take (rows.length * n)) ++ row) ty),?_,?_⟩
  ·simp only [Xv,s.get]
   rw [MJ (by decide),MK ⟨hc,trivial,s.wr,by omega,hroom,by simp⟩]
  ·have q:=Wy (rows:=rows ++ [row]) (c:=uS c (rows.length + 1)) (oV _ _) hn2 (by rw [NP,hf,List.flatten_append];simp) ((s.forget none).push (.cells (((cs.drop 0).take (rows.length * n)) ++ row) ty))
   rw [hlen] at q
   exact q
theorem DA {cs:List Value} {i:Nat} {row:List Value} (hi:i < rows.length) (hn:∀ r,r ∈ rows->r.length=n) (hr:row.length=n) (hl:rows.length * n<=cs.length) (ht:cs.take (rows.length * n)=rows.flatten) :
  (ze cs (i * n) row).take (rows.length * n)=(rows.set i row).flatten:=by
 have hn2:∀ r,r ∈ rows.set i row->r.length=n:=fun r q=>by
  rcases List.mem_or_eq_of_mem_set q with q | rfl
  ·exact hn r q
  ·exact hr
 have hm:i * n + n<=cs.length:=by
  have:=N3 n (Nat.succ_le_of_lt hi)
  rw [Nat.succ_mul] at this;omega
 apply N1
 intro j
 by_cases hj:j < rows.length * n
 ·rw [Nv hj,Zc _ _ _ _ (by rw [hr];exact hm),hr]
  have e0:=congrArg (fun l=>l[j]?) ht
  simp only [Nv hj] at e0
  have h0:0 < n:=by rcases Ot n with q | q; · subst q;simp at hj
                    ·exact q
  have hq:j / n < rows.length:=Nat.div_lt_of_lt_mul (by rw [Nat.mul_comm];exact hj)
  have hj3:j / n * n + j % n=j:=by rw [Nat.mul_comm];exact Nat.div_add_mod j n
  have hmn:j % n < n:=Nat.mod_lt _ h0
  have get:∀ (m:List (List Value)),(∀ r,r ∈ m->r.length=n)->∀ x,m[j / n]? = some x->m.flatten[j]? = x[j % n]?:=fun m hm x hx=>by
   have:=WX hm hx hmn
   rwa [hj3] at this
  rw [e0,get _ hn _ (MF hq)]
  by_cases e:i=j / n
  ·rw [get _ hn2 row (by rw [e,NA hq]),MK (by rw [e];omega),e]
   congr 1;omega
  ·rw [get _ hn2 _ (by rw [NS e,MF hq]),MJ]
   rintro ⟨a,b⟩
   apply e
   exact (Nat.div_eq_of_lt_le a (by rw [Nat.succ_mul];exact b)).symm
 ·rw [MO (by simp;omega),MO (by rw [xC hn2];simp;omega)]
theorem ER (s:Sat lo h (qy ty n sv rows :: L)) (hn:∀ r,r ∈ rows->r.length=n) {i:Nat} (hi:i < rows.length) :
  ∃ b c cs,sv = .slice (some ⟨b,0,none⟩) rows.length c/\h.get b=some (.cells cs ty)/\h.ro<=b/\i * n + n<=cs.length /\ ∀ row,row.length=n->Sat lo (h.set b (some (.cells (ze cs (i * n) row) ty))) (qy ty n sv (rows.set i row) :: L):=by
 rcases jT s with ⟨rfl,rfl,_⟩ | ⟨b,c,cs,rfl,hc,hl,hf,s⟩
 ·cases hi
 ·refine ⟨b,c,cs,rfl,s.get,s.wr,?_,fun row hr => ?_⟩
  ·have:=N3 n (Nat.succ_le_of_lt hi)
   rw [Nat.succ_mul] at this;omega
  ·have q:=re (n:=n) (rows:=rows.set i row) (c:=c) hc (by rw [NU,uU];exact hl) (by rw [NU];exact DA hi hn hr hl hf) (s.set (.cells (ze cs (i * n) row) ty))
   rwa [NU] at q
theorem qE {α:Type} {f:α->List Value} {n:Nat} (hf:∀ a,(f a).length=n) (l:List α):∀ r,r ∈ l.map f->r.length=n:=by
 intro r hr
 simp only [NY] at hr
 obtain ⟨y,_,rfl⟩:=hr
 exact hf y
end
def qu (e:Int × Int):List Value:=[.int .i64 e.1,.int .i64 e.2]
def vA (e:Int × Int × Int):List Value:=[.int .i64 e.1,.int .i64 e.2.1,.int .i64 e.2.2]
def yZ (b:Nat):Value := .pointer (some ⟨b,0,none⟩)
def vZ (z:Int):List Value:=[.int .i64 z]
section
variable {g h:za} {F G:Nat->Prop}
theorem Ei {q:Nat} {gs:List (Option Nat)} {B:MB} (x:j1 g q gs B F) (e:∀ b o,F b->g.get b=some o->h.get b=some o/\G b):j1 h q gs B G :=
 ⟨x.hl,(e q _ x.fq x.hq).2,(e q _ x.fq x.hq).1,fun j p hj=>by
  obtain ⟨a,cs,c1,c2,c3⟩:=x.hg j p hj
  exact ⟨(e p _ a c1).2,cs,(e p _ a c1).1,c2,c3⟩,x.hn,x.hd,x.ht⟩
theorem Gj {p:Nat} {B:MB} (x:K6 g p B F) (e:∀ b o,F b->g.get b=some o->h.get b=some o/\G b):K6 h p B G:=by
 obtain ⟨pg,a,b,c⟩:=x
 refine ⟨pg,(e p _ b a).1,(e p _ b a).2,?_⟩
 cases c with
 | empty a b=>exact .empty a b
 | full q c gs a x=>exact .full q c gs a (Ei x e)
def GM (m:Nat) (M:MM) (h:za) (F:Nat->Prop):Prop:=f9 h m M F
theorem XI (m:Nat) (M:MM):Mv (GM m M):=by
 rintro g h F G ⟨bs,ps,fs,x⟩ e ok
 refine ⟨bs,ps,fun i b=>fs i b /\ ∃ o,g.get b=some o,(e m _ x.fm x.hm).1,(e m _ x.fm x.hm).2,x.len,?_,fun i q=>x.nm i q.1,fun i p B hp hB => ?_,fun i j b p q=>x.Bd i j b p.1 q.1,fun i b q => ?_,ok⟩
 ·rcases x.hb with a | ⟨bb,c,a1,a2,a3,a4,a5⟩
  ·exact .inl a
  ·exact .inr ⟨bb,c,a1,a2,(e bb _ a3 a4).2,(e bb _ a3 a4).1,fun i q=>a5 i q.1⟩
 ·exact Gj (x.jU i p B hp hB) fun b o hb hg=>⟨(e b o (x.sub i b hb) hg).1,hb,o,hg⟩
 ·obtain ⟨q1,o,q2⟩:=q
  exact (e b o (x.sub i b q1) q2).2
end
def jq (m:Nat) (M:MM):HP:=own (GM m M)
section
variable {lo:yQ} {h:za} {L:List HP} {m:Nat} {M:MM}
theorem UO {F:Nat->Prop} {M':MM} {h1:za} (c:∀ h1 F' X',Mv X'->h.next<=h1.next->h1.ro=h.ro->(∀ b,¬ F b->b < h.next->h1.get b=h.get b)->X' h1 F'->(∀ b,F' b->F b\/h.next<=b)->(∀ b,F' b->h1.ro<=b/\b < h1.next)->Sat lo h1 (own X' :: L)) (x:iT h m M' F h1):Sat lo h1 (jq m M' :: L):=by
 obtain ⟨F',mh,Za,sub⟩:=x
 obtain ⟨bs,ps,fs,mo⟩:=mh
 exact c h1 F' (GM m M') (XI m M') Za.next Za.ro (fun b hb hlt=>Za.get b hb hlt) ⟨bs,ps,fs,mo⟩ sub mo.ok
theorem r9 (s:Sat lo h (jq m M :: L)) (n:Int):DC Tryd.prog 44 [yZ m,.int .i64 n] h (fun v h1=>v = .tuple #[.int .i64 (xJ M n).2.1,.int .i64 (xJ M n).2.2]/\Sat lo h1 (jq m (xJ M n).1 :: L)):=by
 obtain ⟨F,⟨bs,ps,fs,x⟩,_,c⟩:=Sat.Wt (XI m M) s
 exact (B7 x n).mono fun v h1 ⟨e,mu⟩=>⟨e,UO c mu⟩
theorem Gx (s:Sat lo h (jq m M :: L)) (hL:M.length<=100000) {n:Int} (hn:n < 9223372036854775808):DC Tryd.prog 94 [yZ m,.int .i64 n] h (fun v h1=>v = .bool (Y4 M n).isSome/\Sat lo h1 (jq m ((Y4 M n).getD M) :: L)):=by
 obtain ⟨F,⟨bs,ps,fs,x⟩,_,c⟩:=Sat.Wt (XI m M) s
 refine (Eh x hL hn).mono fun v h1 r => ?_
 unfold rC at r
 cases e:Y4 M n with
 | none=>rw [e] at r;obtain ⟨r1,rfl⟩:=r;exact ⟨r1,s⟩
 | some M'=>rw [e] at r;exact ⟨r.1,UO c r.2⟩
theorem Hj (s:Sat lo h (jq m M :: L)) (hs:small M) {n:Int} (hn:n < 9223372036854775808):DC Tryd.prog 45 [yZ m,.int .i64 n] h (fun v h1=>v = .bool (Xb M n).isSome/\Sat lo h1 (jq m ((Xb M n).getD M) :: L)):=by
 obtain ⟨F,⟨bs,ps,fs,x⟩,_,c⟩:=Sat.Wt (XI m M) s
 refine (E4 x hs hn).mono fun v h1 r => ?_
 unfold rY at r
 cases e:Xb M n with
 | none=>rw [e] at r;obtain ⟨r1,rfl⟩:=r;exact ⟨r1,s⟩
 | some M'=>rw [e] at r;exact ⟨r.1,UO c r.2⟩
theorem GI (s:Sat lo h (jq m M :: L)) (hs:small M) {c:Int} {p:V} (hc:jw c) (hp:p.ok):DC Tryd.prog 88 [yZ m,.int .i64 c,vv p] h.lock (fun v h1=>v=vj (Wp M c p)/\Sat (.of h.lock) h1 []):=by
 obtain ⟨F,⟨bs,ps,fs,x⟩,_,_⟩:=Sat.Wt (XI m M) s
 have s0:Sat (.of h.lock) h.lock []:=Sat.self (MI _)
 have y:cG h.lock m bs ps fs M F:=⟨x.hm,x.fm,x.len,x.hb,x.nm,fun i p B hp hB=>(x.jU i p B hp hB).zI fun b hb=>rfl,x.Bd,x.sub,fun b hb=>⟨trivial,(x.ok b hb).2⟩⟩
 refine (Ew y hs hc hp).mono fun v h1 ⟨e,r⟩=>⟨?_,s0.LI e.next e.ro fun b hb=>e.get b (fun q=>q) hb⟩
 unfold dq at r
 cases e:Wp M c p with
 | none=>rw [e] at r;exact r
 | some a=>rw [e] at r;exact r
theorem EV (s:Sat lo h (jq m M :: L)) (hs:small M) {c:Int} {p v:V} (hc:jw c) (hp:p.ok):DC Tryd.prog 87 [yZ m,.int .i64 c,vv p,vv v] h (fun r h1=>r = .bool (Yc M c p v).isSome/\Sat lo h1 (jq m ((Yc M c p v).getD M) :: L)):=by
 obtain ⟨F,⟨bs,ps,fs,x⟩,_,cl⟩:=Sat.Wt (XI m M) s
 refine (Dy x hs hc hp).mono fun r h1 q => ?_
 unfold Vo at q
 cases e:Yc M c p v with
 | none=>rw [e] at q;exact ⟨q.1,UO cl q.2⟩
 | some M'=>rw [e] at q;exact ⟨q.1,UO cl q.2⟩
theorem GO (s:Sat lo h L):DC Tryd.prog 42 [] h (fun v h1 => ∃ m,v=yZ m/\Sat lo h1 (jq m [] :: L)):=by
 refine (GQ h).mono fun v h1 ⟨e,x,Za⟩=>⟨h.next,e,?_⟩
 obtain ⟨bs,ps,fs,mo⟩:=x
 exact s.EF (XI h.next []) Za.next Za.ro (fun b hb=>Za.get b (fun q=>q) hb) ⟨bs,ps,fs,mo⟩ fun b hb=>⟨by rw [hb];exact MI _,(mo.ok b hb).2⟩
end
def Rd (lo:yQ) (X:za->Prop):Prop := ∀ h,KC lo h->X h
theorem Rd.mono {lo lo':yQ} {X:za->Prop} (x:Rd lo X) (l:lo.Le lo'):Rd lo' X:=fun h b=>x h (b.mono l)
theorem Rd.at {lo:yQ} {X:za->Prop} {h:za} {L:List HP} (x:Rd lo X) (s:Sat lo h L):X h:=x h s.base
theorem Rd.of {lo:yQ} {X:za->Prop} {h0:za} (hl:lo.Has h0) (x:X h0) (m:∀ h,Old h0 h->X h):Rd lo X:=fun h b=>m h (by obtain ⟨a,c,d⟩:=hl.old b;exact ⟨a,c,d⟩)
section
variable {lo:yQ} {h:za} {L:List HP} {ty:TypeId} {n:Nat} {sv:Value} {rows:List (List Value)}
theorem Ds (s:Sat lo h (qy ty n sv rows :: L)) (hn:∀ r,r ∈ rows->r.length=n):∃ lo1,lo.Le lo1/\Rd lo1 (zX · sv n rows)/\Sat lo1 h L /\ ∀ h' L',Sat lo1 h' L'->Sat lo h' (qy ty n sv rows :: L'):=by
 obtain ⟨a,ha,d,w,s⟩:=s
 refine ⟨lo.un a,yQ.Vj d,fun h1 b1 => ?_,s,fun h' L' s'=>⟨a,ha,d,w,s'⟩⟩
 have:Sat lo h1 [qy ty n sv rows]:=⟨a,ha,d,w,b1⟩
 exact Zh this hn
end
section
variable {lo:yQ} {h:za} {L:List HP} {ty:TypeId} {n:Nat} {sv:Value} {rows:List (List Value)}
theorem Dr (s:Sat lo h (qy ty n sv rows :: L)) (hn:∀ r,r ∈ rows->r.length=n) (rows2:List (List Value)) (hn2:∀ r,r ∈ rows2->r.length=n) (bz:Nat) (hb:(rows.length + rows2.length) * bz<=2 ^ 47) (hne:rows2 ≠ []) :
  ∃ b' c' h',Xv h ty n bz rows2.length rows2.flatten sv=some (.slice (some ⟨b',0,none⟩) (rows.length + rows2.length) c',h')/\Sat lo h' (qy ty n (.slice (some ⟨b',0,none⟩) (rows.length + rows2.length) c') (rows ++ rows2) :: L):=by
 have hn3:∀ r,r ∈ rows ++ rows2->r.length=n:=fun r q=>by
  rcases Ns.1 q with q | q
  ·exact hn r q
  ·exact hn2 r q
 have hlen:(rows ++ rows2).length=rows.length + rows2.length:=by simp
 have h0:¬ rows2.length=0:=fun e=>hne (Oh.1 e)
 rcases jT s with ⟨rfl,rfl,s'⟩ | ⟨b,c,cs,rfl,hc,hl,hf,s⟩
 ·refine ⟨h.next,1,h.push (.cells rows2.flatten ty),?_,?_⟩
  ·simp only [Xv]
   rw [MJ h0,MK (by simp at hb;omega)];simp
  ·have q:=Wy (cs:=rows2.flatten) (rows:=[] ++ rows2) (c:=1) (by decide) hn3 (by simp) (s'.push (.cells rows2.flatten ty))
   rw [hlen] at q
   exact q
 ·have hroom:roomFor c (rows.length + rows2.length) bz=true:=by
   unfold roomFor
   cases Nat.beq c 2 <;> simp only [MV,M7,Ow] <;> omega
  refine ⟨h.next,uS c (rows.length + rows2.length),(h.set b none).push (.cells (((cs.drop 0).take (rows.length * n)) ++ rows2.flatten) ty),?_,?_⟩
  ·simp only [Xv,s.get]
   rw [MJ h0,MK ⟨hc,trivial,s.wr,by omega,hroom,by simp⟩]
  ·have q:=Wy (rows:=rows ++ rows2) (c:=uS c (rows.length + rows2.length)) (oV _ _) hn3 (by rw [NP,hf,List.flatten_append]) ((s.forget none).push (.cells (((cs.drop 0).take (rows.length * n)) ++ rows2.flatten) ty))
   rw [hlen] at q
   exact q
end
theorem Du {h:za} {sv:Value} {zs:List Int} (S:zG h sv zs):zX h sv 1 (zs.map vZ):=by
 rcases S with ⟨e,e2⟩ | ⟨b,off,cp,rfl,hc⟩
 ·exact .inl ⟨e,by rw [e2];rfl⟩
 ·refine .inr ⟨b,off,cp,by rw [Nf],fun hz => ?_⟩
  obtain ⟨c,t,hb,hg,hat⟩:=hc (by simpa using hz)
  refine ⟨c,t,hb,hg,fun i r hr => ?_⟩
  rw [M5] at hr
  cases hz:zs[i]? with
  | none=>rw [hz] at hr;cases hr
  | some z=>
    rw [hz] at hr
    cases hr
    have:=hat i z hz
    have hlt:off + i < c.length:=by
     rcases MX (off + i) c.length with q | q
     ·exact q
     ·rw [MO q] at this;cases this
    refine ⟨by omega,?_⟩
    rw [N4,List.drop_eq_getElem_cons hlt]
    rw [MF hlt] at this
    rw [Option.some.inj this]
    rfl
section
variable {lo:yQ} {h:za} {L:List HP} {b mb wb fb:Nat} {world:List Int} {ev lk gl cl kv wn:Value} {fi:List Nat} {kept:Option (Int->Bool)}
theorem GR {used:Int} (s:Sat lo h [pt wb (.cells [wn,.int .i64 used] 122),qy 2 1 wn (world.map vZ)]) (h0:0<=used) (h1:used < 4611686018427387904) (hl:world.length < 4611686018427387904) :
  DC Tryd.prog 73 [yZ wb] h (fun v h'=>v = .int .i64 (kd world used)/\Sat lo h' [pt wb (.cells [wn,.int .i64 (used + 1)] 122),qy 2 1 wn (world.map vZ)]):=by
 apply tA
 unfold Bs yZ
 have gw:=s.get
 have hinc:IntKind.wrap .i64 (used + 1)=used + 1:=Go.Mem.kC (by omega) (by omega)
 have hdec:IntKind.wrap .i64 (used + 1 - 1)=used:=by rw [show used + 1 - 1=used by omega];exact Go.Mem.kC (by omega) (by omega)
 simp -implicitDefEqProofs only [EE,zL,zu,ZV,aD,gw,hinc]
 refine xx s (by simp) rfl fun h2 s2 => ?_
 have g2:=s2.get
 have SR:=Zh (s2.p 1) (qE (f:=vZ) (fun _=>rfl) world)
 have ws:=SR.Ye
 have hlen:∀ h',zo Tryd.prog .len [30] 3 [wn] h'=some (.int .i64 world.length,h'):=fun h'=>by
  rcases SR with ⟨rfl,e⟩ | ⟨_,_,_,rfl,_⟩
  ·have:world = []:=by simpa using e
   subst this
   simp only [bB,M0]
  ·simp only [bB,Nf]
 by_cases hc:(world.length:Int) < used + 1
 ·have hc':used + 1 > (world.length:Int):=hc
  simp -implicitDefEqProofs only [EE,ze,zL,zu,Fc,mK,aD,g2,ws,hlen,hc]
  refine ⟨?_,s2⟩
  unfold kd
  rw [MJ (by omega),Nk,MO (by omega)];rfl
 ·obtain ⟨z,hz⟩:∃ z,world[used.toNat]? = some z:=⟨_,MF (by omega)⟩
  obtain ⟨bb,o,cs,t,⟨off,cp,rfl,rfl⟩,hi,hb,hgt,hle,htk,hat⟩:=SR.spot (i:=used.toNat) (r:=vZ z) (by rw [M5,hz];rfl) rfl
  have hat0:cs[off + used.toNat * 1]? = some (.int .i64 z):=hat 0 (by decide)
  rw [N4] at hat0
  have hu:used < (world.length:Int):=by omega
  rw [Nf] at *
  simp -implicitDefEqProofs only [EE,ze,MA,zL,xz,zu,Fc,mK,aD,CT,lb,g2,ws,hlen,hc,hdec,h0,hu,hgt,hat0,N4]
  refine ⟨?_,s2⟩
  unfold kd
  rw [MJ (by omega),Nk,hz];rfl
end
theorem ri {M:MM} {B:MB} (h:small M) (hb:B.size < 2147483648):small (M ++ [B]):=fun i C hC=>by
 rw [List.getElem?_append] at hC
 split at hC
 ·exact h i C hC
 ·cases hq:i - M.length with
  | zero=>rw [hq] at hC;simp at hC;subst hC;exact hb
  | succ k=>rw [hq] at hC;simp at hC
def vb (v:V):Prop:=jw v.b
theorem YI:jw 0:=⟨by decide,by decide⟩
theorem U1:vb v0:=YI
theorem XX (n:Int):vb (vJ n):=YI
theorem nI {b n:Int} (h:jw b):vb (fw b n):=by
 unfold fw;split
 ·exact YI
 ·exact h
theorem nJ (t:Bool):vb (Zp t):=by unfold Zp;split <;> exact YI
theorem Hf {c:Prop} [Decidable c] {x y:Option V} {v:V} (hx:x=some v->vb v) (hy:y=some v->vb v):(if c then x else y)=some v->vb v:=by
 intro h
 by_cases hc:c
 ·rw [MK hc] at h;exact hx h
 ·rw [MJ hc] at h;exact hy h
theorem E1 {op a b:Int} {v:V} (h:qv op a b=some v):vb v:=by
 revert h
 unfold qv
 repeat' apply Hf
 all_goals intro h
 all_goals first
  | (cases h;done)
  | (have e:=Option.some.inj h;rw [<- e];first | exact XX _ | exact nJ _)
theorem WA {op:Int} {a b v:V} (ha:vb a) (hb:vb b) (h:yf op a b=some v):vb v:=by
 unfold yf at h
 split at h
 ·exact E1 h
 split at h
 ·simp only [My] at h;subst h;exact nI ha
 split at h
 ·simp only [My] at h;subst h;exact nI hb
 split at h
 ·simp only [My] at h;subst h;exact nI ha
 split at h
 ·unfold vD at h
  split at h
  ·simp only [My] at h;subst h;exact nJ _
  ·cases h
 ·cases h
theorem FR {op:Int} {a v:V} (h:KJ op a=some v):vb v:=by
 unfold KJ at h
 repeat' (split at h)
 all_goals first
  | (cases h;done)
  | (simp only [My] at h;subst h;exact XX _)
theorem He {l:List V} (h:∀ v,v ∈ l->vb v) (r:Int):vb (pA l r):=by
 unfold pA;split
 ·exact U1
 ·rw [Nk]
  cases e:l[r.toNat]? with
  | none=>exact U1
  | some v=>exact h v (Np e)
def VL (M:MM):Prop:=small M/\M.length<=100000 /\ ∀ (i:Nat) B,M[i]? = some B->∀ a,vb (B.byte a).p
theorem AK {M:MM} {c:Int} {p v:V} (h:VL M) (e:Wp M c p=some v):vb v:=by
 unfold Wp at e
 split at e
 ·cases e
 ·rename_i i hi
  simp only [MR] at e
  obtain ⟨B,hB,rfl⟩:=e
  unfold UN
  split
  ·exact YI
  split
  ·exact h.2.2 i B hB _
  ·exact U1
theorem bF {M:MM} {i:Nat} {B:MB} (h:VL M) (hs:B.size < 2147483648) (hp:∀ a,vb (B.byte a).p):VL (M.set i B):=by
 refine ⟨fun j C hC => ?_,by rw [NU];exact h.2.1,fun j C hC a => ?_⟩
 ·rw [List.getElem?_set] at hC
  split at hC
  ·split at hC
   ·cases hC;exact hs
   ·cases hC
  ·exact h.1 j C hC
 ·rw [List.getElem?_set] at hC
  split at hC
  ·split at hC
   ·cases hC;exact hp a
   ·cases hC
  ·exact h.2.2 j C hC a
theorem pO {M M':MM} {c:Int} {p v:V} (h:VL M) (hv:vb v) (e:Yc M c p v=some M'):VL M':=by
 unfold Yc at e
 split at e
 ·cases e
 split at e
 ·cases e
 ·rename_i i hi
  simp only [MR] at e
  obtain ⟨B,hB,rfl⟩:=e
  refine bF h (h.1 i B hB) fun a => ?_
  show vb ((if _ then cellOf (norm v) _ else B.byte a).p)
  split
  ·unfold cellOf norm
   repeat' split
   all_goals first | exact hv | exact U1
  ·exact h.2.2 i B hB a
theorem AJ {M:MM} {n:Int} (h:VL M):VL ((Y4 M n).getD M):=by
 cases e:Y4 M n with
 | none=>exact h
 | some M'=>
   unfold Y4 at e
   simp only [Oi,MR] at e
   obtain ⟨i,hi,B,hB,rfl⟩:=e
   exact bF h (h.1 i B hB) fun a=>U1
theorem AL {M:MM} {n:Int} (h:VL M):VL ((Xb M n).getD M):=by
 cases e:Xb M n with
 | none=>exact h
 | some M'=>
   unfold Xb at e
   simp only [Oi,MR] at e
   obtain ⟨i,hi,B,hB,rfl⟩:=e
   refine bF h (h.1 i B hB) fun a => ?_
   show vb ((if a < _ then zc else B.byte a).p)
   split
   ·exact U1
   ·exact h.2.2 i B hB a
theorem VM {M:MM} (n:Int) (h:VL M):VL (xJ M n).1/\jw (xJ M n).2.1:=by
 unfold xJ
 split
 ·exact ⟨h,YI⟩
 split
 ·exact ⟨h,YI⟩
 ·refine ⟨⟨?_,by simp;omega,fun i B hB a => ?_⟩,?_⟩
  ·exact ri h.1 (by show n.toNat < _;omega)
  ·rw [List.getElem?_append] at hB
   split at hB
   ·exact h.2.2 i B hB a
   ·cases hq:i - M.length with
    | zero=>rw [hq] at hB;simp at hB;subst hB;exact U1
    | succ k=>rw [hq] at hB;simp at hB
  ·show jw ((M.length:Int) + 1);constructor <;> omega
theorem ig:∀ (ns:List Int) (M:MM) (l:List Int),VL M->(∀ z,z ∈ l->jw z)->VL (wB ns M l).1/\(wB ns M l).2.length=l.length + ns.length /\ ∀ z,z ∈ (wB ns M l).2->jw z
 | [],M,l,h,hl=>⟨h,by simp [wB],hl⟩
 | n :: ns,M,l,h,hl=>by
   have a:=VM n h
   obtain ⟨b,c,d⟩:=ig ns ((Xb (xJ M n).1 (xJ M n).2.1).getD (xJ M n).1) (l ++ [(xJ M n).2.1]) (AL a.1) fun z hz=>by
    rcases Ns.1 hz with q | q
    ·exact hl z q
    ·simp only [NZ] at q;subst q;exact a.2
   refine ⟨b,?_,d⟩
   show (wB ns _ _).2.length=_
   rw [c];simp;omega
theorem aR:∀ (ns:List Int) (n:Int) (M:MM) (l:List Int),wB (ns ++ [n]) M l=(((Xb (xJ (wB ns M l).1 n).1 (xJ (wB ns M l).1 n).2.1).getD (xJ (wB ns M l).1 n).1),(wB ns M l).2 ++ [(xJ (wB ns M l).1 n).2.1])
 | [],n,M,l=>rfl
 | m :: ns,n,M,l=>aR ns n _ _
theorem m8:VL []:=⟨fun i B h=>(by cases h),by decide,fun i B h=>(by cases h)⟩
open Go.Rtl (inc)
section
variable {lo:yQ} {h:za} {L:List HP} {wv:Value} {world:List Int}
theorem D7 (hw:zG h wv world) (hl:world.length * 8<=2 ^ 47) (s:Sat lo h L):DC Tryd.prog 59 [wv] h (fun v h'=>yc v=false/\xE v=true/\Sat lo h' (qy 2 1 v (world.map vZ) :: L)):=by
 apply gh
 unfold dt
 have SR:=Du hw
 rcases hw with ⟨rfl,rfl⟩ | ⟨b,off,cp,rfl,hc⟩
 ·simp -implicitDefEqProofs only [EE,Ea]
  exact W2 _ _ s
 ·simp -implicitDefEqProofs only [EE,Cs,Gu]
  have s1:=s.push (.cells [] 2)
  have s2:Sat lo (h.push (.cells [] 2)) (qy 2 1 (.slice (some ⟨h.next,0,none⟩) 0 2) [] :: L):=Wy (rows:=[]) (c:=2) (by decide) (by simp) (by simp) s1
  have hap:∀ r,zo Tryd.prog .append [30,30] r [.slice (some ⟨h.next,0,none⟩) 0 2,.slice (some ⟨b,off,none⟩) world.length cp] (h.push (.cells [] 2))=Xv (h.push (.cells [] 2)) 2 1 8 world.length (world.map vZ).flatten (.slice (some ⟨h.next,0,none⟩) 0 2):=fun r=>by
   have f:=(SR.old (Old.push h (.cells [] 2))).first (by decide) (qE (f:=vZ) (fun _=>rfl) world)
   rw [Nf] at f
   exact HH r _ _ world.length _ _ rfl f (by simp [vZ,List.all_flatten];exact fun _ _=>rfl) (by rw [Go.Rtl.xC (qE (f:=vZ) (fun _=>rfl) world),Nf])
  by_cases h0:world = []
  ·subst h0
   have:Xv (h.push (.cells [] 2)) 2 1 8 ([]:List Int).length (([]:List Int).map vZ).flatten (.slice (some ⟨h.next,0,none⟩) 0 2)=some (.slice (some ⟨h.next,0,none⟩) 0 2,h.push (.cells [] 2)):=rfl
   simp -implicitDefEqProofs only [EE]
   first | exact s2 | exact ⟨rfl,rfl,s2⟩ | exact ⟨rfl,rfl,rfl,s2⟩
  ·obtain ⟨b',c',h3,a1,s3⟩:=Dr s2 (by simp) (world.map vZ) (qE (f:=vZ) (fun _=>rfl) world) 8 (by simp;omega) (by simpa using h0)
   rw [Nf] at a1 s3
   simp -implicitDefEqProofs only [EE,hap,a1]
   rw [M0,MT,List.nil_append] at s3
   first | exact s3 | exact ⟨rfl,rfl,s3⟩
theorem Hc (hw:zG h wv world) (hl:world.length * 8<=2 ^ 47) (s:Sat lo h L):DC Tryd.prog 43 [wv] h (fun v h' => ∃ wb wn,v=yZ wb/\Sat lo h' (pt wb (.cells [wn,.int .i64 0] 122) :: qy 2 1 wn (world.map vZ) :: L)):=by
 apply tR
 unfold BM
 refine zW (by kernel_rfl) (by simp only [yV,hw.Ye,M7]) (D7 hw hl s) ?_
 rintro v h1 ⟨n1,c1,s1⟩
 obtain ⟨a,c,rfl⟩:=Q2 s1
 rw [Nf] at s1
 simp -implicitDefEqProofs only [EE,Value.cells,Cn]
 refine wy s1 fun wb h2 s2 => ?_
 simp -implicitDefEqProofs only [EE]
 exact ⟨wb,_,rfl,s2⟩
end
end Go.Rm
namespace Go.As
open Go.Ai Go.Proofs Go.Mem Go.Rm
open Go.Rtl (zG zX Old)
structure qt where
 op:Int
 r:Int
 m:Int
 sub:Int
 cc:Int
 l:Int
 k:Int
structure Fn where
 nm:ByteArray
 cv:Value
 code:List qt
structure Pg where
 gv:Value
 globals:List Int
 fv:Value
 funcs:List Fn
 main:Int
 params:Int
abbrev qt.row (x:qt):List Value:=[.int .i64 x.op,.int .i64 x.r,.int .i64 x.m,.int .i64 x.sub,.int .i64 x.cc,.int .i64 x.l,.int .i64 x.k]
abbrev qt.val (x:qt):Value := .agg #[.int .i64 x.op,.int .i64 x.r,.int .i64 x.m,.int .i64 x.sub,.int .i64 x.cc,.int .i64 x.l,.int .i64 x.k]
abbrev Fn.row (f:Fn):List Value:=[.string f.nm,f.cv]
abbrev Fn.val (f:Fn):Value := .agg #[.string f.nm,f.cv]
abbrev Pg.row (p:Pg):List Value:=[p.gv,p.fv,.int .i64 p.main,.int .i64 p.params]
abbrev Pg.val (p:Pg):Value := .agg #[p.gv,p.fv,.int .i64 p.main,.int .i64 p.params]
structure cF (h:za) (f:Fn):Prop where
 code:zX h f.cv 7 (f.code.map qt.row)
 oW:f.code.length * 56<=140737488351232
structure qG (h:za) (p:Pg):Prop where
 globals:zG h p.gv p.globals
 Gz:p.globals.length<=17592186043904
 funcs:zX h p.fv 2 (p.funcs.map Fn.row)
 Gw:p.funcs.length * 24<=140737488351232
 fns:∀ f,f ∈ p.funcs->cF h f
section
variable {h h':za} {f:Fn} {p:Pg}
theorem cF.old (S:cF h f) (e:Old h h'):cF h' f:=⟨S.code.old e,S.oW⟩
theorem cF.lock (S:cF h f):cF h.lock f:=⟨S.code.lock,S.oW⟩
theorem qG.old (S:qG h p) (e:Old h h'):qG h' p:=⟨S.globals.old e,S.Gz,S.funcs.old e,S.Gw,fun f hf=>(S.fns f hf).old e⟩
theorem qG.lock (S:qG h p):qG h.lock p:=⟨S.globals.lock,S.Gz,S.funcs.lock,S.Gw,fun f hf=>(S.fns f hf).lock⟩
end
structure Fr where
 f:Nat
 pt:Int
 jU:Int
 size:Int
 bV:V
structure St where
 mem:MM
 used:Int
 kind:Int
 exit:Int
 ev:List (Int × Int)
 lk:List (Int × Int × Int)
 steps:Int
 gl:List Int
 calls:List Fr
 jx:List V
 flags:Bool
 a:V
 b:V
 stack:Int
 iB:Int
def vo (S:St) (k a b:Int):St:={ S with lk:=S.lk ++ [(k,a,b)] }
def uT (S:St) (k v:Int):St:={ S with ev:=S.ev ++ [(k,v)] }
def qg (S:St) (c:Fr):St:={ S with calls:=S.calls.dropLast ++ [c] }
def wF (S:St) (r:Int) (v:V):St:={ S with jx:=S.jx.set r.toNat v }
def zv (S:St) (r:Int):V:=pA S.jx r
def xD (lim:Int) (S:St) (n:Int):St × Bool:=if lim - S.stack < n then ({ S with kind:=4 },false) else ({ S with stack:=S.stack + n,iB:=max S.iB (S.stack + n) },true)
def xX (lim:Int) (S:St) (f:Nat):St:=if (xD lim S 8).2=true then { (xD lim S 8).1 with calls:=(xD lim S 8).1.calls ++ [⟨f,0,0,0,v0⟩] } else (xD lim S 8).1
def wh (S:St) (to:Int) (o:Option V):St × Bool:=(wF S to (o.getD v0),o.isSome)
def VR:List qt->Int->Int->Int->Int
 | [],_,_,z=>z
 | x :: xs,l,n,z=>VR xs l (n + 1) (if x.op=20/\x.l=l then n else z)
def q5 (p:Pg) (f:Nat) (l:Int):Int:=match p.funcs[f]? with
 | none=>0
 | some g=>VR g.code l 0 0
def Y8 (v:V):V:=vJ (v.n.fdiv (2 ^ 63))
def yC (S:St) (i:qt):St × Bool:=match yf 11 (zv S i.m) (vJ i.k) with
 | none=>(S,false)
 | some q=>if q.k=2 then (if i.op=4 then (match Yc S.mem i.sub q (zv S i.r) with
   | none=>(vo S 2 q.b q.n,false)
   | some M=>({ vo S 2 q.b q.n with mem:=M },true)) else wh (vo S 2 q.b q.n) i.r (Wp S.mem i.sub q)) else (S,false)
def q9 (S:St) (m:V):St × Bool :=
 if (zv S 0).k=1/\m.k=1 then
  (if zv S 2=Y8 (zv S 0) then
   (if (wh (vo S 3 (zv S 0).n m.n) 0 (yf 14 (zv S 0) m)).2=true then wh (wh (vo S 3 (zv S 0).n m.n) 0 (yf 14 (zv S 0) m)).1 2 (yf 15 (zv S 0) m)
    else wh (vo S 3 (zv S 0).n m.n) 0 (yf 14 (zv S 0) m))
   else (vo S 3 (zv S 0).n m.n,false))
 else (S,false)
def kB (S:St) (c:Fr):St × Bool :=
 if c.jU ≠ 0 then (S,false)
 else if S.calls.dropLast ≠ [] then ({ S with flags:=false,stack:=S.stack - 8,calls:=S.calls.dropLast },true)
 else if (zv S 0).k=1 then ({ S with flags:=false,stack:=S.stack - 8,calls:=[],kind:=1,exit:=(zv S 0).n },true)
 else ({ S with flags:=false,stack:=S.stack - 8,calls:=[] },false)
def xK (lim:Int) (S:St) (c:Fr) (i:qt):St × Bool :=
 if i.op=24 then (if c.jU=0\/c.size ≠ i.k then (S,false) else
  (qg (wF { S with mem:=(Y4 S.mem c.jU).getD S.mem,stack:=S.stack - c.size } 4 c.bV) { c with jU:=0 },true))
 else if c.jU ≠ 0 then (S,false)
 else if (xD lim S i.k).2=true then
  (qg (wF { (xD lim S i.k).1 with mem:=(xJ S.mem i.k).1 } 4 (fw (xJ S.mem i.k).2.1 0)) { c with jU:=(xJ S.mem i.k).2.1,size:=i.k,bV:=zv S 4 },decide ((xJ S.mem i.k).2.2=0))
 else ((xD lim S i.k).1,true)
def YJ (p:Pg) (S:St) (c:Fr) (i:qt):St × Bool:=match yf i.cc S.a S.b with
 | none=>(S,false)
 | some v=>if S.flags=true then ((if v.n=0 then vo S 1 v.n 0 else qg (vo S 1 v.n 0) { c with pt:=q5 p c.f i.l }),true) else (S,false)
def zi (p:Pg) (lim:Int) (world:List Int) (S:St) (c:Fr) (i:qt):St × Bool :=
 if i.op=1 then (wF S i.r (zv S i.m),true)
 else if i.op=2 then (wF S i.r (vJ i.k),true)
 else if i.op=3\/i.op=4 then yC S i
 else if i.op=5 then wh S i.r (yf 11 (zv S i.m) (vJ i.k))
 else if i.op=6 then (wF S i.r (fw (S.gl.getD i.sub.toNat 0) i.k),true)
 else if i.op=7 then wh S i.r (yf i.sub (zv S i.r) (zv S i.m))
 else if i.op=8\/i.op=11 then wh S i.r (yf i.sub (zv S i.r) (vJ i.k))
 else if i.op=9 then wh S i.r (KJ i.sub (zv S i.r))
 else if i.op=10 then wh S i.r (KJ i.sub (zv S i.m))
 else if i.op=12 then (if (zv S 1).k=1 then wh S i.r (yf i.sub (zv S i.r) (vJ (Zs (· &&& ·) (zv S 1).n 63))) else (S,false))
 else if i.op=13 then (wF S 2 (Y8 (zv S 0)),decide ((zv S 0).k=1))
 else if i.op=14 then q9 S (zv S i.m)
 else if i.op=15 then ({ S with flags:=true,a:=zv S i.r,b:=zv S i.m },true)
 else if i.op=16 then ({ S with flags:=true,a:=zv S i.r,b:=vJ i.k },true)
 else if i.op=17 then (if S.flags=true then wh S i.r (yf i.cc S.a S.b) else (S,false))
 else if i.op=18 then (qg S { c with pt:=q5 p c.f i.l },true)
 else if i.op=19 then YJ p S c i
 else if i.op=21 then (xX lim (vo { S with flags:=false } 4 i.sub 0) i.sub.toNat,true)
 else if i.op=22 then kB S c
 else if i.op=23\/i.op=24 then xK lim S c i
 else if i.op=25 then (wF { uT S 1 (kd world S.used) with used:=S.used + 1 } 0 (vJ (kd world S.used)),true)
 else if i.op=26 then (if (zv S 0).k=1 then (uT S 2 (zv S 0).n,true) else (S,false))
 else (S,true)
def XA (p:Pg) (f:Nat):List qt:=match p.funcs[f]? with
 | none=>[]
 | some g=>g.code
def QK (r:St × Bool):St:=if r.2=true then r.1 else { r.1 with kind:=3 }
def jt (p:Pg) (lim:Int) (world:List Int) (lab:Bool) (fuel:Int) (S:St):St:=match S.calls.getLast? with
 | none=>{ S with kind:=3 }
 | some c=>if c.pt=(XA p c.f).length then { S with kind:=3 } else match (XA p c.f)[c.pt.toNat]? with
   | none=>{ S with kind:=3 }
   | some i=>if i.op=20/\lab=false then qg S { c with pt:=c.pt + 1 } else if S.steps=fuel then { S with kind:=2 } else
     QK (zi p lim world { qg S { c with pt:=c.pt + 1 } with steps:=S.steps + 1 } { c with pt:=c.pt + 1 } i)
def Wr (p:Pg) (lim:Int) (world:List Int) (lab:Bool) (fuel:Int) (S:St):St:=if S.kind=0 then jt p lim world lab fuel S else S
def vI (p:Pg) (lim:Int) (world:List Int) (lab:Bool) (fuel:Int):Nat->St->St
 | 0,S=>S
 | n + 1,S=>vI p lim world lab fuel n (Wr p lim world lab fuel S)
def order:List Int:=[7,6,2,1,8,9]
def Z2:List Int->List Int->List V->List V
 | r :: rs,a :: l2,l=>Z2 rs l2 (l.set r.toNat (vJ a))
 | _,_,l=>l
def QI (p:Pg) (args:List Int):St:=⟨(wB p.globals [] []).1,0,0,0,[],[],0,(wB p.globals [] []).2,[],Z2 order args (List.replicate 16 v0),false,v0,v0,0,0⟩
def Wz (p:Pg) (lim:Int) (args:List Int):St:=xX lim (QI p args) p.main.toNat
def Ends (p:Pg) (lim:Int) (args world:List Int) (lab:Bool) (fuel:Int) (T:St):Prop:=T.kind ≠ 0 /\ ∃ n,T=vI p lim world lab fuel n (Wz p lim args)
structure Ext (S S':St):Prop where
 ev:S.ev <+: S'.ev
 lk:S.lk <+: S'.lk
theorem Ext.refl (S:St):Ext S S:=⟨NT _,NT _⟩
theorem Ext.trans {a b c:St} (x:Ext a b) (y:Ext b c):Ext a c:=⟨x.ev.trans y.ev,x.lk.trans y.lk⟩
structure tg (S:St) (r:St × Bool):Prop where
 ext:Ext S r.1
 steps:r.1.steps=S.steps
 kind:r.1.kind=S.kind\/r.1.kind=1\/r.1.kind=4
 HY:r.1.ev.length<=S.ev.length + 1/\r.1.lk.length<=S.lk.length + 1
theorem tg.same {S S':St} {b:Bool} (e:S'.ev=S.ev) (l:S'.lk=S.lk) (s:S'.steps=S.steps) (k:S'.kind=S.kind\/S'.kind=1\/S'.kind=4):tg S (S',b) :=
 ⟨⟨e ▸ NT _,l ▸ NT _⟩,s,k,by rw [e];exact N7 _,by rw [l];exact N7 _⟩
theorem tg.nQ {S S':St} {b:Bool} {x:Int × Int × Int} (e:S'.ev=S.ev) (l:S'.lk=S.lk ++ [x]) (s:S'.steps=S.steps) (k:S'.kind=S.kind\/S'.kind=1\/S'.kind=4):tg S (S',b) :=
 ⟨⟨e ▸ NT _,l ▸ List.prefix_append _ _⟩,s,k,by rw [e];exact N7 _,by rw [l];simp⟩
theorem tg.Ec {S S':St} {b:Bool} {x:Int × Int} (e:S'.ev=S.ev ++ [x]) (l:S'.lk=S.lk) (s:S'.steps=S.steps) (k:S'.kind=S.kind\/S'.kind=1\/S'.kind=4):tg S (S',b) :=
 ⟨⟨e ▸ List.prefix_append _ _,l ▸ NT _⟩,s,k,by rw [e];simp,by rw [l];exact N7 _⟩
theorem aS (lim:Int) (S:St) (n:Int):(xD lim S n).1.ev=S.ev/\(xD lim S n).1.lk=S.lk/\(xD lim S n).1.steps=S.steps/\((xD lim S n).1.kind=S.kind\/(xD lim S n).1.kind=4)/\((xD lim S n).2=true->(xD lim S n).1.kind=S.kind):=by
 unfold xD
 split
 ·exact ⟨rfl,rfl,rfl,.inr rfl,fun q=>by cases q⟩
 ·exact ⟨rfl,rfl,rfl,.inl rfl,fun _=>rfl⟩
theorem Kr (lim:Int) (S:St) (f:Nat):(xX lim S f).ev=S.ev/\(xX lim S f).lk=S.lk/\(xX lim S f).steps=S.steps/\((xX lim S f).kind=S.kind\/(xX lim S f).kind=4):=by
 obtain ⟨a,b,c,d,_⟩:=aS lim S 8
 unfold xX
 split <;> exact ⟨a,b,c,d⟩
theorem rk (S:St) (i:qt):tg S (yC S i):=by
 unfold yC
 split
 ·exact .same rfl rfl rfl (.inl rfl)
 split
 ·split
  ·split
   ·exact .nQ rfl rfl rfl (.inl rfl)
   ·exact .nQ rfl rfl rfl (.inl rfl)
  ·exact .nQ rfl rfl rfl (.inl rfl)
 ·exact .same rfl rfl rfl (.inl rfl)
theorem EW (S:St) (m:V):tg S (q9 S m):=by
 unfold q9
 split
 ·split
  ·split
   ·exact .nQ rfl rfl rfl (.inl rfl)
   ·exact .nQ rfl rfl rfl (.inl rfl)
  ·exact .nQ rfl rfl rfl (.inl rfl)
 ·exact .same rfl rfl rfl (.inl rfl)
theorem EY (S:St) (c:Fr):tg S (kB S c):=by
 unfold kB
 split
 ·exact .same rfl rfl rfl (.inl rfl)
 split
 ·exact .same rfl rfl rfl (.inl rfl)
 split
 ·exact .same rfl rfl rfl (.inr (.inl rfl))
 ·exact .same rfl rfl rfl (.inl rfl)
theorem A8 (lim:Int) (S:St) (c:Fr) (i:qt):tg S (xK lim S c i):=by
 obtain ⟨a,b,d,e,_⟩:=aS lim S i.k
 have e:(xD lim S i.k).1.kind=S.kind\/(xD lim S i.k).1.kind=1\/(xD lim S i.k).1.kind=4:=e.imp id .inr
 unfold xK
 split
 ·split
  ·exact .same rfl rfl rfl (.inl rfl)
  ·exact .same rfl rfl rfl (.inl rfl)
 split
 ·exact .same rfl rfl rfl (.inl rfl)
 split
 ·exact .same a b d e
 ·exact .same a b d e
theorem EX (p:Pg) (S:St) (c:Fr) (i:qt):tg S (YJ p S c i):=by
 unfold YJ
 split
 ·exact .same rfl rfl rfl (.inl rfl)
 split
 ·split
  ·exact .nQ rfl rfl rfl (.inl rfl)
  ·exact .nQ rfl rfl rfl (.inl rfl)
 ·exact .same rfl rfl rfl (.inl rfl)
theorem A9 (p:Pg) (lim:Int) (world:List Int) (S:St) (c:Fr) (i:qt):tg S (zi p lim world S c i):=by
 have same:∀ {S':St} {b:Bool},S'.ev=S.ev->S'.lk=S.lk->S'.steps=S.steps->S'.kind=S.kind->tg S (S',b):=fun a b c d => .same a b c (.inl d)
 unfold zi
 by_cases h0:i.op=1
 ·rw [MK h0];exact same rfl rfl rfl rfl
 rw [MJ h0]
 by_cases h1:i.op=2
 ·rw [MK h1];exact same rfl rfl rfl rfl
 rw [MJ h1]
 by_cases h2:i.op=3\/i.op=4
 ·rw [MK h2];exact rk _ _
 rw [MJ h2]
 by_cases h3:i.op=5
 ·rw [MK h3];exact same rfl rfl rfl rfl
 rw [MJ h3]
 by_cases h4:i.op=6
 ·rw [MK h4];exact same rfl rfl rfl rfl
 rw [MJ h4]
 by_cases h5:i.op=7
 ·rw [MK h5];exact same rfl rfl rfl rfl
 rw [MJ h5]
 by_cases h6:i.op=8\/i.op=11
 ·rw [MK h6];exact same rfl rfl rfl rfl
 rw [MJ h6]
 by_cases h7:i.op=9
 ·rw [MK h7];exact same rfl rfl rfl rfl
 rw [MJ h7]
 by_cases h8:i.op=10
 ·rw [MK h8];exact same rfl rfl rfl rfl
 rw [MJ h8]
 by_cases h9:i.op=12
 ·rw [MK h9]
  split
  ·exact same rfl rfl rfl rfl
  ·exact same rfl rfl rfl rfl
 rw [MJ h9]
 by_cases h10:i.op=13
 ·rw [MK h10];exact same rfl rfl rfl rfl
 rw [MJ h10]
 by_cases h11:i.op=14
 ·rw [MK h11];exact EW _ _
 rw [MJ h11]
 by_cases h12:i.op=15
 ·rw [MK h12];exact same rfl rfl rfl rfl
 rw [MJ h12]
 by_cases h13:i.op=16
 ·rw [MK h13];exact same rfl rfl rfl rfl
 rw [MJ h13]
 by_cases h14:i.op=17
 ·rw [MK h14]
  split
  ·exact same rfl rfl rfl rfl
  ·exact same rfl rfl rfl rfl
 rw [MJ h14]
 by_cases h15:i.op=18
 ·rw [MK h15];exact same rfl rfl rfl rfl
 rw [MJ h15]
 by_cases h16:i.op=19
 ·rw [MK h16];exact EX _ _ _ _
 rw [MJ h16]
 by_cases h17:i.op=21
 ·rw [MK h17]
  obtain ⟨a,b,d,e⟩:=Kr lim (vo { S with flags:=false } 4 i.sub 0) i.sub.toNat
  exact .nQ a b d (e.imp id .inr)
 rw [MJ h17]
 by_cases h18:i.op=22
 ·rw [MK h18];exact EY _ _
 rw [MJ h18]
 by_cases h19:i.op=23\/i.op=24
 ·rw [MK h19];exact A8 _ _ _ _
 rw [MJ h19]
 by_cases h20:i.op=25
 ·rw [MK h20];exact .Ec rfl rfl rfl (.inl rfl)
 rw [MJ h20]
 by_cases h21:i.op=26
 ·rw [MK h21]
  split
  ·exact .Ec rfl rfl rfl (.inl rfl)
  ·exact same rfl rfl rfl rfl
 rw [MJ h21]
 exact same rfl rfl rfl rfl
section
variable (p:Pg) (lim:Int) (world:List Int) (lab:Bool) (fuel:Int)
structure Me (S T:St):Prop where
 ext:Ext S T
 steps:(T.steps=S.steps/\T.ev=S.ev/\T.lk=S.lk)\/(T.steps=S.steps + 1/\S.steps ≠ fuel/\T.ev.length<=S.ev.length + 1/\T.lk.length<=S.lk.length + 1)
 two:T.kind=2->T = { S with kind:=2 } /\ S.steps=fuel
theorem Kz (S:St) (h:S.kind=0):Me fuel S (jt p lim world lab fuel S):=by
 have three:Me fuel S { S with kind:=3 }:=⟨⟨NT S.ev,NT S.lk⟩,.inl ⟨rfl,rfl,rfl⟩,fun q=>by cases q⟩
 unfold jt
 split
 ·exact three
 split
 ·exact three
 split
 ·exact three
 split
 ·exact ⟨⟨NT S.ev,NT S.lk⟩,.inl ⟨rfl,rfl,rfl⟩,fun q=>by have q:S.kind=2:=q;rw [h] at q;cases q⟩
 split
 ·rename_i e
  exact ⟨⟨NT S.ev,NT S.lk⟩,.inl ⟨rfl,rfl,rfl⟩,fun _=>⟨rfl,e⟩⟩
 ·rename_i c _ _ _ i _ _ e
  have x:=A9 p lim world { qg S { c with pt:=c.pt + 1 } with steps:=S.steps + 1 } { c with pt:=c.pt + 1 } i
  generalize zi p lim world { qg S { c with pt:=c.pt + 1 } with steps:=S.steps + 1 } { c with pt:=c.pt + 1 } i=r at x
  have k:=x.kind
  have s:=x.steps
  unfold QK
  split
  ·refine ⟨⟨x.ext.ev,x.ext.lk⟩,.inr ⟨s,e,x.HY⟩,fun q => ?_⟩
   rcases k with k | k | k
   ·have k:r.1.kind=S.kind:=k
    rw [h] at k;omega
   ·omega
   ·omega
  ·exact ⟨⟨x.ext.ev,x.ext.lk⟩,.inr ⟨s,e,x.HY⟩,fun q=>by cases q⟩
theorem p9 {fuel':Int} (S:St) (hs:S.steps<=fuel) (hf:fuel<=fuel') (h2:(jt p lim world lab fuel S).kind ≠ 2):jt p lim world lab fuel' S=jt p lim world lab fuel S:=by
 revert h2
 unfold jt
 split
 ·exact fun _=>rfl
 split
 ·exact fun _=>rfl
 split
 ·exact fun _=>rfl
 split
 ·exact fun _=>rfl
 by_cases e:S.steps=fuel
 ·rw [MK e];exact fun q=>absurd rfl q
 ·rw [MJ e,MJ (by omega)];exact fun _=>rfl
theorem fS (S:St):Ext S (Wr p lim world lab fuel S)/\(((Wr p lim world lab fuel S).steps=S.steps/\(Wr p lim world lab fuel S).ev=S.ev/\(Wr p lim world lab fuel S).lk=S.lk)\/((Wr p lim world lab fuel S).steps=S.steps + 1/\S.steps ≠ fuel/\(Wr p lim world lab fuel S).ev.length<=S.ev.length + 1/\(Wr p lim world lab fuel S).lk.length<=S.lk.length + 1)):=by
 unfold Wr
 split
 ·have:=Kz p lim world lab fuel S (by assumption)
  exact ⟨this.ext,this.steps⟩
 ·exact ⟨Ext.refl _,.inl ⟨rfl,rfl,rfl⟩⟩
theorem jR:∀ (n:Nat) (S:St),S.kind ≠ 0->vI p lim world lab fuel n S=S
 | 0,S,h=>rfl
 | n + 1,S,h=>by
   unfold vI Wr
   rw [MJ h]
   exact jR n S h
theorem Y5:∀ (n m:Nat) (S:St),vI p lim world lab fuel (n + m) S=vI p lim world lab fuel m (vI p lim world lab fuel n S)
 | 0,m,S=>by rw [MT];rfl
 | n + 1,m,S=>by
   rw [show n + 1 + m=(n + m) + 1 by omega]
   exact Y5 n m _
theorem m6:∀ (n:Nat) (S:St),Ext S (vI p lim world lab fuel n S)
 | 0,S=>Ext.refl _
 | n + 1,S=>(fS p lim world lab fuel S).1.trans (m6 n _)
theorem CY {S:St} {n m:Nat} (h1:(vI p lim world lab fuel n S).kind ≠ 0) (h2:(vI p lim world lab fuel m S).kind ≠ 0):vI p lim world lab fuel n S=vI p lim world lab fuel m S:=by
 rcases Nat.le_total n m with q | q
 ·obtain ⟨d,rfl⟩:=Nat.le.dest q
  rw [Y5,jR _ _ _ _ _ d _ h1]
 ·obtain ⟨d,rfl⟩:=Nat.le.dest q
  rw [Y5,jR _ _ _ _ _ d _ h2]
theorem fL {fuel':Int} (hf:fuel<=fuel'):∀ (n:Nat) (S:St),S.steps<=fuel->S.kind ≠ 2->(vI p lim world lab fuel n S).steps<=fuel /\
  (((vI p lim world lab fuel n S).kind ≠ 2/\vI p lim world lab fuel' n S=vI p lim world lab fuel n S) \/
   ∃ k T,k<=n/\T.kind=0/\T.steps=fuel/\vI p lim world lab fuel n S = { T with kind:=2 } /\ vI p lim world lab fuel' k S=T)
 | 0,S,hs,h2=>⟨hs,.inl ⟨h2,rfl⟩⟩
 | n + 1,S,hs,h2=>by
   by_cases h0:S.kind=0
   ·have rf:=Kz p lim world lab fuel S h0
    have e1:Wr p lim world lab fuel S=jt p lim world lab fuel S:=by unfold Wr;rw [MK h0]
    have e1':Wr p lim world lab fuel' S=jt p lim world lab fuel' S:=by unfold Wr;rw [MK h0]
    by_cases q:(jt p lim world lab fuel S).kind=2
    ·obtain ⟨t1,t2⟩:=rf.two q
     have em:vI p lim world lab fuel (n + 1) S = { S with kind:=2 }:=by
      unfold vI
      rw [e1,jR _ _ _ _ _ n _ (by rw [q];decide),t1]
     rw [em]
     exact ⟨hs,.inr ⟨0,S,NG _,h0,t2,rfl,rfl⟩⟩
    ·have e2:=p9 p lim world lab fuel (fuel':=fuel') S hs hf q
     have hs2:(jt p lim world lab fuel S).steps<=fuel:=by
      rcases rf.steps with ⟨a,_⟩ | ⟨a,b,_⟩ <;> omega
     unfold vI
     rw [e1,e1',e2]
     obtain ⟨a,b⟩:=fL hf n _ hs2 q
     refine ⟨a,?_⟩
     rcases b with b | ⟨k,T,hk,b1,b2,b3,b4⟩
     ·exact .inl b
     ·refine .inr ⟨k + 1,T,by omega,b1,b2,b3,?_⟩
      show vI p lim world lab fuel' k (Wr p lim world lab fuel' S)=T
      rw [e1',e2];exact b4
   ·have e:vI p lim world lab fuel (n + 1) S=S:=jR _ _ _ _ _ _ _ h0
    have e':vI p lim world lab fuel' (n + 1) S=S:=jR _ _ _ _ _ _ _ h0
    rw [e,e']
    exact ⟨hs,.inl ⟨h2,rfl⟩⟩
end
theorem KA (p:Pg) (lim:Int) (args:List Int):((Wz p lim args).kind=0\/(Wz p lim args).kind=4)/\(Wz p lim args).steps=0/\(Wz p lim args).ev = []/\(Wz p lim args).lk = []:=by
 obtain ⟨a,b,c,d⟩:=Kr lim (QI p args) p.main.toNat
 exact ⟨d,c,a,b⟩
theorem nC {p:Pg} {lim:Int} {args world:List Int} {lab:Bool} {n m:Nat} {A B:St} (a:Ends p lim args world lab n A) (b:Ends p lim args world lab ((n:Int) + m) B) :
  (A.kind ≠ 2/\B=A)\/(A.kind=2/\A.steps=n/\A.ev <+: B.ev/\A.lk <+: B.lk):=by
 obtain ⟨a0,i,rfl⟩:=a
 obtain ⟨b0,j,rfl⟩:=b
 obtain ⟨k0,s0,_,_⟩:=KA p lim args
 obtain ⟨h1,h2⟩:=fL p lim world lab (n:Int) (fuel':=(n:Int) + m) (by omega) i (Wz p lim args) (by omega) (by rcases k0 with q | q <;> rw [q] <;> decide)
 rcases h2 with ⟨h2,h3⟩ | ⟨k,T,_,t0,ts,e1,e2⟩
 ·refine .inl ⟨h2,?_⟩
  rw [<- h3]
  exact CY _ _ _ _ _ b0 (by rw [h3];exact a0)
 ·refine .inr ?_
  rw [e1]
  refine ⟨rfl,ts,?_⟩
  have hk:k<=j:=by
   rcases MX j k with q | q
   ·obtain ⟨d,rfl⟩:=Nat.le.dest (Nat.le_of_lt q)
    rw [Y5,jR _ _ _ _ _ d _ b0] at e2
    rw [e2] at b0
    exact absurd t0 b0
   ·exact q
  obtain ⟨d,rfl⟩:=Nat.le.dest hk
  rw [Y5,e2]
  have:=m6 p lim world lab ((n:Int) + m) d T
  exact ⟨this.ev,this.lk⟩
theorem bD (p:Pg) (lim:Int) (world:List Int) (lab:Bool) (fuel:Int):∀ (n:Nat) (S:St),S.steps<=fuel->(S.ev.length:Int)<=S.steps->(S.lk.length:Int)<=S.steps->(vI p lim world lab fuel n S).steps<=fuel/\((vI p lim world lab fuel n S).ev.length:Int)<=(vI p lim world lab fuel n S).steps/\((vI p lim world lab fuel n S).lk.length:Int)<=(vI p lim world lab fuel n S).steps
 | 0,S,h,a,b=>⟨h,a,b⟩
 | n + 1,S,h,a,b=>by
   unfold vI
   rcases (fS p lim world lab fuel S).2 with ⟨q,e,l⟩ | ⟨q,e,l,m⟩
   ·exact bD p lim world lab fuel n _ (by omega) (by rw [e,q];exact a) (by rw [l,q];exact b)
   ·exact bD p lim world lab fuel n _ (by omega) (by omega) (by omega)
theorem sO {p:Pg} {lim:Int} {args world:List Int} {lab:Bool} {fuel:Int} {A:St} (h0:0<=fuel) (a:Ends p lim args world lab fuel A):(A.ev.length:Int)<=fuel/\(A.lk.length:Int)<=fuel:=by
 obtain ⟨_,i,rfl⟩:=a
 obtain ⟨_,s0,e,l⟩:=KA p lim args
 obtain ⟨x,y,z⟩:=bD p lim world lab fuel i (Wz p lim args) (by omega) (by rw [e,s0];decide) (by rw [l,s0];decide)
 omega
end Go.As
namespace Go.Ai
noncomputable section
variable {P:Program}
theorem sS {α β:Type} {x:Sem α} {f:α->Sem β} {a:α} (h:zU P x=some a):zU P (x >>= f)=zU P (f a):=by
 induction x with
 | pure b=>simp only [zU,My] at h;subst h;rfl
 | program k ih=>exact ih P h
 | _=>cases h
def Zb:Nat->List (Int × Value)->List Xc
 | _,[]=>[]
 | n,(k,v) :: l=>(.int .i64 k,v,n) :: Zb (n + 1) l
def Wq (l:List (Int × Value)):xS := .map (Zb 0 l) l.length
def Wn:List (Int × Value)->Int->Option Nat
 | [],_=>none
 | (a,_) :: l,k=>if a=k then some 0 else (Wn l k).map (· + 1)
def UI:List (Int × Value)->Int->Option Value
 | [],_=>none
 | (a,v) :: l,k=>if a=k then some v else UI l k
def Y6:List (Int × Value)->Int->Value->List (Int × Value)
 | [],k,v=>[(k,v)]
 | (a,w) :: l,k,v=>if a=k then (a,v) :: l else (a,w) :: Y6 l k v
theorem aL:∀ (l:List (Int × Value)) (k k':Int) (v:Value),UI (Y6 l k v) k'=if k=k' then some v else UI l k'
 | [],k,k',v=>rfl
 | (a,w) :: l,k,k',v=>by
   unfold Y6
   by_cases h:a=k
   ·rw [MK h]
    subst h
    unfold UI
    by_cases h2:a=k'
    ·rw [MK h2,MK h2]
    ·rw [MJ h2,MJ h2,MJ h2]
   ·rw [MJ h]
    unfold UI
    rw [aL l]
    by_cases h2:a=k'
    ·rw [MK h2,MK h2,MJ (by omega)]
    ·rw [MJ h2,MJ h2]
theorem aA:∀ (n:Nat) (l:List (Int × Value)),((Zb n l).all fun e=>flat e.1)=true
 | _,[]=>rfl
 | n,(k,v) :: l=>by show (true && (Zb (n + 1) l).all fun e=>flat e.1)=true;rw [aA];rfl
theorem fG (kind:IntKind) (k:Int):∀ (l:List (Int × Value)) (n i:Nat),Instr.findNow (.int kind) (.int .i64 k) ((Zb n l).map fun e=>Ut e.1) i=some ((Wn l k).map fun j=>(i + j,undef))
 | [],n,i=>rfl
 | (a,v) :: l,n,i=>by
   show (match Instr.sameNow (.int kind) (.int .i64 k) (.int .i64 a) with
    | some true=>some (some (i,undef))
    | some false=>Instr.findNow (.int kind) (.int .i64 k) ((Zb (n + 1) l).map fun e=>Ut e.1) (i + 1)
    | none=>none)=some ((if a=k then some 0 else (Wn l k).map (· + 1)).map fun j=>(i + j,undef))
   have e:Instr.sameNow (.int kind) (.int .i64 k) (.int .i64 a)=some (k == a):=rfl
   rw [e]
   by_cases h:a=k
   ·rw [MK h,h,Oa];rfl
   ·rw [MJ h,beq_eq_false_iff_ne.2 (fun q=>h q.symm)]
    simp only
    rw [fG kind k l]
    cases Wn l k with
    | none=>rfl
    | some j=>simp only [NX,My,MC,NB];omega
theorem CL {kt:TypeId} {kind:IntKind} (hk:zU P (underlying kt)=some (.int kind)) (k:Int) (n:Nat) (l:List (Int × Value)):fj P kt (.int .i64 k) (Zb n l)=some (Wn l k):=by
 have e:zU P (Instr.findKey kt (.int .i64 k) ((Zb n l).map fun e=>Ut e.1))=some ((Wn l k).map fun j=>(0 + j,undef)):=by
  unfold Instr.findKey
  rw [sS hk,fG kind k l n 0]
  rfl
 unfold fj
 rw [aA,e]
 cases Wn l k with
 | none=>rfl
 | some j=>simp only [NX,MT];rfl
theorem si {kt:TypeId} {kind:IntKind} (hk:zU P (underlying kt)=some (.int kind)) (b:Bool) (k:Int):zU P (Instr.checkKey b 10000 kt (.int .i64 k))=some ():=by
 show zU P (underlying kt >>= _)=_
 rw [sS hk]
 rfl
theorem ik:∀ {l:List (Int × Value)} {k:Int} {n:Nat},(Wn l k=none->UI l k=none) /\ ∀ j,Wn l k=some j->∃ v,UI l k=some v/\(Zb n l)[j]? = some (.int .i64 k,v,n + j)
 | [],k,n=>⟨fun _=>rfl,fun j h=>by cases h⟩
 | (a,v) :: l,k,n=>by
   obtain ⟨i1,i2⟩:=ik (l:=l) (k:=k) (n:=n + 1)
   unfold Wn UI
   by_cases h:a=k
   ·rw [MK h,MK h]
    refine ⟨fun q=>(by cases q),fun j q => ?_⟩
    cases q
    exact ⟨v,rfl,by rw [h];rfl⟩
   ·rw [MJ h,MJ h]
    cases hi:Wn l k with
    | none=>exact ⟨fun _=>i1 hi,fun j q=>by cases q⟩
    | some m=>
      refine ⟨fun q=>(by cases q),fun j q => ?_⟩
      simp only [NX,My] at q
      subst q
      obtain ⟨w,h1,h2⟩:=i2 m hi
      exact ⟨w,h1,by show (Zb (n + 1) l)[m]? = _;rw [h2,show n + 1 + m=n + (m + 1) by omega]⟩
theorem sC:∀ {l:List (Int × Value)} {k:Int} {n:Nat} (v:Value),(Wn l k=none->Zb n (Y6 l k v)=Zb n l ++ [(.int .i64 k,v,n + l.length)]/\(Y6 l k v).length=l.length + 1) /\ ∀ j,Wn l k=some j->Zb n (Y6 l k v)=(Zb n l).set j (.int .i64 k,v,n + j)/\(Y6 l k v).length=l.length
 | [],k,n,v=>⟨fun _=>⟨rfl,rfl⟩,fun j h=>by cases h⟩
 | (a,w) :: l,k,n,v=>by
   obtain ⟨i1,i2⟩:=sC (l:=l) (k:=k) (n:=n + 1) v
   unfold Wn Y6
   by_cases h:a=k
   ·rw [MK h,MK h]
    refine ⟨fun q=>(by cases q),fun j q => ?_⟩
    cases q
    rw [h]
    exact ⟨rfl,rfl⟩
   ·rw [MJ h,MJ h]
    cases hi:Wn l k with
    | none=>
      obtain ⟨e1,e2⟩:=i1 hi
      refine ⟨fun _=>⟨?_,?_⟩,fun j q=>by cases q⟩
      ·show (_,w,n) :: Zb (n + 1) (Y6 l k v)=_
       rw [e1,show n + 1 + l.length=n + (l.length + 1) by omega];rfl
      ·show (Y6 l k v).length + 1=_
       rw [e2];rfl
    | some m=>
      obtain ⟨e1,e2⟩:=i2 m hi
      refine ⟨fun q=>(by cases q),fun j q => ?_⟩
      simp only [NX,My] at q
      subst q
      refine ⟨?_,?_⟩
      ·show (_,w,n) :: Zb (n + 1) (Y6 l k v)=_
       rw [e1,show n + 1 + m=n + (m + 1) by omega];rfl
      ·show (Y6 l k v).length + 1=_
       rw [e2];rfl
section
variable {t kt et:TypeId} {kind:IntKind} {z:Value} {h:za} {b:Nat} {l:List (Int × Value)}
theorem m5 (ht:zU P (underlying t)=some (.map kt et)) (hk:zU P (underlying kt)=some (.int kind)) (hz:xP P et=some z) (g:h.get b=some (Wq l)) (k:Int) (ok:Bool) :
  kg P t (.map (some b)) (.int .i64 k) ok h=some (match UI l k with
   | some v=>cond ok (.tuple #[v,.bool true]) v
   | none=>cond ok (.tuple #[z,.bool false]) z):=by
 have em:Kw h (.map (some b))=some (Zb 0 l):=by unfold Kw;simp only [g];rfl
 unfold kg
 rw [ht,em]
 simp only [si hk,CL hk]
 obtain ⟨i1,i2⟩:=ik (l:=l) (k:=k) (n:=0)
 cases hi:Wn l k with
 | none=>simp only [i1 hi,hz]
 | some j=>
   obtain ⟨v,h1,h2⟩:=i2 j hi
   simp only [h1,h2]
theorem nH (ht:zU P (underlying t)=some (.map kt et)) (hk:zU P (underlying kt)=some (.int kind)) (g:h.get b=some (Wq l)) (w:h.ro<=b) (k:Int) (v:Value) :
  uL P t (.map (some b)) (.int .i64 k) v h=some (h.set b (some (Wq (Y6 l k v)))):=by
 unfold uL
 simp only [ht,g,Wq,si hk,CL hk,Nat.ble_eq_true_of_le w,MV]
 obtain ⟨i1,i2⟩:=sC (l:=l) (k:=k) (n:=0) v
 obtain ⟨_,i4⟩:=ik (l:=l) (k:=k) (n:=0)
 cases hi:Wn l k with
 | none=>
   obtain ⟨e1,e2⟩:=i1 hi
   simp only [e1,e2,MT]
 | some j=>
   obtain ⟨e1,e2⟩:=i2 j hi
   obtain ⟨v',_,h2⟩:=i4 j hi
   have sb:Instr.sameBits 10000 (.int .i64 k) (.int .i64 k)=true:=by show ((IntKind.i64 == .i64) && (k == k))=true;simp
   simp only [h2,sb,MV,e1,e2]
end
end
end Go.Ai
namespace Go.As
open Go.Ai Go.Proofs Go.Mem Go.Rm
def Yw:List qt->Int->List (Int × Value)->List (Int × Value)
 | [],_,m=>m
 | x :: xs,n,m=>Yw xs (n + 1) (if x.op=20 then Y6 m x.l (.int .i64 n) else m)
def L3 (m:List (Int × Value)) (l z:Int):Prop:=UI m l=some (.int .i64 z)\/(UI m l=none/\z=0)
theorem aY:∀ (xs:List qt) (l n z:Int) (m:List (Int × Value)),L3 m l z->L3 (Yw xs n m) l (VR xs l n z)
 | [],l,n,z,m,h=>h
 | x :: xs,l,n,z,m,h=>by
   refine aY xs l (n + 1) _ _ ?_
   by_cases h1:x.op=20
   ·rw [MK h1]
    unfold L3
    rw [aL]
    by_cases h2:x.l=l
    ·rw [MK h2,MK ⟨h1,h2⟩];exact .inl rfl
    ·rw [MJ h2,MJ (fun q=>h2 q.2)];exact h
   ·rw [MJ h1,MJ (fun q=>h1 q.1)];exact h
theorem fJ:∀ (xs:List qt) (x:qt) (n:Int) (m:List (Int × Value)),Yw (xs ++ [x]) n m=if x.op=20 then Y6 (Yw xs n m) x.l (.int .i64 (n + xs.length)) else Yw xs n m
 | [],x,n,m=>by simp [Yw]
 | y :: xs,x,n,m=>by
   show Yw (xs ++ [x]) (n + 1) _=_
   rw [fJ xs]
   show _=if x.op=20 then Y6 (Yw xs (n + 1) _) x.l (.int .i64 (n + ((xs.length + 1:Nat):Int))) else Yw xs (n + 1) _
   rw [show n + 1 + (xs.length:Int)=n + ((xs.length + 1:Nat):Int) by omega]
def mO (k:Int):Bool:=decide (k=IntKind.wrap .i64 (IntKind.wrap .i32 k))
def Hn (op:Int):Bool:=decide (op=1\/op=3\/op=5\/op=7\/op=10\/op=2\/op=6\/op=8\/op=9\/op=11\/op=12\/op=17\/op=4\/op=15\/op=16)
def pT (op:Int):Bool:=decide (op=1\/op=3\/op=5\/op=7\/op=10\/op=4\/op=15\/op=14)
def Ho (op:Int):Bool:=decide (op=1\/op=3\/op=5\/op=7\/op=10\/op=2\/op=6\/op=8\/op=9\/op=11\/op=12\/op=17)
def qC (op:Int):Bool:=decide (op=3\/op=4\/op=5\/op=1)
def Z7 (i:qt):Bool := !(Hn i.op && (decide (i.r < 0) || (decide (16<=i.r) || (Ho i.op && decide (i.r=4))))) && (!pT i.op || (decide (0<=i.m) && (decide (i.m < 16) && (!decide (i.m=4) || qC i.op))))
def mP (n:Int):Bool:=decide (21<=n) && decide (n<=26)
def tX (s:Int):Bool:=decide (s=11\/s=12\/s=13\/s=16\/s=17\/s=18)
def yX (gl:List Int) (i:qt):Bool :=
 if i.op=3\/i.op=4 then decide (i.sub=1\/i.sub=4\/i.sub=8) && mO i.k
 else if i.op=5\/i.op=16 then mO i.k
 else if i.op=6 then decide (0<=i.sub) && (decide (i.sub < gl.length) && (decide (0<=i.k) && decide (i.k<=gl.getD i.sub.toNat 0)))
 else if i.op=7 then tX i.sub
 else if i.op=8 then tX i.sub && mO i.k
 else if i.op=9 then decide (i.sub=1\/i.sub=2)
 else if i.op=10 then decide (i.sub=3\/i.sub=4)
 else if i.op=11 then decide (i.sub=19\/i.sub=20) && (decide (0<=i.k) && decide (i.k<=63))
 else if i.op=12 then decide (i.sub=19\/i.sub=20)
 else if i.op=17\/i.op=19 then mP i.cc
 else if i.op=20 then decide (0<=i.l) && decide (i.l<=10000000)
 else if i.op=23\/i.op=24 then decide (0<=i.k) && decide (i.k<=65536)
 else true
def X0 (gl:List Int) (i:qt):Bool:=decide (1<=i.op) && (decide (i.op<=26) && (Z7 i && yX gl i))
def hasB (m:List (Int × Value)) (l:Int):Bool:=match UI m l with
 | some (.bool b)=>b
 | _=>false
def ke (gl:List Int):List qt->List (Int × Value)->Bool->Option (List (Int × Value) × Bool)
 | [],m,some?=>some (m,some?)
 | x :: xs,m,some?=>if X0 gl x=false then none else if x.op=20 then (if hasB m x.l=true then none else ke gl xs (Y6 m x.l (.bool true)) some?) else ke gl xs m true
def XZ (n:Nat) (m:List (Int × Value)) (x:qt):Bool := !(decide (x.op=18\/x.op=19) && !hasB m x.l) && !(decide (x.op=21) && (decide (x.sub < 0) || decide ((n:Int)<=x.sub)))
def C1 (n:Nat) (code:List qt):Option (List (Int × Value) × Bool)->Bool
 | none=>false
 | some r=>code.all (XZ n r.1) && r.2
def pj (p:Pg) (f:Fn):Bool := !decide (100000 < (f.code.length:Int)) && C1 p.funcs.length f.code (ke p.globals f.code [] false)
def Yb (p:Pg):Bool := !decide (p.main < 0) && (!decide ((p.funcs.length:Int)<=p.main) && (!decide ((100:Int) < p.funcs.length) && (!decide ((200:Int) < p.globals.length) && (!decide (p.params < 0) && !decide (6 < p.params)))))
def Ku (p:Pg):Bool:=Yb p && (p.globals.all (fun n => !decide (n < 0) && !decide (65536 < n)) && p.funcs.all (pj p))
open Go.Rtl (zG zX Old xG w7)
theorem vt {u v w:Value} {h:za} {R:Value->za->Prop} (ha:yc u=false) (hb:yc v=false) (hc:yc w=false):rv [u,v,w] h R=R (.tuple #[u,v,w]) h:=by
 apply propext;simp only [rv,yV,ha,hb,hc,M7,qa,Oq]
theorem Ac (a b c:Bool):ZW (.tuple #[.bool a,.bool b,.bool c]) 0=some (.bool a):=rfl
theorem Ad (a b c:Bool):ZW (.tuple #[.bool a,.bool b,.bool c]) 1=some (.bool b):=rfl
theorem Ae (a b c:Bool):ZW (.tuple #[.bool a,.bool b,.bool c]) 2=some (.bool c):=rfl
theorem XD (k:Int) (h:za):wS Tryd.prog 50 [.int .i64 k] h (.bool (mO k)):=by
 apply xG
 apply tG
 unfold oh mO
 by_cases hk:k=IntKind.wrap .i64 (IntKind.wrap .i32 k)
 ·simp -implicitDefEqProofs only [EE,ki,KU]
  simp [w7]
 ·simp -implicitDefEqProofs only [EE,ki,KU]
  simp [w7]
theorem Ef (n:Int) (h:za):DC Tryd.prog 76 [.int .i64 n] h (fun v h1=>(∃ a,v = .tuple #[.int .i64 a,.bool (mP n)])/\h1=h):=by
 apply tu
 unfold nV
 by_cases h21:n=21
 ·subst h21;simp -implicitDefEqProofs only [EE,↓BK,j2];exact ⟨_,rfl⟩
 by_cases h22:n=22
 ·subst h22;simp -implicitDefEqProofs only [EE,↓BK,Int.reduceEq,ZN,j2];exact ⟨_,rfl⟩
 by_cases h23:n=23
 ·subst h23;simp -implicitDefEqProofs only [EE,↓BK,Int.reduceEq,YP,ZN,j2];exact ⟨_,rfl⟩
 by_cases h24:n=24
 ·subst h24;simp -implicitDefEqProofs only [EE,↓BK,Int.reduceEq,Ua,X4,YP,ZN,j2];exact ⟨_,rfl⟩
 by_cases h25:n=25
 ·subst h25;simp -implicitDefEqProofs only [EE,↓BK,Int.reduceEq,Jg,Ua,X4,YP,ZN,j2];exact ⟨_,rfl⟩
 by_cases h26:n=26
 ·subst h26;simp -implicitDefEqProofs only [EE,↓BK,Int.reduceEq,X4,YP,ZN,j2];exact ⟨_,rfl⟩
 simp -implicitDefEqProofs only [EE,↓BK,Jg,Ua,X4,YP,ZN,j2,h21,h22,h23,h24,h25,h26]
 have e:mP n=false:=by unfold mP;simp;omega
 rw [e]
 exact ⟨_,rfl⟩
theorem J5 (n:Int) (h:za):wS Tryd.prog 52 [.int .i64 n] h (.bool (mP n)):=by
 apply xG
 apply cJ
 unfold Vw
 refine zW (by kernel_rfl) rfl (Ef n _) ?_
 rintro v h1 ⟨⟨a,rfl⟩,rfl⟩
 simp -implicitDefEqProofs only [EE]
 rfl
theorem Fg (n:Int) (h:za):wS Tryd.prog 51 [.int .i64 n] h (.bool (tX n)):=by
 apply xG
 apply BD
 unfold BB
 by_cases h11:n=11
 ·subst h11;simp -implicitDefEqProofs only [EE,nth,↓BK,Yh];rfl
 by_cases h12:n=12
 ·subst h12;simp -implicitDefEqProofs only [EE,nth,↓BK,Int.reduceEq,Xn,Yh];rfl
 by_cases h13:n=13
 ·subst h13;simp -implicitDefEqProofs only [EE,nth,↓BK,Int.reduceEq,WG,Xn,Yh];rfl
 by_cases h16:n=16
 ·subst h16;simp -implicitDefEqProofs only [EE,nth,↓BK,Int.reduceEq,Uf,WG,Xn,Yh];rfl
 by_cases h17:n=17
 ·subst h17;simp -implicitDefEqProofs only [EE,nth,↓BK,Int.reduceEq,KM,Uf,WG,Xn,Yh];rfl
 by_cases h18:n=18
 ·subst h18;simp -implicitDefEqProofs only [EE,nth,↓BK,Int.reduceEq,KM,Uf,WG,Xn,Yh];rfl
 simp -implicitDefEqProofs only [EE,nth,↓BK,KM,Uf,WG,Xn,Yh,h11,h12,h13,h16,h17,h18]
 have e:tX n=false:=by unfold tX;simp;omega
 rw [e];rfl
theorem EB (x:qt) (h:za):wS Tryd.prog 75 [x.val] h (.tuple #[.bool (Hn x.op),.bool (pT x.op),.bool (Ho x.op)]):=by
 apply jr rfl
 apply oB
 unfold gF
 obtain ⟨op,r,m,sub,cc,l,k⟩:=x
 by_cases h1:op=1
 ·subst h1;simp -implicitDefEqProofs only [EE,nth,↓nw,Value.cells,↓BK,zL,zu,zh,xV,xW,vt];rfl
 by_cases h3:op=3
 ·subst h3;simp -implicitDefEqProofs only [EE,nth,↓nw,Value.cells,↓BK,Int.reduceEq,zL,zu,zh,wI,xV,xW,vt];rfl
 by_cases h5:op=5
 ·subst h5;simp -implicitDefEqProofs only [EE,nth,↓nw,Value.cells,↓BK,Int.reduceEq,zL,zu,zh,w4,wI,xV,xW,vt];rfl
 by_cases h7:op=7
 ·subst h7;simp -implicitDefEqProofs only [EE,nth,↓nw,Value.cells,↓BK,Int.reduceEq,zL,zu,zh,vf,w4,wI,xV,xW,vt];rfl
 by_cases h10:op=10
 ·subst h10;simp -implicitDefEqProofs only [EE,nth,↓nw,Value.cells,↓BK,Int.reduceEq,zL,zu,zh,vf,w4,wI,xV,xW,vt];rfl
 by_cases h2:op=2
 ·subst h2;simp -implicitDefEqProofs only [EE,nth,↓nw,Value.cells,↓BK,Int.reduceEq,zL,zu,zh,vf,w4,wI,vg,vh,xV,xW,vt];rfl
 by_cases h6:op=6
 ·subst h6;simp -implicitDefEqProofs only [EE,nth,↓nw,Value.cells,↓BK,Int.reduceEq,zL,zu,zh,vf,w4,wI,v5,vg,vh,xV,xW,vt];rfl
 by_cases h8:op=8
 ·subst h8;simp -implicitDefEqProofs only [EE,nth,↓nw,Value.cells,↓BK,Int.reduceEq,zL,zu,zh,vf,w4,wI,uQ,v5,vg,vh,xV,xW,vt];rfl
 by_cases h9:op=9
 ·subst h9;simp -implicitDefEqProofs only [EE,nth,↓nw,Value.cells,↓BK,Int.reduceEq,zL,zu,zh,vf,w4,wI,qj,uQ,v5,vg,vh,xV,xW,vt];rfl
 by_cases h11:op=11
 ·subst h11;simp -implicitDefEqProofs only [EE,nth,↓nw,Value.cells,↓BK,Int.reduceEq,zL,zu,zh,vf,w4,wI,qO,qj,uQ,v5,vg,vh,xV,xW,vt];rfl
 by_cases h12:op=12
 ·subst h12;simp -implicitDefEqProofs only [EE,nth,↓nw,Value.cells,↓BK,Int.reduceEq,zL,zu,zh,vf,w4,wI,kW,qO,qj,uQ,v5,vg,vh,xV,xW,vt];rfl
 by_cases h17:op=17
 ·subst h17;simp -implicitDefEqProofs only [EE,nth,↓nw,Value.cells,↓BK,Int.reduceEq,zL,zu,zh,vf,w4,wI,kW,qO,qj,uQ,v5,vg,vh,xV,xW,vt];rfl
 by_cases h4:op=4
 ·subst h4;simp -implicitDefEqProofs only [EE,nth,↓nw,Value.cells,↓BK,Int.reduceEq,zL,zu,zh,vf,w4,wI,kW,qO,qj,uQ,v5,jD,jE,vg,vh,xV,xW,vt];rfl
 by_cases h15:op=15
 ·subst h15;simp -implicitDefEqProofs only [EE,nth,↓nw,Value.cells,↓BK,Int.reduceEq,zL,zu,zh,vf,w4,wI,kW,qO,qj,uQ,v5,jD,jE,vg,vh,xV,xW,vt];rfl
 by_cases h16:op=16
 ·subst h16;simp -implicitDefEqProofs only [EE,nth,↓nw,Value.cells,↓BK,Int.reduceEq,zL,zu,zh,vf,w4,wI,kW,qO,qj,uQ,v5,Xq,jD,jE,vg,vh,xV,xW,vt];rfl
 by_cases h14:op=14
 ·subst h14;simp -implicitDefEqProofs only [EE,nth,↓nw,Value.cells,↓BK,Int.reduceEq,zL,zu,zh,vf,w4,wI,kW,qO,qj,uQ,v5,Qo,Xq,jD,jE,vg,vh,xV,xW,vt];rfl
 simp -implicitDefEqProofs only [EE,nth,↓nw,Value.cells,↓BK,zL,zu,zh,vf,w4,wI,kW,qO,qj,uQ,v5,Qo,Xq,jD,jE,vg,vh,xV,xW,vt,h1,h3,h5,h7,h10,h2,h6,h8,h9,h11,h12,h17,h4,h15,h16,h14]
 have e1:Hn op=false:=by unfold Hn;simp;omega
 have e2:pT op=false:=by unfold pT;simp;omega
 have e3:Ho op=false:=by unfold Ho;simp;omega
 rw [e1,e2,e3];rfl
theorem LG {x:qt} {H:za} {b1:Nat} {B:Bool} {vs:List Value} (g:H.get b1=some (.cells x.row 51)) (hB:B=(decide (0<=x.m) && (decide (x.m < 16) && (!decide (x.m=4) || qC x.op)))):ya (.pointer (some ⟨b1,0,none⟩)) (w7 B) vs H:=by
 obtain ⟨op,r,m,sub,cc,l,k⟩:=x
 simp only at hB g
 by_cases o3:op=3
 ·subst o3
  by_cases m0:0<=m
  ·by_cases m1:m < 16
   ·by_cases m4:m=4
    ·simp -implicitDefEqProofs only [EE,Int.reduceLT,Int.reduceLE,zL,zu,zh,wt,yG,yH,yI,yJ,yK,yL,yM,yN,yO,yq,ya,g,m4]
     rw [hB];simp [w7,m4,qC]
    ·simp -implicitDefEqProofs only [EE,zL,zu,zh,wt,yG,yH,yI,yJ,yK,yL,yM,yN,yO,yq,ya,g,m0,m1,m4]
     rw [hB];simp [w7,m0,m1,m4,qC]
   ·simp -implicitDefEqProofs only [EE,zL,zu,zh,wt,yG,yH,yI,yJ,yK,yL,yM,yN,yO,yq,ya,g,m0,m1]
    rw [hB];simp [w7,m0,m1,qC]
  ·simp -implicitDefEqProofs only [EE,zL,zu,zh,wt,yG,yH,yI,yJ,yK,yL,yM,yN,yO,yq,ya,g,m0]
   rw [hB];simp [w7,m0,qC]
 by_cases o4:op=4
 ·subst o4
  by_cases m0:0<=m
  ·by_cases m1:m < 16
   ·by_cases m4:m=4
    ·simp -implicitDefEqProofs only [EE,Int.reduceEq,Int.reduceLT,Int.reduceLE,zL,zu,zh,wt,yG,yH,yI,yJ,yK,yL,yM,yN,yO,yq,ya,g,m4]
     rw [hB];simp [w7,m4,qC]
    ·simp -implicitDefEqProofs only [EE,Int.reduceEq,zL,zu,zh,wt,yG,yH,yI,yJ,yK,yL,yM,yN,yO,yq,ya,g,m0,m1,m4]
     rw [hB];simp [w7,m0,m1,m4,qC]
   ·simp -implicitDefEqProofs only [EE,Int.reduceEq,zL,zu,zh,wt,yG,yH,yI,yJ,yK,yL,yM,yN,yO,yq,ya,g,m0,m1]
    rw [hB];simp [w7,m0,m1,qC]
  ·simp -implicitDefEqProofs only [EE,Int.reduceEq,zL,zu,zh,wt,yG,yH,yI,yJ,yK,yL,yM,yN,yO,yq,ya,g,m0]
   rw [hB];simp [w7,m0,qC]
 by_cases o5:op=5
 ·subst o5
  by_cases m0:0<=m
  ·by_cases m1:m < 16
   ·by_cases m4:m=4
    ·simp -implicitDefEqProofs only [EE,Int.reduceEq,Int.reduceLT,Int.reduceLE,zL,zu,zh,wt,yG,yH,yI,yJ,yK,yL,yM,yN,yO,yq,ya,g,m4]
     rw [hB];simp [w7,m4,qC]
    ·simp -implicitDefEqProofs only [EE,Int.reduceEq,zL,zu,zh,wt,yG,yH,yI,yJ,yK,yL,yM,yN,yO,yq,ya,g,m0,m1,m4]
     rw [hB];simp [w7,m0,m1,m4,qC]
   ·simp -implicitDefEqProofs only [EE,Int.reduceEq,zL,zu,zh,wt,yG,yH,yI,yJ,yK,yL,yM,yN,yO,yq,ya,g,m0,m1]
    rw [hB];simp [w7,m0,m1,qC]
  ·simp -implicitDefEqProofs only [EE,Int.reduceEq,zL,zu,zh,wt,yG,yH,yI,yJ,yK,yL,yM,yN,yO,yq,ya,g,m0]
   rw [hB];simp [w7,m0,qC]
 by_cases o1:op=1
 ·subst o1
  by_cases m0:0<=m
  ·by_cases m1:m < 16
   ·by_cases m4:m=4
    ·simp -implicitDefEqProofs only [EE,Int.reduceEq,Int.reduceLT,Int.reduceLE,zL,zu,zh,wt,yG,yH,yI,yJ,yK,yL,yM,yN,yO,yq,ya,g,m4]
     rw [hB];simp [w7,m4,qC]
    ·simp -implicitDefEqProofs only [EE,Int.reduceEq,zL,zu,zh,wt,yG,yH,yI,yJ,yK,yL,yM,yN,yO,yq,ya,g,m0,m1,m4]
     rw [hB];simp [w7,m0,m1,m4,qC]
   ·simp -implicitDefEqProofs only [EE,Int.reduceEq,zL,zu,zh,wt,yG,yH,yI,yJ,yK,yL,yM,yN,yO,yq,ya,g,m0,m1]
    rw [hB];simp [w7,m0,m1,qC]
  ·simp -implicitDefEqProofs only [EE,Int.reduceEq,zL,zu,zh,wt,yG,yH,yI,yJ,yK,yL,yM,yN,yO,yq,ya,g,m0]
   rw [hB];simp [w7,m0,qC]
 have ef:qC op=false:=by unfold qC;simp [o3,o4,o5,o1]
 by_cases m0:0<=m
 ·by_cases m1:m < 16
  ·by_cases m4:m=4
   ·simp -implicitDefEqProofs only [EE,Int.reduceLT,Int.reduceLE,zL,zu,zh,wt,yG,yH,yI,yJ,yK,yL,yM,yN,yO,yq,ya,g,m4,o3,o4,o5,o1]
    rw [hB];simp [w7,m4,ef]
   ·simp -implicitDefEqProofs only [EE,zL,zu,zh,wt,yG,yH,yI,yJ,yK,yL,yM,yN,yO,yq,ya,g,m0,m1,m4,o3,o4,o5,o1]
    rw [hB];simp [w7,m0,m1,m4,ef]
  ·simp -implicitDefEqProofs only [EE,zL,zu,zh,wt,yG,yH,yI,yJ,yK,yL,yM,yN,yO,yq,ya,g,m0,m1,o3,o4,o5,o1]
   rw [hB];simp [w7,m0,m1,ef]
 ·simp -implicitDefEqProofs only [EE,zL,zu,zh,wt,yG,yH,yI,yJ,yK,yL,yM,yN,yO,yq,ya,g,m0,o3,o4,o5,o1]
  rw [hB];simp [w7,m0,ef]
theorem Ia {x:qt} {H:za} {b1:Nat} {B:Bool} {bad:Bool} {t10:Bool} (g:H.get b1=some (.cells x.row 51)) (hb:(t10 && bad)=false) (hB:B=(!pT x.op || (decide (0<=x.m) && (decide (x.m < 16) && (!decide (x.m=4) || qC x.op))))) (v:Value) (hv:t10=true->v = .bool bad) (h0:t10=false->True):vp (.bool t10) (w7 B) (.bool (pT x.op)) (.pointer (some ⟨b1,0,none⟩)) v H:=by
 have fin:∀ vs,ya (.pointer (some ⟨b1,0,none⟩)) (w7 B) vs H\/pT x.op=false:=fun vs=>by
  cases hm:pT x.op with
  | false=>exact .inr rfl
  | true=>exact .inl (LG g (by rw [hB,hm];rfl))
 cases t10 with
 | false=>
   cases hm:pT x.op with
   | false=>simp -implicitDefEqProofs only [EE,vp];rw [hB,hm];rfl
   | true=>simp -implicitDefEqProofs only [EE,nth,vp];rcases fin [.bool false] with q | q;exact q;rw [hm] at q;cases q
 | true=>
   have hbad:bad=false:=by simpa using hb
   subst hbad
   rw [hv rfl]
   cases hm:pT x.op with
   | false=>simp -implicitDefEqProofs only [EE,vp];rw [hB,hm];rfl
   | true=>simp -implicitDefEqProofs only [EE,nth,vp];rcases fin [.bool false] with q | q;exact q;rw [hm] at q;cases q
theorem pD (x:qt) (h:za):wS Tryd.prog 49 [x.val] h (.bool (Z7 x)):=by
 apply xG
 generalize h.lock=L
 apply cN
 unfold VB
 simp -implicitDefEqProofs only [EE,↓nw,Value.cells,MA,Nat.reduceAdd,yb,vx]
 refine zj (by kernel_rfl) rfl (EB x _) ?_
 have g:(L.push (.cells x.row 51)).get L.next=some (.cells x.row 51):=z7
 generalize L.push (.cells x.row 51)=H at g ⊢
 obtain ⟨op,r,m,sub,cc,l,k⟩:=x
 simp only at g ⊢
 cases hr:Hn op with
 | false=>
   have hB:Z7 ⟨op,r,m,sub,cc,l,k⟩=(!pT op || (decide (0<=m) && (decide (m < 16) && (!decide (m=4) || qC op)))):=by unfold Z7;simp only [hr,Bool.false_and,Nr,Ob]
   simp -implicitDefEqProofs only [EE,uD,uE,uF,uG,uH,uI,uJ,uK,Ac,Ad,Ae]
   exact Ia (x:=⟨op,r,m,sub,cc,l,k⟩) (t10:=false) (bad:=false) g rfl hB _ (fun q=>by cases q) (fun _=>trivial)
 | true=>
   have bad:∀ {v},v = .bool true->Z7 ⟨op,r,m,sub,cc,l,k⟩=false->vp (.bool true) (w7 (Z7 ⟨op,r,m,sub,cc,l,k⟩)) (.bool (pT op)) (.pointer (some ⟨L.next,0,none⟩)) v H:=by
    rintro v rfl hf
    rw [hf]
    simp -implicitDefEqProofs only [EE,vp]
    rfl
   have good:∀ {v},v = .bool false->(decide (r < 0) || (decide (16<=r) || (Ho op && decide (r=4))))=false->vp (.bool true) (w7 (Z7 ⟨op,r,m,sub,cc,l,k⟩)) (.bool (pT op)) (.pointer (some ⟨L.next,0,none⟩)) v H:=by
    rintro v rfl hf
    have hB:Z7 ⟨op,r,m,sub,cc,l,k⟩=(!pT op || (decide (0<=m) && (decide (m < 16) && (!decide (m=4) || qC op)))):=by unfold Z7;simp only [hr,hf,Bool.and_false,Nr,Ob]
    exact Ia (x:=⟨op,r,m,sub,cc,l,k⟩) (t10:=true) (bad:=false) g rfl hB _ (fun _=>rfl) (fun q=>by cases q)
   by_cases r0:r < 0
   ·simp -implicitDefEqProofs only [EE,zL,zu,vz,uD,uE,uF,uG,uH,uI,uJ,uK,g,Ac,Ad,Ae,r0]
    exact bad rfl (by unfold Z7;simp [hr,r0])
   by_cases r1:r ≥ 16
   ·simp -implicitDefEqProofs only [EE,zL,zu,vz,uD,uE,uF,uG,uH,uI,uJ,uK,g,Ac,Ad,Ae,r0,r1]
    exact bad rfl (by have r1:16<=r:=r1;unfold Z7;simp [hr,r1])
   have r1':¬ 16<=r:=r1
   cases hw:Ho op with
   | false=>
     simp -implicitDefEqProofs only [EE,zL,zu,vz,uD,uE,uF,uG,uH,uI,uJ,uK,g,Ac,Ad,Ae,r0,r1]
     exact good rfl (by simp [r0,r1',hw])
   | true=>
     by_cases r4:r=4
     ·subst r4
      simp -implicitDefEqProofs only [EE,zL,zu,vz,uD,uE,uF,uG,uH,uI,uJ,uK,g,Ac,Ad,Ae,r0,r1]
      exact bad rfl (by unfold Z7;simp [hr,hw])
     ·simp -implicitDefEqProofs only [EE,zL,zu,vz,uD,uE,uF,uG,uH,uI,uJ,uK,g,Ac,Ad,Ae,r0,r1,r4]
      exact good rfl (by simp [r0,r1',r4])
theorem fK {h:za} {sv:Value} {zs:List Int} (S:zG h sv zs) (r:TypeId) (h':za):zo Tryd.prog .len [22] r [sv] h'=some (.int .i64 zs.length,h'):=by
 rcases S with ⟨rfl,rfl⟩ | ⟨b,off,cp,rfl,_⟩
 ·simp only [pH,M0]
 ·simp only [pH]
theorem t9 {h:za} {sv:Value} {zs:List Int} (S:zG h sv zs) {i:Nat} {z:Int} (hz:zs[i]? = some z):∃ b o c t,zA Tryd.prog 22 sv (.int .i64 i)=some (.pointer (some ⟨b,o,none⟩))/\b < h.next/\h.get b=some (.cells c t)/\c[o]? = some (.int .i64 z):=by
 have hi:i < zs.length:=by
  rcases MX i zs.length with q | q
  ·exact q
  ·rw [MO q] at hz;cases hz
 rcases S with ⟨rfl,rfl⟩ | ⟨b,off,cp,rfl,hc⟩
 ·cases hz
 ·obtain ⟨c,t,hb,hg,hat⟩:=hc (by intro e;subst e;cases hz)
  have h0:(0:Int)<=i:=by omega
  have h1:(i:Int) < (zs.length:Int):=by omega
  exact ⟨b,off + i,c,t,by simp only [Fw,h0,h1,MA,and_self,N4,M4],hb,hg,hat i z hz⟩
section
variable {gl:List Int} {gv:Value} {H:za} {b:Nat} {B:Bool} {vs:List Value} {x:qt}
theorem Lx {r m sub cc l k:Int} (g:H.get b=some (.cells (qt.row ⟨3,r,m,sub,cc,l,k⟩) 51)) (S:zG H gv gl) (hB:B=yX gl ⟨3,r,m,sub,cc,l,k⟩):zl (.pointer (some ⟨b,0,none⟩)) (w7 B) gv vs H:=by
 by_cases s1:sub=1
 ·subst s1
  simp -implicitDefEqProofs only [EE,nth,↓BK,zL,xz,zu,zh,yz,y7,ua,ud,ui,uk,um,vK,zw,zl,g]
  refine zj (by kernel_rfl) rfl (XD k _) ?_
  simp -implicitDefEqProofs only [EE]
  rw [hB];simp [w7,yX]
 by_cases s4:sub=4
 ·subst s4
  simp -implicitDefEqProofs only [EE,nth,↓BK,zL,xz,zu,zh,yz,y7,ua,ud,ui,uk,um,vK,zw,zl,g,s1]
  refine zj (by kernel_rfl) rfl (XD k _) ?_
  simp -implicitDefEqProofs only [EE]
  rw [hB];simp [w7,yX,s1]
 by_cases s8:sub=8
 ·subst s8
  simp -implicitDefEqProofs only [EE,nth,↓BK,zL,xz,zu,zh,yz,y7,ua,ud,ui,uk,um,vK,zw,zl,g,s1,s4]
  refine zj (by kernel_rfl) rfl (XD k _) ?_
  simp -implicitDefEqProofs only [EE]
  rw [hB];simp [w7,yX,s1,s4]
 simp -implicitDefEqProofs only [EE,nth,↓BK,zL,zu,zh,yz,ua,ud,ui,uk,um,vK,zw,zl,g,s1,s4,s8]
 rw [hB];simp [w7,yX,s1,s4,s8]
theorem Ly {r m sub cc l k:Int} (g:H.get b=some (.cells (qt.row ⟨4,r,m,sub,cc,l,k⟩) 51)) (S:zG H gv gl) (hB:B=yX gl ⟨4,r,m,sub,cc,l,k⟩):zl (.pointer (some ⟨b,0,none⟩)) (w7 B) gv vs H:=by
 by_cases s1:sub=1
 ·subst s1
  simp -implicitDefEqProofs only [EE,nth,↓BK,Int.reduceEq,zL,xz,zu,zh,yz,y7,ua,ud,ui,uk,um,vK,zw,zl,g]
  refine zj (by kernel_rfl) rfl (XD k _) ?_
  simp -implicitDefEqProofs only [EE]
  rw [hB];simp [w7,yX]
 by_cases s4:sub=4
 ·subst s4
  simp -implicitDefEqProofs only [EE,nth,↓BK,Int.reduceEq,zL,xz,zu,zh,yz,y7,ua,ud,ui,uk,um,vK,zw,zl,g,s1]
  refine zj (by kernel_rfl) rfl (XD k _) ?_
  simp -implicitDefEqProofs only [EE]
  rw [hB];simp [w7,yX,s1]
 by_cases s8:sub=8
 ·subst s8
  simp -implicitDefEqProofs only [EE,nth,↓BK,Int.reduceEq,zL,xz,zu,zh,yz,y7,ua,ud,ui,uk,um,vK,zw,zl,g,s1,s4]
  refine zj (by kernel_rfl) rfl (XD k _) ?_
  simp -implicitDefEqProofs only [EE]
  rw [hB];simp [w7,yX,s1,s4]
 simp -implicitDefEqProofs only [EE,nth,↓BK,Int.reduceEq,zL,zu,zh,yz,ua,ud,ui,uk,um,vK,zw,zl,g,s1,s4,s8]
 rw [hB];simp [w7,yX,s1,s4,s8]
theorem Lz {r m sub cc l k:Int} (g:H.get b=some (.cells (qt.row ⟨5,r,m,sub,cc,l,k⟩) 51)) (S:zG H gv gl) (hB:B=yX gl ⟨5,r,m,sub,cc,l,k⟩):zl (.pointer (some ⟨b,0,none⟩)) (w7 B) gv vs H:=by
 simp -implicitDefEqProofs only [EE,nth,↓BK,Int.reduceEq,zL,xz,zu,zh,y7,Xl,zH,zw,zl,g]
 refine zj (by kernel_rfl) rfl (XD k _) ?_
 simp -implicitDefEqProofs only [EE]
 rw [hB];simp [w7,yX]
theorem H4 {r m sub cc l k:Int} (g:H.get b=some (.cells (qt.row ⟨16,r,m,sub,cc,l,k⟩) 51)) (S:zG H gv gl) (hB:B=yX gl ⟨16,r,m,sub,cc,l,k⟩):zl (.pointer (some ⟨b,0,none⟩)) (w7 B) gv vs H:=by
 simp -implicitDefEqProofs only [EE,nth,↓BK,Int.reduceEq,zL,xz,zu,zh,y7,Xl,zH,zw,zl,g]
 refine zj (by kernel_rfl) rfl (XD k _) ?_
 simp -implicitDefEqProofs only [EE]
 rw [hB];simp [w7,yX]
theorem LA {r m sub cc l k:Int} (g:H.get b=some (.cells (qt.row ⟨6,r,m,sub,cc,l,k⟩) 51)) (S:zG H gv gl) (hB:B=yX gl ⟨6,r,m,sub,cc,l,k⟩):zl (.pointer (some ⟨b,0,none⟩)) (w7 B) gv vs H:=by
 have nl:=S.Ye
 have hl:=fK S 3
 by_cases s0:0<=sub
 ·by_cases s1:sub < (gl.length:Int)
  ·by_cases k0:0<=k
   ·obtain ⟨z,hz⟩:∃ z,gl[sub.toNat]? = some z:=⟨_,MF (by omega)⟩
    obtain ⟨bb,oo,c,t,ha,hbb,hgt,hat⟩:=t9 S hz
    rw [Int.toNat_of_nonneg s0] at ha
    have hd:gl.getD sub.toNat 0=z:=by rw [Nk,hz];rfl
    by_cases k1:k<=z
    ·simp -implicitDefEqProofs only [EE,nth,↓BK,Int.reduceEq,zL,xz,zu,zh,yz,y7,kE,kF,kG,kH,qI,qJ,qK,qL,qM,zJ,zH,zw,zl,g,nl,hl,s0,s1,k0,ha,hgt,hat,k1]
     rw [hB];simp only [yX,hd];simp [w7,s0,s1,k0,k1]
    ·simp -implicitDefEqProofs only [EE,nth,↓BK,Int.reduceEq,zL,xz,zu,zh,yz,y7,kE,kF,kG,kH,qI,qJ,qK,qL,qM,zJ,zH,zw,zl,g,nl,hl,s0,s1,k0,ha,hgt,hat,k1]
     rw [hB];simp only [yX,hd];simp [w7,s0,s1,k0,k1]
   ·simp -implicitDefEqProofs only [EE,nth,↓BK,Int.reduceEq,zL,xz,zu,zh,yz,y7,kE,kF,kG,kH,qI,qJ,qK,qL,qM,zJ,zH,zw,zl,g,nl,hl,s0,s1,k0]
    rw [hB];simp [w7,yX,s0,s1,k0]
  ·simp -implicitDefEqProofs only [EE,nth,↓BK,Int.reduceEq,zL,zu,zh,yz,kE,kF,kG,kH,qI,qJ,qK,qL,qM,zJ,zH,zw,zl,g,nl,hl,s0,s1]
   rw [hB];simp [w7,yX,s0,s1]
 ·simp -implicitDefEqProofs only [EE,nth,↓BK,Int.reduceEq,zL,zu,zh,yz,kE,kF,kG,kH,qI,qJ,qK,qL,qM,zJ,zH,zw,zl,g,s0]
  rw [hB];simp [w7,yX,s0]
theorem LB {r m sub cc l k:Int} (g:H.get b=some (.cells (qt.row ⟨7,r,m,sub,cc,l,k⟩) 51)) (S:zG H gv gl) (hB:B=yX gl ⟨7,r,m,sub,cc,l,k⟩):zl (.pointer (some ⟨b,0,none⟩)) (w7 B) gv vs H:=by
 simp -implicitDefEqProofs only [EE,nth,↓BK,Int.reduceEq,zL,zu,zh,yz,Ub,zQ,zJ,zH,zw,zl,g]
 refine zj (by kernel_rfl) rfl (Fg sub _) ?_
 simp -implicitDefEqProofs only [EE]
 rw [hB];simp [w7,yX]
theorem LC {r m sub cc l k:Int} (g:H.get b=some (.cells (qt.row ⟨8,r,m,sub,cc,l,k⟩) 51)) (S:zG H gv gl) (hB:B=yX gl ⟨8,r,m,sub,cc,l,k⟩):zl (.pointer (some ⟨b,0,none⟩)) (w7 B) gv vs H:=by
 simp -implicitDefEqProofs only [EE,nth,↓BK,Int.reduceEq,zL,zu,zh,yz,zT,zQ,zJ,zH,zw,zl,g]
 refine zj (by kernel_rfl) rfl (Fg sub _) ?_
 cases ha:tX sub with
 | false=>
   simp -implicitDefEqProofs only [EE,Xi,Xj]
   rw [hB];simp [w7,yX,ha]
 | true=>
   simp -implicitDefEqProofs only [EE,zL,xz,y7,Xi,Xj,g]
   refine zj (by kernel_rfl) rfl (XD k _) ?_
   simp -implicitDefEqProofs only [EE]
   rw [hB];simp [w7,yX,ha]
theorem LD {r m sub cc l k:Int} (g:H.get b=some (.cells (qt.row ⟨9,r,m,sub,cc,l,k⟩) 51)) (S:zG H gv gl) (hB:B=yX gl ⟨9,r,m,sub,cc,l,k⟩):zl (.pointer (some ⟨b,0,none⟩)) (w7 B) gv vs H:=by
 by_cases s1:sub=1
 ·subst s1
  simp -implicitDefEqProofs only [EE,nth,↓BK,Int.reduceEq,zL,zu,zh,yz,Zv,ZC,zV,zT,zQ,zJ,zH,zw,zl,g]
  rw [hB];simp [w7,yX]
 by_cases s2:sub=2
 ·subst s2
  simp -implicitDefEqProofs only [EE,nth,↓BK,Int.reduceEq,zL,zu,zh,yz,Zv,ZC,zV,zT,zQ,zJ,zH,zw,zl,g,s1]
  rw [hB];simp [w7,yX,s1]
 simp -implicitDefEqProofs only [EE,nth,↓BK,Int.reduceEq,zL,zu,zh,yz,Zv,ZC,zV,zT,zQ,zJ,zH,zw,zl,g,s1,s2]
 rw [hB];simp [w7,yX,s1,s2]
theorem H0 {r m sub cc l k:Int} (g:H.get b=some (.cells (qt.row ⟨10,r,m,sub,cc,l,k⟩) 51)) (S:zG H gv gl) (hB:B=yX gl ⟨10,r,m,sub,cc,l,k⟩):zl (.pointer (some ⟨b,0,none⟩)) (w7 B) gv vs H:=by
 by_cases s3:sub=3
 ·subst s3
  simp -implicitDefEqProofs only [EE,nth,↓BK,Int.reduceEq,zL,zu,zh,yz,Zw,ZB,z9,zV,zT,zQ,zJ,zH,zw,zl,g]
  rw [hB];simp [w7,yX]
 by_cases s4:sub=4
 ·subst s4
  simp -implicitDefEqProofs only [EE,nth,↓BK,Int.reduceEq,zL,zu,zh,yz,Zw,ZB,z9,zV,zT,zQ,zJ,zH,zw,zl,g,s3]
  rw [hB];simp [w7,yX,s3]
 simp -implicitDefEqProofs only [EE,nth,↓BK,Int.reduceEq,zL,zu,zh,yz,Zw,ZB,z9,zV,zT,zQ,zJ,zH,zw,zl,g,s3,s4]
 rw [hB];simp [w7,yX,s3,s4]
theorem H3 {r m sub cc l k:Int} (g:H.get b=some (.cells (qt.row ⟨12,r,m,sub,cc,l,k⟩) 51)) (S:zG H gv gl) (hB:B=yX gl ⟨12,r,m,sub,cc,l,k⟩):zl (.pointer (some ⟨b,0,none⟩)) (w7 B) gv vs H:=by
 by_cases s19:sub=19
 ·subst s19
  simp -implicitDefEqProofs only [EE,nth,↓BK,Int.reduceEq,zL,zu,zh,yz,Zx,ZA,xF,yu,z9,zV,zT,zQ,zJ,zH,zw,zl,g]
  rw [hB];simp [w7,yX]
 by_cases s20:sub=20
 ·subst s20
  simp -implicitDefEqProofs only [EE,nth,↓BK,Int.reduceEq,zL,zu,zh,yz,Zx,ZA,xF,yu,z9,zV,zT,zQ,zJ,zH,zw,zl,g,s19]
  rw [hB];simp [w7,yX,s19]
 simp -implicitDefEqProofs only [EE,nth,↓BK,Int.reduceEq,zL,zu,zh,yz,Zx,ZA,xF,yu,z9,zV,zT,zQ,zJ,zH,zw,zl,g,s19,s20]
 rw [hB];simp [w7,yX,s19,s20]
theorem H2 {r m sub cc l k:Int} (g:H.get b=some (.cells (qt.row ⟨11,r,m,sub,cc,l,k⟩) 51)) (S:zG H gv gl) (hB:B=yX gl ⟨11,r,m,sub,cc,l,k⟩):zl (.pointer (some ⟨b,0,none⟩)) (w7 B) gv vs H:=by
 by_cases s19:sub=19
 ·subst s19
  by_cases k0:0<=k
  ·by_cases k1:k<=63
   ·simp -implicitDefEqProofs only [EE,nth,↓BK,Int.reduceEq,zL,xz,zu,zh,yz,y7,ub,uc,ue,uf,ug,uj,yu,z9,zV,zT,zQ,zJ,zH,zw,zl,g,k0,k1]
    rw [hB];simp [w7,yX,k0,k1]
   ·simp -implicitDefEqProofs only [EE,nth,↓BK,Int.reduceEq,zL,xz,zu,zh,yz,y7,ub,uc,ue,uf,ug,uj,yu,z9,zV,zT,zQ,zJ,zH,zw,zl,g,k0,k1]
    rw [hB];simp [w7,yX,k0,k1]
  ·simp -implicitDefEqProofs only [EE,nth,↓BK,Int.reduceEq,zL,xz,zu,zh,yz,y7,ub,uc,ue,uf,ug,uj,yu,z9,zV,zT,zQ,zJ,zH,zw,zl,g,k0]
   rw [hB];simp [w7,yX,k0]
 by_cases s20:sub=20
 ·subst s20
  by_cases k0:0<=k
  ·by_cases k1:k<=63
   ·simp -implicitDefEqProofs only [EE,nth,↓BK,Int.reduceEq,zL,xz,zu,zh,yz,y7,ub,uc,ue,uf,ug,uj,yu,z9,zV,zT,zQ,zJ,zH,zw,zl,g,s19,k0,k1]
    rw [hB];simp [w7,yX,s19,k0,k1]
   ·simp -implicitDefEqProofs only [EE,nth,↓BK,Int.reduceEq,zL,xz,zu,zh,yz,y7,ub,uc,ue,uf,ug,uj,yu,z9,zV,zT,zQ,zJ,zH,zw,zl,g,s19,k0,k1]
    rw [hB];simp [w7,yX,s19,k0,k1]
  ·simp -implicitDefEqProofs only [EE,nth,↓BK,Int.reduceEq,zL,xz,zu,zh,yz,y7,ub,uc,ue,uf,ug,uj,yu,z9,zV,zT,zQ,zJ,zH,zw,zl,g,s19,k0]
   rw [hB];simp [w7,yX,s19,k0]
 simp -implicitDefEqProofs only [EE,nth,↓BK,Int.reduceEq,zL,zu,zh,yz,ub,uc,ue,uf,ug,uj,yu,z9,zV,zT,zQ,zJ,zH,zw,zl,g,s19,s20]
 rw [hB];simp [w7,yX,s19,s20]
theorem H5 {r m sub cc l k:Int} (g:H.get b=some (.cells (qt.row ⟨17,r,m,sub,cc,l,k⟩) 51)) (S:zG H gv gl) (hB:B=yX gl ⟨17,r,m,sub,cc,l,k⟩):zl (.pointer (some ⟨b,0,none⟩)) (w7 B) gv vs H:=by
 simp -implicitDefEqProofs only [EE,nth,↓BK,Int.reduceEq,zL,zu,zh,KX,Xk,wk,xF,yu,z9,zV,zT,zQ,zJ,zH,zw,zl,g]
 refine zj (by kernel_rfl) rfl (J5 cc _) ?_
 simp -implicitDefEqProofs only [EE]
 rw [hB];simp [w7,yX]
theorem H6 {r m sub cc l k:Int} (g:H.get b=some (.cells (qt.row ⟨19,r,m,sub,cc,l,k⟩) 51)) (S:zG H gv gl) (hB:B=yX gl ⟨19,r,m,sub,cc,l,k⟩):zl (.pointer (some ⟨b,0,none⟩)) (w7 B) gv vs H:=by
 simp -implicitDefEqProofs only [EE,nth,↓BK,Int.reduceEq,zL,zu,zh,KX,Xk,wk,xF,yu,z9,zV,zT,zQ,zJ,zH,zw,zl,g]
 refine zj (by kernel_rfl) rfl (J5 cc _) ?_
 simp -implicitDefEqProofs only [EE]
 rw [hB];simp [w7,yX]
theorem H7 {r m sub cc l k:Int} (g:H.get b=some (.cells (qt.row ⟨20,r,m,sub,cc,l,k⟩) 51)) (S:zG H gv gl) (hB:B=yX gl ⟨20,r,m,sub,cc,l,k⟩):zl (.pointer (some ⟨b,0,none⟩)) (w7 B) gv vs H:=by
 by_cases k0:0<=l
 ·by_cases k1:l<=10000000
  ·simp -implicitDefEqProofs only [EE,nth,↓BK,Int.reduceEq,zL,zu,zh,jW,Zy,Zz,wT,wk,xF,yu,z9,zV,zT,zQ,zJ,zH,zw,zl,g,k0,k1]
   rw [hB];simp [w7,yX,k0,k1]
  ·simp -implicitDefEqProofs only [EE,nth,↓BK,Int.reduceEq,zL,zu,zh,jW,Zy,Zz,wT,wk,xF,yu,z9,zV,zT,zQ,zJ,zH,zw,zl,g,k0,k1]
   rw [hB];simp [w7,yX,k0,k1]
 ·simp -implicitDefEqProofs only [EE,nth,↓BK,Int.reduceEq,zL,zu,zh,jW,Zy,Zz,wT,wk,xF,yu,z9,zV,zT,zQ,zJ,zH,zw,zl,g,k0]
  rw [hB];simp [w7,yX,k0]
theorem H8 {r m sub cc l k:Int} (g:H.get b=some (.cells (qt.row ⟨23,r,m,sub,cc,l,k⟩) 51)) (S:zG H gv gl) (hB:B=yX gl ⟨23,r,m,sub,cc,l,k⟩):zl (.pointer (some ⟨b,0,none⟩)) (w7 B) gv vs H:=by
 by_cases k0:0<=k
 ·by_cases k1:k<=65536
  ·simp -implicitDefEqProofs only [EE,nth,↓BK,Int.reduceEq,zL,xz,zu,zh,y7,u3,u4,uh,wT,wk,xF,yu,z9,zV,zT,zQ,zJ,zH,zw,zl,g,k0,k1]
   rw [hB];simp [w7,yX,k0,k1]
  ·simp -implicitDefEqProofs only [EE,nth,↓BK,Int.reduceEq,zL,xz,zu,zh,y7,u3,u4,uh,wT,wk,xF,yu,z9,zV,zT,zQ,zJ,zH,zw,zl,g,k0,k1]
   rw [hB];simp [w7,yX,k0,k1]
 ·simp -implicitDefEqProofs only [EE,nth,↓BK,Int.reduceEq,zL,xz,zu,zh,y7,u3,u4,uh,wT,wk,xF,yu,z9,zV,zT,zQ,zJ,zH,zw,zl,g,k0]
  rw [hB];simp [w7,yX,k0]
theorem H9 {r m sub cc l k:Int} (g:H.get b=some (.cells (qt.row ⟨24,r,m,sub,cc,l,k⟩) 51)) (S:zG H gv gl) (hB:B=yX gl ⟨24,r,m,sub,cc,l,k⟩):zl (.pointer (some ⟨b,0,none⟩)) (w7 B) gv vs H:=by
 by_cases k0:0<=k
 ·by_cases k1:k<=65536
  ·simp -implicitDefEqProofs only [EE,nth,↓BK,Int.reduceEq,zL,xz,zu,zh,y7,u3,u4,uh,wT,wk,xF,yu,z9,zV,zT,zQ,zJ,zH,zw,zl,g,k0,k1]
   rw [hB];simp [w7,yX,k0,k1]
  ·simp -implicitDefEqProofs only [EE,nth,↓BK,Int.reduceEq,zL,xz,zu,zh,y7,u3,u4,uh,wT,wk,xF,yu,z9,zV,zT,zQ,zJ,zH,zw,zl,g,k0,k1]
   rw [hB];simp [w7,yX,k0,k1]
 ·simp -implicitDefEqProofs only [EE,nth,↓BK,Int.reduceEq,zL,xz,zu,zh,y7,u3,u4,uh,wT,wk,xF,yu,z9,zV,zT,zQ,zJ,zH,zw,zl,g,k0]
  rw [hB];simp [w7,yX,k0]
theorem GA (g:H.get b=some (.cells x.row 51)) (S:zG H gv gl) (hB:B=yX gl x):zl (.pointer (some ⟨b,0,none⟩)) (w7 B) gv vs H:=by
 obtain ⟨op,r,m,sub,cc,l,k⟩:=x
 by_cases o3:op=3
 ·subst o3;exact Lx g S hB
 by_cases o4:op=4
 ·subst o4;exact Ly g S hB
 by_cases o5:op=5
 ·subst o5;exact Lz g S hB
 by_cases o16:op=16
 ·subst o16;exact H4 g S hB
 by_cases o6:op=6
 ·subst o6;exact LA g S hB
 by_cases o7:op=7
 ·subst o7;exact LB g S hB
 by_cases o8:op=8
 ·subst o8;exact LC g S hB
 by_cases o9:op=9
 ·subst o9;exact LD g S hB
 by_cases o10:op=10
 ·subst o10;exact H0 g S hB
 by_cases o11:op=11
 ·subst o11;exact H2 g S hB
 by_cases o12:op=12
 ·subst o12;exact H3 g S hB
 by_cases o17:op=17
 ·subst o17;exact H5 g S hB
 by_cases o19:op=19
 ·subst o19;exact H6 g S hB
 by_cases o20:op=20
 ·subst o20;exact H7 g S hB
 by_cases o23:op=23
 ·subst o23;exact H8 g S hB
 by_cases o24:op=24
 ·subst o24;exact H9 g S hB
 simp -implicitDefEqProofs only [EE,nth,↓BK,zL,zu,zh,uh,wT,wk,xF,yu,z9,zV,zT,zQ,zJ,zH,zw,zl,g,o3,o4,o5,o16,o6,o7,o8,o9,o10,o11,o12,o17,o19,o20,o23,o24]
 rw [hB];simp [w7,yX,o3,o4,o5,o16,o6,o7,o8,o9,o10,o11,o12,o17,o19,o20,o23,o24]
theorem AA (S:zG H gv gl):wS Tryd.prog 38 [x.val,gv] H (.bool (X0 gl x)):=by
 apply xG
 replace S:=S.lock
 generalize H.lock=L at S
 apply gj
 unfold U8
 have nl:=S.Ye
 simp -implicitDefEqProofs only [EE,↓nw,Value.cells,zL,zu,zh]
 have S2:=S.old (Old.push L (.cells x.row 51))
 have g:(L.push (.cells x.row 51)).get L.next=some (.cells x.row 51):=z7
 generalize L.push (.cells x.row 51)=G at g S2 ⊢
 obtain ⟨op,r,m,sub,cc,l,k⟩:=x
 simp only at g ⊢
 by_cases o1:op < 1
 ·have e:X0 gl ⟨op,r,m,sub,cc,l,k⟩=false:=by have q:¬ 1<=op:=by omega
                                             unfold X0;simp [q]
  simp -implicitDefEqProofs only [EE,jd,ZD,ZE,o1]
  rw [e];rfl
 by_cases o2:op > 26
 ·have e:X0 gl ⟨op,r,m,sub,cc,l,k⟩=false:=by have q:¬ op<=26:=by omega
                                             unfold X0;simp [q]
  simp -implicitDefEqProofs only [EE,zL,zu,zh,jd,ZD,ZE,g,o1,o2]
  rw [e];rfl
 simp -implicitDefEqProofs only [EE,MA,Nat.reduceAdd,yb,zL,zu,vx,zh,ZD,ZE,g,o1,o2]
 refine zj (by kernel_rfl) rfl (pD ⟨op,r,m,sub,cc,l,k⟩ G) ?_
 have e:X0 gl ⟨op,r,m,sub,cc,l,k⟩=(Z7 ⟨op,r,m,sub,cc,l,k⟩ && yX gl ⟨op,r,m,sub,cc,l,k⟩):=by
  have q1:1<=op:=by omega
  have q2:op<=26:=by omega
  unfold X0;simp only [q1,q2,decide_true,Ob]
 cases hr:Z7 ⟨op,r,m,sub,cc,l,k⟩ with
 | false=>
   simp -implicitDefEqProofs only [EE,jd]
   rw [e,hr];rfl
 | true=>
   simp -implicitDefEqProofs only [EE,jd]
   exact GA (x:=⟨op,r,m,sub,cc,l,k⟩) g S2 (by rw [e,hr];rfl)
end
open Go.Rtl (inc Bg Cg YW UR JZ get_some)
section
variable {h:za} {sv:Value} {rows:List (List Value)}
theorem QH (S:zX h sv 7 rows) {i:Nat} {r:List Value} (hr:rows[i]? = some r) (hn:r.length=7):∃ b o c t,zA Tryd.prog 47 sv (.int .i64 i)=some (.pointer (some ⟨b,o,none⟩))/\b < h.next/\h.get b=some (.cells c t)/\o + 7<=c.length/\(c.drop o).take 7=r /\ ∀ k,k < 7->c[o + k]? = r[k]?:=by
 obtain ⟨b,o,c,t,⟨off,cp,rfl,rfl⟩,hi,hb,hg,hl,ht,hk⟩:=S.spot hr hn
 have h1:0<=(i:Int)/\(i:Int) < (rows.length:Int):=by omega
 exact ⟨b,off + i * 7,c,t,by simp only [Fz,h1,M4,and_self,MA],hb,hg,hl,ht,hk⟩
theorem me (S:zX h sv 2 rows) {i:Nat} {r:List Value} (hr:rows[i]? = some r) (hn:r.length=2):∃ b o c t,zA Tryd.prog 23 sv (.int .i64 i)=some (.pointer (some ⟨b,o,none⟩))/\b < h.next/\h.get b=some (.cells c t)/\o + 2<=c.length/\(c.drop o).take 2=r /\ ∀ k,k < 2->c[o + k]? = r[k]?:=by
 obtain ⟨b,o,c,t,⟨off,cp,rfl,rfl⟩,hi,hb,hg,hl,ht,hk⟩:=S.spot hr hn
 have h1:0<=(i:Int)/\(i:Int) < (rows.length:Int):=by omega
 exact ⟨b,off + i * 2,c,t,by simp only [Fx,h1,M4,and_self,MA],hb,hg,hl,ht,hk⟩
theorem UM {l:List qt} {n:Nat} (S:zX h sv n (l.map qt.row)) (r:TypeId) (h':za):zo Tryd.prog .len [47] r [sv] h'=some (.int .i64 l.length,h'):=by
 rcases S with ⟨rfl,e⟩ | ⟨b,off,cp,rfl,_⟩
 ·have:l = []:=by simpa using e
  subst this
  simp only [pK,M0]
 ·simp only [pK,Nf]
theorem QS {l:List Fn} {n:Nat} (S:zX h sv n (l.map Fn.row)) (r:TypeId) (h':za):zo Tryd.prog .len [23] r [sv] h'=some (.int .i64 l.length,h'):=by
 rcases S with ⟨rfl,e⟩ | ⟨b,off,cp,rfl,_⟩
 ·have:l = []:=by simpa using e
  subst this
  simp only [pI,M0]
 ·simp only [pI,Nf]
end
theorem Lh (h:za):(wx h).1 = .map (some h.next):=rfl
theorem Mq (h:za):(wx h).2=h.push (Wq []):=rfl
theorem Mi:zU Tryd.prog (underlying 3)=some (.int .i64):=by kernel_rfl
theorem Mj:zU Tryd.prog (underlying 90)=some (.map 3 4):=by kernel_rfl
theorem Mt:xP Tryd.prog 4=some (.bool false):=by kernel_rfl
def J1 (m:List (Int × Value)):Prop := ∀ k v,UI m k=some v->v = .bool true
theorem Ik {h:za} {b:Nat} {m:List (Int × Value)} (hb:J1 m) (g:h.get b=some (Wq m)) (k:Int):kg Tryd.prog 90 (.map (some b)) (.int .i64 k) false h=some (.bool (hasB m k)):=by
 rw [m5 Mj Mi Mt g k false]
 unfold hasB
 cases e:UI m k with
 | none=>rfl
 | some v=>rw [hb k v e];rfl
theorem Ak {m:List (Int × Value)} (hb:J1 m) (k:Int):J1 (Y6 m k (.bool true)):=by
 intro k' v e
 rw [aL] at e
 by_cases q:k=k'
 ·rw [MK q] at e;exact (Option.some.inj e).symm
 ·rw [MJ q] at e;exact hb k' v e
theorem UX (gl:List Int):∀ (xs ys:List qt) (m:List (Int × Value)) (s:Bool),ke gl (xs ++ ys) m s=(ke gl xs m s).bind fun r=>ke gl ys r.1 r.2
 | [],ys,m,s=>rfl
 | x :: xs,ys,m,s=>by
   show (if X0 gl x=false then none else if x.op=20 then (if hasB m x.l=true then none else ke gl (xs ++ ys) _ s) else ke gl (xs ++ ys) m true)=Option.bind (if X0 gl x=false then none else if x.op=20 then (if hasB m x.l=true then none else ke gl xs _ s) else ke gl xs m true) _
   rw [UX gl xs,UX gl xs]
   repeat' split
   all_goals rfl
theorem XP (gl:List Int):∀ (xs:List qt) (m:List (Int × Value)) (s:Bool) {r:List (Int × Value) × Bool},J1 m->ke gl xs m s=some r->J1 r.1
 | [],m,s,r,hb,e=>by cases e;exact hb
 | x :: xs,m,s,r,hb,e=>by
   have e:(if X0 gl x=false then none else if x.op=20 then (if hasB m x.l=true then none else ke gl xs _ s) else ke gl xs m true)=some r:=e
   split at e
   ·cases e
   split at e
   ·split at e
    ·cases e
    ·exact XP gl xs _ _ (Ak hb _) e
   ·exact XP gl xs _ _ hb e
section
variable {h:za} {p:Pg} {f:Fn}
theorem pC (P:qG h p) (hf:f ∈ p.funcs):wS Tryd.prog 26 [p.val,f.val] h (.bool (pj p f)):=by
 apply xG
 replace P:=P.lock
 generalize h.lock=L at P
 apply Zq;intro wf
 apply cL
 unfold VA
 have F:=P.fns f hf
 have s0:Sat (.of L) L []:=Sat.self wf.2
 have RP:Rd (.of L) (qG · p):=Rd.of (yQ.uM L) P fun h' o=>P.old o
 have gvn:=P.globals.Ye
 have fvn:=P.funcs.Ye
 have cvn:=F.code.Ye
 have cvc:=F.code.nO
 have gvc:=P.globals.nO
 have fvc:=P.funcs.nO
 have cl:=fun H=>UM F.code 3 H
 have fl:=fun H=>QS P.funcs 3 H
 simp -implicitDefEqProofs only [EE,Value.cells]
 refine wy s0 fun b2 h2 s2 => ?_
 simp -implicitDefEqProofs only []
 refine wy s2 fun b3 h4 s4 => ?_
 have g3:=s4.get
 simp -implicitDefEqProofs only [EE,zL,XS,ko,cvn,g3,cl]
 by_cases c1:(f.code.length:Int) > 100000
 ·simp -implicitDefEqProofs only [EE,c1]
  have:pj p f=false:=by unfold pj;simp [show (100000:Int) < f.code.length from c1]
  rw [this];rfl
 have c1':¬ (100000:Int) < f.code.length:=c1
 have hB:pj p f=C1 p.funcs.length f.code (ke p.globals f.code [] false):=by unfold pj;rw [decide_eq_false c1'];rfl
 simp -implicitDefEqProofs only [EE,zL,XS,ko,Vc,c1]
 have sm:=s4.push (Wq [])
 have gm3:=(sm.p 1).get
 simp -implicitDefEqProofs only [EE,nth,↓yW,Mq,gm3,cvn,cl]
 generalize hmb:h4.next=mb at sm gm3 ⊢
 generalize h4.push (Wq [])=h5 at sm gm3 ⊢
 have bad:∀ n m s,ke p.globals (f.code.take n) m s=none->ke p.globals f.code m s=none:=fun n m s e=>by
  rw [<- List.take_append_drop n f.code,UX,e];rfl
 refine kD (fun n vs h' => ∃ (i:Nat) (m:List (Int × Value)) (more:Bool) (v0:Value),i<=f.code.length/\n=f.code.length - i/\vs = [v0,.bool more,.int .i64 (i:Nat)]/\ke p.globals (f.code.take i) [] false=some (m,more)/\Sat (.of L) h' [pt mb (Wq m),pt b3 (.cells f.row 49),pt b2 (.cells p.row 25)])
  f.code.length ⟨0,[],false,.bool false,NG _,rfl,rfl,rfl,sm⟩ ?_
 rintro n vs h' ⟨i,m,more,v0,hi,rfl,rfl,hscan,s⟩
 unfold Um
 by_cases hc:(i:Int) < (f.code.length:Int)
 ·obtain ⟨x,hx,hxm⟩:=get_some (l:=f.code) (k:=i) (by omega)
  have F2:=(RP.at s).fns f hf
  obtain ⟨bi,oi,ci,ti,ha,hbi,hgi,hle,htk,_⟩:=QH F2.code (i:=i) (r:=x.row) (by rw [M5,hx];rfl) rfl
  have et:f.code.take (i + 1)=f.code.take i ++ [x]:=by rw [List.take_add_one,hx];rfl
  have hsn:=UX p.globals (f.code.take i) [x] [] false
  rw [<- et,hscan] at hsn
  have hsn:ke p.globals (f.code.take (i + 1)) [] false=if X0 p.globals x=false then none else if x.op=20 then (if hasB m x.l=true then none else some (Y6 m x.l (.bool true),more)) else some (m,true):=hsn
  have no:ke p.globals (f.code.take (i + 1)) [] false=none->pj p f=false:=fun e=>by rw [hB,bad _ _ _ e];rfl
  simp -implicitDefEqProofs only [EE,nth,Value.cells,↓yW,MA,yb,vx,sh,Ul,hc,ha,hgi,hle,htk]
  refine wy s fun b8 h6 s6 => ?_
  simp -implicitDefEqProofs only [EE,Nat.reduceAdd,sc]
  refine xx s6 (by simp) rfl fun h7 s7 => ?_
  have g8:=s7.get
  have g2:=(s7.p 3).get
  simp -implicitDefEqProofs only [EE,ze,MA,Nat.reduceAdd,yb,zL,ZP,vx,qQ,g8,g2]
  refine zj (by kernel_rfl) (by simp only [yV,gvn,M7];rfl) (AA (x:=x) (RP.at s7).globals) ?_
  cases hI:X0 p.globals x with
  | false=>
    simp -implicitDefEqProofs only [EE]
    rw [no (by rw [hsn,MK hI])];rfl
  | true=>
    rw [MJ (by rw [hI];simp)] at hsn
    simp -implicitDefEqProofs only [EE,ze,Nat.reduceAdd,zL,zu,zh,Uk,g8]
    by_cases o20:x.op=20
    ·rw [MK o20] at hsn
     have lk:=Ik (XP p.globals _ _ _ (fun k v e=>by cases e) hscan) (s7.p 1).get x.l
     simp -implicitDefEqProofs only [EE,ze,Nat.reduceAdd,zL,zu,jW,Uj,g8,o20,Lh,hmb,lk]
     cases hl:hasB m x.l with
     | true=>
       simp -implicitDefEqProofs only [EE]
       rw [no (by rw [hsn,MK hl])];rfl
     | false=>
       rw [MJ (by rw [hl];simp)] at hsn
       have up:=nH (v := .bool true) Mj Mi (s7.p 1).get (s7.p 1).wr x.l
       simp -implicitDefEqProofs only [EE,nth,ze,Nat.reduceAdd,zL,zu,jW,Ui,Xp,g8,Lh,hmb,up,inc (show i < 4611686018427387904 by have:=F.oW;omega)]
       exact ⟨f.code.length - (i + 1),by omega,i + 1,_,_,_,by omega,rfl,rfl,hsn,((s7.p 1).set _).k [0,2,3]⟩
    ·rw [MJ o20] at hsn
     simp -implicitDefEqProofs only [EE,nth,Xp,o20,inc (show i < 4611686018427387904 by have:=F.oW;omega)]
     exact ⟨f.code.length - (i + 1),by omega,i + 1,_,_,_,by omega,rfl,rfl,hsn,s7.k [1,2,3]⟩
 ·have hi9:i=f.code.length:=by omega
  subst hi9
  rw [List.take_length] at hscan
  rw [hscan] at hB
  have hB:pj p f=(f.code.all (XZ p.funcs.length m) && more):=hB
  have g3:=(s.p 1).get
  simp -implicitDefEqProofs only [EE,nth,hc]
  simp -implicitDefEqProofs only [EE,nth,↓yW,zL,XS,ko,Vb,g3,cvn,cl]
  have hbm:=XP p.globals _ _ _ (fun k v e=>by cases e) hscan
  refine kD (fun n vs h' => ∃ (i:Nat) (v0:Value),i<=f.code.length/\n=f.code.length - i/\vs = [v0,.int .i64 (i:Nat)]/\(∀ k,k < i->Cg f.code (XZ p.funcs.length m) k=true)/\Sat (.of L) h' [pt mb (Wq m),pt b3 (.cells f.row 49),pt b2 (.cells p.row 25)])
   f.code.length ⟨0,v0,NG _,rfl,rfl,fun k hk=>by omega,s⟩ ?_
  rintro n vs h' ⟨i,v0,hi,rfl,rfl,hall,s⟩
  unfold Va
  by_cases hc:(i:Int) < (f.code.length:Int)
  ·obtain ⟨x,hx,hxm⟩:=get_some (l:=f.code) (k:=i) (by omega)
   have F2:=(RP.at s).fns f hf
   obtain ⟨bi,oi,ci,ti,ha,hbi,hgi,hle,htk,_⟩:=QH F2.code (i:=i) (r:=x.row) (by rw [M5,hx];rfl) rfl
   have no:XZ p.funcs.length m x=false->pj p f=false:=fun e=>by rw [hB,UR hx e];rfl
   have go:XZ p.funcs.length m x=true->∀ k,k < i + 1->Cg f.code (XZ p.funcs.length m) k=true:=fun e k hk=>by
    by_cases q:k=i
    ·subst q;rw [JZ hx];exact e
    ·exact hall k (by omega)
   have hin:=inc (show i < 4611686018427387904 by have:=F.oW;omega)
   simp -implicitDefEqProofs only [EE,nth,Value.cells,↓yW,MA,yb,vx,sh,W9,hc,ha,hgi,hle,htk]
   refine wy s fun b10 h6 s6 => ?_
   simp -implicitDefEqProofs only [EE,Nat.reduceAdd,sc]
   refine xx s6 (by simp) rfl fun h7 s7 => ?_
   have g10:=s7.get
   have g2:=(s7.p 3).get
   have lk:=Ik hbm (s7.p 1).get x.l
   have fin:(∀ v,XZ p.funcs.length m x=true->∃ m1,m1 < f.code.length - i /\ ∃ (i':Nat) (v0:Value),i'<=f.code.length/\m1=f.code.length - i' /\ [v,.int .i64 ((i + 1:Nat):Int)] = [v0,Value.int .i64 (i':Nat)]/\(∀ k,k < i'->Cg f.code (XZ p.funcs.length m) k=true)/\Sat (.of L) h7 [pt mb (Wq m),pt b3 (.cells f.row 49),pt b2 (.cells p.row 25)]) :=
    fun v e=>⟨f.code.length - (i + 1),by omega,i + 1,v,by omega,rfl,rfl,go e,s7.k [1,2,3]⟩
   by_cases o18:x.op=18
   ·have hh:XZ p.funcs.length m x=hasB m x.l:=by unfold XZ;simp [o18]
    simp -implicitDefEqProofs only [EE,↓yW,ze,Nat.reduceAdd,zL,zu,zh,jW,uy,uz,uA,uB,uC,g10,o18,Lh,hmb,lk]
    cases hl:hasB m x.l with
    | false=>simp -implicitDefEqProofs only [EE];rw [no (by rw [hh,hl])];rfl
    | true=>
      simp -implicitDefEqProofs only [EE,nth,ze,Nat.reduceAdd,Int.reduceEq,zL,zu,zh,u5,u6,u7,uu,uv,uw,ux,q8,g10,o18,hin]
      exact fin _ (by rw [hh,hl])
   by_cases o19:x.op=19
   ·have hh:XZ p.funcs.length m x=hasB m x.l:=by unfold XZ;simp [o19]
    simp -implicitDefEqProofs only [EE,↓yW,ze,Nat.reduceAdd,Int.reduceEq,zL,zu,zh,jW,uy,uz,uA,uB,uC,g10,o19,Lh,hmb,lk]
    cases hl:hasB m x.l with
    | false=>simp -implicitDefEqProofs only [EE];rw [no (by rw [hh,hl])];rfl
    | true=>
      simp -implicitDefEqProofs only [EE,nth,ze,Nat.reduceAdd,Int.reduceEq,zL,zu,zh,u5,u6,u7,uu,uv,uw,ux,q8,g10,o19,hin]
      exact fin _ (by rw [hh,hl])
   by_cases o21:x.op=21
   ·by_cases s0:x.sub < 0
    ·simp -implicitDefEqProofs only [EE,↓yW,ze,Nat.reduceAdd,Int.reduceEq,zL,zu,zh,yz,u5,u6,u7,uu,uv,uw,ux,uy,uz,uA,uB,uC,g10,o21,s0]
     rw [no (by unfold XZ;simp [o21,s0])];rfl
    by_cases s1:x.sub ≥ (p.funcs.length:Int)
    ·simp -implicitDefEqProofs only [EE,↓yW,ze,Nat.reduceAdd,Int.reduceEq,zL,qU,zu,w9,zh,yz,u5,u6,u7,uu,uv,uw,ux,uy,uz,uA,uB,uC,g10,g2,fvn,fl,o21,s0,s1]
     rw [no (by have s1:(p.funcs.length:Int)<=x.sub:=s1;unfold XZ;simp [o21,s1])];rfl
    simp -implicitDefEqProofs only [EE,nth,↓yW,ze,Nat.reduceAdd,Int.reduceEq,zL,qU,zu,w9,zh,yz,u5,u6,u7,uu,uv,uw,ux,uy,uz,uA,uB,uC,q8,g10,g2,fvn,fl,o21,s0,s1,hin]
    exact fin _ (by have s1:¬ (p.funcs.length:Int)<=x.sub:=s1;unfold XZ;simp [o21,s0,s1])
   simp -implicitDefEqProofs only [EE,nth,↓yW,ze,Nat.reduceAdd,zL,zu,zh,u5,u6,u7,uu,uv,uw,ux,uy,uz,uA,uB,uC,q8,g10,o18,o19,o21,hin]
   exact fin _ (by unfold XZ;simp [o18,o19,o21])
  ·have hi9:i=f.code.length:=by omega
   subst hi9
   simp -implicitDefEqProofs only [EE,nth,hc]
   rw [hB,YW hall]
   simp [w7]
end
def Hl (n:Int):Bool := !decide (n < 0) && !decide (65536 < n)
section
variable {p:Pg}
theorem Lv {lo:yQ} {H:za} {b1:Nat} {vs:List Value} (RP:Rd lo (qG · p)) (s:Sat lo H [pt b1 (.cells p.row 25)]) {B:Bool} (hB:B=p.funcs.all (pj p)):U9 (.pointer (some ⟨b1,0,none⟩)) (w7 B) vs H:=by
 have P:=RP.at s
 have g1:=s.get
 have fvn:=P.funcs.Ye
 have fl:=fun h'=>QS P.funcs 3 h'
 unfold U9
 simp -implicitDefEqProofs only [EE,↓yW,zL,qU,w9,g1,fvn,fl]
 refine kD (fun n vs h' => ∃ (i:Nat) (v0:Value),i<=p.funcs.length/\n=p.funcs.length - i/\vs = [v0,.int .i64 (i:Nat)]/\(∀ k,k < i->Cg p.funcs (pj p) k=true)/\Sat lo h' [pt b1 (.cells p.row 25)])
  p.funcs.length ⟨0,nth vs 0,NG _,rfl,rfl,fun k hk=>by omega,s⟩ ?_
 rintro n vs h' ⟨i,v0,hi,rfl,rfl,hall,s⟩
 unfold la
 by_cases hc:(i:Int) < (p.funcs.length:Int)
 ·obtain ⟨f,hf,hfm⟩:=get_some (l:=p.funcs) (k:=i) (by omega)
  obtain ⟨bi,oi,ci,ti,ha,hbi,hgi,hle,htk,_⟩:=me (RP.at s).funcs (i:=i) (r:=f.row) (by rw [M5,hf];rfl) rfl
  have cvn:=(P.fns f hfm).code.Ye
  have cvc:=(P.fns f hfm).code.nO
  have gvn:=P.globals.Ye
  simp -implicitDefEqProofs only [EE,nth,Value.cells,↓yW,MA,yb,B4,Fj,i7,hc,ha,hgi,hle,htk]
  refine wy s fun b6 h6 s6 => ?_
  simp -implicitDefEqProofs only [EE,Nat.reduceAdd,Fh]
  refine xx s6 (by simp) (by simp [cvc];rfl) fun h7 s7 => ?_
  have g6:=s7.get
  have g1:=(s7.p 1).get
  simp -implicitDefEqProofs only [EE,ze,MA,Nat.reduceAdd,yb,Vd,B4,g6,g1]
  refine zj (by kernel_rfl) (by simp only [yV];rfl) (pC (RP.at s7) hfm) ?_
  cases hF:pj p f with
  | false=>
    simp -implicitDefEqProofs only [EE,Jh]
    rw [hB,UR hf hF];rfl
  | true=>
    simp -implicitDefEqProofs only [EE,nth,Jh,i9,inc (show i < 4611686018427387904 by have:=P.Gw;omega)]
    exact ⟨p.funcs.length - (i + 1),by omega,i + 1,_,by omega,rfl,rfl,fun k hk=>(by
     by_cases q:k=i
     ·subst q;rw [JZ hf];exact hF
     ·exact hall k (by omega)),s7.k [1]⟩
 ·have hi9:i=p.funcs.length:=by omega
  subst hi9
  simp -implicitDefEqProofs only [EE,nth,hc]
  rw [hB,YW hall];rfl
theorem Lw {lo:yQ} {H:za} {b1:Nat} {vs:List Value} (RP:Rd lo (qG · p)) (s:Sat lo H [pt b1 (.cells p.row 25)]) {B:Bool} (hB:B=(p.globals.all Hl && p.funcs.all (pj p))):Qa (.pointer (some ⟨b1,0,none⟩)) (w7 B) vs H:=by
 have P:=RP.at s
 have g1:=s.get
 have gvn:=P.globals.Ye
 have gl:=fun h'=>fK P.globals 3 h'
 unfold Qa
 simp -implicitDefEqProofs only [EE,↓yW,zL,ZP,qQ,g1,gvn,gl]
 refine kD (fun n vs h' => ∃ (i:Nat) (v0:Value),i<=p.globals.length/\n=p.globals.length - i/\vs = [v0,.int .i64 (i:Nat)]/\(∀ k,k < i->Cg p.globals Hl k=true)/\Sat lo h' [pt b1 (.cells p.row 25)])
  p.globals.length ⟨0,nth vs 0,NG _,rfl,rfl,fun k hk=>by omega,s⟩ ?_
 rintro n vs h' ⟨i,v0,hi,rfl,rfl,hall,s⟩
 unfold i5
 by_cases hc:(i:Int) < (p.globals.length:Int)
 ·obtain ⟨z,hz,hzm⟩:=get_some (l:=p.globals) (k:=i) (by omega)
  obtain ⟨bi,oi,ci,ti,ha,hbi,hgi,hat⟩:=t9 (RP.at s).globals hz
  have no:Hl z=false->B=false:=fun e=>by rw [hB,UR hz e];rfl
  by_cases z0:z < 0
  ·simp -implicitDefEqProofs only [EE,nth,↓yW,zL,zu,Uc,Ud,Ue,hc,ha,hgi,hat,z0]
   rw [no (by unfold Hl;simp [z0])];rfl
  by_cases z1:z > 65536
  ·simp -implicitDefEqProofs only [EE,nth,↓yW,zL,zu,Uc,Ud,Ue,hc,ha,hgi,hat,z0,z1]
   rw [no (by have z1:65536 < z:=z1;unfold Hl;simp [z1])];rfl
  simp -implicitDefEqProofs only [EE,nth,↓yW,zL,zu,Uc,Ud,Ue,i3,hc,ha,hgi,hat,z0,z1,inc (show i < 4611686018427387904 by have:=P.Gz;omega)]
  exact ⟨p.globals.length - (i + 1),by omega,i + 1,_,by omega,rfl,rfl,fun k hk=>(by
   by_cases q:k=i
   ·subst q;rw [JZ hz];have z1:¬ 65536 < z:=z1;unfold Hl;simp [z0,z1]
   ·exact hall k (by omega)),s⟩
 ·have hi9:i=p.globals.length:=by omega
  subst hi9
  simp -implicitDefEqProofs only [EE,nth,hc]
  exact Lv RP s (by rw [hB,YW hall];rfl)
theorem VH {h:za} (P:qG h p):wS Tryd.prog 16 [p.val] h (.bool (Ku p)):=by
 apply xG
 replace P:=P.lock
 generalize h.lock=L at P
 apply Zq;intro wf
 apply tz
 unfold nW
 have s0:Sat (.of L) L []:=Sat.self wf.2
 have RP:Rd (.of L) (qG · p):=Rd.of (yQ.uM L) P fun h' o=>P.old o
 have gvn:=P.globals.Ye
 have fvn:=P.funcs.Ye
 have fl:=fun h'=>QS P.funcs 3 h'
 have gl:=fun h'=>fK P.globals 3 h'
 simp -implicitDefEqProofs only [EE,Value.cells]
 refine wy s0 fun b1 h2 s2 => ?_
 have g1:=s2.get
 have no:Yb p=false->Ku p=false:=fun e=>by unfold Ku;rw [e];rfl
 by_cases c1:p.main < 0
 ·simp -implicitDefEqProofs only [EE,zL,zu,Yo,kI,kJ,kK,kL,kM,kN,kO,kP,kQ,kR,kS,g1,c1]
  rw [no (by unfold Yb;simp [c1])];rfl
 by_cases c2:p.main ≥ (p.funcs.length:Int)
 ·simp -implicitDefEqProofs only [EE,zL,qU,zu,w9,Yo,kI,kJ,kK,kL,kM,kN,kO,kP,kQ,kR,kS,g1,fvn,fl,c1,c2]
  rw [no (by have c2:(p.funcs.length:Int)<=p.main:=c2;unfold Yb;simp [c2])];rfl
 by_cases c3:(p.funcs.length:Int) > 100
 ·simp -implicitDefEqProofs only [EE,zL,qU,zu,w9,Yo,kI,kJ,kK,kL,kM,kN,kO,kP,kQ,kR,kS,g1,fvn,fl,c1,c2,c3]
  rw [no (by have c3:(100:Int) < p.funcs.length:=c3;unfold Yb;simp [c3])];rfl
 by_cases c4:(p.globals.length:Int) > 200
 ·simp -implicitDefEqProofs only [EE,zL,ZP,qU,zu,qQ,w9,Yo,kI,kJ,kK,kL,kM,kN,kO,kP,kQ,kR,kS,g1,fvn,fl,gvn,gl,c1,c2,c3,c4]
  rw [no (by have c4:(200:Int) < p.globals.length:=c4;unfold Yb;simp [c4])];rfl
 by_cases c5:p.params < 0
 ·simp -implicitDefEqProofs only [EE,zL,ZP,qU,zu,qQ,w9,Yo,ZG,kI,kJ,kK,kL,kM,kN,kO,kP,kQ,kR,kS,g1,fvn,fl,gvn,gl,c1,c2,c3,c4,c5]
  rw [no (by unfold Yb;simp [c5])];rfl
 by_cases c6:p.params > 6
 ·simp -implicitDefEqProofs only [EE,zL,ZP,qU,zu,qQ,w9,Yo,ZG,kI,kJ,kK,kL,kM,kN,kO,kP,kQ,kR,kS,g1,fvn,fl,gvn,gl,c1,c2,c3,c4,c5,c6]
  rw [no (by have c6:6 < p.params:=c6;unfold Yb;simp [c6])];rfl
 simp -implicitDefEqProofs only [EE,zL,ZP,qU,zu,qQ,w9,Yo,ZG,kI,kJ,kK,kL,kM,kN,kO,kP,kQ,kR,kS,g1,fvn,fl,gvn,gl,c1,c2,c3,c4,c5,c6]
 refine Lw RP s2 ?_
 have hs:Yb p=true:=by
  have c2:¬ (p.funcs.length:Int)<=p.main:=c2
  have c3:¬ (100:Int) < p.funcs.length:=c3
  have c4:¬ (200:Int) < p.globals.length:=c4
  have c6:¬ 6 < p.params:=c6
  unfold Yb;simp [c1,c2,c3,c4,c5,c6]
 unfold Ku
 rw [hs];rfl
end
open Go.Rtl (wM xC)
def FI (l:List V):List Value:=((List.range 16).map fun i=>(l.getD i v0).jv).flatten
def xY (p:Pg) (lv:Value) (mb wb:Nat) (S:St) (ev lk gl cl:Value) (lim:Int):List Value :=
 [p.gv,p.fv,.int .i64 p.main,.int .i64 p.params,lv,yZ mb,yZ wb,.int .i64 S.kind,.int .i64 S.exit,ev,lk,.int .i64 S.steps,gl,cl] ++ (FI S.jx ++ [.bool S.flags,.int .i64 S.a.k,.int .i64 S.a.n,.int .i64 S.a.b,.int .i64 S.b.k,.int .i64 S.b.n,.int .i64 S.b.b,.int .i64 S.stack,.int .i64 lim,.int .i64 S.iB])
section
variable {p:Pg} {lv:Value} {mb wb:Nat} {S:St} {ev lk gl cl:Value} {lim:Int}
theorem wC:(xY p lv mb wb S ev lk gl cl lim).length=72:=by kernel_rfl
theorem UU {n:Nat}:(n<=(xY p lv mb wb S ev lk gl cl lim).length)=(n<=72):=by rw [wC]
theorem LW:(xY p lv mb wb S ev lk gl cl lim)[1]? = some p.fv:=by kernel_rfl
theorem LX:(xY p lv mb wb S ev lk gl cl lim)[2]? = some (.int .i64 p.main):=by kernel_rfl
theorem GX:(xY p lv mb wb S ev lk gl cl lim)[4]? = some lv:=by kernel_rfl
theorem AV:(xY p lv mb wb S ev lk gl cl lim)[5]? = some (yZ mb):=by kernel_rfl
theorem LY:(xY p lv mb wb S ev lk gl cl lim)[6]? = some (yZ wb):=by kernel_rfl
theorem IN:(xY p lv mb wb S ev lk gl cl lim)[7]? = some (.int .i64 S.kind):=by kernel_rfl
theorem LZ:(xY p lv mb wb S ev lk gl cl lim)[9]? = some ev:=by kernel_rfl
theorem IM:(xY p lv mb wb S ev lk gl cl lim)[10]? = some lk:=by kernel_rfl
theorem FC:(xY p lv mb wb S ev lk gl cl lim)[11]? = some (.int .i64 S.steps):=by kernel_rfl
theorem FD:(xY p lv mb wb S ev lk gl cl lim)[12]? = some gl:=by kernel_rfl
theorem sK:(xY p lv mb wb S ev lk gl cl lim)[13]? = some cl:=by kernel_rfl
theorem sL:(xY p lv mb wb S ev lk gl cl lim)[62]? = some (.bool S.flags):=by kernel_rfl
theorem np:(xY p lv mb wb S ev lk gl cl lim)[69]? = some (.int .i64 S.stack):=by kernel_rfl
theorem FG:(xY p lv mb wb S ev lk gl cl lim)[70]? = some (.int .i64 lim):=by kernel_rfl
theorem FH:(xY p lv mb wb S ev lk gl cl lim)[71]? = some (.int .i64 S.iB):=by kernel_rfl
theorem FE:((xY p lv mb wb S ev lk gl cl lim).drop 63).take 3 = [.int .i64 S.a.k,.int .i64 S.a.n,.int .i64 S.a.b]:=by kernel_rfl
theorem FF:((xY p lv mb wb S ev lk gl cl lim).drop 66).take 3 = [.int .i64 S.b.k,.int .i64 S.b.n,.int .i64 S.b.b]:=by kernel_rfl
theorem GY:((xY p lv mb wb S ev lk gl cl lim).drop 7).take 5 = [.int .i64 S.kind,.int .i64 S.exit,ev,lk,.int .i64 S.steps]:=by kernel_rfl
variable (k_:Int) (v_:Value) (q_:V) (f_:Bool)
theorem G4:ze (xY p lv mb wb S ev lk gl cl lim) 7 [.int .i64 k_]=xY p lv mb wb { S with kind:=k_ } ev lk gl cl lim:=by kernel_rfl
theorem L7:ze (xY p lv mb wb S ev lk gl cl lim) 8 [.int .i64 k_]=xY p lv mb wb { S with exit:=k_ } ev lk gl cl lim:=by kernel_rfl
theorem IS:ze (xY p lv mb wb S ev lk gl cl lim) 11 [.int .i64 k_]=xY p lv mb wb { S with steps:=k_ } ev lk gl cl lim:=by kernel_rfl
theorem sP:ze (xY p lv mb wb S ev lk gl cl lim) 62 [.bool f_]=xY p lv mb wb { S with flags:=f_ } ev lk gl cl lim:=by kernel_rfl
theorem Dn:ze (xY p lv mb wb S ev lk gl cl lim) 69 [.int .i64 k_]=xY p lv mb wb { S with stack:=k_ } ev lk gl cl lim:=by kernel_rfl
theorem IW:ze (xY p lv mb wb S ev lk gl cl lim) 71 [.int .i64 k_]=xY p lv mb wb { S with iB:=k_ } ev lk gl cl lim:=by kernel_rfl
theorem IU:ze (xY p lv mb wb S ev lk gl cl lim) 63 q_.jv=xY p lv mb wb { S with a:=q_ } ev lk gl cl lim:=by kernel_rfl
theorem IV:ze (xY p lv mb wb S ev lk gl cl lim) 66 q_.jv=xY p lv mb wb { S with b:=q_ } ev lk gl cl lim:=by kernel_rfl
theorem L6:ze (xY p lv mb wb S ev lk gl cl lim) 4 [v_]=xY p v_ mb wb S ev lk gl cl lim:=by kernel_rfl
theorem L8:ze (xY p lv mb wb S ev lk gl cl lim) 9 [v_]=xY p lv mb wb S v_ lk gl cl lim:=by kernel_rfl
theorem IQ:ze (xY p lv mb wb S ev lk gl cl lim) 10 [v_]=xY p lv mb wb S ev v_ gl cl lim:=by kernel_rfl
theorem IT:ze (xY p lv mb wb S ev lk gl cl lim) 12 [v_]=xY p lv mb wb S ev lk v_ cl lim:=by kernel_rfl
theorem FK:ze (xY p lv mb wb S ev lk gl cl lim) 13 [v_]=xY p lv mb wb S ev lk gl v_ lim:=by kernel_rfl
theorem AW (l:List V):∀ r,r ∈ (List.range 16).map (fun i=>(l.getD i v0).jv)->r.length=3:=qE (f:=fun i=>(l.getD i v0).jv) (fun _=>rfl) _
theorem aM {l:List V} {r:Int} (h0:0<=r):pA l r=l.getD r.toNat v0:=by unfold pA;rw [MJ (by omega)]
theorem qe {r:Int} (h0:0<=r) (h1:r < 16):((xY p lv mb wb S ev lk gl cl lim).drop (14 + r.toNat * 3)).take 3 = [.int .i64 (zv S r).k,.int .i64 (zv S r).n,.int .i64 (zv S r).b]:=by
 have hr:((List.range 16).map fun i=>(S.jx.getD i v0).jv)[r.toNat]? = some ((S.jx.getD r.toNat v0).jv):=by
  rw [M5,List.getElem?_range (by omega)];rfl
 obtain ⟨a,b⟩:=wM (AW S.jx) hr
 have hl:(FI S.jx).length=48:=by kernel_rfl
 have e:∀ (X Y:List Value),X.length=14->(X ++ Y).drop (14 + r.toNat * 3)=Y.drop (r.toNat * 3):=fun X Y hX=>by
  rw [List.drop_append,hX,List.drop_of_length_le (by omega),List.nil_append,Nat.add_sub_cancel_left]
 unfold xY
 rw [e _ _ rfl,List.drop_append_of_le_length (by omega),List.take_append_of_le_length (by rw [On,hl];omega)]
 show (((List.range 16).map fun i=>(S.jx.getD i v0).jv).flatten.drop (r.toNat * 3)).take 3=_
 rw [b]
 unfold zv
 rw [aM h0];rfl
theorem qf {r:Int} (h1:r < 16):(14 + r.toNat * 3 + 3<=(xY p lv mb wb S ev lk gl cl lim).length)=True:=by
 rw [wC];simp;omega
theorem cA {r:Int} (h0:0<=r) (h1:r < 16) (hl:S.jx.length=16) (v:V):ze (xY p lv mb wb S ev lk gl cl lim) (14 + r.toNat * 3) v.jv=xY p lv mb wb (wF S r v) ev lk gl cl lim:=by
 obtain ⟨n,rfl⟩:∃ n:Nat,r=n:=⟨r.toNat,by omega⟩
 have hn:n < 16:=by omega
 obtain ⟨mem,used,kind,exit,e,l,steps,g,calls,jx,flags,a,b,stack,iB⟩:=S
 match jx,hl with
 | [x0,x1,x2,x3,x4,x5,x6,x7,x8,x9,x10,x11,x12,x13,x14,x15],_=>
   match n,hn with
   | 0,_=>rfl
   | 1,_=>rfl
   | 2,_=>rfl
   | 3,_=>rfl
   | 4,_=>rfl
   | 5,_=>rfl
   | 6,_=>rfl
   | 7,_=>rfl
   | 8,_=>rfl
   | 9,_=>rfl
   | 10,_=>rfl
   | 11,_=>rfl
   | 12,_=>rfl
   | 13,_=>rfl
   | 14,_=>rfl
   | 15,_=>rfl
end
end Go.As
