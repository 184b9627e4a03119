/- A part of the proof. -/
import Derived.Test.YtcecapkbglnejaaGreatDoorTM
import Derived.Test.YtcecapkbglnejaaGreatDoorTI
set_option linter.unusedVariables false
set_option linter.unusedSimpArgs false
set_option maxRecDepth 100000
namespace Go.Rm
open Go.Ai Go.Proofs Go.Mem
open Go.Rtl (zE zW Old wH vY Q6)
def Za (ty:TypeId) (n:Nat) (sv:Value) (rows:List (List Value)):HP:=fun m=>
 (sv = .slice none 0 0/\rows = [] /\ ∀ x,m x=none) \/ ∃ b c cs,sv = .slice (some ⟨b,0,none⟩) rows.length c/\c ≠ 0/\rows.length * n<=cs.length/\cs.take (rows.length * n)=rows.flatten/\pt b (.cells cs ty) m
section
variable {lo:yV} {h:za} {L:List HP} {ty:TypeId} {n:Nat} {sv:Value} {rows:List (List Value)}
theorem Xn (s:Sat lo h (Za ty n sv rows :: L)):(sv = .slice none 0 0/\rows = []/\Sat lo h L) \/ ∃ b c cs,sv = .slice (some ⟨b,0,none⟩) rows.length c/\c ≠ 0/\rows.length * n<=cs.length/\cs.take (rows.length * n)=rows.flatten/\Sat lo h (pt b (.cells cs ty) :: L):=by
 obtain ⟨a,ha,d,w,s⟩:=s
 rcases ha with ⟨e1,e2,e3⟩ | ⟨b,c,cs,e1,e2,e3,e4,e5⟩
 ·exact .inl ⟨e1,e2,by rw [yV.pW e3] at s;exact s⟩
 ·exact .inr ⟨b,c,cs,e1,e2,e3,e4,a,e5,d,w,s⟩
theorem Ke (ty:TypeId) (n:Nat) (s:Sat lo h L):Sat lo h (Za ty n (.slice none 0 0) [] :: L):=⟨fun _=>none,.inl ⟨rfl,rfl,fun _=>rfl⟩,fun _ _ e=>(by cases e),fun _ _ e=>(by cases e),by rw [yV.pW fun _=>rfl];exact s⟩
theorem Co {b c:Nat} {cs:List Value} (hc:c ≠ 0) (hl:rows.length * n<=cs.length) (ht:cs.take (rows.length * n)=rows.flatten) (s:Sat lo h (pt b (.cells cs ty) :: L)):Sat lo h (Za ty n (.slice (some ⟨b,0,none⟩) rows.length c) rows :: L):=by
 obtain ⟨a,ha,d,w,s⟩:=s
 exact ⟨a,.inr ⟨b,c,cs,rfl,hc,hl,ht,ha⟩,d,w,s⟩
theorem Qx {b c:Nat} {cs:List Value} (hc:c ≠ 0) (hn:∀ r,r ∈ rows->r.length=n) (he:cs=rows.flatten) (s:Sat lo h (pt b (.cells cs ty) :: L)):Sat lo h (Za ty n (.slice (some ⟨b,0,none⟩) rows.length c) rows :: L) :=
 Co hc (by rw [he,wH hn];exact Sp _) (by rw [he,List.take_of_length_le (by rw [wH hn];exact Sp _)]) s
theorem dk (s:Sat lo h (Za ty n sv rows :: L)):∃ a c,sv = .slice a rows.length c:=by
 rcases Xn s with ⟨rfl,rfl,_⟩ | ⟨b,c,cs,rfl,_⟩ <;> exact ⟨_,_,rfl⟩
theorem qT (s:Sat lo h (Za ty n sv rows :: L)):ym sv=false:=by obtain ⟨_,_,rfl⟩:=dk s;rfl
theorem ZM (s:Sat lo h (Za ty n sv rows :: L)):wZ sv=true:=by obtain ⟨_,_,rfl⟩:=dk s;rfl
theorem j1 (s:Sat lo h (Za ty n sv rows :: L)) (hn:∀ r,r ∈ rows->r.length=n):zW h sv n rows:=by
 rcases Xn s with ⟨e1,e2,_⟩ | ⟨b,c,cs,rfl,hc,hl,hf,s⟩
 ·exact .inl ⟨e1,e2⟩
 ·refine .inr ⟨b,0,c,rfl,fun _=>⟨cs,ty,s.lt,s.get,fun i r hr => ?_⟩⟩
  have hi:i < rows.length:=by
   rcases SC i rows.length with a | a
   ·exact a
   ·rw [Sr a] at hr;cases hr
  obtain ⟨f1,f2⟩:=vY hn hr
  have hm:=TM n (Nat.succ_le_of_lt hi)
  rw [Nat.succ_mul] at hm
  refine ⟨by omega,?_⟩
  rw [<- f2,<- hf,Sy,List.drop_take,List.take_take]
  congr 1
  omega
theorem aN (s:Sat lo h (Za ty n sv rows :: L)) (hn:∀ r,r ∈ rows->r.length=n) (row:List Value) (hr:row.length=n) (h0n:0 < n) (bz:Nat) (hb:(rows.length + 1) * bz<=2 ^ 47) :
  ∃ b' c' h',Uh h ty n bz 1 row sv=some (.slice (some ⟨b',0,none⟩) (rows.length + 1) c',h')/\Sat lo h' (Za ty n (.slice (some ⟨b',0,none⟩) (rows.length + 1) c') (rows ++ [row]) :: L):=by
 have hn2:∀ r,r ∈ rows ++ [row]->r.length=n:=fun r q=>by
  rcases Ta.1 q with q | q
  ·exact hn r q
  ·simp only [TI] at q;subst q;exact hr
 have hlen:(rows ++ [row]).length=rows.length + 1:=by simp
 rcases Xn s with ⟨rfl,rfl,s'⟩ | ⟨b,c,cs,rfl,hc,hl,hf,s⟩
 ·refine ⟨h.next,1,h.push (.cells row ty),?_,Qx (cs:=row) (rows:=[] ++ [row]) (c:=1) (by decide) hn2 (by simp) (s'.push (.cells row ty))⟩
  simp only [Uh]
  rw [Sl (by decide),Sn (by simp at hb;omega)];rfl
 ·have hroom:roomFor c (rows.length + 1) bz=true:=by
   unfold roomFor
   cases Nat.beq c 2 <;> simp only [SA,SK,aaf] <;> omega
  refine ⟨h.next,ji c (rows.length + 1),(h.set b none).push (.cells (((cs.drop 0).take (rows.length * n)) ++ row) ty),?_,?_⟩
  ·simp only [Uh,s.get]
   rw [Sl (by decide),Sn ⟨hc,trivial,s.wr,by omega,hroom,by simp⟩]
  ·have q:=Qx (rows:=rows ++ [row]) (c:=ji c (rows.length + 1)) (BG _ _) hn2 (by rw [Tx,hf,List.flatten_append];simp) ((s.forget none).push (.cells (((cs.drop 0).take (rows.length * n)) ++ row) ty))
   rw [hlen] at q
   exact q
theorem H5 {cs:List Value} {i:Nat} {row:List Value} (hi:i < rows.length) (hn:∀ r,r ∈ rows->r.length=n) (hr:row.length=n) (hl:rows.length * n<=cs.length) (ht:cs.take (rows.length * n)=rows.flatten) :
  (zf cs (i * n) row).take (rows.length * n)=(rows.set i row).flatten:=by
 have hn2:∀ r,r ∈ rows.set i row->r.length=n:=fun r q=>by
  rcases List.mem_or_eq_of_mem_set q with q | rfl
  ·exact hn r q
  ·exact hr
 have hm:i * n + n<=cs.length:=by
  have:=TM n (Nat.succ_le_of_lt hi)
  rw [Nat.succ_mul] at this;omega
 apply TK
 intro j
 by_cases hj:j < rows.length * n
 ·rw [Td hj,XN _ _ _ _ (by rw [hr];exact hm),hr]
  have e0:=congrArg (fun l=>l[j]?) ht
  simp only [Td hj] at e0
  have h0:0 < n:=by rcases aac n with q | q; · subst q;simp at hj
                    ·exact q
  have hq:j / n < rows.length:=Nat.div_lt_of_lt_mul (by rw [Nat.mul_comm];exact hj)
  have hj3:j / n * n + j % n=j:=by rw [Nat.mul_comm];exact Nat.div_add_mod j n
  have hmn:j % n < n:=Nat.mod_lt _ h0
  have get:∀ (m:List (List Value)),(∀ r,r ∈ m->r.length=n)->∀ x,m[j / n]? = some x->m.flatten[j]? = x[j % n]?:=fun m hm x hx=>by
   have:=Q6 hm hx hmn
   rwa [hj3] at this
  rw [e0,get _ hn _ (Sk hq)]
  by_cases e:i=j / n
  ·rw [get _ hn2 row (by rw [e,Tj hq]),Sn (by rw [e];omega),e]
   congr 1;omega
  ·rw [get _ hn2 _ (by rw [TA e,Sk hq]),Sl]
   rintro ⟨a,b⟩
   apply e
   exact (Nat.div_eq_of_lt_le a (by rw [Nat.succ_mul];exact b)).symm
 ·rw [Sr (by simp;omega),Sr (by rw [wH hn2];simp;omega)]
theorem Lt (s:Sat lo h (Za ty n sv rows :: L)) (hn:∀ r,r ∈ rows->r.length=n) {i:Nat} (hi:i < rows.length) :
  ∃ b c cs,sv = .slice (some ⟨b,0,none⟩) rows.length c/\h.get b=some (.cells cs ty)/\h.ro<=b/\i * n + n<=cs.length /\ ∀ row,row.length=n->Sat lo (h.set b (some (.cells (zf cs (i * n) row) ty))) (Za ty n sv (rows.set i row) :: L):=by
 rcases Xn s with ⟨rfl,rfl,_⟩ | ⟨b,c,cs,rfl,hc,hl,hf,s⟩
 ·cases hi
 ·refine ⟨b,c,cs,rfl,s.get,s.wr,?_,fun row hr => ?_⟩
  ·have:=TM n (Nat.succ_le_of_lt hi)
   rw [Nat.succ_mul] at this;omega
  ·have q:=Co (n:=n) (rows:=rows.set i row) (c:=c) hc (by rw [TD,jk];exact hl) (by rw [TD];exact H5 hi hn hr hl hf) (s.set (.cells (zf cs (i * n) row) ty))
   rwa [TD] at q
theorem k8 {α:Type} {f:α->List Value} {n:Nat} (hf:∀ a,(f a).length=n) (l:List α):∀ r,r ∈ l.map f->r.length=n:=by
 intro r hr
 simp only [TH] at hr
 obtain ⟨y,_,rfl⟩:=hr
 exact hf y
end
def jF (e:Int × Int):List Value:=[.int .i64 e.1,.int .i64 e.2]
def qw (e:Int × Int × Int):List Value:=[.int .i64 e.1,.int .i64 e.2.1,.int .i64 e.2.2]
def xK (b:Nat):Value := .pointer (some ⟨b,0,none⟩)
def qX (z:Int):List Value:=[.int .i64 z]
section
variable {g h:za} {F G:Nat->Prop}
theorem IQ {q:Nat} {gs:List (Option Nat)} {B:MB} (x:Xs g q gs B F) (e:∀ b o,F b->g.get b=some o->h.get b=some o/\G b):Xs h q gs B G :=
 ⟨x.hl,(e q _ x.fq x.hq).2,(e q _ x.fq x.hq).1,fun j p hj=>by
  obtain ⟨a,cs,c1,c2,c3⟩:=x.hg j p hj
  exact ⟨(e p _ a c1).2,cs,(e p _ a c1).1,c2,c3⟩,x.hn,x.hd,x.ht⟩
theorem MO {p:Nat} {B:MB} (x:eR g p B F) (e:∀ b o,F b->g.get b=some o->h.get b=some o/\G b):eR h p B G:=by
 obtain ⟨pg,a,b,c⟩:=x
 refine ⟨pg,(e p _ b a).1,(e p _ b a).2,?_⟩
 cases c with
 | empty a b=>exact .empty a b
 | full q c gs a x=>exact .full q c gs a (IQ x e)
def Ni (m:Nat) (M:MM) (h:za) (F:Nat->Prop):Prop:=n5 h m M F
theorem Ux (m:Nat) (M:MM):Mv (Ni m M):=by
 rintro g h F G ⟨bs,ps,fs,x⟩ e ok
 refine ⟨bs,ps,fun i b=>fs i b /\ ∃ o,g.get b=some o,(e m _ x.fm x.hm).1,(e m _ x.fm x.hm).2,x.len,?_,fun i q=>x.nm i q.1,fun i p B hp hB => ?_,fun i j b p q=>x.Fm i j b p.1 q.1,fun i b q => ?_,ok⟩
 ·rcases x.hb with a | ⟨bb,c,a1,a2,a3,a4,a5⟩
  ·exact .inl a
  ·exact .inr ⟨bb,c,a1,a2,(e bb _ a3 a4).2,(e bb _ a3 a4).1,fun i q=>a5 i q.1⟩
 ·exact MO (x.Xf i p B hp hB) fun b o hb hg=>⟨(e b o (x.sub i b hb) hg).1,hb,o,hg⟩
 ·obtain ⟨q1,o,q2⟩:=q
  exact (e b o (x.sub i b q1) q2).2
end
def YQ (m:Nat) (M:MM):HP:=own (Ni m M)
section
variable {lo:yV} {h:za} {L:List HP} {m:Nat} {M:MM}
theorem aF {F:Nat->Prop} {M':MM} {h1:za} (c:∀ h1 F' X',Mv X'->h.next<=h1.next->h1.ro=h.ro->(∀ b,¬ F b->b < h.next->h1.get b=h.get b)->X' h1 F'->(∀ b,F' b->F b\/h.next<=b)->(∀ b,F' b->h1.ro<=b/\b < h1.next)->Sat lo h1 (own X' :: L)) (x:re h m M' F h1):Sat lo h1 (YQ m M' :: L):=by
 obtain ⟨F',mh,XK,sub⟩:=x
 obtain ⟨bs,ps,fs,mo⟩:=mh
 exact c h1 F' (Ni m M') (Ux m M') XK.next XK.ro (fun b hb hlt=>XK.get b hb hlt) ⟨bs,ps,fs,mo⟩ sub mo.ok
theorem CX (s:Sat lo h (YQ m M :: L)) (n:Int):DC Tryz.prog 62 [xK m,.int .i64 n] h (fun v h1=>v = .tuple #[.int .i64 (w8 M n).2.1,.int .i64 (w8 M n).2.2]/\Sat lo h1 (YQ m (w8 M n).1 :: L)):=by
 obtain ⟨F,⟨bs,ps,fs,x⟩,_,c⟩:=Sat.Qs (Ux m M) s
 exact (Gt x n).mono fun v h1 ⟨e,mu⟩=>⟨e,aF c mu⟩
theorem M1 (s:Sat lo h (YQ m M :: L)) (hL:M.length<=100000) {n:Int} (hn:n < 9223372036854775808):DC Tryz.prog 114 [xK m,.int .i64 n] h (fun v h1=>v = .bool (VO M n).isSome/\Sat lo h1 (YQ m ((VO M n).getD M) :: L)):=by
 obtain ⟨F,⟨bs,ps,fs,x⟩,_,c⟩:=Sat.Qs (Ux m M) s
 refine (IP x hL hn).mono fun v h1 r => ?_
 unfold Cy at r
 cases e:VO M n with
 | none=>rw [e] at r;obtain ⟨r1,rfl⟩:=r;exact ⟨r1,s⟩
 | some M'=>rw [e] at r;exact ⟨r.1,aF c r.2⟩
theorem NR (s:Sat lo h (YQ m M :: L)) (hs:small M) {n:Int} (hn:n < 9223372036854775808):DC Tryz.prog 63 [xK m,.int .i64 n] h (fun v h1=>v = .bool (VU M n).isSome/\Sat lo h1 (YQ m ((VU M n).getD M) :: L)):=by
 obtain ⟨F,⟨bs,ps,fs,x⟩,_,c⟩:=Sat.Qs (Ux m M) s
 refine (LH x hs hn).mono fun v h1 r => ?_
 unfold CU at r
 cases e:VU M n with
 | none=>rw [e] at r;obtain ⟨r1,rfl⟩:=r;exact ⟨r1,s⟩
 | some M'=>rw [e] at r;exact ⟨r.1,aF c r.2⟩
theorem Nd (s:Sat lo h (YQ m M :: L)) (hs:small M) {c:Int} {p:V} (hc:YU c) (hp:p.ok):DC Tryz.prog 108 [xK m,.int .i64 c,vv p] h.lock (fun v h1=>v=u2 (Qo M c p)/\Sat (.of h.lock) h1 []):=by
 obtain ⟨F,⟨bs,ps,fs,x⟩,_,_⟩:=Sat.Qs (Ux m M) s
 have s0:Sat (.of h.lock) h.lock []:=Sat.self (Sp _)
 have y:i9 h.lock m bs ps fs M F:=⟨x.hm,x.fm,x.len,x.hb,x.nm,fun i p B hp hB=>(x.Xf i p B hp hB).zH fun b hb=>rfl,x.Fm,x.sub,fun b hb=>⟨trivial,(x.ok b hb).2⟩⟩
 refine (I9 y hs hc hp).mono fun v h1 ⟨e,r⟩=>⟨?_,s0.Rl e.next e.ro fun b hb=>e.get b (fun q=>q) hb⟩
 unfold lK at r
 cases e:Qo M c p with
 | none=>rw [e] at r;exact r
 | some a=>rw [e] at r;exact r
theorem Lx (s:Sat lo h (YQ m M :: L)) (hs:small M) {c:Int} {p v:V} (hc:YU c) (hp:p.ok):DC Tryz.prog 107 [xK m,.int .i64 c,vv p,vv v] h (fun r h1=>r = .bool (WR M c p v).isSome/\Sat lo h1 (YQ m ((WR M c p v).getD M) :: L)):=by
 obtain ⟨F,⟨bs,ps,fs,x⟩,_,cl⟩:=Sat.Qs (Ux m M) s
 refine (H3 x hs hc hp).mono fun r h1 q => ?_
 unfold KL at q
 cases e:WR M c p v with
 | none=>rw [e] at q;exact ⟨q.1,aF cl q.2⟩
 | some M'=>rw [e] at q;exact ⟨q.1,aF cl q.2⟩
theorem Nk (s:Sat lo h L):DC Tryz.prog 60 [] h (fun v h1 => ∃ m,v=xK m/\Sat lo h1 (YQ m [] :: L)):=by
 refine (Nn h).mono fun v h1 ⟨e,x,XK⟩=>⟨h.next,e,?_⟩
 obtain ⟨bs,ps,fs,mo⟩:=x
 exact s.Li (Ux h.next []) XK.next XK.ro (fun b hb=>XK.get b (fun q=>q) hb) ⟨bs,ps,fs,mo⟩ fun b hb=>⟨by rw [hb];exact Sp _,(mo.ok b hb).2⟩
end
def Rd (lo:yV) (X:za->Prop):Prop := ∀ h,dS lo h->X h
theorem Rd.mono {lo lo':yV} {X:za->Prop} (x:Rd lo X) (l:lo.Le lo'):Rd lo' X:=fun h b=>x h (b.mono l)
theorem Rd.at {lo:yV} {X:za->Prop} {h:za} {L:List HP} (x:Rd lo X) (s:Sat lo h L):X h:=x h s.base
theorem Rd.of {lo:yV} {X:za->Prop} {h0:za} (hl:lo.Has h0) (x:X h0) (m:∀ h,Old h0 h->X h):Rd lo X:=fun h b=>m h (by obtain ⟨a,c,d⟩:=hl.old b;exact ⟨a,c,d⟩)
section
variable {lo:yV} {h:za} {L:List HP} {ty:TypeId} {n:Nat} {sv:Value} {rows:List (List Value)}
theorem HV (s:Sat lo h (Za ty n sv rows :: L)) (hn:∀ r,r ∈ rows->r.length=n):∃ lo1,lo.Le lo1/\Rd lo1 (zW · sv n rows)/\Sat lo1 h L /\ ∀ h' L',Sat lo1 h' L'->Sat lo h' (Za ty n sv rows :: L'):=by
 obtain ⟨a,ha,d,w,s⟩:=s
 refine ⟨lo.un a,yV.KE d,fun h1 b1 => ?_,s,fun h' L' s'=>⟨a,ha,d,w,s'⟩⟩
 have:Sat lo h1 [Za ty n sv rows]:=⟨a,ha,d,w,b1⟩
 exact j1 this hn
end
section
variable {lo:yV} {h:za} {L:List HP} {ty:TypeId} {n:Nat} {sv:Value} {rows:List (List Value)}
theorem HU (s:Sat lo h (Za ty n sv rows :: L)) (hn:∀ r,r ∈ rows->r.length=n) (rows2:List (List Value)) (hn2:∀ r,r ∈ rows2->r.length=n) (bz:Nat) (hb:(rows.length + rows2.length) * bz<=2 ^ 47) (hne:rows2 ≠ []) :
  ∃ b' c' h',Uh h ty n bz rows2.length rows2.flatten sv=some (.slice (some ⟨b',0,none⟩) (rows.length + rows2.length) c',h')/\Sat lo h' (Za ty n (.slice (some ⟨b',0,none⟩) (rows.length + rows2.length) c') (rows ++ rows2) :: L):=by
 have hn3:∀ r,r ∈ rows ++ rows2->r.length=n:=fun r q=>by
  rcases Ta.1 q with q | q
  ·exact hn r q
  ·exact hn2 r q
 have hlen:(rows ++ rows2).length=rows.length + rows2.length:=by simp
 have h0:¬ rows2.length=0:=fun e=>hne (T1.1 e)
 rcases Xn s with ⟨rfl,rfl,s'⟩ | ⟨b,c,cs,rfl,hc,hl,hf,s⟩
 ·refine ⟨h.next,1,h.push (.cells rows2.flatten ty),?_,?_⟩
  ·simp only [Uh]
   rw [Sl h0,Sn (by simp at hb;omega)];simp
  ·have q:=Qx (cs:=rows2.flatten) (rows:=[] ++ rows2) (c:=1) (by decide) hn3 (by simp) (s'.push (.cells rows2.flatten ty))
   rw [hlen] at q
   exact q
 ·have hroom:roomFor c (rows.length + rows2.length) bz=true:=by
   unfold roomFor
   cases Nat.beq c 2 <;> simp only [SA,SK,aaf] <;> omega
  refine ⟨h.next,ji c (rows.length + rows2.length),(h.set b none).push (.cells (((cs.drop 0).take (rows.length * n)) ++ rows2.flatten) ty),?_,?_⟩
  ·simp only [Uh,s.get]
   rw [Sl h0,Sn ⟨hc,trivial,s.wr,by omega,hroom,by simp⟩]
  ·have q:=Qx (rows:=rows ++ rows2) (c:=ji c (rows.length + rows2.length)) (BG _ _) hn3 (by rw [Tx,hf,List.flatten_append]) ((s.forget none).push (.cells (((cs.drop 0).take (rows.length * n)) ++ rows2.flatten) ty))
   rw [hlen] at q
   exact q
end
theorem HX {h:za} {sv:Value} {zs:List Int} (S:zE h sv zs):zW h sv 1 (zs.map qX):=by
 rcases S with ⟨e,e2⟩ | ⟨b,off,cp,rfl,hc⟩
 ·exact .inl ⟨e,by rw [e2];rfl⟩
 ·refine .inr ⟨b,off,cp,by rw [SX],fun hz => ?_⟩
  obtain ⟨c,t,hb,hg,hat⟩:=hc (by simpa using hz)
  refine ⟨c,t,hb,hg,fun i r hr => ?_⟩
  rw [SI] at hr
  cases hz:zs[i]? with
  | none=>rw [hz] at hr;cases hr
  | some z=>
    rw [hz] at hr
    cases hr
    have:=hat i z hz
    have hlt:off + i < c.length:=by
     rcases SC (off + i) c.length with q | q
     ·exact q
     ·rw [Sr q] at this;cases this
    refine ⟨by omega,?_⟩
    rw [TN,List.drop_eq_getElem_cons hlt]
    rw [Sk hlt] at this
    rw [aaq this]
    rfl
section
variable {lo:yV} {h:za} {L:List HP} {b mb wb fb:Nat} {world:List Int} {ev lk gl cl kv wn:Value} {fi:List Nat} {kept:Option (Int->Bool)}
theorem No {used:Int} (s:Sat lo h [pt wb (.cells [wn,.int .i64 used] 151),Za 2 1 wn (world.map qX)]) (h0:0<=used) (h1:used < 4611686018427387904) (hl:world.length < 4611686018427387904) :
  DC Tryz.prog 95 [xK wb] h (fun v h'=>v = .int .i64 (ZZ world used)/\Sat lo h' [pt wb (.cells [wn,.int .i64 (used + 1)] 151),Za 2 1 wn (world.map qX)]):=by
 apply DO
 unfold FH xK
 have gw:=s.get
 have hinc:IntKind.wrap .i64 (used + 1)=used + 1:=Go.Mem.Yb (by omega) (by omega)
 have hdec:IntKind.wrap .i64 (used + 1 - 1)=used:=by rw [show used + 1 - 1=used by omega];exact Go.Mem.Yb (by omega) (by omega)
 simp -implicitDefEqProofs only [EE,zw,zi,Wx,gW,gw,hinc]
 refine wx s (by simp) rfl fun h2 s2 => ?_
 have g2:=s2.get
 have SR:=j1 (s2.p 1) (k8 (f:=qX) (fun _=>rfl) world)
 have ws:=SR.YR
 have hlen:∀ h',zn Tryz.prog .len [26] 3 [wn] h'=some (.int .i64 world.length,h'):=fun h'=>by
  rcases SR with ⟨rfl,e⟩ | ⟨_,_,_,rfl,_⟩
  ·have:world = []:=by simpa using e
   subst this
   simp only [iz,SF]
  ·simp only [iz,SX]
 by_cases hc:(world.length:Int) < used + 1
 ·have hc':used + 1 > (world.length:Int):=hc
  simp -implicitDefEqProofs only [EE,zf,zw,LR,zi,tu,gW,g2,ws,hlen,hc]
  refine ⟨?_,s2⟩
  unfold ZZ
  rw [Sl (by omega),SU,Sr (by omega)];rfl
 ·obtain ⟨z,hz⟩:∃ z,world[used.toNat]? = some z:=⟨_,Sk (by omega)⟩
  obtain ⟨bb,o,cs,t,⟨off,cp,rfl,rfl⟩,hi,hb,hgt,hle,htk,hat⟩:=SR.spot (i:=used.toNat) (r:=qX z) (by rw [SI,hz];rfl) rfl
  have hat0:cs[off + used.toNat * 1]? = some (.int .i64 z):=hat 0 (by decide)
  rw [TN] at hat0
  have hu:used < (world.length:Int):=by omega
  rw [SX] at *
  simp -implicitDefEqProofs only [EE,zf,Sf,zw,yQ,LR,zi,tu,gW,Hj,rD,g2,ws,hlen,hc,hdec,h0,hu,hgt,hat0,TN]
  refine ⟨?_,s2⟩
  unfold ZZ
  rw [Sl (by omega),SU,hz];rfl
end
theorem Cp {M:MM} {B:MB} (h:small M) (hb:B.size < 2147483648):small (M ++ [B]):=fun i C hC=>by
 rw [List.getElem?_append] at hC
 split at hC
 ·exact h i C hC
 ·cases hq:i - M.length with
  | zero=>rw [hq] at hC;simp at hC;subst hC;exact hb
  | succ k=>rw [hq] at hC;simp at hC
def vb (v:V):Prop:=YU v.b
theorem Vq:YU 0:=⟨by decide,by decide⟩
theorem aQ:vb v0:=Vq
theorem UO (n:Int):vb (qx n):=Vq
theorem Ap {b n:Int} (h:YU b):vb (np b n):=by
 unfold np;split
 ·exact Vq
 ·exact h
theorem Aq (t:Bool):vb (XZ t):=by unfold XZ;split <;> exact Vq
theorem NN {c:Prop} [Decidable c] {x y:Option V} {v:V} (hx:x=some v->vb v) (hy:y=some v->vb v):(if c then x else y)=some v->vb v:=by
 intro h
 by_cases hc:c
 ·rw [Sn hc] at h;exact hx h
 ·rw [Sl hc] at h;exact hy h
theorem LD {op a b:Int} {v:V} (h:j8 op a b=some v):vb v:=by
 revert h
 unfold j8
 repeat' apply NN
 all_goals intro h
 all_goals first
  | (cases h;done)
  | (have e:=aaq h;rw [<- e];first | exact UO _ | exact Aq _)
theorem Qy {op:Int} {a b v:V} (ha:vb a) (hb:vb b) (h:yu op a b=some v):vb v:=by
 unfold yu at h
 split at h
 ·exact LD h
 split at h
 ·simp only [Se] at h;subst h;exact Ap ha
 split at h
 ·simp only [Se] at h;subst h;exact Ap hb
 split at h
 ·simp only [Se] at h;subst h;exact Ap ha
 split at h
 ·unfold qq at h
  split at h
  ·simp only [Se] at h;subst h;exact Aq _
  ·cases h
 ·cases h
theorem Mm {op:Int} {a v:V} (h:eh op a=some v):vb v:=by
 unfold eh at h
 repeat' (split at h)
 all_goals first
  | (cases h;done)
  | (simp only [Se] at h;subst h;exact UO _)
theorem NM {l:List V} (h:∀ v,v ∈ l->vb v) (r:Int):vb (BV l r):=by
 unfold BV;split
 ·exact aQ
 ·rw [SU]
  cases e:l[r.toNat]? with
  | none=>exact aQ
  | some v=>exact h v (S7 e)
def Jf (M:MM):Prop:=small M/\M.length<=100000 /\ ∀ (i:Nat) B,M[i]? = some B->∀ a,vb (B.byte a).p
theorem EU {M:MM} {c:Int} {p v:V} (h:Jf M) (e:Qo M c p=some v):vb v:=by
 unfold Qo at e
 split at e
 ·cases e
 ·rename_i i hi
  simp only [Sw] at e
  obtain ⟨B,hB,rfl⟩:=e
  unfold aB
  split
  ·exact Vq
  split
  ·exact h.2.2 i B hB _
  ·exact aQ
theorem iD {M:MM} {i:Nat} {B:MB} (h:Jf M) (hs:B.size < 2147483648) (hp:∀ a,vb (B.byte a).p):Jf (M.set i B):=by
 refine ⟨fun j C hC => ?_,by rw [TD];exact h.2.1,fun j C hC a => ?_⟩
 ·rw [List.getElem?_set] at hC
  split at hC
  ·split at hC
   ·cases hC;exact hs
   ·cases hC
  ·exact h.1 j C hC
 ·rw [List.getElem?_set] at hC
  split at hC
  ·split at hC
   ·cases hC;exact hp a
   ·cases hC
  ·exact h.2.2 j C hC a
theorem B9 {M M':MM} {c:Int} {p v:V} (h:Jf M) (hv:vb v) (e:WR M c p v=some M'):Jf M':=by
 unfold WR at e
 split at e
 ·cases e
 split at e
 ·cases e
 ·rename_i i hi
  simp only [Sw] at e
  obtain ⟨B,hB,rfl⟩:=e
  refine iD h (h.1 i B hB) fun a => ?_
  show vb ((if _ then cellOf (norm v) _ else B.byte a).p)
  split
  ·unfold cellOf norm
   repeat' split
   all_goals first | exact hv | exact aQ
  ·exact h.2.2 i B hB a
theorem ET {M:MM} {n:Int} (h:Jf M):Jf ((VO M n).getD M):=by
 cases e:VO M n with
 | none=>exact h
 | some M'=>
   unfold VO at e
   simp only [T2,Sw] at e
   obtain ⟨i,hi,B,hB,rfl⟩:=e
   exact iD h (h.1 i B hB) fun a=>aQ
theorem EV {M:MM} {n:Int} (h:Jf M):Jf ((VU M n).getD M):=by
 cases e:VU M n with
 | none=>exact h
 | some M'=>
   unfold VU at e
   simp only [T2,Sw] at e
   obtain ⟨i,hi,B,hB,rfl⟩:=e
   refine iD h (h.1 i B hB) fun a => ?_
   show vb ((if a < _ then zc else B.byte a).p)
   split
   ·exact aQ
   ·exact h.2.2 i B hB a
theorem Jg {M:MM} (n:Int) (h:Jf M):Jf (w8 M n).1/\YU (w8 M n).2.1:=by
 unfold w8
 split
 ·exact ⟨h,Vq⟩
 split
 ·exact ⟨h,Vq⟩
 ·refine ⟨⟨?_,by simp;omega,fun i B hB a => ?_⟩,?_⟩
  ·exact Cp h.1 (by show n.toNat < _;omega)
  ·rw [List.getElem?_append] at hB
   split at hB
   ·exact h.2.2 i B hB a
   ·cases hq:i - M.length with
    | zero=>rw [hq] at hB;simp at hB;subst hB;exact aQ
    | succ k=>rw [hq] at hB;simp at hB
  ·show YU ((M.length:Int) + 1);constructor <;> omega
theorem px:∀ (ns:List Int) (M:MM) (l:List Int),Jf M->(∀ z,z ∈ l->YU z)->Jf (vO ns M l).1/\(vO ns M l).2.length=l.length + ns.length /\ ∀ z,z ∈ (vO ns M l).2->YU z
 | [],M,l,h,hl=>⟨h,by simp [vO],hl⟩
 | n :: ns,M,l,h,hl=>by
   have a:=Jg n h
   obtain ⟨b,c,d⟩:=px ns ((VU (w8 M n).1 (w8 M n).2.1).getD (w8 M n).1) (l ++ [(w8 M n).2.1]) (EV a.1) fun z hz=>by
    rcases Ta.1 hz with q | q
    ·exact hl z q
    ·simp only [TI] at q;subst q;exact a.2
   refine ⟨b,?_,d⟩
   show (vO ns _ _).2.length=_
   rw [c];simp;omega
theorem ik:∀ (ns:List Int) (n:Int) (M:MM) (l:List Int),vO (ns ++ [n]) M l=(((VU (w8 (vO ns M l).1 n).1 (w8 (vO ns M l).1 n).2.1).getD (w8 (vO ns M l).1 n).1),(vO ns M l).2 ++ [(w8 (vO ns M l).1 n).2.1])
 | [],n,M,l=>rfl
 | m :: ns,n,M,l=>ik ns n _ _
theorem tQ:Jf []:=⟨fun i B h=>(by cases h),by decide,fun i B h=>(by cases h)⟩
open Go.Rtl (inc)
section
variable {lo:yV} {h:za} {L:List HP} {wv:Value} {world:List Int}
theorem ID (hw:zE h wv world) (hl:world.length * 8<=2 ^ 47) (s:Sat lo h L):DC Tryz.prog 81 [wv] h (fun v h'=>ym v=false/\wZ v=true/\Sat lo h' (Za 2 1 v (world.map qX) :: L)):=by
 apply n7
 unfold lM
 have SR:=HX hw
 rcases hw with ⟨rfl,rfl⟩ | ⟨b,off,cp,rfl,hc⟩
 ·simp -implicitDefEqProofs only [EE,IH]
  exact Ke _ _ s
 ·simp -implicitDefEqProofs only [EE,GM,MZ]
  have s1:=s.push (.cells [] 2)
  have s2:Sat lo (h.push (.cells [] 2)) (Za 2 1 (.slice (some ⟨h.next,0,none⟩) 0 2) [] :: L):=Qx (rows:=[]) (c:=2) (by decide) (by simp) (by simp) s1
  have hap:∀ r,zn Tryz.prog .append [26,26] r [.slice (some ⟨h.next,0,none⟩) 0 2,.slice (some ⟨b,off,none⟩) world.length cp] (h.push (.cells [] 2))=Uh (h.push (.cells [] 2)) 2 1 8 world.length (world.map qX).flatten (.slice (some ⟨h.next,0,none⟩) 0 2):=fun r=>by
   have f:=(SR.old (Old.push h (.cells [] 2))).first (by decide) (k8 (f:=qX) (fun _=>rfl) world)
   rw [SX] at f
   exact Od r _ _ world.length _ _ rfl f (by simp [qX,List.all_flatten];exact fun _ _=>rfl) (by rw [Go.Rtl.wH (k8 (f:=qX) (fun _=>rfl) world),SX])
  by_cases h0:world = []
  ·subst h0
   have:Uh (h.push (.cells [] 2)) 2 1 8 ([]:List Int).length (([]:List Int).map qX).flatten (.slice (some ⟨h.next,0,none⟩) 0 2)=some (.slice (some ⟨h.next,0,none⟩) 0 2,h.push (.cells [] 2)):=rfl
   simp -implicitDefEqProofs only [EE]
   first | exact s2 | exact ⟨rfl,rfl,s2⟩ | exact ⟨rfl,rfl,rfl,s2⟩
  ·obtain ⟨b',c',h3,a1,s3⟩:=HU s2 (by simp) (world.map qX) (k8 (f:=qX) (fun _=>rfl) world) 8 (by simp;omega) (by simpa using h0)
   rw [SX] at a1 s3
   simp -implicitDefEqProofs only [EE,hap,a1]
   rw [SF,Sy,List.nil_append] at s3
   first | exact s3 | exact ⟨rfl,rfl,s3⟩
theorem NK (hw:zE h wv world) (hl:world.length * 8<=2 ^ 47) (s:Sat lo h L):DC Tryz.prog 61 [wv] h (fun v h' => ∃ wb wn,v=xK wb/\Sat lo h' (pt wb (.cells [wn,.int .i64 0] 151) :: Za 2 1 wn (world.map qX) :: L)):=by
 apply D9
 unfold F9
 refine z7 (by kernel_rfl) (by simp only [yN,hw.YR,SK]) (ID hw hl s) ?_
 rintro v h1 ⟨n1,c1,s1⟩
 obtain ⟨a,c,rfl⟩:=dk s1
 rw [SX] at s1
 simp -implicitDefEqProofs only [EE,Value.cells,GH]
 refine vy s1 fun wb h2 s2 => ?_
 simp -implicitDefEqProofs only [EE]
 exact ⟨wb,_,rfl,s2⟩
end
end Go.Rm
namespace Go.As
open Go.Ai Go.Proofs Go.Mem Go.Rm
open Go.Rtl (zE zW Old)
structure uF where
 op:Int
 r:Int
 m:Int
 sub:Int
 cc:Int
 l:Int
 k:Int
structure Fn where
 nm:ByteArray
 cv:Value
 code:List uF
structure Pg where
 gv:Value
 globals:List Int
 fv:Value
 funcs:List Fn
 main:Int
 params:Int
abbrev uF.row (x:uF):List Value:=[.int .i64 x.op,.int .i64 x.r,.int .i64 x.m,.int .i64 x.sub,.int .i64 x.cc,.int .i64 x.l,.int .i64 x.k]
abbrev uF.val (x:uF):Value := .agg #[.int .i64 x.op,.int .i64 x.r,.int .i64 x.m,.int .i64 x.sub,.int .i64 x.cc,.int .i64 x.l,.int .i64 x.k]
abbrev Fn.row (f:Fn):List Value:=[.string f.nm,f.cv]
abbrev Fn.val (f:Fn):Value := .agg #[.string f.nm,f.cv]
abbrev Pg.row (p:Pg):List Value:=[p.gv,p.fv,.int .i64 p.main,.int .i64 p.params]
abbrev Pg.val (p:Pg):Value := .agg #[p.gv,p.fv,.int .i64 p.main,.int .i64 p.params]
structure KJ (h:za) (f:Fn):Prop where
 code:zW h f.cv 7 (f.code.map uF.row)
 pd:f.code.length * 56<=140737488351232
structure kG (h:za) (p:Pg):Prop where
 globals:zE h p.gv p.globals
 IW:p.globals.length<=17592186043904
 funcs:zW h p.fv 2 (p.funcs.map Fn.row)
 IL:p.funcs.length * 24<=140737488351232
 fns:∀ f,f ∈ p.funcs->KJ h f
section
variable {h h':za} {f:Fn} {p:Pg}
theorem KJ.old (S:KJ h f) (e:Old h h'):KJ h' f:=⟨S.code.old e,S.pd⟩
theorem KJ.lock (S:KJ h f):KJ h.lock f:=⟨S.code.lock,S.pd⟩
theorem kG.old (S:kG h p) (e:Old h h'):kG h' p:=⟨S.globals.old e,S.IW,S.funcs.old e,S.IL,fun f hf=>(S.fns f hf).old e⟩
theorem kG.lock (S:kG h p):kG h.lock p:=⟨S.globals.lock,S.IW,S.funcs.lock,S.IL,fun f hf=>(S.fns f hf).lock⟩
end
structure Fr where
 f:Nat
 pt:Int
 Xf:Int
 size:Int
 iT:V
structure St where
 mem:MM
 used:Int
 kind:Int
 exit:Int
 ev:List (Int × Int)
 lk:List (Int × Int × Int)
 steps:Int
 gl:List Int
 calls:List Fr
 YV:List V
 flags:Bool
 a:V
 b:V
 stack:Int
 wD:Int
def uU (S:St) (k a b:Int):St:={ S with lk:=S.lk ++ [(k,a,b)] }
def jj (S:St) (k v:Int):St:={ S with ev:=S.ev ++ [(k,v)] }
def ja (S:St) (c:Fr):St:={ S with calls:=S.calls.dropLast ++ [c] }
def vZ (S:St) (r:Int) (v:V):St:={ S with YV:=S.YV.set r.toNat v }
def zB (S:St) (r:Int):V:=BV S.YV r
def yM (lim:Int) (S:St) (n:Int):St × Bool:=if lim - S.stack < n then ({ S with kind:=4 },false) else ({ S with stack:=S.stack + n,wD:=max S.wD (S.stack + n) },true)
def xP (lim:Int) (S:St) (f:Nat):St:=if (yM lim S 8).2=true then { (yM lim S 8).1 with calls:=(yM lim S 8).1.calls ++ [⟨f,0,0,0,v0⟩] } else (yM lim S 8).1
def vF (S:St) (to:Int) (o:Option V):St × Bool:=(vZ S to (o.getD v0),o.isSome)
def Jm:List uF->Int->Int->Int->Int
 | [],_,_,z=>z
 | x :: xs,l,n,z=>Jm xs l (n + 1) (if x.op=20/\x.l=l then n else z)
def ZT (p:Pg) (f:Nat) (l:Int):Int:=match p.funcs[f]? with
 | none=>0
 | some g=>Jm g.code l 0 0
def VR (v:V):V:=qx (v.n.fdiv (2 ^ 63))
def yO (S:St) (i:uF):St × Bool:=match yu 11 (zB S i.m) (qx i.k) with
 | none=>(S,false)
 | some q=>if q.k=2 then (if i.op=4 then (match WR S.mem i.sub q (zB S i.r) with
   | none=>(uU S 2 q.b q.n,false)
   | some M=>({ uU S 2 q.b q.n with mem:=M },true)) else vF (uU S 2 q.b q.n) i.r (Qo S.mem i.sub q)) else (S,false)
def ZI (S:St) (m:V):St × Bool :=
 if (zB S 0).k=1/\m.k=1 then
  (if zB S 2=VR (zB S 0) then
   (if (vF (uU S 3 (zB S 0).n m.n) 0 (yu 14 (zB S 0) m)).2=true then vF (vF (uU S 3 (zB S 0).n m.n) 0 (yu 14 (zB S 0) m)).1 2 (yu 15 (zB S 0) m)
    else vF (uU S 3 (zB S 0).n m.n) 0 (yu 14 (zB S 0) m))
   else (uU S 3 (zB S 0).n m.n,false))
 else (S,false)
def ZU (S:St) (c:Fr):St × Bool :=
 if c.Xf ≠ 0 then (S,false)
 else if S.calls.dropLast ≠ [] then ({ S with flags:=false,stack:=S.stack - 8,calls:=S.calls.dropLast },true)
 else if (zB S 0).k=1 then ({ S with flags:=false,stack:=S.stack - 8,calls:=[],kind:=1,exit:=(zB S 0).n },true)
 else ({ S with flags:=false,stack:=S.stack - 8,calls:=[] },false)
def wW (lim:Int) (S:St) (c:Fr) (i:uF):St × Bool :=
 if i.op=24 then (if c.Xf=0\/c.size ≠ i.k then (S,false) else
  (ja (vZ { S with mem:=(VO S.mem c.Xf).getD S.mem,stack:=S.stack - c.size } 4 c.iT) { c with Xf:=0 },true))
 else if c.Xf ≠ 0 then (S,false)
 else if (yM lim S i.k).2=true then
  (ja (vZ { (yM lim S i.k).1 with mem:=(w8 S.mem i.k).1 } 4 (np (w8 S.mem i.k).2.1 0)) { c with Xf:=(w8 S.mem i.k).2.1,size:=i.k,iT:=zB S 4 },decide ((w8 S.mem i.k).2.2=0))
 else ((yM lim S i.k).1,true)
def WH (p:Pg) (S:St) (c:Fr) (i:uF):St × Bool:=match yu i.cc S.a S.b with
 | none=>(S,false)
 | some v=>if S.flags=true then ((if v.n=0 then uU S 1 v.n 0 else ja (uU S 1 v.n 0) { c with pt:=ZT p c.f i.l }),true) else (S,false)
def zk (p:Pg) (lim:Int) (world:List Int) (S:St) (c:Fr) (i:uF):St × Bool :=
 if i.op=1 then (vZ S i.r (zB S i.m),true)
 else if i.op=2 then (vZ S i.r (qx i.k),true)
 else if i.op=3\/i.op=4 then yO S i
 else if i.op=5 then vF S i.r (yu 11 (zB S i.m) (qx i.k))
 else if i.op=6 then (vZ S i.r (np (S.gl.getD i.sub.toNat 0) i.k),true)
 else if i.op=7 then vF S i.r (yu i.sub (zB S i.r) (zB S i.m))
 else if i.op=8\/i.op=11 then vF S i.r (yu i.sub (zB S i.r) (qx i.k))
 else if i.op=9 then vF S i.r (eh i.sub (zB S i.r))
 else if i.op=10 then vF S i.r (eh i.sub (zB S i.m))
 else if i.op=12 then (if (zB S 1).k=1 then vF S i.r (yu i.sub (zB S i.r) (qx (X1 (· &&& ·) (zB S 1).n 63))) else (S,false))
 else if i.op=13 then (vZ S 2 (VR (zB S 0)),decide ((zB S 0).k=1))
 else if i.op=14 then ZI S (zB S i.m)
 else if i.op=15 then ({ S with flags:=true,a:=zB S i.r,b:=zB S i.m },true)
 else if i.op=16 then ({ S with flags:=true,a:=zB S i.r,b:=qx i.k },true)
 else if i.op=17 then (if S.flags=true then vF S i.r (yu i.cc S.a S.b) else (S,false))
 else if i.op=18 then (ja S { c with pt:=ZT p c.f i.l },true)
 else if i.op=19 then WH p S c i
 else if i.op=21 then (xP lim (uU { S with flags:=false } 4 i.sub 0) i.sub.toNat,true)
 else if i.op=22 then ZU S c
 else if i.op=23\/i.op=24 then wW lim S c i
 else if i.op=25 then (vZ { jj S 1 (ZZ world S.used) with used:=S.used + 1 } 0 (qx (ZZ world S.used)),true)
 else if i.op=26 then (if (zB S 0).k=1 then (jj S 2 (zB S 0).n,true) else (S,false))
 else (S,true)
def Un (p:Pg) (f:Nat):List uF:=match p.funcs[f]? with
 | none=>[]
 | some g=>g.code
def VH (r:St × Bool):St:=if r.2=true then r.1 else { r.1 with kind:=3 }
def UB (p:Pg) (lim:Int) (world:List Int) (lab:Bool) (fuel:Int) (S:St):St:=match S.calls.getLast? with
 | none=>{ S with kind:=3 }
 | some c=>if c.pt=(Un p c.f).length then { S with kind:=3 } else match (Un p c.f)[c.pt.toNat]? with
   | none=>{ S with kind:=3 }
   | some i=>if i.op=20/\lab=false then ja S { c with pt:=c.pt + 1 } else if S.steps=fuel then { S with kind:=2 } else
     VH (zk p lim world { ja S { c with pt:=c.pt + 1 } with steps:=S.steps + 1 } { c with pt:=c.pt + 1 } i)
def Vt (p:Pg) (lim:Int) (world:List Int) (lab:Bool) (fuel:Int) (S:St):St:=if S.kind=0 then UB p lim world lab fuel S else S
def uK (p:Pg) (lim:Int) (world:List Int) (lab:Bool) (fuel:Int):Nat->St->St
 | 0,S=>S
 | n + 1,S=>uK p lim world lab fuel n (Vt p lim world lab fuel S)
def order:List Int:=[7,6,2,1,8,9]
def WE:List Int->List Int->List V->List V
 | r :: rs,a :: l2,l=>WE rs l2 (l.set r.toNat (qx a))
 | _,_,l=>l
def XV (p:Pg) (args:List Int):St:=⟨(vO p.globals [] []).1,0,0,0,[],[],0,(vO p.globals [] []).2,[],WE order args (List.replicate 16 v0),false,v0,v0,0,0⟩
def k9 (p:Pg) (lim:Int) (args:List Int):St:=xP lim (XV p args) p.main.toNat
def Ends (p:Pg) (lim:Int) (args world:List Int) (lab:Bool) (fuel:Int) (T:St):Prop:=T.kind ≠ 0 /\ ∃ n,T=uK p lim world lab fuel n (k9 p lim args)
structure Ext (S S':St):Prop where
 ev:S.ev <+: S'.ev
 lk:S.lk <+: S'.lk
theorem Ext.refl (S:St):Ext S S:=⟨TB _,TB _⟩
theorem Ext.trans {a b c:St} (x:Ext a b) (y:Ext b c):Ext a c:=⟨x.ev.trans y.ev,x.lk.trans y.lk⟩
structure DE (S:St) (r:St × Bool):Prop where
 ext:Ext S r.1
 steps:r.1.steps=S.steps
 kind:r.1.kind=S.kind\/r.1.kind=1\/r.1.kind=4
 OE:r.1.ev.length<=S.ev.length + 1/\r.1.lk.length<=S.lk.length + 1
theorem DE.same {S S':St} {b:Bool} (e:S'.ev=S.ev) (l:S'.lk=S.lk) (s:S'.steps=S.steps) (k:S'.kind=S.kind\/S'.kind=1\/S'.kind=4):DE S (S',b) :=
 ⟨⟨e ▸ TB _,l ▸ TB _⟩,s,k,by rw [e];exact TR _,by rw [l];exact TR _⟩
theorem DE.Ay {S S':St} {b:Bool} {x:Int × Int × Int} (e:S'.ev=S.ev) (l:S'.lk=S.lk ++ [x]) (s:S'.steps=S.steps) (k:S'.kind=S.kind\/S'.kind=1\/S'.kind=4):DE S (S',b) :=
 ⟨⟨e ▸ TB _,l ▸ List.prefix_append _ _⟩,s,k,by rw [e];exact TR _,by rw [l];simp⟩
theorem DE.IJ {S S':St} {b:Bool} {x:Int × Int} (e:S'.ev=S.ev ++ [x]) (l:S'.lk=S.lk) (s:S'.steps=S.steps) (k:S'.kind=S.kind\/S'.kind=1\/S'.kind=4):DE S (S',b) :=
 ⟨⟨e ▸ List.prefix_append _ _,l ▸ TB _⟩,s,k,by rw [e];simp,by rw [l];exact TR _⟩
theorem Uu (lim:Int) (S:St) (n:Int):(yM lim S n).1.ev=S.ev/\(yM lim S n).1.lk=S.lk/\(yM lim S n).1.steps=S.steps/\((yM lim S n).1.kind=S.kind\/(yM lim S n).1.kind=4)/\((yM lim S n).2=true->(yM lim S n).1.kind=S.kind):=by
 unfold yM
 split
 ·exact ⟨rfl,rfl,rfl,.inr rfl,fun q=>by cases q⟩
 ·exact ⟨rfl,rfl,rfl,.inl rfl,fun _=>rfl⟩
theorem dJ (lim:Int) (S:St) (f:Nat):(xP lim S f).ev=S.ev/\(xP lim S f).lk=S.lk/\(xP lim S f).steps=S.steps/\((xP lim S f).kind=S.kind\/(xP lim S f).kind=4):=by
 obtain ⟨a,b,c,d,_⟩:=Uu lim S 8
 unfold xP
 split <;> exact ⟨a,b,c,d⟩
theorem Cr (S:St) (i:uF):DE S (yO S i):=by
 unfold yO
 split
 ·exact .same rfl rfl rfl (.inl rfl)
 split
 ·split
  ·split
   ·exact .Ay rfl rfl rfl (.inl rfl)
   ·exact .Ay rfl rfl rfl (.inl rfl)
  ·exact .Ay rfl rfl rfl (.inl rfl)
 ·exact .same rfl rfl rfl (.inl rfl)
theorem Ly (S:St) (m:V):DE S (ZI S m):=by
 unfold ZI
 split
 ·split
  ·split
   ·exact .Ay rfl rfl rfl (.inl rfl)
   ·exact .Ay rfl rfl rfl (.inl rfl)
  ·exact .Ay rfl rfl rfl (.inl rfl)
 ·exact .same rfl rfl rfl (.inl rfl)
theorem LA (S:St) (c:Fr):DE S (ZU S c):=by
 unfold ZU
 split
 ·exact .same rfl rfl rfl (.inl rfl)
 split
 ·exact .same rfl rfl rfl (.inl rfl)
 split
 ·exact .same rfl rfl rfl (.inr (.inl rfl))
 ·exact .same rfl rfl rfl (.inl rfl)
theorem Fh (lim:Int) (S:St) (c:Fr) (i:uF):DE S (wW lim S c i):=by
 obtain ⟨a,b,d,e,_⟩:=Uu lim S i.k
 have e:(yM lim S i.k).1.kind=S.kind\/(yM lim S i.k).1.kind=1\/(yM lim S i.k).1.kind=4:=e.imp id .inr
 unfold wW
 split
 ·split
  ·exact .same rfl rfl rfl (.inl rfl)
  ·exact .same rfl rfl rfl (.inl rfl)
 split
 ·exact .same rfl rfl rfl (.inl rfl)
 split
 ·exact .same a b d e
 ·exact .same a b d e
theorem Lz (p:Pg) (S:St) (c:Fr) (i:uF):DE S (WH p S c i):=by
 unfold WH
 split
 ·exact .same rfl rfl rfl (.inl rfl)
 split
 ·split
  ·exact .Ay rfl rfl rfl (.inl rfl)
  ·exact .Ay rfl rfl rfl (.inl rfl)
 ·exact .same rfl rfl rfl (.inl rfl)
theorem Fi (p:Pg) (lim:Int) (world:List Int) (S:St) (c:Fr) (i:uF):DE S (zk p lim world S c i):=by
 have same:∀ {S':St} {b:Bool},S'.ev=S.ev->S'.lk=S.lk->S'.steps=S.steps->S'.kind=S.kind->DE S (S',b):=fun a b c d => .same a b c (.inl d)
 unfold zk
 by_cases h0:i.op=1
 ·rw [Sn h0];exact same rfl rfl rfl rfl
 rw [Sl h0]
 by_cases h1:i.op=2
 ·rw [Sn h1];exact same rfl rfl rfl rfl
 rw [Sl h1]
 by_cases h2:i.op=3\/i.op=4
 ·rw [Sn h2];exact Cr _ _
 rw [Sl h2]
 by_cases h3:i.op=5
 ·rw [Sn h3];exact same rfl rfl rfl rfl
 rw [Sl h3]
 by_cases h4:i.op=6
 ·rw [Sn h4];exact same rfl rfl rfl rfl
 rw [Sl h4]
 by_cases h5:i.op=7
 ·rw [Sn h5];exact same rfl rfl rfl rfl
 rw [Sl h5]
 by_cases h6:i.op=8\/i.op=11
 ·rw [Sn h6];exact same rfl rfl rfl rfl
 rw [Sl h6]
 by_cases h7:i.op=9
 ·rw [Sn h7];exact same rfl rfl rfl rfl
 rw [Sl h7]
 by_cases h8:i.op=10
 ·rw [Sn h8];exact same rfl rfl rfl rfl
 rw [Sl h8]
 by_cases h9:i.op=12
 ·rw [Sn h9]
  split
  ·exact same rfl rfl rfl rfl
  ·exact same rfl rfl rfl rfl
 rw [Sl h9]
 by_cases h10:i.op=13
 ·rw [Sn h10];exact same rfl rfl rfl rfl
 rw [Sl h10]
 by_cases h11:i.op=14
 ·rw [Sn h11];exact Ly _ _
 rw [Sl h11]
 by_cases h12:i.op=15
 ·rw [Sn h12];exact same rfl rfl rfl rfl
 rw [Sl h12]
 by_cases h13:i.op=16
 ·rw [Sn h13];exact same rfl rfl rfl rfl
 rw [Sl h13]
 by_cases h14:i.op=17
 ·rw [Sn h14]
  split
  ·exact same rfl rfl rfl rfl
  ·exact same rfl rfl rfl rfl
 rw [Sl h14]
 by_cases h15:i.op=18
 ·rw [Sn h15];exact same rfl rfl rfl rfl
 rw [Sl h15]
 by_cases h16:i.op=19
 ·rw [Sn h16];exact Lz _ _ _ _
 rw [Sl h16]
 by_cases h17:i.op=21
 ·rw [Sn h17]
  obtain ⟨a,b,d,e⟩:=dJ lim (uU { S with flags:=false } 4 i.sub 0) i.sub.toNat
  exact .Ay a b d (e.imp id .inr)
 rw [Sl h17]
 by_cases h18:i.op=22
 ·rw [Sn h18];exact LA _ _
 rw [Sl h18]
 by_cases h19:i.op=23\/i.op=24
 ·rw [Sn h19];exact Fh _ _ _ _
 rw [Sl h19]
 by_cases h20:i.op=25
 ·rw [Sn h20];exact .IJ rfl rfl rfl (.inl rfl)
 rw [Sl h20]
 by_cases h21:i.op=26
 ·rw [Sn h21]
  split
  ·exact .IJ rfl rfl rfl (.inl rfl)
  ·exact same rfl rfl rfl rfl
 rw [Sl h21]
 exact same rfl rfl rfl rfl
section
variable (p:Pg) (lim:Int) (world:List Int) (lab:Bool) (fuel:Int)
structure RS (S T:St):Prop where
 ext:Ext S T
 steps:(T.steps=S.steps/\T.ev=S.ev/\T.lk=S.lk)\/(T.steps=S.steps + 1/\S.steps ≠ fuel/\T.ev.length<=S.ev.length + 1/\T.lk.length<=S.lk.length + 1)
 two:T.kind=2->T = { S with kind:=2 } /\ S.steps=fuel
theorem Ae (S:St) (h:S.kind=0):RS fuel S (UB p lim world lab fuel S):=by
 have three:RS fuel S { S with kind:=3 }:=⟨⟨TB S.ev,TB S.lk⟩,.inl ⟨rfl,rfl,rfl⟩,fun q=>by cases q⟩
 unfold UB
 split
 ·exact three
 split
 ·exact three
 split
 ·exact three
 split
 ·exact ⟨⟨TB S.ev,TB S.lk⟩,.inl ⟨rfl,rfl,rfl⟩,fun q=>by have q:S.kind=2:=q;rw [h] at q;cases q⟩
 split
 ·rename_i e
  exact ⟨⟨TB S.ev,TB S.lk⟩,.inl ⟨rfl,rfl,rfl⟩,fun _=>⟨rfl,e⟩⟩
 ·rename_i c _ _ _ i _ _ e
  have x:=Fi p lim world { ja S { c with pt:=c.pt + 1 } with steps:=S.steps + 1 } { c with pt:=c.pt + 1 } i
  generalize zk p lim world { ja S { c with pt:=c.pt + 1 } with steps:=S.steps + 1 } { c with pt:=c.pt + 1 } i=r at x
  have k:=x.kind
  have s:=x.steps
  unfold VH
  split
  ·refine ⟨⟨x.ext.ev,x.ext.lk⟩,.inr ⟨s,e,x.OE⟩,fun q => ?_⟩
   rcases k with k | k | k
   ·have k:r.1.kind=S.kind:=k
    rw [h] at k;omega
   ·omega
   ·omega
  ·exact ⟨⟨x.ext.ev,x.ext.lk⟩,.inr ⟨s,e,x.OE⟩,fun q=>by cases q⟩
theorem nQ (S:St):Ext S (Vt p lim world lab fuel S)/\(((Vt p lim world lab fuel S).steps=S.steps/\(Vt p lim world lab fuel S).ev=S.ev/\(Vt p lim world lab fuel S).lk=S.lk)\/((Vt p lim world lab fuel S).steps=S.steps + 1/\S.steps ≠ fuel/\(Vt p lim world lab fuel S).ev.length<=S.ev.length + 1/\(Vt p lim world lab fuel S).lk.length<=S.lk.length + 1)):=by
 unfold Vt
 split
 ·have:=Ae p lim world lab fuel S (by assumption)
  exact ⟨this.ext,this.steps⟩
 ·exact ⟨Ext.refl _,.inl ⟨rfl,rfl,rfl⟩⟩
theorem Q7:∀ (n:Nat) (S:St),S.kind ≠ 0->uK p lim world lab fuel n S=S
 | 0,S,h=>rfl
 | n + 1,S,h=>by
   unfold uK Vt
   rw [Sl h]
   exact Q7 n S h
theorem aC:∀ (n m:Nat) (S:St),uK p lim world lab fuel (n + m) S=uK p lim world lab fuel m (uK p lim world lab fuel n S)
 | 0,m,S=>by rw [Sy];rfl
 | n + 1,m,S=>by
   rw [show n + 1 + m=(n + m) + 1 by omega]
   exact aC n m _
theorem tO:∀ (n:Nat) (S:St),Ext S (uK p lim world lab fuel n S)
 | 0,S=>Ext.refl _
 | n + 1,S=>(nQ p lim world lab fuel S).1.trans (tO n _)
theorem aE {S:St} {n m:Nat} (h1:(uK p lim world lab fuel n S).kind ≠ 0) (h2:(uK p lim world lab fuel m S).kind ≠ 0):uK p lim world lab fuel n S=uK p lim world lab fuel m S:=by
 rcases Nat.le_total n m with q | q
 ·obtain ⟨d,rfl⟩:=Nat.le.dest q
  rw [aC,Q7 _ _ _ _ _ d _ h1]
 ·obtain ⟨d,rfl⟩:=Nat.le.dest q
  rw [aC,Q7 _ _ _ _ _ d _ h2]
end
theorem Ak (p:Pg) (lim:Int) (args:List Int):((k9 p lim args).kind=0\/(k9 p lim args).kind=4)/\(k9 p lim args).steps=0/\(k9 p lim args).ev = []/\(k9 p lim args).lk = []:=by
 obtain ⟨a,b,c,d⟩:=dJ lim (XV p args) p.main.toNat
 exact ⟨d,c,a,b⟩
theorem iB (p:Pg) (lim:Int) (world:List Int) (lab:Bool) (fuel:Int):∀ (n:Nat) (S:St),S.steps<=fuel->(S.ev.length:Int)<=S.steps->(S.lk.length:Int)<=S.steps->(uK p lim world lab fuel n S).steps<=fuel/\((uK p lim world lab fuel n S).ev.length:Int)<=(uK p lim world lab fuel n S).steps/\((uK p lim world lab fuel n S).lk.length:Int)<=(uK p lim world lab fuel n S).steps
 | 0,S,h,a,b=>⟨h,a,b⟩
 | n + 1,S,h,a,b=>by
   unfold uK
   rcases (nQ p lim world lab fuel S).2 with ⟨q,e,l⟩ | ⟨q,e,l,m⟩
   ·exact iB p lim world lab fuel n _ (by omega) (by rw [e,q];exact a) (by rw [l,q];exact b)
   ·exact iB p lim world lab fuel n _ (by omega) (by omega) (by omega)
theorem pS {p:Pg} {lim:Int} {args world:List Int} {lab:Bool} {fuel:Int} {A:St} (h0:0<=fuel) (a:Ends p lim args world lab fuel A):(A.ev.length:Int)<=fuel/\(A.lk.length:Int)<=fuel:=by
 obtain ⟨_,i,rfl⟩:=a
 obtain ⟨_,s0,e,l⟩:=Ak p lim args
 obtain ⟨x,y,z⟩:=iB p lim world lab fuel i (k9 p lim args) (by omega) (by rw [e,s0];decide) (by rw [l,s0];decide)
 omega
end Go.As
namespace Go.Ai
noncomputable section
variable {P:Program}
theorem Du {α β:Type} {x:Sem α} {f:α->Sem β} {a:α} (h:z9 P x=some a):z9 P (x >>= f)=z9 P (f a):=by
 induction x with
 | pure b=>simp only [z9,Se] at h;subst h;rfl
 | program k ih=>exact ih P h
 | _=>cases h
def XL:Nat->List (Int × Value)->List VV
 | _,[]=>[]
 | n,(k,v) :: l=>(.int .i64 k,v,n) :: XL (n + 1) l
def Qq (l:List (Int × Value)):vi := .map (XL 0 l) l.length
def Ql:List (Int × Value)->Int->Option Nat
 | [],_=>none
 | (a,_) :: l,k=>if a=k then some 0 else (Ql l k).map (· + 1)
def J7:List (Int × Value)->Int->Option Value
 | [],_=>none
 | (a,v) :: l,k=>if a=k then some v else J7 l k
def VP:List (Int × Value)->Int->Value->List (Int × Value)
 | [],k,v=>[(k,v)]
 | (a,w) :: l,k,v=>if a=k then (a,v) :: l else (a,w) :: VP l k v
theorem hU:∀ (l:List (Int × Value)) (k k':Int) (v:Value),J7 (VP l k v) k'=if k=k' then some v else J7 l k'
 | [],k,k',v=>rfl
 | (a,w) :: l,k,k',v=>by
   unfold VP
   by_cases h:a=k
   ·rw [Sn h]
    subst h
    unfold J7
    by_cases h2:a=k'
    ·rw [Sn h2,Sn h2]
    ·rw [Sl h2,Sl h2,Sl h2]
   ·rw [Sl h]
    unfold J7
    rw [hU l]
    by_cases h2:a=k'
    ·rw [Sn h2,Sn h2,Sl (by omega)]
    ·rw [Sl h2,Sl h2]
theorem gS:∀ (n:Nat) (l:List (Int × Value)),((XL n l).all fun e=>flat e.1)=true
 | _,[]=>rfl
 | n,(k,v) :: l=>by show (true && (XL (n + 1) l).all fun e=>flat e.1)=true;rw [gS];rfl
theorem nG (kind:IntKind) (k:Int):∀ (l:List (Int × Value)) (n i:Nat),Instr.findNow (.int kind) (.int .i64 k) ((XL n l).map fun e=>JS e.1) i=some ((Ql l k).map fun j=>(i + j,undef))
 | [],n,i=>rfl
 | (a,v) :: l,n,i=>by
   show (match Instr.sameNow (.int kind) (.int .i64 k) (.int .i64 a) with
    | some true=>some (some (i,undef))
    | some false=>Instr.findNow (.int kind) (.int .i64 k) ((XL (n + 1) l).map fun e=>JS e.1) (i + 1)
    | none=>none)=some ((if a=k then some 0 else (Ql l k).map (· + 1)).map fun j=>(i + j,undef))
   have e:Instr.sameNow (.int kind) (.int .i64 k) (.int .i64 a)=some (k == a):=rfl
   rw [e]
   by_cases h:a=k
   ·rw [Sn h,h,T8];rfl
   ·rw [Sl h,beq_eq_false_iff_ne.2 (fun q=>h q.symm)]
    simp only
    rw [nG kind k l]
    cases Ql l k with
    | none=>rfl
    | some j=>simp only [TG,Se,Sh,Tk];omega
theorem G9 {kt:TypeId} {kind:IntKind} (hk:z9 P (underlying kt)=some (.int kind)) (k:Int) (n:Nat) (l:List (Int × Value)):ng P kt (.int .i64 k) (XL n l)=some (Ql l k):=by
 have e:z9 P (Instr.findKey kt (.int .i64 k) ((XL n l).map fun e=>JS e.1))=some ((Ql l k).map fun j=>(0 + j,undef)):=by
  unfold Instr.findKey
  rw [Du hk,nG kind k l n 0]
  rfl
 unfold ng
 rw [gS,e]
 cases Ql l k with
 | none=>rfl
 | some j=>simp only [TG,Sy];rfl
theorem C2 {kt:TypeId} {kind:IntKind} (hk:z9 P (underlying kt)=some (.int kind)) (b:Bool) (k:Int):z9 P (Instr.checkKey b 10000 kt (.int .i64 k))=some ():=by
 show z9 P (underlying kt >>= _)=_
 rw [Du hk]
 rfl
theorem pz:∀ {l:List (Int × Value)} {k:Int} {n:Nat},(Ql l k=none->J7 l k=none) /\ ∀ j,Ql l k=some j->∃ v,J7 l k=some v/\(XL n l)[j]? = some (.int .i64 k,v,n + j)
 | [],k,n=>⟨fun _=>rfl,fun j h=>by cases h⟩
 | (a,v) :: l,k,n=>by
   obtain ⟨i1,i2⟩:=pz (l:=l) (k:=k) (n:=n + 1)
   unfold Ql J7
   by_cases h:a=k
   ·rw [Sn h,Sn h]
    refine ⟨fun q=>(by cases q),fun j q => ?_⟩
    cases q
    exact ⟨v,rfl,by rw [h];rfl⟩
   ·rw [Sl h,Sl h]
    cases hi:Ql l k with
    | none=>exact ⟨fun _=>i1 hi,fun j q=>by cases q⟩
    | some m=>
      refine ⟨fun q=>(by cases q),fun j q => ?_⟩
      simp only [TG,Se] at q
      subst q
      obtain ⟨w,h1,h2⟩:=i2 m hi
      exact ⟨w,h1,by show (XL (n + 1) l)[m]? = _;rw [h2,show n + 1 + m=n + (m + 1) by omega]⟩
theorem Dd:∀ {l:List (Int × Value)} {k:Int} {n:Nat} (v:Value),(Ql l k=none->XL n (VP l k v)=XL n l ++ [(.int .i64 k,v,n + l.length)]/\(VP l k v).length=l.length + 1) /\ ∀ j,Ql l k=some j->XL n (VP l k v)=(XL n l).set j (.int .i64 k,v,n + j)/\(VP l k v).length=l.length
 | [],k,n,v=>⟨fun _=>⟨rfl,rfl⟩,fun j h=>by cases h⟩
 | (a,w) :: l,k,n,v=>by
   obtain ⟨i1,i2⟩:=Dd (l:=l) (k:=k) (n:=n + 1) v
   unfold Ql VP
   by_cases h:a=k
   ·rw [Sn h,Sn h]
    refine ⟨fun q=>(by cases q),fun j q => ?_⟩
    cases q
    rw [h]
    exact ⟨rfl,rfl⟩
   ·rw [Sl h,Sl h]
    cases hi:Ql l k with
    | none=>
      obtain ⟨e1,e2⟩:=i1 hi
      refine ⟨fun _=>⟨?_,?_⟩,fun j q=>by cases q⟩
      ·show (_,w,n) :: XL (n + 1) (VP l k v)=_
       rw [e1,show n + 1 + l.length=n + (l.length + 1) by omega];rfl
      ·show (VP l k v).length + 1=_
       rw [e2];rfl
    | some m=>
      obtain ⟨e1,e2⟩:=i2 m hi
      refine ⟨fun q=>(by cases q),fun j q => ?_⟩
      simp only [TG,Se] at q
      subst q
      refine ⟨?_,?_⟩
      ·show (_,w,n) :: XL (n + 1) (VP l k v)=_
       rw [e1,show n + 1 + m=n + (m + 1) by omega];rfl
      ·show (VP l k v).length + 1=_
       rw [e2];rfl
section
variable {t kt et:TypeId} {kind:IntKind} {z:Value} {h:za} {b:Nat} {l:List (Int × Value)}
theorem tN (ht:z9 P (underlying t)=some (.map kt et)) (hk:z9 P (underlying kt)=some (.int kind)) (hz:wY P et=some z) (g:h.get b=some (Qq l)) (k:Int) (ok:Bool) :
  Z2 P t (.map (some b)) (.int .i64 k) ok h=some (match J7 l k with
   | some v=>cond ok (.tuple #[v,.bool true]) v
   | none=>cond ok (.tuple #[z,.bool false]) z):=by
 have em:dN h (.map (some b))=some (XL 0 l):=by unfold dN;simp only [g];rfl
 unfold Z2
 rw [ht,em]
 simp only [C2 hk,G9 hk]
 obtain ⟨i1,i2⟩:=pz (l:=l) (k:=k) (n:=0)
 cases hi:Ql l k with
 | none=>simp only [i1 hi,hz]
 | some j=>
   obtain ⟨v,h1,h2⟩:=i2 j hi
   simp only [h1,h2]
theorem Ao (ht:z9 P (underlying t)=some (.map kt et)) (hk:z9 P (underlying kt)=some (.int kind)) (g:h.get b=some (Qq l)) (w:h.ro<=b) (k:Int) (v:Value) :
  k7 P t (.map (some b)) (.int .i64 k) v h=some (h.set b (some (Qq (VP l k v)))):=by
 unfold k7
 simp only [ht,g,Qq,C2 hk,G9 hk,Nat.ble_eq_true_of_le w,SA]
 obtain ⟨i1,i2⟩:=Dd (l:=l) (k:=k) (n:=0) v
 obtain ⟨_,i4⟩:=pz (l:=l) (k:=k) (n:=0)
 cases hi:Ql l k with
 | none=>
   obtain ⟨e1,e2⟩:=i1 hi
   simp only [e1,e2,Sy]
 | some j=>
   obtain ⟨e1,e2⟩:=i2 j hi
   obtain ⟨v',_,h2⟩:=i4 j hi
   have sb:Instr.sameBits 10000 (.int .i64 k) (.int .i64 k)=true:=by show ((IntKind.i64 == .i64) && (k == k))=true;simp
   simp only [h2,sb,SA,e1,e2]
end
end
end Go.Ai
namespace Go.As
open Go.Ai Go.Proofs Go.Mem Go.Rm
def Vd:List uF->Int->List (Int × Value)->List (Int × Value)
 | [],_,m=>m
 | x :: xs,n,m=>Vd xs (n + 1) (if x.op=20 then VP m x.l (.int .i64 n) else m)
def RD (m:List (Int × Value)) (l z:Int):Prop:=J7 m l=some (.int .i64 z)\/(J7 m l=none/\z=0)
theorem iw:∀ (xs:List uF) (l n z:Int) (m:List (Int × Value)),RD m l z->RD (Vd xs n m) l (Jm xs l n z)
 | [],l,n,z,m,h=>h
 | x :: xs,l,n,z,m,h=>by
   refine iw xs l (n + 1) _ _ ?_
   by_cases h1:x.op=20
   ·rw [Sn h1]
    unfold RD
    rw [hU]
    by_cases h2:x.l=l
    ·rw [Sn h2,Sn ⟨h1,h2⟩];exact .inl rfl
    ·rw [Sl h2,Sl (fun q=>h2 q.2)];exact h
   ·rw [Sl h1,Sl (fun q=>h1 q.1)];exact h
theorem nJ:∀ (xs:List uF) (x:uF) (n:Int) (m:List (Int × Value)),Vd (xs ++ [x]) n m=if x.op=20 then VP (Vd xs n m) x.l (.int .i64 (n + xs.length)) else Vd xs n m
 | [],x,n,m=>by simp [Vd]
 | y :: xs,x,n,m=>by
   show Vd (xs ++ [x]) (n + 1) _=_
   rw [nJ xs]
   show _=if x.op=20 then VP (Vd xs (n + 1) _) x.l (.int .i64 (n + ((xs.length + 1:Nat):Int))) else Vd xs (n + 1) _
   rw [show n + 1 + (xs.length:Int)=n + ((xs.length + 1:Nat):Int) by omega]
def tA (k:Int):Bool:=decide (k=IntKind.wrap .i64 (IntKind.wrap .i32 k))
def EZ (op:Int):Bool:=decide (op=1\/op=3\/op=5\/op=7\/op=10\/op=2\/op=6\/op=8\/op=9\/op=11\/op=12\/op=17\/op=4\/op=15\/op=16)
def dZ (op:Int):Bool:=decide (op=1\/op=3\/op=5\/op=7\/op=10\/op=4\/op=15\/op=14)
def Q9 (op:Int):Bool:=decide (op=1\/op=3\/op=5\/op=7\/op=10\/op=2\/op=6\/op=8\/op=9\/op=11\/op=12\/op=17)
def qC (op:Int):Bool:=decide (op=3\/op=4\/op=5\/op=1)
def WM (i:uF):Bool := !(EZ i.op && (decide (i.r < 0) || (decide (16<=i.r) || (Q9 i.op && decide (i.r=4))))) && (!dZ i.op || (decide (0<=i.m) && (decide (i.m < 16) && (!decide (i.m=4) || qC i.op))))
def W8 (n:Int):Bool:=decide (21<=n) && decide (n<=26)
def JQ (s:Int):Bool:=decide (s=11\/s=12\/s=13\/s=16\/s=17\/s=18)
def xH (gl:List Int) (i:uF):Bool :=
 if i.op=3\/i.op=4 then decide (i.sub=1\/i.sub=4\/i.sub=8) && tA i.k
 else if i.op=5\/i.op=16 then tA i.k
 else if i.op=6 then decide (0<=i.sub) && (decide (i.sub < gl.length) && (decide (0<=i.k) && decide (i.k<=gl.getD i.sub.toNat 0)))
 else if i.op=7 then JQ i.sub
 else if i.op=8 then JQ i.sub && tA i.k
 else if i.op=9 then decide (i.sub=1\/i.sub=2)
 else if i.op=10 then decide (i.sub=3\/i.sub=4)
 else if i.op=11 then decide (i.sub=19\/i.sub=20) && (decide (0<=i.k) && decide (i.k<=63))
 else if i.op=12 then decide (i.sub=19\/i.sub=20)
 else if i.op=17\/i.op=19 then W8 i.cc
 else if i.op=20 then decide (0<=i.l) && decide (i.l<=10000000)
 else if i.op=23\/i.op=24 then decide (0<=i.k) && decide (i.k<=65536)
 else true
def UR (gl:List Int) (i:uF):Bool:=decide (1<=i.op) && (decide (i.op<=26) && (WM i && xH gl i))
def hasB (m:List (Int × Value)) (l:Int):Bool:=match J7 m l with
 | some (.bool b)=>b
 | _=>false
def Z1 (gl:List Int):List uF->List (Int × Value)->Bool->Option (List (Int × Value) × Bool)
 | [],m,some?=>some (m,some?)
 | x :: xs,m,some?=>if UR gl x=false then none else if x.op=20 then (if hasB m x.l=true then none else Z1 gl xs (VP m x.l (.bool true)) some?) else Z1 gl xs m true
def UQ (n:Nat) (m:List (Int × Value)) (x:uF):Bool := !(decide (x.op=18\/x.op=19) && !hasB m x.l) && !(decide (x.op=21) && (decide (x.sub < 0) || decide ((n:Int)<=x.sub)))
def Ht (n:Nat) (code:List uF):Option (List (Int × Value) × Bool)->Bool
 | none=>false
 | some r=>code.all (UQ n r.1) && r.2
def BP (p:Pg) (f:Fn):Bool := !decide (100000 < (f.code.length:Int)) && Ht p.funcs.length f.code (Z1 p.globals f.code [] false)
def qY (p:Pg):Bool := !decide (p.main < 0) && (!decide ((p.funcs.length:Int)<=p.main) && (!decide ((100:Int) < p.funcs.length) && (!decide ((200:Int) < p.globals.length) && (!decide (p.params < 0) && !decide (6 < p.params)))))
def dL (p:Pg):Bool:=qY p && (p.globals.all (fun n => !decide (n < 0) && !decide (65536 < n)) && p.funcs.all (BP p))
open Go.Rtl (zE zW Old yS xq)
theorem qe {u v w:Value} {h:za} {R:Value->za->Prop} (ha:ym u=false) (hb:ym v=false) (hc:ym w=false):rv [u,v,w] h R=R (.tuple #[u,v,w]) h:=by
 apply propext;simp only [rv,yN,ha,hb,hc,SK,jT,aab]
theorem El (a b c:Bool):YW (.tuple #[.bool a,.bool b,.bool c]) 0=some (.bool a):=rfl
theorem Em (a b c:Bool):YW (.tuple #[.bool a,.bool b,.bool c]) 1=some (.bool b):=rfl
theorem En (a b c:Bool):YW (.tuple #[.bool a,.bool b,.bool c]) 2=some (.bool c):=rfl
theorem Ur (k:Int) (h:za):vC Tryz.prog 75 [.int .i64 k] h (.bool (tA k)):=by
 apply yS
 apply DY
 unfold AZ tA
 by_cases hk:k=IntKind.wrap .i64 (IntKind.wrap .i32 k)
 ·simp -implicitDefEqProofs only [EE,Z4,eJ]
  simp [xq]
 ·simp -implicitDefEqProofs only [EE,Z4,eJ]
  simp [xq]
theorem IM (n:Int) (h:za):DC Tryz.prog 100 [.int .i64 n] h (fun v h1=>(∃ a,v = .tuple #[.int .i64 a,.bool (W8 n)])/\h1=h):=by
 apply DL
 unfold AE
 by_cases h21:n=21
 ·subst h21;simp -implicitDefEqProofs only [EE,↓BK,Xt];exact ⟨_,rfl⟩
 by_cases h22:n=22
 ·subst h22;simp -implicitDefEqProofs only [EE,↓BK,Int.reduceEq,Wp,Xt];exact ⟨_,rfl⟩
 by_cases h23:n=23
 ·subst h23;simp -implicitDefEqProofs only [EE,↓BK,Int.reduceEq,Vx,Wp,Xt];exact ⟨_,rfl⟩
 by_cases h24:n=24
 ·subst h24;simp -implicitDefEqProofs only [EE,↓BK,Int.reduceEq,Jy,U2,Vx,Wp,Xt];exact ⟨_,rfl⟩
 by_cases h25:n=25
 ·subst h25;simp -implicitDefEqProofs only [EE,↓BK,Int.reduceEq,fe,Jy,U2,Vx,Wp,Xt];exact ⟨_,rfl⟩
 by_cases h26:n=26
 ·subst h26;simp -implicitDefEqProofs only [EE,↓BK,Int.reduceEq,U2,Vx,Wp,Xt];exact ⟨_,rfl⟩
 simp -implicitDefEqProofs only [EE,↓BK,fe,Jy,U2,Vx,Wp,Xt,h21,h22,h23,h24,h25,h26]
 have e:W8 n=false:=by unfold W8;simp;omega
 rw [e]
 exact ⟨_,rfl⟩
theorem gL (n:Int) (h:za):vC Tryz.prog 77 [.int .i64 n] h (.bool (W8 n)):=by
 apply yS
 apply ld
 unfold KT
 refine z7 (by kernel_rfl) rfl (IM n _) ?_
 rintro v h1 ⟨⟨a,rfl⟩,rfl⟩
 simp -implicitDefEqProofs only [EE]
 rfl
theorem sF (n:Int) (h:za):vC Tryz.prog 76 [.int .i64 n] h (.bool (JQ n)):=by
 apply yS
 apply FU
 unfold FR
 by_cases h11:n=11
 ·subst h11;simp -implicitDefEqProofs only [EE,nth,↓BK,WW];rfl
 by_cases h12:n=12
 ·subst h12;simp -implicitDefEqProofs only [EE,nth,↓BK,Int.reduceEq,V3,WW];rfl
 by_cases h13:n=13
 ·subst h13;simp -implicitDefEqProofs only [EE,nth,↓BK,Int.reduceEq,QJ,V3,WW];rfl
 by_cases h16:n=16
 ·subst h16;simp -implicitDefEqProofs only [EE,nth,↓BK,Int.reduceEq,JD,QJ,V3,WW];rfl
 by_cases h17:n=17
 ·subst h17;simp -implicitDefEqProofs only [EE,nth,↓BK,Int.reduceEq,ey,JD,QJ,V3,WW];rfl
 by_cases h18:n=18
 ·subst h18;simp -implicitDefEqProofs only [EE,nth,↓BK,Int.reduceEq,ey,JD,QJ,V3,WW];rfl
 simp -implicitDefEqProofs only [EE,nth,↓BK,ey,JD,QJ,V3,WW,h11,h12,h13,h16,h17,h18]
 have e:JQ n=false:=by unfold JQ;simp;omega
 rw [e];rfl
theorem Lc (x:uF) (h:za):vC Tryz.prog 99 [x.val] h (.tuple #[.bool (EZ x.op),.bool (dZ x.op),.bool (Q9 x.op)]):=by
 apply jd rfl
 apply Be
 unfold ow
 obtain ⟨op,r,m,sub,cc,l,k⟩:=x
 by_cases h1:op=1
 ·subst h1;simp -implicitDefEqProofs only [EE,nth,↓nw,Value.cells,↓BK,zw,zi,zg,vn,vo,qe];rfl
 by_cases h3:op=3
 ·subst h3;simp -implicitDefEqProofs only [EE,nth,↓nw,Value.cells,↓BK,Int.reduceEq,zw,zi,zg,ur,vn,vo,qe];rfl
 by_cases h5:op=5
 ·subst h5;simp -implicitDefEqProofs only [EE,nth,↓nw,Value.cells,↓BK,Int.reduceEq,zw,zi,zg,uO,ur,vn,vo,qe];rfl
 by_cases h7:op=7
 ·subst h7;simp -implicitDefEqProofs only [EE,nth,↓nw,Value.cells,↓BK,Int.reduceEq,zw,zi,zg,uX,uO,ur,vn,vo,qe];rfl
 by_cases h10:op=10
 ·subst h10;simp -implicitDefEqProofs only [EE,nth,↓nw,Value.cells,↓BK,Int.reduceEq,zw,zi,zg,uX,uO,ur,vn,vo,qe];rfl
 by_cases h2:op=2
 ·subst h2;simp -implicitDefEqProofs only [EE,nth,↓nw,Value.cells,↓BK,Int.reduceEq,zw,zi,zg,uX,uO,ur,uY,uZ,vn,vo,qe];rfl
 by_cases h6:op=6
 ·subst h6;simp -implicitDefEqProofs only [EE,nth,↓nw,Value.cells,↓BK,Int.reduceEq,zw,zi,zg,uX,uO,ur,qZ,uY,uZ,vn,vo,qe];rfl
 by_cases h8:op=8
 ·subst h8;simp -implicitDefEqProofs only [EE,nth,↓nw,Value.cells,↓BK,Int.reduceEq,zw,zi,zg,uX,uO,ur,jg,qZ,uY,uZ,vn,vo,qe];rfl
 by_cases h9:op=9
 ·subst h9;simp -implicitDefEqProofs only [EE,nth,↓nw,Value.cells,↓BK,Int.reduceEq,zw,zi,zg,uX,uO,ur,j2,jg,qZ,uY,uZ,vn,vo,qe];rfl
 by_cases h11:op=11
 ·subst h11;simp -implicitDefEqProofs only [EE,nth,↓nw,Value.cells,↓BK,Int.reduceEq,zw,zi,zg,uX,uO,ur,ZF,j2,jg,qZ,uY,uZ,vn,vo,qe];rfl
 by_cases h12:op=12
 ·subst h12;simp -implicitDefEqProofs only [EE,nth,↓nw,Value.cells,↓BK,Int.reduceEq,zw,zi,zg,uX,uO,ur,Yt,ZF,j2,jg,qZ,uY,uZ,vn,vo,qe];rfl
 by_cases h17:op=17
 ·subst h17;simp -implicitDefEqProofs only [EE,nth,↓nw,Value.cells,↓BK,Int.reduceEq,zw,zi,zg,uX,uO,ur,Yt,ZF,j2,jg,qZ,uY,uZ,vn,vo,qe];rfl
 by_cases h4:op=4
 ·subst h4;simp -implicitDefEqProofs only [EE,nth,↓nw,Value.cells,↓BK,Int.reduceEq,zw,zi,zg,uX,uO,ur,Yt,ZF,j2,jg,qZ,Y5,Y6,uY,uZ,vn,vo,qe];rfl
 by_cases h15:op=15
 ·subst h15;simp -implicitDefEqProofs only [EE,nth,↓nw,Value.cells,↓BK,Int.reduceEq,zw,zi,zg,uX,uO,ur,Yt,ZF,j2,jg,qZ,Y5,Y6,uY,uZ,vn,vo,qe];rfl
 by_cases h16:op=16
 ·subst h16;simp -implicitDefEqProofs only [EE,nth,↓nw,Value.cells,↓BK,Int.reduceEq,zw,zi,zg,uX,uO,ur,Yt,ZF,j2,jg,qZ,Ub,Y5,Y6,uY,uZ,vn,vo,qe];rfl
 by_cases h14:op=14
 ·subst h14;simp -implicitDefEqProofs only [EE,nth,↓nw,Value.cells,↓BK,Int.reduceEq,zw,zi,zg,uX,uO,ur,Yt,ZF,j2,jg,qZ,bO,Ub,Y5,Y6,uY,uZ,vn,vo,qe];rfl
 simp -implicitDefEqProofs only [EE,nth,↓nw,Value.cells,↓BK,zw,zi,zg,uX,uO,ur,Yt,ZF,j2,jg,qZ,bO,Ub,Y5,Y6,uY,uZ,vn,vo,qe,h1,h3,h5,h7,h10,h2,h6,h8,h9,h11,h12,h17,h4,h15,h16,h14]
 have e1:EZ op=false:=by unfold EZ;simp;omega
 have e2:dZ op=false:=by unfold dZ;simp;omega
 have e3:Q9 op=false:=by unfold Q9;simp;omega
 rw [e1,e2,e3];rfl
theorem Rj {x:uF} {H:za} {b1:Nat} {B:Bool} {vs:List Value} (g:H.get b1=some (.cells x.row 50)) (hB:B=(decide (0<=x.m) && (decide (x.m < 16) && (!decide (x.m=4) || qC x.op)))):yk (.pointer (some ⟨b1,0,none⟩)) (xq B) vs H:=by
 obtain ⟨op,r,m,sub,cc,l,k⟩:=x
 simp only at hB g
 by_cases o3:op=3
 ·subst o3
  by_cases m0:0<=m
  ·by_cases m1:m < 16
   ·by_cases m4:m=4
    ·simp -implicitDefEqProofs only [EE,Int.reduceLT,Int.reduceLE,zw,zi,zg,xJ,xc,xe,xf,xg,xh,xi,xj,xk,xl,yG,yk,g,m4]
     rw [hB];simp [xq,m4,qC]
    ·simp -implicitDefEqProofs only [EE,zw,zi,zg,xJ,xc,xe,xf,xg,xh,xi,xj,xk,xl,yG,yk,g,m0,m1,m4]
     rw [hB];simp [xq,m0,m1,m4,qC]
   ·simp -implicitDefEqProofs only [EE,zw,zi,zg,xJ,xc,xe,xf,xg,xh,xi,xj,xk,xl,yG,yk,g,m0,m1]
    rw [hB];simp [xq,m0,m1,qC]
  ·simp -implicitDefEqProofs only [EE,zw,zi,zg,xJ,xc,xe,xf,xg,xh,xi,xj,xk,xl,yG,yk,g,m0]
   rw [hB];simp [xq,m0,qC]
 by_cases o4:op=4
 ·subst o4
  by_cases m0:0<=m
  ·by_cases m1:m < 16
   ·by_cases m4:m=4
    ·simp -implicitDefEqProofs only [EE,Int.reduceEq,Int.reduceLT,Int.reduceLE,zw,zi,zg,xJ,xc,xe,xf,xg,xh,xi,xj,xk,xl,yG,yk,g,m4]
     rw [hB];simp [xq,m4,qC]
    ·simp -implicitDefEqProofs only [EE,Int.reduceEq,zw,zi,zg,xJ,xc,xe,xf,xg,xh,xi,xj,xk,xl,yG,yk,g,m0,m1,m4]
     rw [hB];simp [xq,m0,m1,m4,qC]
   ·simp -implicitDefEqProofs only [EE,Int.reduceEq,zw,zi,zg,xJ,xc,xe,xf,xg,xh,xi,xj,xk,xl,yG,yk,g,m0,m1]
    rw [hB];simp [xq,m0,m1,qC]
  ·simp -implicitDefEqProofs only [EE,Int.reduceEq,zw,zi,zg,xJ,xc,xe,xf,xg,xh,xi,xj,xk,xl,yG,yk,g,m0]
   rw [hB];simp [xq,m0,qC]
 by_cases o5:op=5
 ·subst o5
  by_cases m0:0<=m
  ·by_cases m1:m < 16
   ·by_cases m4:m=4
    ·simp -implicitDefEqProofs only [EE,Int.reduceEq,Int.reduceLT,Int.reduceLE,zw,zi,zg,xJ,xc,xe,xf,xg,xh,xi,xj,xk,xl,yG,yk,g,m4]
     rw [hB];simp [xq,m4,qC]
    ·simp -implicitDefEqProofs only [EE,Int.reduceEq,zw,zi,zg,xJ,xc,xe,xf,xg,xh,xi,xj,xk,xl,yG,yk,g,m0,m1,m4]
     rw [hB];simp [xq,m0,m1,m4,qC]
   ·simp -implicitDefEqProofs only [EE,Int.reduceEq,zw,zi,zg,xJ,xc,xe,xf,xg,xh,xi,xj,xk,xl,yG,yk,g,m0,m1]
    rw [hB];simp [xq,m0,m1,qC]
  ·simp -implicitDefEqProofs only [EE,Int.reduceEq,zw,zi,zg,xJ,xc,xe,xf,xg,xh,xi,xj,xk,xl,yG,yk,g,m0]
   rw [hB];simp [xq,m0,qC]
 by_cases o1:op=1
 ·subst o1
  by_cases m0:0<=m
  ·by_cases m1:m < 16
   ·by_cases m4:m=4
    ·simp -implicitDefEqProofs only [EE,Int.reduceEq,Int.reduceLT,Int.reduceLE,zw,zi,zg,xJ,xc,xe,xf,xg,xh,xi,xj,xk,xl,yG,yk,g,m4]
     rw [hB];simp [xq,m4,qC]
    ·simp -implicitDefEqProofs only [EE,Int.reduceEq,zw,zi,zg,xJ,xc,xe,xf,xg,xh,xi,xj,xk,xl,yG,yk,g,m0,m1,m4]
     rw [hB];simp [xq,m0,m1,m4,qC]
   ·simp -implicitDefEqProofs only [EE,Int.reduceEq,zw,zi,zg,xJ,xc,xe,xf,xg,xh,xi,xj,xk,xl,yG,yk,g,m0,m1]
    rw [hB];simp [xq,m0,m1,qC]
  ·simp -implicitDefEqProofs only [EE,Int.reduceEq,zw,zi,zg,xJ,xc,xe,xf,xg,xh,xi,xj,xk,xl,yG,yk,g,m0]
   rw [hB];simp [xq,m0,qC]
 have ef:qC op=false:=by unfold qC;simp [o3,o4,o5,o1]
 by_cases m0:0<=m
 ·by_cases m1:m < 16
  ·by_cases m4:m=4
   ·simp -implicitDefEqProofs only [EE,Int.reduceLT,Int.reduceLE,zw,zi,zg,xJ,xc,xe,xf,xg,xh,xi,xj,xk,xl,yG,yk,g,m4,o3,o4,o5,o1]
    rw [hB];simp [xq,m4,ef]
   ·simp -implicitDefEqProofs only [EE,zw,zi,zg,xJ,xc,xe,xf,xg,xh,xi,xj,xk,xl,yG,yk,g,m0,m1,m4,o3,o4,o5,o1]
    rw [hB];simp [xq,m0,m1,m4,ef]
  ·simp -implicitDefEqProofs only [EE,zw,zi,zg,xJ,xc,xe,xf,xg,xh,xi,xj,xk,xl,yG,yk,g,m0,m1,o3,o4,o5,o1]
   rw [hB];simp [xq,m0,m1,ef]
 ·simp -implicitDefEqProofs only [EE,zw,zi,zg,xJ,xc,xe,xf,xg,xh,xi,xj,xk,xl,yG,yk,g,m0,o3,o4,o5,o1]
  rw [hB];simp [xq,m0,ef]
theorem OP {x:uF} {H:za} {b1:Nat} {B:Bool} {bad:Bool} {t10:Bool} (g:H.get b1=some (.cells x.row 50)) (hb:(t10 && bad)=false) (hB:B=(!dZ x.op || (decide (0<=x.m) && (decide (x.m < 16) && (!decide (x.m=4) || qC x.op))))) (v:Value) (hv:t10=true->v = .bool bad) (h0:t10=false->True):u6 (.bool t10) (xq B) (.bool (dZ x.op)) (.pointer (some ⟨b1,0,none⟩)) v H:=by
 have fin:∀ vs,yk (.pointer (some ⟨b1,0,none⟩)) (xq B) vs H\/dZ x.op=false:=fun vs=>by
  cases hm:dZ x.op with
  | false=>exact .inr rfl
  | true=>exact .inl (Rj g (by rw [hB,hm];rfl))
 cases t10 with
 | false=>
   cases hm:dZ x.op with
   | false=>simp -implicitDefEqProofs only [EE,u6];rw [hB,hm];rfl
   | true=>simp -implicitDefEqProofs only [EE,nth,u6];rcases fin [.bool false] with q | q;exact q;rw [hm] at q;cases q
 | true=>
   have hbad:bad=false:=by simpa using hb
   subst hbad
   rw [hv rfl]
   cases hm:dZ x.op with
   | false=>simp -implicitDefEqProofs only [EE,u6];rw [hB,hm];rfl
   | true=>simp -implicitDefEqProofs only [EE,nth,u6];rcases fin [.bool false] with q | q;exact q;rw [hm] at q;cases q
theorem BZ (x:uF) (h:za):vC Tryz.prog 74 [x.val] h (.bool (WM x)):=by
 apply yS
 generalize h.lock=L
 apply ll
 unfold K6
 simp -implicitDefEqProofs only [EE,↓nw,Value.cells,Sf,Nat.reduceAdd,ye,vS]
 refine zh (by kernel_rfl) rfl (Lc x _) ?_
 have g:(L.push (.cells x.row 50)).get L.next=some (.cells x.row 50):=yd
 generalize L.push (.cells x.row 50)=H at g ⊢
 obtain ⟨op,r,m,sub,cc,l,k⟩:=x
 simp only at g ⊢
 cases hr:EZ op with
 | false=>
   have hB:WM ⟨op,r,m,sub,cc,l,k⟩=(!dZ op || (decide (0<=m) && (decide (m < 16) && (!decide (m=4) || qC op)))):=by unfold WM;simp only [hr,Bool.false_and,S9,TU]
   simp -implicitDefEqProofs only [EE,kQ,kR,kS,kU,kV,kW,kX,kY,El,Em,En]
   exact OP (x:=⟨op,r,m,sub,cc,l,k⟩) (t10:=false) (bad:=false) g rfl hB _ (fun q=>by cases q) (fun _=>trivial)
 | true=>
   have bad:∀ {v},v = .bool true->WM ⟨op,r,m,sub,cc,l,k⟩=false->u6 (.bool true) (xq (WM ⟨op,r,m,sub,cc,l,k⟩)) (.bool (dZ op)) (.pointer (some ⟨L.next,0,none⟩)) v H:=by
    rintro v rfl hf
    rw [hf]
    simp -implicitDefEqProofs only [EE,u6]
    rfl
   have good:∀ {v},v = .bool false->(decide (r < 0) || (decide (16<=r) || (Q9 op && decide (r=4))))=false->u6 (.bool true) (xq (WM ⟨op,r,m,sub,cc,l,k⟩)) (.bool (dZ op)) (.pointer (some ⟨L.next,0,none⟩)) v H:=by
    rintro v rfl hf
    have hB:WM ⟨op,r,m,sub,cc,l,k⟩=(!dZ op || (decide (0<=m) && (decide (m < 16) && (!decide (m=4) || qC op)))):=by unfold WM;simp only [hr,hf,Bool.and_false,S9,TU]
    exact OP (x:=⟨op,r,m,sub,cc,l,k⟩) (t10:=true) (bad:=false) g rfl hB _ (fun _=>rfl) (fun q=>by cases q)
   by_cases r0:r < 0
   ·simp -implicitDefEqProofs only [EE,zw,zi,wG,kQ,kR,kS,kU,kV,kW,kX,kY,g,El,Em,En,r0]
    exact bad rfl (by unfold WM;simp [hr,r0])
   by_cases r1:r ≥ 16
   ·simp -implicitDefEqProofs only [EE,zw,zi,wG,kQ,kR,kS,kU,kV,kW,kX,kY,g,El,Em,En,r0,r1]
    exact bad rfl (by have r1:16<=r:=r1;unfold WM;simp [hr,r1])
   have r1':¬ 16<=r:=r1
   cases hw:Q9 op with
   | false=>
     simp -implicitDefEqProofs only [EE,zw,zi,wG,kQ,kR,kS,kU,kV,kW,kX,kY,g,El,Em,En,r0,r1]
     exact good rfl (by simp [r0,r1',hw])
   | true=>
     by_cases r4:r=4
     ·subst r4
      simp -implicitDefEqProofs only [EE,zw,zi,wG,kQ,kR,kS,kU,kV,kW,kX,kY,g,El,Em,En,r0,r1]
      exact bad rfl (by unfold WM;simp [hr,hw])
     ·simp -implicitDefEqProofs only [EE,zw,zi,wG,kQ,kR,kS,kU,kV,kW,kX,kY,g,El,Em,En,r0,r1,r4]
      exact good rfl (by simp [r0,r1',r4])
theorem Qn {h:za} {sv:Value} {zs:List Int} (S:zE h sv zs) (r:TypeId) (h':za):zn Tryz.prog .len [22] r [sv] h'=some (.int .i64 zs.length,h'):=by
 rcases S with ⟨rfl,rfl⟩ | ⟨b,off,cp,rfl,_⟩
 ·simp only [pG,SF]
 ·simp only [pG]
theorem gD {h:za} {sv:Value} {zs:List Int} (S:zE h sv zs) {i:Nat} {z:Int} (hz:zs[i]? = some z):∃ b o c t,zA Tryz.prog 22 sv (.int .i64 i)=some (.pointer (some ⟨b,o,none⟩))/\b < h.next/\h.get b=some (.cells c t)/\c[o]? = some (.int .i64 z):=by
 have hi:i < zs.length:=by
  rcases SC i zs.length with q | q
  ·exact q
  ·rw [Sr q] at hz;cases hz
 rcases S with ⟨rfl,rfl⟩ | ⟨b,off,cp,rfl,hc⟩
 ·cases hz
 ·obtain ⟨c,t,hb,hg,hat⟩:=hc (by intro e;subst e;cases hz)
  have h0:(0:Int)<=i:=by omega
  have h1:(i:Int) < (zs.length:Int):=by omega
  exact ⟨b,off + i,c,t,by simp only [Hh,h0,h1,Sf,and_self,TN,SJ],hb,hg,hat i z hz⟩
section
variable {gl:List Int} {gv:Value} {H:za} {b:Nat} {B:Bool} {vs:List Value} {x:uF}
theorem Ra {r m sub cc l k:Int} (g:H.get b=some (.cells (uF.row ⟨3,r,m,sub,cc,l,k⟩) 50)) (S:zE H gv gl) (hB:B=xH gl ⟨3,r,m,sub,cc,l,k⟩):zo (.pointer (some ⟨b,0,none⟩)) (xq B) gv vs H:=by
 by_cases s1:sub=1
 ·subst s1
  simp -implicitDefEqProofs only [EE,nth,↓BK,zw,yQ,zi,zg,zD,zQ,ka,kg,ks,kx,kA,qy,zC,zo,g]
  refine zh (by kernel_rfl) rfl (Ur k _) ?_
  simp -implicitDefEqProofs only [EE]
  rw [hB];simp [xq,xH]
 by_cases s4:sub=4
 ·subst s4
  simp -implicitDefEqProofs only [EE,nth,↓BK,zw,yQ,zi,zg,zD,zQ,ka,kg,ks,kx,kA,qy,zC,zo,g,s1]
  refine zh (by kernel_rfl) rfl (Ur k _) ?_
  simp -implicitDefEqProofs only [EE]
  rw [hB];simp [xq,xH,s1]
 by_cases s8:sub=8
 ·subst s8
  simp -implicitDefEqProofs only [EE,nth,↓BK,zw,yQ,zi,zg,zD,zQ,ka,kg,ks,kx,kA,qy,zC,zo,g,s1,s4]
  refine zh (by kernel_rfl) rfl (Ur k _) ?_
  simp -implicitDefEqProofs only [EE]
  rw [hB];simp [xq,xH,s1,s4]
 simp -implicitDefEqProofs only [EE,nth,↓BK,zw,zi,zg,zD,ka,kg,ks,kx,kA,qy,zC,zo,g,s1,s4,s8]
 rw [hB];simp [xq,xH,s1,s4,s8]
theorem Rb {r m sub cc l k:Int} (g:H.get b=some (.cells (uF.row ⟨4,r,m,sub,cc,l,k⟩) 50)) (S:zE H gv gl) (hB:B=xH gl ⟨4,r,m,sub,cc,l,k⟩):zo (.pointer (some ⟨b,0,none⟩)) (xq B) gv vs H:=by
 by_cases s1:sub=1
 ·subst s1
  simp -implicitDefEqProofs only [EE,nth,↓BK,Int.reduceEq,zw,yQ,zi,zg,zD,zQ,ka,kg,ks,kx,kA,qy,zC,zo,g]
  refine zh (by kernel_rfl) rfl (Ur k _) ?_
  simp -implicitDefEqProofs only [EE]
  rw [hB];simp [xq,xH]
 by_cases s4:sub=4
 ·subst s4
  simp -implicitDefEqProofs only [EE,nth,↓BK,Int.reduceEq,zw,yQ,zi,zg,zD,zQ,ka,kg,ks,kx,kA,qy,zC,zo,g,s1]
  refine zh (by kernel_rfl) rfl (Ur k _) ?_
  simp -implicitDefEqProofs only [EE]
  rw [hB];simp [xq,xH,s1]
 by_cases s8:sub=8
 ·subst s8
  simp -implicitDefEqProofs only [EE,nth,↓BK,Int.reduceEq,zw,yQ,zi,zg,zD,zQ,ka,kg,ks,kx,kA,qy,zC,zo,g,s1,s4]
  refine zh (by kernel_rfl) rfl (Ur k _) ?_
  simp -implicitDefEqProofs only [EE]
  rw [hB];simp [xq,xH,s1,s4]
 simp -implicitDefEqProofs only [EE,nth,↓BK,Int.reduceEq,zw,zi,zg,zD,ka,kg,ks,kx,kA,qy,zC,zo,g,s1,s4,s8]
 rw [hB];simp [xq,xH,s1,s4,s8]
theorem Rc {r m sub cc l k:Int} (g:H.get b=some (.cells (uF.row ⟨5,r,m,sub,cc,l,k⟩) 50)) (S:zE H gv gl) (hB:B=xH gl ⟨5,r,m,sub,cc,l,k⟩):zo (.pointer (some ⟨b,0,none⟩)) (xq B) gv vs H:=by
 simp -implicitDefEqProofs only [EE,nth,↓BK,Int.reduceEq,zw,yQ,zi,zg,zQ,V1,zM,zC,zo,g]
 refine zh (by kernel_rfl) rfl (Ur k _) ?_
 simp -implicitDefEqProofs only [EE]
 rw [hB];simp [xq,xH]
theorem OJ {r m sub cc l k:Int} (g:H.get b=some (.cells (uF.row ⟨16,r,m,sub,cc,l,k⟩) 50)) (S:zE H gv gl) (hB:B=xH gl ⟨16,r,m,sub,cc,l,k⟩):zo (.pointer (some ⟨b,0,none⟩)) (xq B) gv vs H:=by
 simp -implicitDefEqProofs only [EE,nth,↓BK,Int.reduceEq,zw,yQ,zi,zg,zQ,V1,zM,zC,zo,g]
 refine zh (by kernel_rfl) rfl (Ur k _) ?_
 simp -implicitDefEqProofs only [EE]
 rw [hB];simp [xq,xH]
theorem Re {r m sub cc l k:Int} (g:H.get b=some (.cells (uF.row ⟨6,r,m,sub,cc,l,k⟩) 50)) (S:zE H gv gl) (hB:B=xH gl ⟨6,r,m,sub,cc,l,k⟩):zo (.pointer (some ⟨b,0,none⟩)) (xq B) gv vs H:=by
 have nl:=S.YR
 have hl:=Qn S 3
 by_cases s0:0<=sub
 ·by_cases s1:sub < (gl.length:Int)
  ·by_cases k0:0<=k
   ·obtain ⟨z,hz⟩:∃ z,gl[sub.toNat]? = some z:=⟨_,Sk (by omega)⟩
    obtain ⟨bb,oo,c,t,ha,hbb,hgt,hat⟩:=gD S hz
    rw [Int.toNat_of_nonneg s0] at ha
    have hd:gl.getD sub.toNat 0=z:=by rw [SU,hz];rfl
    by_cases k1:k<=z
    ·simp -implicitDefEqProofs only [EE,nth,↓BK,Int.reduceEq,zw,yQ,zi,zg,zD,zQ,Yc,Yd,Ye,Yf,Zz,ZA,ZB,ZC,ZD,zN,zM,zC,zo,g,nl,hl,s0,s1,k0,ha,hgt,hat,k1]
     rw [hB];simp only [xH,hd];simp [xq,s0,s1,k0,k1]
    ·simp -implicitDefEqProofs only [EE,nth,↓BK,Int.reduceEq,zw,yQ,zi,zg,zD,zQ,Yc,Yd,Ye,Yf,Zz,ZA,ZB,ZC,ZD,zN,zM,zC,zo,g,nl,hl,s0,s1,k0,ha,hgt,hat,k1]
     rw [hB];simp only [xH,hd];simp [xq,s0,s1,k0,k1]
   ·simp -implicitDefEqProofs only [EE,nth,↓BK,Int.reduceEq,zw,yQ,zi,zg,zD,zQ,Yc,Yd,Ye,Yf,Zz,ZA,ZB,ZC,ZD,zN,zM,zC,zo,g,nl,hl,s0,s1,k0]
    rw [hB];simp [xq,xH,s0,s1,k0]
  ·simp -implicitDefEqProofs only [EE,nth,↓BK,Int.reduceEq,zw,zi,zg,zD,Yc,Yd,Ye,Yf,Zz,ZA,ZB,ZC,ZD,zN,zM,zC,zo,g,nl,hl,s0,s1]
   rw [hB];simp [xq,xH,s0,s1]
 ·simp -implicitDefEqProofs only [EE,nth,↓BK,Int.reduceEq,zw,zi,zg,zD,Yc,Yd,Ye,Yf,Zz,ZA,ZB,ZC,ZD,zN,zM,zC,zo,g,s0]
  rw [hB];simp [xq,xH,s0]
theorem Rf {r m sub cc l k:Int} (g:H.get b=some (.cells (uF.row ⟨7,r,m,sub,cc,l,k⟩) 50)) (S:zE H gv gl) (hB:B=xH gl ⟨7,r,m,sub,cc,l,k⟩):zo (.pointer (some ⟨b,0,none⟩)) (xq B) gv vs H:=by
 simp -implicitDefEqProofs only [EE,nth,↓BK,Int.reduceEq,zw,zi,zg,zD,Jz,zX,zN,zM,zC,zo,g]
 refine zh (by kernel_rfl) rfl (sF sub _) ?_
 simp -implicitDefEqProofs only [EE]
 rw [hB];simp [xq,xH]
theorem Rg {r m sub cc l k:Int} (g:H.get b=some (.cells (uF.row ⟨8,r,m,sub,cc,l,k⟩) 50)) (S:zE H gv gl) (hB:B=xH gl ⟨8,r,m,sub,cc,l,k⟩):zo (.pointer (some ⟨b,0,none⟩)) (xq B) gv vs H:=by
 simp -implicitDefEqProofs only [EE,nth,↓BK,Int.reduceEq,zw,zi,zg,zD,z8,zX,zN,zM,zC,zo,g]
 refine zh (by kernel_rfl) rfl (sF sub _) ?_
 cases ha:JQ sub with
 | false=>
   simp -implicitDefEqProofs only [EE,VY,VZ]
   rw [hB];simp [xq,xH,ha]
 | true=>
   simp -implicitDefEqProofs only [EE,zw,yQ,zQ,VY,VZ,g]
   refine zh (by kernel_rfl) rfl (Ur k _) ?_
   simp -implicitDefEqProofs only [EE]
   rw [hB];simp [xq,xH,ha]
theorem Rh {r m sub cc l k:Int} (g:H.get b=some (.cells (uF.row ⟨9,r,m,sub,cc,l,k⟩) 50)) (S:zE H gv gl) (hB:B=xH gl ⟨9,r,m,sub,cc,l,k⟩):zo (.pointer (some ⟨b,0,none⟩)) (xq B) gv vs H:=by
 by_cases s1:sub=1
 ·subst s1
  simp -implicitDefEqProofs only [EE,nth,↓BK,Int.reduceEq,zw,zi,zg,zD,X2,X9,yb,z8,zX,zN,zM,zC,zo,g]
  rw [hB];simp [xq,xH]
 by_cases s2:sub=2
 ·subst s2
  simp -implicitDefEqProofs only [EE,nth,↓BK,Int.reduceEq,zw,zi,zg,zD,X2,X9,yb,z8,zX,zN,zM,zC,zo,g,s1]
  rw [hB];simp [xq,xH,s1]
 simp -implicitDefEqProofs only [EE,nth,↓BK,Int.reduceEq,zw,zi,zg,zD,X2,X9,yb,z8,zX,zN,zM,zC,zo,g,s1,s2]
 rw [hB];simp [xq,xH,s1,s2]
theorem OG {r m sub cc l k:Int} (g:H.get b=some (.cells (uF.row ⟨10,r,m,sub,cc,l,k⟩) 50)) (S:zE H gv gl) (hB:B=xH gl ⟨10,r,m,sub,cc,l,k⟩):zo (.pointer (some ⟨b,0,none⟩)) (xq B) gv vs H:=by
 by_cases s3:sub=3
 ·subst s3
  simp -implicitDefEqProofs only [EE,nth,↓BK,Int.reduceEq,zw,zi,zg,zD,X3,X8,yi,yb,z8,zX,zN,zM,zC,zo,g]
  rw [hB];simp [xq,xH]
 by_cases s4:sub=4
 ·subst s4
  simp -implicitDefEqProofs only [EE,nth,↓BK,Int.reduceEq,zw,zi,zg,zD,X3,X8,yi,yb,z8,zX,zN,zM,zC,zo,g,s3]
  rw [hB];simp [xq,xH,s3]
 simp -implicitDefEqProofs only [EE,nth,↓BK,Int.reduceEq,zw,zi,zg,zD,X3,X8,yi,yb,z8,zX,zN,zM,zC,zo,g,s3,s4]
 rw [hB];simp [xq,xH,s3,s4]
theorem OI {r m sub cc l k:Int} (g:H.get b=some (.cells (uF.row ⟨12,r,m,sub,cc,l,k⟩) 50)) (S:zE H gv gl) (hB:B=xH gl ⟨12,r,m,sub,cc,l,k⟩):zo (.pointer (some ⟨b,0,none⟩)) (xq B) gv vs H:=by
 by_cases s19:sub=19
 ·subst s19
  simp -implicitDefEqProofs only [EE,nth,↓BK,Int.reduceEq,zw,zi,zg,zD,X4,X7,w4,yI,yi,yb,z8,zX,zN,zM,zC,zo,g]
  rw [hB];simp [xq,xH]
 by_cases s20:sub=20
 ·subst s20
  simp -implicitDefEqProofs only [EE,nth,↓BK,Int.reduceEq,zw,zi,zg,zD,X4,X7,w4,yI,yi,yb,z8,zX,zN,zM,zC,zo,g,s19]
  rw [hB];simp [xq,xH,s19]
 simp -implicitDefEqProofs only [EE,nth,↓BK,Int.reduceEq,zw,zi,zg,zD,X4,X7,w4,yI,yi,yb,z8,zX,zN,zM,zC,zo,g,s19,s20]
 rw [hB];simp [xq,xH,s19,s20]
theorem OH {r m sub cc l k:Int} (g:H.get b=some (.cells (uF.row ⟨11,r,m,sub,cc,l,k⟩) 50)) (S:zE H gv gl) (hB:B=xH gl ⟨11,r,m,sub,cc,l,k⟩):zo (.pointer (some ⟨b,0,none⟩)) (xq B) gv vs H:=by
 by_cases s19:sub=19
 ·subst s19
  by_cases k0:0<=k
  ·by_cases k1:k<=63
   ·simp -implicitDefEqProofs only [EE,nth,↓BK,Int.reduceEq,zw,yQ,zi,zg,zD,zQ,kd,ke,kh,ki,km,ku,yI,yi,yb,z8,zX,zN,zM,zC,zo,g,k0,k1]
    rw [hB];simp [xq,xH,k0,k1]
   ·simp -implicitDefEqProofs only [EE,nth,↓BK,Int.reduceEq,zw,yQ,zi,zg,zD,zQ,kd,ke,kh,ki,km,ku,yI,yi,yb,z8,zX,zN,zM,zC,zo,g,k0,k1]
    rw [hB];simp [xq,xH,k0,k1]
  ·simp -implicitDefEqProofs only [EE,nth,↓BK,Int.reduceEq,zw,yQ,zi,zg,zD,zQ,kd,ke,kh,ki,km,ku,yI,yi,yb,z8,zX,zN,zM,zC,zo,g,k0]
   rw [hB];simp [xq,xH,k0]
 by_cases s20:sub=20
 ·subst s20
  by_cases k0:0<=k
  ·by_cases k1:k<=63
   ·simp -implicitDefEqProofs only [EE,nth,↓BK,Int.reduceEq,zw,yQ,zi,zg,zD,zQ,kd,ke,kh,ki,km,ku,yI,yi,yb,z8,zX,zN,zM,zC,zo,g,s19,k0,k1]
    rw [hB];simp [xq,xH,s19,k0,k1]
   ·simp -implicitDefEqProofs only [EE,nth,↓BK,Int.reduceEq,zw,yQ,zi,zg,zD,zQ,kd,ke,kh,ki,km,ku,yI,yi,yb,z8,zX,zN,zM,zC,zo,g,s19,k0,k1]
    rw [hB];simp [xq,xH,s19,k0,k1]
  ·simp -implicitDefEqProofs only [EE,nth,↓BK,Int.reduceEq,zw,yQ,zi,zg,zD,zQ,kd,ke,kh,ki,km,ku,yI,yi,yb,z8,zX,zN,zM,zC,zo,g,s19,k0]
   rw [hB];simp [xq,xH,s19,k0]
 simp -implicitDefEqProofs only [EE,nth,↓BK,Int.reduceEq,zw,zi,zg,zD,kd,ke,kh,ki,km,ku,yI,yi,yb,z8,zX,zN,zM,zC,zo,g,s19,s20]
 rw [hB];simp [xq,xH,s19,s20]
theorem OK {r m sub cc l k:Int} (g:H.get b=some (.cells (uF.row ⟨17,r,m,sub,cc,l,k⟩) 50)) (S:zE H gv gl) (hB:B=xH gl ⟨17,r,m,sub,cc,l,k⟩):zo (.pointer (some ⟨b,0,none⟩)) (xq B) gv vs H:=by
 simp -implicitDefEqProofs only [EE,nth,↓BK,Int.reduceEq,zw,zi,zg,Up,V0,vI,w4,yI,yi,yb,z8,zX,zN,zM,zC,zo,g]
 refine zh (by kernel_rfl) rfl (gL cc _) ?_
 simp -implicitDefEqProofs only [EE]
 rw [hB];simp [xq,xH]
theorem OL {r m sub cc l k:Int} (g:H.get b=some (.cells (uF.row ⟨19,r,m,sub,cc,l,k⟩) 50)) (S:zE H gv gl) (hB:B=xH gl ⟨19,r,m,sub,cc,l,k⟩):zo (.pointer (some ⟨b,0,none⟩)) (xq B) gv vs H:=by
 simp -implicitDefEqProofs only [EE,nth,↓BK,Int.reduceEq,zw,zi,zg,Up,V0,vI,w4,yI,yi,yb,z8,zX,zN,zM,zC,zo,g]
 refine zh (by kernel_rfl) rfl (gL cc _) ?_
 simp -implicitDefEqProofs only [EE]
 rw [hB];simp [xq,xH]
theorem OM {r m sub cc l k:Int} (g:H.get b=some (.cells (uF.row ⟨20,r,m,sub,cc,l,k⟩) 50)) (S:zE H gv gl) (hB:B=xH gl ⟨20,r,m,sub,cc,l,k⟩):zo (.pointer (some ⟨b,0,none⟩)) (xq B) gv vs H:=by
 by_cases k0:0<=l
 ·by_cases k1:l<=10000000
  ·simp -implicitDefEqProofs only [EE,nth,↓BK,Int.reduceEq,zw,zi,zg,vB,X5,X6,uG,vI,w4,yI,yi,yb,z8,zX,zN,zM,zC,zo,g,k0,k1]
   rw [hB];simp [xq,xH,k0,k1]
  ·simp -implicitDefEqProofs only [EE,nth,↓BK,Int.reduceEq,zw,zi,zg,vB,X5,X6,uG,vI,w4,yI,yi,yb,z8,zX,zN,zM,zC,zo,g,k0,k1]
   rw [hB];simp [xq,xH,k0,k1]
 ·simp -implicitDefEqProofs only [EE,nth,↓BK,Int.reduceEq,zw,zi,zg,vB,X5,X6,uG,vI,w4,yI,yi,yb,z8,zX,zN,zM,zC,zo,g,k0]
  rw [hB];simp [xq,xH,k0]
theorem ON {r m sub cc l k:Int} (g:H.get b=some (.cells (uF.row ⟨23,r,m,sub,cc,l,k⟩) 50)) (S:zE H gv gl) (hB:B=xH gl ⟨23,r,m,sub,cc,l,k⟩):zo (.pointer (some ⟨b,0,none⟩)) (xq B) gv vs H:=by
 by_cases k0:0<=k
 ·by_cases k1:k<=65536
  ·simp -implicitDefEqProofs only [EE,nth,↓BK,Int.reduceEq,zw,yQ,zi,zg,zQ,jH,jI,ko,uG,vI,w4,yI,yi,yb,z8,zX,zN,zM,zC,zo,g,k0,k1]
   rw [hB];simp [xq,xH,k0,k1]
  ·simp -implicitDefEqProofs only [EE,nth,↓BK,Int.reduceEq,zw,yQ,zi,zg,zQ,jH,jI,ko,uG,vI,w4,yI,yi,yb,z8,zX,zN,zM,zC,zo,g,k0,k1]
   rw [hB];simp [xq,xH,k0,k1]
 ·simp -implicitDefEqProofs only [EE,nth,↓BK,Int.reduceEq,zw,yQ,zi,zg,zQ,jH,jI,ko,uG,vI,w4,yI,yi,yb,z8,zX,zN,zM,zC,zo,g,k0]
  rw [hB];simp [xq,xH,k0]
theorem OO {r m sub cc l k:Int} (g:H.get b=some (.cells (uF.row ⟨24,r,m,sub,cc,l,k⟩) 50)) (S:zE H gv gl) (hB:B=xH gl ⟨24,r,m,sub,cc,l,k⟩):zo (.pointer (some ⟨b,0,none⟩)) (xq B) gv vs H:=by
 by_cases k0:0<=k
 ·by_cases k1:k<=65536
  ·simp -implicitDefEqProofs only [EE,nth,↓BK,Int.reduceEq,zw,yQ,zi,zg,zQ,jH,jI,ko,uG,vI,w4,yI,yi,yb,z8,zX,zN,zM,zC,zo,g,k0,k1]
   rw [hB];simp [xq,xH,k0,k1]
  ·simp -implicitDefEqProofs only [EE,nth,↓BK,Int.reduceEq,zw,yQ,zi,zg,zQ,jH,jI,ko,uG,vI,w4,yI,yi,yb,z8,zX,zN,zM,zC,zo,g,k0,k1]
   rw [hB];simp [xq,xH,k0,k1]
 ·simp -implicitDefEqProofs only [EE,nth,↓BK,Int.reduceEq,zw,yQ,zi,zg,zQ,jH,jI,ko,uG,vI,w4,yI,yi,yb,z8,zX,zN,zM,zC,zo,g,k0]
  rw [hB];simp [xq,xH,k0]
theorem M4 (g:H.get b=some (.cells x.row 50)) (S:zE H gv gl) (hB:B=xH gl x):zo (.pointer (some ⟨b,0,none⟩)) (xq B) gv vs H:=by
 obtain ⟨op,r,m,sub,cc,l,k⟩:=x
 by_cases o3:op=3
 ·subst o3;exact Ra g S hB
 by_cases o4:op=4
 ·subst o4;exact Rb g S hB
 by_cases o5:op=5
 ·subst o5;exact Rc g S hB
 by_cases o16:op=16
 ·subst o16;exact OJ g S hB
 by_cases o6:op=6
 ·subst o6;exact Re g S hB
 by_cases o7:op=7
 ·subst o7;exact Rf g S hB
 by_cases o8:op=8
 ·subst o8;exact Rg g S hB
 by_cases o9:op=9
 ·subst o9;exact Rh g S hB
 by_cases o10:op=10
 ·subst o10;exact OG g S hB
 by_cases o11:op=11
 ·subst o11;exact OH g S hB
 by_cases o12:op=12
 ·subst o12;exact OI g S hB
 by_cases o17:op=17
 ·subst o17;exact OK g S hB
 by_cases o19:op=19
 ·subst o19;exact OL g S hB
 by_cases o20:op=20
 ·subst o20;exact OM g S hB
 by_cases o23:op=23
 ·subst o23;exact ON g S hB
 by_cases o24:op=24
 ·subst o24;exact OO g S hB
 simp -implicitDefEqProofs only [EE,nth,↓BK,zw,zi,zg,ko,uG,vI,w4,yI,yi,yb,z8,zX,zN,zM,zC,zo,g,o3,o4,o5,o16,o6,o7,o8,o9,o10,o11,o12,o17,o19,o20,o23,o24]
 rw [hB];simp [xq,xH,o3,o4,o5,o16,o6,o7,o8,o9,o10,o11,o12,o17,o19,o20,o23,o24]
theorem EK (S:zE H gv gl):vC Tryz.prog 56 [x.val,gv] H (.bool (UR gl x)):=by
 apply yS
 replace S:=S.lock
 generalize H.lock=L at S
 apply oa
 unfold aW
 have nl:=S.YR
 simp -implicitDefEqProofs only [EE,↓nw,Value.cells,zw,zi,zg]
 have S2:=S.old (Old.push L (.cells x.row 50))
 have g:(L.push (.cells x.row 50)).get L.next=some (.cells x.row 50):=yd
 generalize L.push (.cells x.row 50)=G at g S2 ⊢
 obtain ⟨op,r,m,sub,cc,l,k⟩:=x
 simp only at g ⊢
 by_cases o1:op < 1
 ·have e:UR gl ⟨op,r,m,sub,cc,l,k⟩=false:=by have q:¬ 1<=op:=by omega
                                             unfold UR;simp [q]
  simp -implicitDefEqProofs only [EE,YD,Wa,Wb,o1]
  rw [e];rfl
 by_cases o2:op > 26
 ·have e:UR gl ⟨op,r,m,sub,cc,l,k⟩=false:=by have q:¬ op<=26:=by omega
                                             unfold UR;simp [q]
  simp -implicitDefEqProofs only [EE,zw,zi,zg,YD,Wa,Wb,g,o1,o2]
  rw [e];rfl
 simp -implicitDefEqProofs only [EE,Sf,Nat.reduceAdd,ye,zw,zi,vS,zg,Wa,Wb,g,o1,o2]
 refine zh (by kernel_rfl) rfl (BZ ⟨op,r,m,sub,cc,l,k⟩ G) ?_
 have e:UR gl ⟨op,r,m,sub,cc,l,k⟩=(WM ⟨op,r,m,sub,cc,l,k⟩ && xH gl ⟨op,r,m,sub,cc,l,k⟩):=by
  have q1:1<=op:=by omega
  have q2:op<=26:=by omega
  unfold UR;simp only [q1,q2,decide_true,TU]
 cases hr:WM ⟨op,r,m,sub,cc,l,k⟩ with
 | false=>
   simp -implicitDefEqProofs only [EE,YD]
   rw [e,hr];rfl
 | true=>
   simp -implicitDefEqProofs only [EE,YD]
   exact M4 (x:=⟨op,r,m,sub,cc,l,k⟩) g S2 (by rw [e,hr];rfl)
end
open Go.Rtl (inc Fq Bz ZH We Ui get_some)
section
variable {h:za} {sv:Value} {rows:List (List Value)}
theorem Wy (S:zW h sv 7 rows) {i:Nat} {r:List Value} (hr:rows[i]? = some r) (hn:r.length=7):∃ b o c t,zA Tryz.prog 45 sv (.int .i64 i)=some (.pointer (some ⟨b,o,none⟩))/\b < h.next/\h.get b=some (.cells c t)/\o + 7<=c.length/\(c.drop o).take 7=r /\ ∀ k,k < 7->c[o + k]? = r[k]?:=by
 obtain ⟨b,o,c,t,⟨off,cp,rfl,rfl⟩,hi,hb,hg,hl,ht,hk⟩:=S.spot hr hn
 have h1:0<=(i:Int)/\(i:Int) < (rows.length:Int):=by omega
 exact ⟨b,off + i * 7,c,t,by simp only [Hk,h1,SJ,and_self,Sf],hb,hg,hl,ht,hk⟩
theorem dE (S:zW h sv 2 rows) {i:Nat} {r:List Value} (hr:rows[i]? = some r) (hn:r.length=2):∃ b o c t,zA Tryz.prog 23 sv (.int .i64 i)=some (.pointer (some ⟨b,o,none⟩))/\b < h.next/\h.get b=some (.cells c t)/\o + 2<=c.length/\(c.drop o).take 2=r /\ ∀ k,k < 2->c[o + k]? = r[k]?:=by
 obtain ⟨b,o,c,t,⟨off,cp,rfl,rfl⟩,hi,hb,hg,hl,ht,hk⟩:=S.spot hr hn
 have h1:0<=(i:Int)/\(i:Int) < (rows.length:Int):=by omega
 exact ⟨b,off + i * 2,c,t,by simp only [Hi,h1,SJ,and_self,Sf],hb,hg,hl,ht,hk⟩
theorem YP {l:List uF} {n:Nat} (S:zW h sv n (l.map uF.row)) (r:TypeId) (h':za):zn Tryz.prog .len [45] r [sv] h'=some (.int .i64 l.length,h'):=by
 rcases S with ⟨rfl,e⟩ | ⟨b,off,cp,rfl,_⟩
 ·have:l = []:=by simpa using e
  subst this
  simp only [pI,SF]
 ·simp only [pI,SX]
theorem WI {l:List Fn} {n:Nat} (S:zW h sv n (l.map Fn.row)) (r:TypeId) (h':za):zn Tryz.prog .len [23] r [sv] h'=some (.int .i64 l.length,h'):=by
 rcases S with ⟨rfl,e⟩ | ⟨b,off,cp,rfl,_⟩
 ·have:l = []:=by simpa using e
  subst this
  simp only [pH,SF]
 ·simp only [pH,SX]
end
theorem PQ (h:za):(vL h).1 = .map (some h.next):=rfl
theorem R7 (h:za):(vL h).2=h.push (Qq []):=rfl
theorem RY:z9 Tryz.prog (underlying 3)=some (.int .i64):=by kernel_rfl
theorem R0:z9 Tryz.prog (underlying 122)=some (.map 3 4):=by kernel_rfl
theorem Sa:wY Tryz.prog 4=some (.bool false):=by kernel_rfl
def gF (m:List (Int × Value)):Prop := ∀ k v,J7 m k=some v->v = .bool true
theorem OW {h:za} {b:Nat} {m:List (Int × Value)} (hb:gF m) (g:h.get b=some (Qq m)) (k:Int):Z2 Tryz.prog 122 (.map (some b)) (.int .i64 k) false h=some (.bool (hasB m k)):=by
 rw [tN R0 RY Sa g k false]
 unfold hasB
 cases e:J7 m k with
 | none=>rfl
 | some v=>rw [hb k v e];rfl
theorem Et {m:List (Int × Value)} (hb:gF m) (k:Int):gF (VP m k (.bool true)):=by
 intro k' v e
 rw [hU] at e
 by_cases q:k=k'
 ·rw [Sn q] at e;exact (aaq e).symm
 ·rw [Sl q] at e;exact hb k' v e
theorem aM (gl:List Int):∀ (xs ys:List uF) (m:List (Int × Value)) (s:Bool),Z1 gl (xs ++ ys) m s=(Z1 gl xs m s).bind fun r=>Z1 gl ys r.1 r.2
 | [],ys,m,s=>rfl
 | x :: xs,ys,m,s=>by
   show (if UR gl x=false then none else if x.op=20 then (if hasB m x.l=true then none else Z1 gl (xs ++ ys) _ s) else Z1 gl (xs ++ ys) m true)=Option.bind (if UR gl x=false then none else if x.op=20 then (if hasB m x.l=true then none else Z1 gl xs _ s) else Z1 gl xs m true) _
   rw [aM gl xs,aM gl xs]
   repeat' split
   all_goals rfl
theorem UG (gl:List Int):∀ (xs:List uF) (m:List (Int × Value)) (s:Bool) {r:List (Int × Value) × Bool},gF m->Z1 gl xs m s=some r->gF r.1
 | [],m,s,r,hb,e=>by cases e;exact hb
 | x :: xs,m,s,r,hb,e=>by
   have e:(if UR gl x=false then none else if x.op=20 then (if hasB m x.l=true then none else Z1 gl xs _ s) else Z1 gl xs m true)=some r:=e
   split at e
   ·cases e
   split at e
   ·split at e
    ·cases e
    ·exact UG gl xs _ _ (Et hb _) e
   ·exact UG gl xs _ _ hb e
section
variable {h:za} {p:Pg} {f:Fn}
theorem BY (P:kG h p) (hf:f ∈ p.funcs):vC Tryz.prog 31 [p.val,f.val] h (.bool (BP p f)):=by
 apply yS
 replace P:=P.lock
 generalize h.lock=L at P
 apply YA;intro wf
 apply lh
 unfold K5
 have F:=P.fns f hf
 have s0:Sat (.of L) L []:=Sat.self wf.2
 have RP:Rd (.of L) (kG · p):=Rd.of (yV.qc L) P fun h' o=>P.old o
 have gvn:=P.globals.YR
 have fvn:=P.funcs.YR
 have cvn:=F.code.YR
 have cvc:=F.code.gJ
 have gvc:=P.globals.gJ
 have fvc:=P.funcs.gJ
 have cl:=fun H=>YP F.code 3 H
 have fl:=fun H=>WI P.funcs 3 H
 simp -implicitDefEqProofs only [EE,Value.cells]
 refine vy s0 fun b2 h2 s2 => ?_
 simp -implicitDefEqProofs only []
 refine vy s2 fun b3 h4 s4 => ?_
 have g3:=s4.get
 simp -implicitDefEqProofs only [EE,zw,ZX,u7,cvn,g3,cl]
 by_cases c1:(f.code.length:Int) > 100000
 ·simp -implicitDefEqProofs only [EE,c1]
  have:BP p f=false:=by unfold BP;simp [show (100000:Int) < f.code.length from c1]
  rw [this];rfl
 have c1':¬ (100000:Int) < f.code.length:=c1
 have hB:BP p f=Ht p.funcs.length f.code (Z1 p.globals f.code [] false):=by unfold BP;rw [decide_eq_false c1'];rfl
 simp -implicitDefEqProofs only [EE,zw,ZX,u7,Kx,c1]
 have sm:=s4.push (Qq [])
 have gm3:=(sm.p 1).get
 simp -implicitDefEqProofs only [EE,nth,↓yL,R7,gm3,cvn,cl]
 generalize hmb:h4.next=mb at sm gm3 ⊢
 generalize h4.push (Qq [])=h5 at sm gm3 ⊢
 have bad:∀ n m s,Z1 p.globals (f.code.take n) m s=none->Z1 p.globals f.code m s=none:=fun n m s e=>by
  rw [<- List.take_append_drop n f.code,aM,e];rfl
 refine Zb (fun n vs h' => ∃ (i:Nat) (m:List (Int × Value)) (more:Bool) (v0:Value),i<=f.code.length/\n=f.code.length - i/\vs = [v0,.bool more,.int .i64 (i:Nat)]/\Z1 p.globals (f.code.take i) [] false=some (m,more)/\Sat (.of L) h' [pt mb (Qq m),pt b3 (.cells f.row 47),pt b2 (.cells p.row 25)])
  f.code.length ⟨0,[],false,.bool false,Th _,rfl,rfl,rfl,sm⟩ ?_
 rintro n vs h' ⟨i,m,more,v0,hi,rfl,rfl,hscan,s⟩
 unfold JK
 by_cases hc:(i:Int) < (f.code.length:Int)
 ·obtain ⟨x,hx,hxm⟩:=get_some (l:=f.code) (k:=i) (by omega)
  have F2:=(RP.at s).fns f hf
  obtain ⟨bi,oi,ci,ti,ha,hbi,hgi,hle,htk,_⟩:=Wy F2.code (i:=i) (r:=x.row) (by rw [SI,hx];rfl) rfl
  have et:f.code.take (i + 1)=f.code.take i ++ [x]:=by rw [List.take_add_one,hx];rfl
  have hsn:=aM p.globals (f.code.take i) [x] [] false
  rw [<- et,hscan] at hsn
  have hsn:Z1 p.globals (f.code.take (i + 1)) [] false=if UR p.globals x=false then none else if x.op=20 then (if hasB m x.l=true then none else some (VP m x.l (.bool true),more)) else some (m,true):=hsn
  have no:Z1 p.globals (f.code.take (i + 1)) [] false=none->BP p f=false:=fun e=>by rw [hB,bad _ _ _ e];rfl
  simp -implicitDefEqProofs only [EE,nth,Value.cells,↓yL,Sf,ye,vS,nq,JJ,hc,ha,hgi,hle,htk]
  refine vy s fun b8 h6 s6 => ?_
  simp -implicitDefEqProofs only [EE,Nat.reduceAdd,nk]
  refine wx s6 (by simp) rfl fun h7 s7 => ?_
  have g8:=s7.get
  have g2:=(s7.p 3).get
  simp -implicitDefEqProofs only [EE,zf,Sf,Nat.reduceAdd,ye,zw,u9,vS,w5,g8,g2]
  refine zh (by kernel_rfl) (by simp only [yN,gvn,SK];rfl) (EK (x:=x) (RP.at s7).globals) ?_
  cases hI:UR p.globals x with
  | false=>
    simp -implicitDefEqProofs only [EE]
    rw [no (by rw [hsn,Sn hI])];rfl
  | true=>
    rw [Sl (by rw [hI];simp)] at hsn
    simp -implicitDefEqProofs only [EE,zf,Nat.reduceAdd,zw,zi,zg,JI,g8]
    by_cases o20:x.op=20
    ·rw [Sn o20] at hsn
     have lk:=OW (UG p.globals _ _ _ (fun k v e=>by cases e) hscan) (s7.p 1).get x.l
     simp -implicitDefEqProofs only [EE,zf,Nat.reduceAdd,zw,zi,vB,JH,g8,o20,PQ,hmb,lk]
     cases hl:hasB m x.l with
     | true=>
       simp -implicitDefEqProofs only [EE]
       rw [no (by rw [hsn,Sn hl])];rfl
     | false=>
       rw [Sl (by rw [hl];simp)] at hsn
       have up:=Ao (v := .bool true) R0 RY (s7.p 1).get (s7.p 1).wr x.l
       simp -implicitDefEqProofs only [EE,nth,zf,Nat.reduceAdd,zw,zi,vB,JG,Ua,g8,PQ,hmb,up,inc (show i < 4611686018427387904 by have:=F.pd;omega)]
       exact ⟨f.code.length - (i + 1),by omega,i + 1,_,_,_,by omega,rfl,rfl,hsn,((s7.p 1).set _).k [0,2,3]⟩
    ·rw [Sl o20] at hsn
     simp -implicitDefEqProofs only [EE,nth,Ua,o20,inc (show i < 4611686018427387904 by have:=F.pd;omega)]
     exact ⟨f.code.length - (i + 1),by omega,i + 1,_,_,_,by omega,rfl,rfl,hsn,s7.k [1,2,3]⟩
 ·have hi9:i=f.code.length:=by omega
  subst hi9
  rw [aav] at hscan
  rw [hscan] at hB
  have hB:BP p f=(f.code.all (UQ p.funcs.length m) && more):=hB
  have g3:=(s.p 1).get
  simp -implicitDefEqProofs only [EE,nth,hc]
  simp -implicitDefEqProofs only [EE,nth,↓yL,zw,ZX,u7,Kw,g3,cvn,cl]
  have hbm:=UG p.globals _ _ _ (fun k v e=>by cases e) hscan
  refine Zb (fun n vs h' => ∃ (i:Nat) (v0:Value),i<=f.code.length/\n=f.code.length - i/\vs = [v0,.int .i64 (i:Nat)]/\(∀ k,k < i->Bz f.code (UQ p.funcs.length m) k=true)/\Sat (.of L) h' [pt mb (Qq m),pt b3 (.cells f.row 47),pt b2 (.cells p.row 25)])
   f.code.length ⟨0,v0,Th _,rfl,rfl,fun k hk=>by omega,s⟩ ?_
  rintro n vs h' ⟨i,v0,hi,rfl,rfl,hall,s⟩
  unfold Kv
  by_cases hc:(i:Int) < (f.code.length:Int)
  ·obtain ⟨x,hx,hxm⟩:=get_some (l:=f.code) (k:=i) (by omega)
   have F2:=(RP.at s).fns f hf
   obtain ⟨bi,oi,ci,ti,ha,hbi,hgi,hle,htk,_⟩:=Wy F2.code (i:=i) (r:=x.row) (by rw [SI,hx];rfl) rfl
   have no:UQ p.funcs.length m x=false->BP p f=false:=fun e=>by rw [hB,We hx e];rfl
   have go:UQ p.funcs.length m x=true->∀ k,k < i + 1->Bz f.code (UQ p.funcs.length m) k=true:=fun e k hk=>by
    by_cases q:k=i
    ·subst q;rw [Ui hx];exact e
    ·exact hall k (by omega)
   have hin:=inc (show i < 4611686018427387904 by have:=F.pd;omega)
   simp -implicitDefEqProofs only [EE,nth,Value.cells,↓yL,Sf,ye,vS,nq,Ku,hc,ha,hgi,hle,htk]
   refine vy s fun b10 h6 s6 => ?_
   simp -implicitDefEqProofs only [EE,Nat.reduceAdd,nk]
   refine wx s6 (by simp) rfl fun h7 s7 => ?_
   have g10:=s7.get
   have g2:=(s7.p 3).get
   have lk:=OW hbm (s7.p 1).get x.l
   have fin:(∀ v,UQ p.funcs.length m x=true->∃ m1,m1 < f.code.length - i /\ ∃ (i':Nat) (v0:Value),i'<=f.code.length/\m1=f.code.length - i' /\ [v,.int .i64 ((i + 1:Nat):Int)] = [v0,Value.int .i64 (i':Nat)]/\(∀ k,k < i'->Bz f.code (UQ p.funcs.length m) k=true)/\Sat (.of L) h7 [pt mb (Qq m),pt b3 (.cells f.row 47),pt b2 (.cells p.row 25)]) :=
    fun v e=>⟨f.code.length - (i + 1),by omega,i + 1,v,by omega,rfl,rfl,go e,s7.k [1,2,3]⟩
   by_cases o18:x.op=18
   ·have hh:UQ p.funcs.length m x=hasB m x.l:=by unfold UQ;simp [o18]
    simp -implicitDefEqProofs only [EE,↓yL,zf,Nat.reduceAdd,zw,zi,zg,vB,kL,kM,kN,kO,kP,g10,o18,PQ,hmb,lk]
    cases hl:hasB m x.l with
    | false=>simp -implicitDefEqProofs only [EE];rw [no (by rw [hh,hl])];rfl
    | true=>
      simp -implicitDefEqProofs only [EE,nth,zf,Nat.reduceAdd,Int.reduceEq,zw,zi,zg,jO,jP,jQ,kH,kI,kJ,kK,ZW,g10,o18,hin]
      exact fin _ (by rw [hh,hl])
   by_cases o19:x.op=19
   ·have hh:UQ p.funcs.length m x=hasB m x.l:=by unfold UQ;simp [o19]
    simp -implicitDefEqProofs only [EE,↓yL,zf,Nat.reduceAdd,Int.reduceEq,zw,zi,zg,vB,kL,kM,kN,kO,kP,g10,o19,PQ,hmb,lk]
    cases hl:hasB m x.l with
    | false=>simp -implicitDefEqProofs only [EE];rw [no (by rw [hh,hl])];rfl
    | true=>
      simp -implicitDefEqProofs only [EE,nth,zf,Nat.reduceAdd,Int.reduceEq,zw,zi,zg,jO,jP,jQ,kH,kI,kJ,kK,ZW,g10,o19,hin]
      exact fin _ (by rw [hh,hl])
   by_cases o21:x.op=21
   ·by_cases s0:x.sub < 0
    ·simp -implicitDefEqProofs only [EE,↓yL,zf,Nat.reduceAdd,Int.reduceEq,zw,zi,zg,zD,jO,jP,jQ,kH,kI,kJ,kK,kL,kM,kN,kO,kP,g10,o21,s0]
     rw [no (by unfold UQ;simp [o21,s0])];rfl
    by_cases s1:x.sub ≥ (p.funcs.length:Int)
    ·simp -implicitDefEqProofs only [EE,↓yL,zf,Nat.reduceAdd,Int.reduceEq,zw,qa,zi,wF,zg,zD,jO,jP,jQ,kH,kI,kJ,kK,kL,kM,kN,kO,kP,g10,g2,fvn,fl,o21,s0,s1]
     rw [no (by have s1:(p.funcs.length:Int)<=x.sub:=s1;unfold UQ;simp [o21,s1])];rfl
    simp -implicitDefEqProofs only [EE,nth,↓yL,zf,Nat.reduceAdd,Int.reduceEq,zw,qa,zi,wF,zg,zD,jO,jP,jQ,kH,kI,kJ,kK,kL,kM,kN,kO,kP,ZW,g10,g2,fvn,fl,o21,s0,s1,hin]
    exact fin _ (by have s1:¬ (p.funcs.length:Int)<=x.sub:=s1;unfold UQ;simp [o21,s0,s1])
   simp -implicitDefEqProofs only [EE,nth,↓yL,zf,Nat.reduceAdd,zw,zi,zg,jO,jP,jQ,kH,kI,kJ,kK,kL,kM,kN,kO,kP,ZW,g10,o18,o19,o21,hin]
   exact fin _ (by unfold UQ;simp [o18,o19,o21])
  ·have hi9:i=f.code.length:=by omega
   subst hi9
   simp -implicitDefEqProofs only [EE,nth,hc]
   rw [hB,ZH hall]
   simp [xq]
end
def BX (n:Int):Bool := !decide (n < 0) && !decide (65536 < n)
section
variable {p:Pg}
theorem P8 {lo:yV} {H:za} {b1:Nat} {vs:List Value} (RP:Rd lo (kG · p)) (s:Sat lo H [pt b1 (.cells p.row 25)]) {B:Bool} (hB:B=p.funcs.all (BP p)):aX (.pointer (some ⟨b1,0,none⟩)) (xq B) vs H:=by
 have P:=RP.at s
 have g1:=s.get
 have fvn:=P.funcs.YR
 have fl:=fun h'=>WI P.funcs 3 h'
 unfold aX
 simp -implicitDefEqProofs only [EE,↓yL,zw,qa,wF,g1,fvn,fl]
 refine Zb (fun n vs h' => ∃ (i:Nat) (v0:Value),i<=p.funcs.length/\n=p.funcs.length - i/\vs = [v0,.int .i64 (i:Nat)]/\(∀ k,k < i->Bz p.funcs (BP p) k=true)/\Sat lo h' [pt b1 (.cells p.row 25)])
  p.funcs.length ⟨0,nth vs 0,Th _,rfl,rfl,fun k hk=>by omega,s⟩ ?_
 rintro n vs h' ⟨i,v0,hi,rfl,rfl,hall,s⟩
 unfold rC
 by_cases hc:(i:Int) < (p.funcs.length:Int)
 ·obtain ⟨f,hf,hfm⟩:=get_some (l:=p.funcs) (k:=i) (by omega)
  obtain ⟨bi,oi,ci,ti,ha,hbi,hgi,hle,htk,_⟩:=dE (RP.at s).funcs (i:=i) (r:=f.row) (by rw [SI,hf];rfl) rfl
  have cvn:=(P.fns f hfm).code.YR
  have cvc:=(P.fns f hfm).code.gJ
  have gvn:=P.globals.YR
  simp -implicitDefEqProofs only [EE,nth,Value.cells,↓yL,Sf,ye,U9,C1,ry,hc,ha,hgi,hle,htk]
  refine vy s fun b6 h6 s6 => ?_
  simp -implicitDefEqProofs only [EE,Nat.reduceAdd,CZ]
  refine wx s6 (by simp) (by simp [cvc];rfl) fun h7 s7 => ?_
  have g6:=s7.get
  have g1:=(s7.p 1).get
  simp -implicitDefEqProofs only [EE,zf,Sf,Nat.reduceAdd,ye,VE,U9,g6,g1]
  refine zh (by kernel_rfl) (by simp only [yN];rfl) (BY (RP.at s7) hfm) ?_
  cases hF:BP p f with
  | false=>
    simp -implicitDefEqProofs only [EE,fh]
    rw [hB,We hf hF];rfl
  | true=>
    simp -implicitDefEqProofs only [EE,nth,fh,rA,inc (show i < 4611686018427387904 by have:=P.IL;omega)]
    exact ⟨p.funcs.length - (i + 1),by omega,i + 1,_,by omega,rfl,rfl,fun k hk=>(by
     by_cases q:k=i
     ·subst q;rw [Ui hf];exact hF
     ·exact hall k (by omega)),s7.k [1]⟩
 ·have hi9:i=p.funcs.length:=by omega
  subst hi9
  simp -implicitDefEqProofs only [EE,nth,hc]
  rw [hB,ZH hall];rfl
theorem P9 {lo:yV} {H:za} {b1:Nat} {vs:List Value} (RP:Rd lo (kG · p)) (s:Sat lo H [pt b1 (.cells p.row 25)]) {B:Bool} (hB:B=(p.globals.all BX && p.funcs.all (BP p))):aY (.pointer (some ⟨b1,0,none⟩)) (xq B) vs H:=by
 have P:=RP.at s
 have g1:=s.get
 have gvn:=P.globals.YR
 have gl:=fun h'=>Qn P.globals 3 h'
 unfold aY
 simp -implicitDefEqProofs only [EE,↓yL,zw,u9,w5,g1,gvn,gl]
 refine Zb (fun n vs h' => ∃ (i:Nat) (v0:Value),i<=p.globals.length/\n=p.globals.length - i/\vs = [v0,.int .i64 (i:Nat)]/\(∀ k,k < i->Bz p.globals BX k=true)/\Sat lo h' [pt b1 (.cells p.row 25)])
  p.globals.length ⟨0,nth vs 0,Th _,rfl,rfl,fun k hk=>by omega,s⟩ ?_
 rintro n vs h' ⟨i,v0,hi,rfl,rfl,hall,s⟩
 unfold ru
 by_cases hc:(i:Int) < (p.globals.length:Int)
 ·obtain ⟨z,hz,hzm⟩:=get_some (l:=p.globals) (k:=i) (by omega)
  obtain ⟨bi,oi,ci,ti,ha,hbi,hgi,hat⟩:=gD (RP.at s).globals hz
  have no:BX z=false->B=false:=fun e=>by rw [hB,We hz e];rfl
  by_cases z0:z < 0
  ·simp -implicitDefEqProofs only [EE,nth,↓yL,zw,zi,JA,JB,JC,hc,ha,hgi,hat,z0]
   rw [no (by unfold BX;simp [z0])];rfl
  by_cases z1:z > 65536
  ·simp -implicitDefEqProofs only [EE,nth,↓yL,zw,zi,JA,JB,JC,hc,ha,hgi,hat,z0,z1]
   rw [no (by have z1:65536 < z:=z1;unfold BX;simp [z1])];rfl
  simp -implicitDefEqProofs only [EE,nth,↓yL,zw,zi,JA,JB,JC,rq,hc,ha,hgi,hat,z0,z1,inc (show i < 4611686018427387904 by have:=P.IW;omega)]
  exact ⟨p.globals.length - (i + 1),by omega,i + 1,_,by omega,rfl,rfl,fun k hk=>(by
   by_cases q:k=i
   ·subst q;rw [Ui hz];have z1:¬ 65536 < z:=z1;unfold BX;simp [z0,z1]
   ·exact hall k (by omega)),s⟩
 ·have hi9:i=p.globals.length:=by omega
  subst hi9
  simp -implicitDefEqProofs only [EE,nth,hc]
  exact P8 RP s (by rw [hB,ZH hall];rfl)
theorem Jc {h:za} (P:kG h p):vC Tryz.prog 17 [p.val] h (.bool (dL p)):=by
 apply yS
 replace P:=P.lock
 generalize h.lock=L at P
 apply YA;intro wf
 apply DN
 unfold AG
 have s0:Sat (.of L) L []:=Sat.self wf.2
 have RP:Rd (.of L) (kG · p):=Rd.of (yV.qc L) P fun h' o=>P.old o
 have gvn:=P.globals.YR
 have fvn:=P.funcs.YR
 have fl:=fun h'=>WI P.funcs 3 h'
 have gl:=fun h'=>Qn P.globals 3 h'
 simp -implicitDefEqProofs only [EE,Value.cells]
 refine vy s0 fun b1 h2 s2 => ?_
 have g1:=s2.get
 have no:qY p=false->dL p=false:=fun e=>by unfold dL;rw [e];rfl
 by_cases c1:p.main < 0
 ·simp -implicitDefEqProofs only [EE,zw,zi,j7,Yg,Yh,Yi,Yj,Yk,Yl,Ym,Yn,Yo,Yp,Yq,g1,c1]
  rw [no (by unfold qY;simp [c1])];rfl
 by_cases c2:p.main ≥ (p.funcs.length:Int)
 ·simp -implicitDefEqProofs only [EE,zw,qa,zi,wF,j7,Yg,Yh,Yi,Yj,Yk,Yl,Ym,Yn,Yo,Yp,Yq,g1,fvn,fl,c1,c2]
  rw [no (by have c2:(p.funcs.length:Int)<=p.main:=c2;unfold qY;simp [c2])];rfl
 by_cases c3:(p.funcs.length:Int) > 100
 ·simp -implicitDefEqProofs only [EE,zw,qa,zi,wF,j7,Yg,Yh,Yi,Yj,Yk,Yl,Ym,Yn,Yo,Yp,Yq,g1,fvn,fl,c1,c2,c3]
  rw [no (by have c3:(100:Int) < p.funcs.length:=c3;unfold qY;simp [c3])];rfl
 by_cases c4:(p.globals.length:Int) > 200
 ·simp -implicitDefEqProofs only [EE,zw,u9,qa,zi,w5,wF,j7,Yg,Yh,Yi,Yj,Yk,Yl,Ym,Yn,Yo,Yp,Yq,g1,fvn,fl,gvn,gl,c1,c2,c3,c4]
  rw [no (by have c4:(200:Int) < p.globals.length:=c4;unfold qY;simp [c4])];rfl
 by_cases c5:p.params < 0
 ·simp -implicitDefEqProofs only [EE,zw,u9,qa,zi,w5,wF,j7,ZJ,Yg,Yh,Yi,Yj,Yk,Yl,Ym,Yn,Yo,Yp,Yq,g1,fvn,fl,gvn,gl,c1,c2,c3,c4,c5]
  rw [no (by unfold qY;simp [c5])];rfl
 by_cases c6:p.params > 6
 ·simp -implicitDefEqProofs only [EE,zw,u9,qa,zi,w5,wF,j7,ZJ,Yg,Yh,Yi,Yj,Yk,Yl,Ym,Yn,Yo,Yp,Yq,g1,fvn,fl,gvn,gl,c1,c2,c3,c4,c5,c6]
  rw [no (by have c6:6 < p.params:=c6;unfold qY;simp [c6])];rfl
 simp -implicitDefEqProofs only [EE,zw,u9,qa,zi,w5,wF,j7,ZJ,Yg,Yh,Yi,Yj,Yk,Yl,Ym,Yn,Yo,Yp,Yq,g1,fvn,fl,gvn,gl,c1,c2,c3,c4,c5,c6]
 refine P9 RP s2 ?_
 have hs:qY p=true:=by
  have c2:¬ (p.funcs.length:Int)<=p.main:=c2
  have c3:¬ (100:Int) < p.funcs.length:=c3
  have c4:¬ (200:Int) < p.globals.length:=c4
  have c6:¬ 6 < p.params:=c6
  unfold qY;simp [c1,c2,c3,c4,c5,c6]
 unfold dL
 rw [hs];rfl
end
open Go.Rtl (vY wH)
def Me (l:List V):List Value:=((List.range 16).map fun i=>(l.getD i v0).YT).flatten
def vx (p:Pg) (lv:Value) (mb wb:Nat) (S:St) (ev lk gl cl:Value) (lim:Int):List Value :=
 [p.gv,p.fv,.int .i64 p.main,.int .i64 p.params,lv,xK mb,xK wb,.int .i64 S.kind,.int .i64 S.exit,ev,lk,.int .i64 S.steps,gl,cl] ++ (Me S.YV ++ [.bool S.flags,.int .i64 S.a.k,.int .i64 S.a.n,.int .i64 S.a.b,.int .i64 S.b.k,.int .i64 S.b.n,.int .i64 S.b.b,.int .i64 S.stack,.int .i64 lim,.int .i64 S.wD])
section
variable {p:Pg} {lv:Value} {mb wb:Nat} {S:St} {ev lk gl cl:Value} {lim:Int}
theorem vP:(vx p lv mb wb S ev lk gl cl lim).length=72:=by kernel_rfl
theorem aK {n:Nat}:(n<=(vx p lv mb wb S ev lk gl cl lim).length)=(n<=72):=by rw [vP]
theorem Rx:(vx p lv mb wb S ev lk gl cl lim)[1]? = some p.fv:=by kernel_rfl
theorem Ry:(vx p lv mb wb S ev lk gl cl lim)[2]? = some (.int .i64 p.main):=by kernel_rfl
theorem Nt:(vx p lv mb wb S ev lk gl cl lim)[4]? = some lv:=by kernel_rfl
theorem E7:(vx p lv mb wb S ev lk gl cl lim)[5]? = some (xK mb):=by kernel_rfl
theorem Rz:(vx p lv mb wb S ev lk gl cl lim)[6]? = some (xK wb):=by kernel_rfl
theorem Pq:(vx p lv mb wb S ev lk gl cl lim)[7]? = some (.int .i64 S.kind):=by kernel_rfl
theorem RC:(vx p lv mb wb S ev lk gl cl lim)[9]? = some ev:=by kernel_rfl
theorem Pp:(vx p lv mb wb S ev lk gl cl lim)[10]? = some lk:=by kernel_rfl
theorem L8:(vx p lv mb wb S ev lk gl cl lim)[11]? = some (.int .i64 S.steps):=by kernel_rfl
theorem L9:(vx p lv mb wb S ev lk gl cl lim)[12]? = some gl:=by kernel_rfl
theorem Dl:(vx p lv mb wb S ev lk gl cl lim)[13]? = some cl:=by kernel_rfl
theorem Dm:(vx p lv mb wb S ev lk gl cl lim)[62]? = some (.bool S.flags):=by kernel_rfl
theorem t9:(vx p lv mb wb S ev lk gl cl lim)[69]? = some (.int .i64 S.stack):=by kernel_rfl
theorem Mc:(vx p lv mb wb S ev lk gl cl lim)[70]? = some (.int .i64 lim):=by kernel_rfl
theorem Md:(vx p lv mb wb S ev lk gl cl lim)[71]? = some (.int .i64 S.wD):=by kernel_rfl
theorem Ma:((vx p lv mb wb S ev lk gl cl lim).drop 63).take 3 = [.int .i64 S.a.k,.int .i64 S.a.n,.int .i64 S.a.b]:=by kernel_rfl
theorem Mb:((vx p lv mb wb S ev lk gl cl lim).drop 66).take 3 = [.int .i64 S.b.k,.int .i64 S.b.n,.int .i64 S.b.b]:=by kernel_rfl
theorem Nu:((vx p lv mb wb S ev lk gl cl lim).drop 7).take 5 = [.int .i64 S.kind,.int .i64 S.exit,ev,lk,.int .i64 S.steps]:=by kernel_rfl
variable (k_:Int) (v_:Value) (q_:V) (f_:Bool)
theorem NA:zf (vx p lv mb wb S ev lk gl cl lim) 7 [.int .i64 k_]=vx p lv mb wb { S with kind:=k_ } ev lk gl cl lim:=by kernel_rfl
theorem RI:zf (vx p lv mb wb S ev lk gl cl lim) 8 [.int .i64 k_]=vx p lv mb wb { S with exit:=k_ } ev lk gl cl lim:=by kernel_rfl
theorem Pt:zf (vx p lv mb wb S ev lk gl cl lim) 11 [.int .i64 k_]=vx p lv mb wb { S with steps:=k_ } ev lk gl cl lim:=by kernel_rfl
theorem Dr:zf (vx p lv mb wb S ev lk gl cl lim) 62 [.bool f_]=vx p lv mb wb { S with flags:=f_ } ev lk gl cl lim:=by kernel_rfl
theorem HR:zf (vx p lv mb wb S ev lk gl cl lim) 69 [.int .i64 k_]=vx p lv mb wb { S with stack:=k_ } ev lk gl cl lim:=by kernel_rfl
theorem Px:zf (vx p lv mb wb S ev lk gl cl lim) 71 [.int .i64 k_]=vx p lv mb wb { S with wD:=k_ } ev lk gl cl lim:=by kernel_rfl
theorem Pv:zf (vx p lv mb wb S ev lk gl cl lim) 63 q_.YT=vx p lv mb wb { S with a:=q_ } ev lk gl cl lim:=by kernel_rfl
theorem Pw:zf (vx p lv mb wb S ev lk gl cl lim) 66 q_.YT=vx p lv mb wb { S with b:=q_ } ev lk gl cl lim:=by kernel_rfl
theorem RH:zf (vx p lv mb wb S ev lk gl cl lim) 4 [v_]=vx p v_ mb wb S ev lk gl cl lim:=by kernel_rfl
theorem RJ:zf (vx p lv mb wb S ev lk gl cl lim) 9 [v_]=vx p lv mb wb S v_ lk gl cl lim:=by kernel_rfl
theorem Ps:zf (vx p lv mb wb S ev lk gl cl lim) 10 [v_]=vx p lv mb wb S ev v_ gl cl lim:=by kernel_rfl
theorem Pu:zf (vx p lv mb wb S ev lk gl cl lim) 12 [v_]=vx p lv mb wb S ev lk v_ cl lim:=by kernel_rfl
theorem Mg:zf (vx p lv mb wb S ev lk gl cl lim) 13 [v_]=vx p lv mb wb S ev lk gl v_ lim:=by kernel_rfl
theorem E8 (l:List V):∀ r,r ∈ (List.range 16).map (fun i=>(l.getD i v0).YT)->r.length=3:=k8 (f:=fun i=>(l.getD i v0).YT) (fun _=>rfl) _
theorem hZ {l:List V} {r:Int} (h0:0<=r):BV l r=l.getD r.toNat v0:=by unfold BV;rw [Sl (by omega)]
theorem jW {r:Int} (h0:0<=r) (h1:r < 16):((vx p lv mb wb S ev lk gl cl lim).drop (14 + r.toNat * 3)).take 3 = [.int .i64 (zB S r).k,.int .i64 (zB S r).n,.int .i64 (zB S r).b]:=by
 have hr:((List.range 16).map fun i=>(S.YV.getD i v0).YT)[r.toNat]? = some ((S.YV.getD r.toNat v0).YT):=by
  rw [SI,List.getElem?_range (by omega)];rfl
 obtain ⟨a,b⟩:=vY (E8 S.YV) hr
 have hl:(Me S.YV).length=48:=by kernel_rfl
 have e:∀ (X Y:List Value),X.length=14->(X ++ Y).drop (14 + r.toNat * 3)=Y.drop (r.toNat * 3):=fun X Y hX=>by
  rw [List.drop_append,hX,List.drop_of_length_le (by omega),List.nil_append,Nat.add_sub_cancel_left]
 unfold vx
 rw [e _ _ rfl,List.drop_append_of_le_length (by omega),List.take_append_of_le_length (by rw [T9,hl];omega)]
 show (((List.range 16).map fun i=>(S.YV.getD i v0).YT).flatten.drop (r.toNat * 3)).take 3=_
 rw [b]
 unfold zB
 rw [hZ h0];rfl
theorem jX {r:Int} (h1:r < 16):(14 + r.toNat * 3 + 3<=(vx p lv mb wb S ev lk gl cl lim).length)=True:=by
 rw [vP];simp;omega
theorem iY {r:Int} (h0:0<=r) (h1:r < 16) (hl:S.YV.length=16) (v:V):zf (vx p lv mb wb S ev lk gl cl lim) (14 + r.toNat * 3) v.YT=vx p lv mb wb (vZ S r v) ev lk gl cl lim:=by
 obtain ⟨n,rfl⟩:∃ n:Nat,r=n:=⟨r.toNat,by omega⟩
 have hn:n < 16:=by omega
 obtain ⟨mem,used,kind,exit,e,l,steps,g,calls,YV,flags,a,b,stack,wD⟩:=S
 match YV,hl with
 | [x0,x1,x2,x3,x4,x5,x6,x7,x8,x9,x10,x11,x12,x13,x14,x15],_=>
   match n,hn with
   | 0,_=>rfl
   | 1,_=>rfl
   | 2,_=>rfl
   | 3,_=>rfl
   | 4,_=>rfl
   | 5,_=>rfl
   | 6,_=>rfl
   | 7,_=>rfl
   | 8,_=>rfl
   | 9,_=>rfl
   | 10,_=>rfl
   | 11,_=>rfl
   | 12,_=>rfl
   | 13,_=>rfl
   | 14,_=>rfl
   | 15,_=>rfl
end
end Go.As
