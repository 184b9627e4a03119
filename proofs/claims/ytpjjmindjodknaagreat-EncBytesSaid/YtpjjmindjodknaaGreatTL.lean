import Derived.Test.YtpjjmindjodknaaGreatTK
set_option linter.unusedVariables false
set_option linter.unusedSimpArgs false
set_option maxRecDepth 100000
namespace Go.Rm
open Go.Ai Go.Proofs Go.Mem
open Go.Rtl (zL zP Old qK eO Ut)
def Zq (ty:TypeId) (n:Nat) (sv:Value) (rows:List (List Value)):HP:=fun m=>
 (sv = .slice none 0 0/\rows = [] /\ ∀ x,m x=none) \/ ∃ b c cs,sv = .slice (some ⟨b,0,none⟩) rows.length c/\c ≠ 0/\rows.length * n<=cs.length/\cs.take (rows.length * n)=rows.flatten/\pt b (.cells cs ty) m
section
variable {lo:y5} {h:za} {L:List HP} {ty:TypeId} {n:Nat} {sv:Value} {rows:List (List Value)}
theorem wy (s:Sat lo h (Zq ty n sv rows :: L)):(sv = .slice none 0 0/\rows = []/\Sat lo h L) \/ ∃ b c cs,sv = .slice (some ⟨b,0,none⟩) rows.length c/\c ≠ 0/\rows.length * n<=cs.length/\cs.take (rows.length * n)=rows.flatten/\Sat lo h (pt b (.cells cs ty) :: L):=by
 obtain ⟨a,ha,d,w,s⟩:=s
 rcases ha with ⟨e1,e2,e3⟩ | ⟨b,c,cs,e1,e2,e3,e4,e5⟩
 ·exact .inl ⟨e1,e2,by rw [y5.mI e3] at s;exact s⟩
 ·exact .inr ⟨b,c,cs,e1,e2,e3,e4,a,e5,d,w,s⟩
theorem uy (ty:TypeId) (n:Nat) (s:Sat lo h L):Sat lo h (Zq ty n (.slice none 0 0) [] :: L):=⟨fun _=>none,.inl ⟨rfl,rfl,fun _=>rfl⟩,fun _ _ e=>(by cases e),fun _ _ e=>(by cases e),by rw [y5.mI fun _=>rfl];exact s⟩
theorem QX {b c:Nat} {cs:List Value} (hc:c ≠ 0) (hl:rows.length * n<=cs.length) (ht:cs.take (rows.length * n)=rows.flatten) (s:Sat lo h (pt b (.cells cs ty) :: L)):Sat lo h (Zq ty n (.slice (some ⟨b,0,none⟩) rows.length c) rows :: L):=by
 obtain ⟨a,ha,d,w,s⟩:=s
 exact ⟨a,.inr ⟨b,c,cs,rfl,hc,hl,ht,ha⟩,d,w,s⟩
theorem qO {b c:Nat} {cs:List Value} (hc:c ≠ 0) (hn:∀ r,r ∈ rows->r.length=n) (he:cs=rows.flatten) (s:Sat lo h (pt b (.cells cs ty) :: L)):Sat lo h (Zq ty n (.slice (some ⟨b,0,none⟩) rows.length c) rows :: L) :=
 QX hc (by rw [he,qK hn];exact NG _) (by rw [he,PC (by rw [qK hn];exact NG _)]) s
theorem J8 (s:Sat lo h (Zq ty n sv rows :: L)):∃ a c,sv = .slice a rows.length c:=by
 rcases wy s with ⟨rfl,rfl,_⟩ | ⟨b,c,cs,rfl,_⟩ <;> exact ⟨_,_,rfl⟩
theorem wh (s:Sat lo h (Zq ty n sv rows :: L)):ya sv=false:=by obtain ⟨_,_,rfl⟩:=J8 s;rfl
theorem ux (s:Sat lo h (Zq ty n sv rows :: L)):xp sv=true:=by obtain ⟨_,_,rfl⟩:=J8 s;rfl
theorem ur (s:Sat lo h (Zq ty n sv rows :: L)) (hn:∀ r,r ∈ rows->r.length=n):zP h sv n rows:=by
 rcases wy s with ⟨e1,e2,_⟩ | ⟨b,c,cs,rfl,hc,hl,hf,s⟩
 ·exact .inl ⟨e1,e2⟩
 ·refine .inr ⟨b,0,c,rfl,fun _=>⟨cs,ty,s.lt,s.get,fun i r hr => ?_⟩⟩
  have hi:i < rows.length:=by
   rcases NZ i rows.length with a | a
   ·exact a
   ·rw [NM a] at hr;cases hr
  obtain ⟨f1,f2⟩:=eO hn hr
  have hm:=O3 n (Nat.succ_le_of_lt hi)
  rw [Nat.succ_mul] at hm
  refine ⟨by omega,?_⟩
  rw [<- f2,<- hf,OT,List.drop_take,List.take_take]
  congr 1
  omega
theorem jP (s:Sat lo h (Zq ty n sv rows :: L)) (hn:∀ r,r ∈ rows->r.length=n) (row:List Value) (hr:row.length=n) (h0n:0 < n) (bz:Nat) (hb:(rows.length + 1) * bz<=2 ^ 47) :
  ∃ b' c' h',Yh h ty n bz 1 row sv=some (.slice (some ⟨b',0,none⟩) (rows.length + 1) c',h')/\Sat lo h' (Zq ty n (.slice (some ⟨b',0,none⟩) (rows.length + 1) c') (rows ++ [row]) :: L):=by
 have hn2:∀ r,r ∈ rows ++ [row]->r.length=n:=fun r q=>by
  rcases Om.1 q with q | q
  ·exact hn r q
  ·simp only [N7] at q;subst q;exact hr
 have hlen:(rows ++ [row]).length=rows.length + 1:=by simp
 rcases wy s with ⟨rfl,rfl,s'⟩ | ⟨b,c,cs,rfl,hc,hl,hf,s⟩
 ·refine ⟨h.next,1,h.push (.cells row ty),?_,qO (cs:=row) (rows:=[] ++ [row]) (c:=1) (by decide) hn2 (by simp) (s'.push (.cells row ty))⟩
  simp only [Yh]
  rw [NJ (by decide),NK (by simp at hb;omega)];rfl
 ·have hroom:roomFor c (rows.length + 1) bz=true:=by
   unfold roomFor
   cases Nat.beq c 2 <;> simp only [NR,N1,Po] <;> omega
  refine ⟨h.next,vP c (rows.length + 1),(h.set b none).push (.cells (((cs.drop 0).take (rows.length * n)) ++ row) ty),?_,?_⟩
  ·simp only [Yh,s.get]
   rw [NJ (by decide),NK ⟨hc,trivial,s.wr,by omega,hroom,by simp⟩]
  ·have q:=qO (rows:=rows ++ [row]) (c:=vP c (rows.length + 1)) (JG _ _) hn2 (by rw [O7,hf,List.flatten_append];simp) ((s.forget none).push (.cells (((cs.drop 0).take (rows.length * n)) ++ row) ty))
   rw [hlen] at q
   exact q
theorem Fa {cs:List Value} {i:Nat} {row:List Value} (hi:i < rows.length) (hn:∀ r,r ∈ rows->r.length=n) (hr:row.length=n) (hl:rows.length * n<=cs.length) (ht:cs.take (rows.length * n)=rows.flatten) :
  (zt cs (i * n) row).take (rows.length * n)=(rows.set i row).flatten:=by
 have hn2:∀ r,r ∈ rows.set i row->r.length=n:=fun r q=>by
  rcases List.mem_or_eq_of_mem_set q with q | rfl
  ·exact hn r q
  ·exact hr
 have hm:i * n + n<=cs.length:=by
  have:=O3 n (Nat.succ_le_of_lt hi)
  rw [Nat.succ_mul] at this;omega
 apply O2
 intro j
 by_cases hj:j < rows.length * n
 ·rw [Ob hj,VV _ _ _ _ (by rw [hr];exact hm),hr]
  have e0:=congrArg (fun l=>l[j]?) ht
  simp only [Ob hj] at e0
  have h0:0 < n:=by rcases Pr n with q | q; · subst q;simp at hj
                    ·exact q
  have hq:j / n < rows.length:=Nat.div_lt_of_lt_mul (by rw [Nat.mul_comm];exact hj)
  have hj3:j / n * n + j % n=j:=by rw [Nat.mul_comm];exact Nat.div_add_mod j n
  have hmn:j % n < n:=Nat.mod_lt _ h0
  have get:∀ (m:List (List Value)),(∀ r,r ∈ m->r.length=n)->∀ x,m[j / n]? = some x->m.flatten[j]? = x[j % n]?:=fun m hm x hx=>by
   have:=Ut hm hx hmn
   rwa [hj3] at this
  rw [e0,get _ hn _ (NC hq)]
  by_cases e:i=j / n
  ·rw [get _ hn2 row (by rw [e,OK hq]),NK (by rw [e];omega),e]
   congr 1;omega
  ·rw [get _ hn2 _ (by rw [OY e,NC hq]),NJ]
   rintro ⟨a,b⟩
   apply e
   exact (Nat.div_eq_of_lt_le a (by rw [Nat.succ_mul];exact b)).symm
 ·rw [NM (by simp;omega),NM (by rw [qK hn2];simp;omega)]
theorem uD {α:Type} {f:α->List Value} {n:Nat} (hf:∀ a,(f a).length=n) (l:List α):∀ r,r ∈ l.map f->r.length=n:=by
 intro r hr
 simp only [OJ] at hr
 obtain ⟨y,_,rfl⟩:=hr
 exact hf y
end
def yC (z:Int):List Value:=[.int .i64 z]
section
variable {g h:za} {F G:Nat->Prop}
end
section
variable {lo:y5} {h:za} {L:List HP} {m:Nat} {M:MM}
end
def Rd (lo:y5) (X:za->Prop):Prop := ∀ h,bk lo h->X h
theorem Rd.mono {lo lo':y5} {X:za->Prop} (x:Rd lo X) (l:lo.Le lo'):Rd lo' X:=fun h b=>x h (b.mono l)
theorem Rd.at {lo:y5} {X:za->Prop} {h:za} {L:List HP} (x:Rd lo X) (s:Sat lo h L):X h:=x h s.base
theorem Rd.of {lo:y5} {X:za->Prop} {h0:za} (hl:lo.Has h0) (x:X h0) (m:∀ h,Old h0 h->X h):Rd lo X:=fun h b=>m h (by obtain ⟨a,c,d⟩:=hl.old b;exact ⟨a,c,d⟩)
section
variable {lo:y5} {h:za} {L:List HP} {ty:TypeId} {n:Nat} {sv:Value} {rows:List (List Value)}
theorem XW (s:Sat lo h (Zq ty n sv rows :: L)) (hn:∀ r,r ∈ rows->r.length=n):∃ lo1,lo.Le lo1/\Rd lo1 (zP · sv n rows)/\Sat lo1 h L /\ ∀ h' L',Sat lo1 h' L'->Sat lo h' (Zq ty n sv rows :: L'):=by
 obtain ⟨a,ha,d,w,s⟩:=s
 refine ⟨lo.un a,y5.Jb d,fun h1 b1 => ?_,s,fun h' L' s'=>⟨a,ha,d,w,s'⟩⟩
 have:Sat lo h1 [Zq ty n sv rows]:=⟨a,ha,d,w,b1⟩
 exact ur this hn
end
section
variable {lo:y5} {h:za} {L:List HP} {ty:TypeId} {n:Nat} {sv:Value} {rows:List (List Value)}
end
section
variable {lo:y5} {h:za} {L:List HP} {b mb wb fb:Nat} {world:List Int} {ev lk gl cl kv wn:Value} {fi:List Nat} {kept:Option (Int->Bool)}
end
def vb (v:V):Prop:=Eh v.b
def YF (M:MM):Prop:=small M/\M.length<=100000 /\ ∀ (i:Nat) B,M[i]? = some B->∀ a,vb (B.byte a).p
open Go.Rtl (inc)
section
variable {lo:y5} {h:za} {L:List HP} {wv:Value} {world:List Int}
end
end Go.Rm
namespace Go.As
open Go.Ai Go.Proofs Go.Mem Go.Rm
open Go.Rtl (zL zP Old)
structure z8 where
 op:Int
 r:Int
 m:Int
 sub:Int
 cc:Int
 l:Int
 k:Int
structure Fn where
 nm:ByteArray
 cv:Value
 code:List z8
structure Pg where
 gv:Value
 globals:List Int
 fv:Value
 funcs:List Fn
 main:Int
 params:Int
abbrev z8.row (x:z8):List Value:=[.int .i64 x.op,.int .i64 x.r,.int .i64 x.m,.int .i64 x.sub,.int .i64 x.cc,.int .i64 x.l,.int .i64 x.k]
abbrev z8.val (x:z8):Value := .agg #[.int .i64 x.op,.int .i64 x.r,.int .i64 x.m,.int .i64 x.sub,.int .i64 x.cc,.int .i64 x.l,.int .i64 x.k]
abbrev Fn.row (f:Fn):List Value:=[.string f.nm,f.cv]
abbrev Fn.val (f:Fn):Value := .agg #[.string f.nm,f.cv]
abbrev Pg.row (p:Pg):List Value:=[p.gv,p.fv,.int .i64 p.main,.int .i64 p.params]
abbrev Pg.val (p:Pg):Value := .agg #[p.gv,p.fv,.int .i64 p.main,.int .i64 p.params]
structure ZF (h:za) (f:Fn):Prop where
 code:zP h f.cv 7 (f.code.map z8.row)
 gj:f.code.length * 56<=140737488351232
structure vV (h:za) (p:Pg):Prop where
 globals:zL h p.gv p.globals
 pf:p.globals.length<=17592186043904
 funcs:zP h p.fv 2 (p.funcs.map Fn.row)
 Cd:p.funcs.length * 24<=140737488351232
 fns:∀ f,f ∈ p.funcs->ZF h f
section
variable {h h':za} {f:Fn} {p:Pg}
theorem ZF.old (S:ZF h f) (e:Old h h'):ZF h' f:=⟨S.code.old e,S.gj⟩
theorem ZF.lock (S:ZF h f):ZF h.lock f:=⟨S.code.lock,S.gj⟩
theorem vV.old (S:vV h p) (e:Old h h'):vV h' p:=⟨S.globals.old e,S.pf,S.funcs.old e,S.Cd,fun f hf=>(S.fns f hf).old e⟩
theorem vV.lock (S:vV h p):vV h.lock p:=⟨S.globals.lock,S.pf,S.funcs.lock,S.Cd,fun f hf=>(S.fns f hf).lock⟩
end
structure Fr where
 f:Nat
 pt:Int
 QF:Int
 size:Int
 Nv:V
structure St where
 mem:MM
 used:Int
 kind:Int
 exit:Int
 ev:List (Int × Int)
 lk:List (Int × Int × Int)
 steps:Int
 gl:List Int
 calls:List Fr
 Mf:List V
 flags:Bool
 a:V
 b:V
 stack:Int
 Nq:Int
def Wg (S:St) (r:Int) (v:V):St:={ S with Mf:=S.Mf.set r.toNat v }
def order:List Int:=[7,6,2,1,8,9]
structure Ext (S S':St):Prop where
 ev:S.ev <+: S'.ev
 lk:S.lk <+: S'.lk
theorem Ext.refl (S:St):Ext S S:=⟨List.prefix_refl _,List.prefix_refl _⟩
theorem Ext.trans {a b c:St} (x:Ext a b) (y:Ext b c):Ext a c:=⟨x.ev.trans y.ev,x.lk.trans y.lk⟩
structure M8 (S:St) (r:St × Bool):Prop where
 ext:Ext S r.1
 steps:r.1.steps=S.steps
 kind:r.1.kind=S.kind\/r.1.kind=1\/r.1.kind=4
 Ah:r.1.ev.length<=S.ev.length + 1/\r.1.lk.length<=S.lk.length + 1
theorem M8.same {S S':St} {b:Bool} (e:S'.ev=S.ev) (l:S'.lk=S.lk) (s:S'.steps=S.steps) (k:S'.kind=S.kind\/S'.kind=1\/S'.kind=4):M8 S (S',b) :=
 ⟨⟨e ▸ List.prefix_refl _,l ▸ List.prefix_refl _⟩,s,k,by rw [e];exact OP _,by rw [l];exact OP _⟩
section
variable (p:Pg) (lim:Int) (world:List Int) (Mu:Bool) (fuel:Int)
end
end Go.As
namespace Go.Ai
noncomputable section
variable {P:Program}
theorem AR {α β:Type} {x:Sem α} {f:α->Sem β} {a:α} (h:zT P x=some a):zT P (x >>= f)=zT P (f a):=by
 induction x with
 | pure b=>simp only [zT,Nz] at h;subst h;rfl
 | program k ih=>exact ih P h
 | _=>cases h
def Yj:Nat->List (Int × Value)->List Wm
 | _,[]=>[]
 | n,(k,v) :: l=>(.int .i64 k,v,n) :: Yj (n + 1) l
def W5 (l:List (Int × Value)):wi := .map (Yj 0 l) l.length
def VW:List (Int × Value)->Int->Option Nat
 | [],_=>none
 | (a,_) :: l,k=>if a=k then some 0 else (VW l k).map (· + 1)
def Wb:List (Int × Value)->Int->Option Value
 | [],_=>none
 | (a,v) :: l,k=>if a=k then some v else Wb l k
def Xl:List (Int × Value)->Int->Value->List (Int × Value)
 | [],k,v=>[(k,v)]
 | (a,w) :: l,k,v=>if a=k then (a,v) :: l else (a,w) :: Xl l k v
theorem VT:∀ (l:List (Int × Value)) (k k':Int) (v:Value),Wb (Xl l k v) k'=if k=k' then some v else Wb l k'
 | [],k,k',v=>rfl
 | (a,w) :: l,k,k',v=>by
   unfold Xl
   by_cases h:a=k
   ·rw [NK h]
    subst h
    unfold Wb
    by_cases h2:a=k'
    ·rw [NK h2,NK h2]
    ·rw [NJ h2,NJ h2,NJ h2]
   ·rw [NJ h]
    unfold Wb
    rw [VT l]
    by_cases h2:a=k'
    ·rw [NK h2,NK h2,NJ (by omega)]
    ·rw [NJ h2,NJ h2]
theorem eI:∀ (n:Nat) (l:List (Int × Value)),((Yj n l).all fun e=>flat e.1)=true
 | _,[]=>rfl
 | n,(k,v) :: l=>by show (true && (Yj (n + 1) l).all fun e=>flat e.1)=true;rw [eI];rfl
theorem iH (kind:IntKind) (k:Int):∀ (l:List (Int × Value)) (n i:Nat),Instr.findNow (.int kind) (.int .i64 k) ((Yj n l).map fun e=>KR e.1) i=some ((VW l k).map fun j=>(i + j,undef))
 | [],n,i=>rfl
 | (a,v) :: l,n,i=>by
   show (match Instr.sameNow (.int kind) (.int .i64 k) (.int .i64 a) with
    | some true=>some (some (i,undef))
    | some false=>Instr.findNow (.int kind) (.int .i64 k) ((Yj (n + 1) l).map fun e=>KR e.1) (i + 1)
    | none=>none)=some ((if a=k then some 0 else (VW l k).map (· + 1)).map fun j=>(i + j,undef))
   have e:Instr.sameNow (.int kind) (.int .i64 k) (.int .i64 a)=some (k == a):=rfl
   rw [e]
   by_cases h:a=k
   ·rw [NK h,h,Pp];rfl
   ·rw [NJ h,beq_eq_false_iff_ne.2 (fun q=>h q.symm)]
    simp only
    rw [iH kind k l]
    cases VW l k with
    | none=>rfl
    | some j=>simp only [OG,Nz,NB,PM];omega
theorem D8 {kt:TypeId} {kind:IntKind} (hk:zT P (underlying kt)=some (.int kind)) (k:Int) (n:Nat) (l:List (Int × Value)):dV P kt (.int .i64 k) (Yj n l)=some (VW l k):=by
 have e:zT P (Instr.findKey kt (.int .i64 k) ((Yj n l).map fun e=>KR e.1))=some ((VW l k).map fun j=>(0 + j,undef)):=by
  unfold Instr.findKey
  rw [AR hk,iH kind k l n 0]
  rfl
 unfold dV
 rw [eI,e]
 cases VW l k with
 | none=>rfl
 | some j=>simp only [OG,OT];rfl
theorem tZ {kt:TypeId} {kind:IntKind} (hk:zT P (underlying kt)=some (.int kind)) (b:Bool) (k:Int):zT P (Instr.checkKey b 10000 kt (.int .i64 k))=some ():=by
 show zT P (underlying kt >>= _)=_
 rw [AR hk]
 rfl
theorem mm:∀ {l:List (Int × Value)} {k:Int} {n:Nat},(VW l k=none->Wb l k=none) /\ ∀ j,VW l k=some j->∃ v,Wb l k=some v/\(Yj n l)[j]? = some (.int .i64 k,v,n + j)
 | [],k,n=>⟨fun _=>rfl,fun j h=>by cases h⟩
 | (a,v) :: l,k,n=>by
   obtain ⟨i1,i2⟩:=mm (l:=l) (k:=k) (n:=n + 1)
   unfold VW Wb
   by_cases h:a=k
   ·rw [NK h,NK h]
    refine ⟨fun q=>(by cases q),fun j q => ?_⟩
    cases q
    exact ⟨v,rfl,by rw [h];rfl⟩
   ·rw [NJ h,NJ h]
    cases hi:VW l k with
    | none=>exact ⟨fun _=>i1 hi,fun j q=>by cases q⟩
    | some m=>
      refine ⟨fun q=>(by cases q),fun j q => ?_⟩
      simp only [OG,Nz] at q
      subst q
      obtain ⟨w,h1,h2⟩:=i2 m hi
      exact ⟨w,h1,by show (Yj (n + 1) l)[m]? = _;rw [h2,show n + 1 + m=n + (m + 1) by omega]⟩
theorem Ak:∀ {l:List (Int × Value)} {k:Int} {n:Nat} (v:Value),(VW l k=none->Yj n (Xl l k v)=Yj n l ++ [(.int .i64 k,v,n + l.length)]/\(Xl l k v).length=l.length + 1) /\ ∀ j,VW l k=some j->Yj n (Xl l k v)=(Yj n l).set j (.int .i64 k,v,n + j)/\(Xl l k v).length=l.length
 | [],k,n,v=>⟨fun _=>⟨rfl,rfl⟩,fun j h=>by cases h⟩
 | (a,w) :: l,k,n,v=>by
   obtain ⟨i1,i2⟩:=Ak (l:=l) (k:=k) (n:=n + 1) v
   unfold VW Xl
   by_cases h:a=k
   ·rw [NK h,NK h]
    refine ⟨fun q=>(by cases q),fun j q => ?_⟩
    cases q
    rw [h]
    exact ⟨rfl,rfl⟩
   ·rw [NJ h,NJ h]
    cases hi:VW l k with
    | none=>
      obtain ⟨e1,e2⟩:=i1 hi
      refine ⟨fun _=>⟨?_,?_⟩,fun j q=>by cases q⟩
      ·show (_,w,n) :: Yj (n + 1) (Xl l k v)=_
       rw [e1,show n + 1 + l.length=n + (l.length + 1) by omega];rfl
      ·show (Xl l k v).length + 1=_
       rw [e2];rfl
    | some m=>
      obtain ⟨e1,e2⟩:=i2 m hi
      refine ⟨fun q=>(by cases q),fun j q => ?_⟩
      simp only [OG,Nz] at q
      subst q
      refine ⟨?_,?_⟩
      ·show (_,w,n) :: Yj (n + 1) (Xl l k v)=_
       rw [e1,show n + 1 + m=n + (m + 1) by omega];rfl
      ·show (Xl l k v).length + 1=_
       rw [e2];rfl
section
variable {t kt et:TypeId} {kind:IntKind} {z:Value} {h:za} {b:Nat} {l:List (Int × Value)}
theorem pz (ht:zT P (underlying t)=some (.map kt et)) (hk:zT P (underlying kt)=some (.int kind)) (hz:vK P et=some z) (g:h.get b=some (W5 l)) (k:Int) (ok:Bool) :
  Zw P t (.map (some b)) (.int .i64 k) ok h=some (match Wb l k with
   | some v=>cond ok (.tuple #[v,.bool true]) v
   | none=>cond ok (.tuple #[z,.bool false]) z):=by
 have em:a8 h (.map (some b))=some (Yj 0 l):=by unfold a8;simp only [g];rfl
 unfold Zw
 rw [ht,em]
 simp only [tZ hk,D8 hk]
 obtain ⟨i1,i2⟩:=mm (l:=l) (k:=k) (n:=0)
 cases hi:VW l k with
 | none=>simp only [i1 hi,hz]
 | some j=>
   obtain ⟨v,h1,h2⟩:=i2 j hi
   simp only [h1,h2]
theorem rj (ht:zT P (underlying t)=some (.map kt et)) (hk:zT P (underlying kt)=some (.int kind)) (g:h.get b=some (W5 l)) (w:h.ro<=b) (k:Int) (v:Value) :
  qE P t (.map (some b)) (.int .i64 k) v h=some (h.set b (some (W5 (Xl l k v)))):=by
 unfold qE
 simp only [ht,g,W5,tZ hk,D8 hk,Nat.ble_eq_true_of_le w,NR]
 obtain ⟨i1,i2⟩:=Ak (l:=l) (k:=k) (n:=0) v
 obtain ⟨_,i4⟩:=mm (l:=l) (k:=k) (n:=0)
 cases hi:VW l k with
 | none=>
   obtain ⟨e1,e2⟩:=i1 hi
   simp only [e1,e2,OT]
 | some j=>
   obtain ⟨e1,e2⟩:=i2 j hi
   obtain ⟨v',_,h2⟩:=i4 j hi
   have sb:Instr.sameBits 10000 (.int .i64 k) (.int .i64 k)=true:=by show ((IntKind.i64 == .i64) && (k == k))=true;simp
   simp only [h2,sb,NR,e1,e2]
end
end
end Go.Ai
namespace Go.As
open Go.Ai Go.Proofs Go.Mem Go.Rm
def VP (k:Int):Bool:=decide (k=IntKind.wrap .i64 (IntKind.wrap .i32 k))
def mq (op:Int):Bool:=decide (op=1\/op=3\/op=5\/op=7\/op=10\/op=2\/op=6\/op=8\/op=9\/op=11\/op=12\/op=17\/op=4\/op=15\/op=16)
def Jg (op:Int):Bool:=decide (op=1\/op=3\/op=5\/op=7\/op=10\/op=4\/op=15\/op=14)
def Wl (op:Int):Bool:=decide (op=1\/op=3\/op=5\/op=7\/op=10\/op=2\/op=6\/op=8\/op=9\/op=11\/op=12\/op=17)
def ue (op:Int):Bool:=decide (op=3\/op=4\/op=5\/op=1)
def ZB (i:z8):Bool := !(mq i.op && (decide (i.r < 0) || (decide (16<=i.r) || (Wl i.op && decide (i.r=4))))) && (!Jg i.op || (decide (0<=i.m) && (decide (i.m < 16) && (!decide (i.m=4) || ue i.op))))
def ZI (n:Int):Bool:=decide (21<=n) && decide (n<=26)
def jw (s:Int):Bool:=decide (s=11\/s=12\/s=13\/s=16\/s=17\/s=18)
def yd (gl:List Int) (i:z8):Bool :=
 if i.op=3\/i.op=4 then decide (i.sub=1\/i.sub=4\/i.sub=8) && VP i.k
 else if i.op=5\/i.op=16 then VP i.k
 else if i.op=6 then decide (0<=i.sub) && (decide (i.sub < gl.length) && (decide (0<=i.k) && decide (i.k<=gl.getD i.sub.toNat 0)))
 else if i.op=7 then jw i.sub
 else if i.op=8 then jw i.sub && VP i.k
 else if i.op=9 then decide (i.sub=1\/i.sub=2)
 else if i.op=10 then decide (i.sub=3\/i.sub=4)
 else if i.op=11 then decide (i.sub=19\/i.sub=20) && (decide (0<=i.k) && decide (i.k<=63))
 else if i.op=12 then decide (i.sub=19\/i.sub=20)
 else if i.op=17\/i.op=19 then ZI i.cc
 else if i.op=20 then decide (0<=i.l) && decide (i.l<=10000000)
 else if i.op=23\/i.op=24 then decide (0<=i.k) && decide (i.k<=65536)
 else true
def ZG (gl:List Int) (i:z8):Bool:=decide (1<=i.op) && (decide (i.op<=26) && (ZB i && yd gl i))
def hasB (m:List (Int × Value)) (l:Int):Bool:=match Wb m l with
 | some (.bool b)=>b
 | _=>false
def kG (gl:List Int):List z8->List (Int × Value)->Bool->Option (List (Int × Value) × Bool)
 | [],m,some?=>some (m,some?)
 | x :: xs,m,some?=>if ZG gl x=false then none else if x.op=20 then (if hasB m x.l=true then none else kG gl xs (Xl m x.l (.bool true)) some?) else kG gl xs m true
def Y9 (n:Nat) (m:List (Int × Value)) (x:z8):Bool := !(decide (x.op=18\/x.op=19) && !hasB m x.l) && !(decide (x.op=21) && (decide (x.sub < 0) || decide ((n:Int)<=x.sub)))
def fh (n:Nat) (code:List z8):Option (List (Int × Value) × Bool)->Bool
 | none=>false
 | some r=>code.all (Y9 n r.1) && r.2
def JK (p:Pg) (f:Fn):Bool := !decide (100000 < (f.code.length:Int)) && fh p.funcs.length f.code (kG p.globals f.code [] false)
def uq (p:Pg):Bool := !decide (p.main < 0) && (!decide ((p.funcs.length:Int)<=p.main) && (!decide ((100:Int) < p.funcs.length) && (!decide ((200:Int) < p.globals.length) && (!decide (p.params < 0) && !decide (6 < p.params)))))
def kf (p:Pg):Bool:=uq p && (p.globals.all (fun n => !decide (n < 0) && !decide (65536 < n)) && p.funcs.all (JK p))
open Go.Rtl (zL zP Old wq xz)
theorem uo {u v w:Value} {h:za} {R:Value->za->Prop} (ha:ya u=false) (hb:ya v=false) (hc:ya w=false):rv [u,v,w] h R=R (.tuple #[u,v,w]) h:=by
 apply propext;simp only [rv,yB,ha,hb,hc,N1,jM,true_and]
theorem BX (a b c:Bool):gi (.tuple #[.bool a,.bool b,.bool c]) 0=some (.bool a):=rfl
theorem BY (a b c:Bool):gi (.tuple #[.bool a,.bool b,.bool c]) 1=some (.bool b):=rfl
theorem BZ (a b c:Bool):gi (.tuple #[.bool a,.bool b,.bool c]) 2=some (.bool c):=rfl
theorem W1 (k:Int) (h:za):wV Tryz.prog 72 [.int .i64 k] h (.bool (VP k)):=by
 apply wq
 apply Be
 unfold Dc VP
 by_cases hk:k=IntKind.wrap .i64 (IntKind.wrap .i32 k)
 ·simp -implicitDefEqProofs only [EE,WX,Uq]
  simp [xz]
 ·simp -implicitDefEqProofs only [EE,WX,Uq]
  simp [xz]
theorem FJ (n:Int) (h:za):DC Tryz.prog 88 [.int .i64 n] h (fun v h1=>(∃ a,v = .tuple #[.int .i64 a,.bool (ZI n)])/\h1=h):=by
 apply A8
 unfold C3
 by_cases h21:n=21
 ·subst h21;simp -implicitDefEqProofs only [EE,↓BK,Z5];exact ⟨_,rfl⟩
 by_cases h22:n=22
 ·subst h22;simp -implicitDefEqProofs only [EE,↓BK,Int.reduceEq,YO,Z5];exact ⟨_,rfl⟩
 by_cases h23:n=23
 ·subst h23;simp -implicitDefEqProofs only [EE,↓BK,Int.reduceEq,XZ,YO,Z5];exact ⟨_,rfl⟩
 by_cases h24:n=24
 ·subst h24;simp -implicitDefEqProofs only [EE,↓BK,Int.reduceEq,Kf,VA,XZ,YO,Z5];exact ⟨_,rfl⟩
 by_cases h25:n=25
 ·subst h25;simp -implicitDefEqProofs only [EE,↓BK,Int.reduceEq,cV,Kf,VA,XZ,YO,Z5];exact ⟨_,rfl⟩
 by_cases h26:n=26
 ·subst h26;simp -implicitDefEqProofs only [EE,↓BK,Int.reduceEq,VA,XZ,YO,Z5];exact ⟨_,rfl⟩
 simp -implicitDefEqProofs only [EE,↓BK,cV,Kf,VA,XZ,YO,Z5,h21,h22,h23,h24,h25,h26]
 have e:ZI n=false:=by unfold ZI;simp;omega
 rw [e]
 exact ⟨_,rfl⟩
theorem eD (n:Int) (h:za):wV Tryz.prog 74 [.int .i64 n] h (.bool (ZI n)):=by
 apply wq
 apply fT
 unfold c8
 refine vp (by kernel_rfl) rfl (FJ n _) ?_
 rintro v h1 ⟨⟨a,rfl⟩,rfl⟩
 simp -implicitDefEqProofs only [EE]
 rfl
theorem oD (n:Int) (h:za):wV Tryz.prog 73 [.int .i64 n] h (.bool (jw n)):=by
 apply wq
 apply C6
 unfold GG
 by_cases h11:n=11
 ·subst h11;simp -implicitDefEqProofs only [EE,nth,↓BK,Xp];rfl
 by_cases h12:n=12
 ·subst h12;simp -implicitDefEqProofs only [EE,nth,↓BK,Int.reduceEq,Wv,Xp];rfl
 by_cases h13:n=13
 ·subst h13;simp -implicitDefEqProofs only [EE,nth,↓BK,Int.reduceEq,Ud,Wv,Xp];rfl
 by_cases h16:n=16
 ·subst h16;simp -implicitDefEqProofs only [EE,nth,↓BK,Int.reduceEq,Kn,Ud,Wv,Xp];rfl
 by_cases h17:n=17
 ·subst h17;simp -implicitDefEqProofs only [EE,nth,↓BK,Int.reduceEq,bC,Kn,Ud,Wv,Xp];rfl
 by_cases h18:n=18
 ·subst h18;simp -implicitDefEqProofs only [EE,nth,↓BK,Int.reduceEq,bC,Kn,Ud,Wv,Xp];rfl
 simp -implicitDefEqProofs only [EE,nth,↓BK,bC,Kn,Ud,Wv,Xp,h11,h12,h13,h16,h17,h18]
 have e:jw n=false:=by unfold jw;simp;omega
 rw [e];rfl
theorem F8 (x:z8) (h:za):wV Tryz.prog 87 [x.val] h (.tuple #[.bool (mq x.op),.bool (Jg x.op),.bool (Wl x.op)]):=by
 apply Uw rfl
 apply rK
 unfold tP
 obtain ⟨op,r,m,sub,cc,l,k⟩:=x
 by_cases h1:op=1
 ·subst h1;simp -implicitDefEqProofs only [EE,nth,↓nw,Value.cells,↓BK,zq,zi,ze,wC,wD,uo];rfl
 by_cases h3:op=3
 ·subst h3;simp -implicitDefEqProofs only [EE,nth,↓nw,Value.cells,↓BK,Int.reduceEq,zq,zi,ze,vH,wC,wD,uo];rfl
 by_cases h5:op=5
 ·subst h5;simp -implicitDefEqProofs only [EE,nth,↓nw,Value.cells,↓BK,Int.reduceEq,zq,zi,ze,vS,vH,wC,wD,uo];rfl
 by_cases h7:op=7
 ·subst h7;simp -implicitDefEqProofs only [EE,nth,↓nw,Value.cells,↓BK,Int.reduceEq,zq,zi,ze,v8,vS,vH,wC,wD,uo];rfl
 by_cases h10:op=10
 ·subst h10;simp -implicitDefEqProofs only [EE,nth,↓nw,Value.cells,↓BK,Int.reduceEq,zq,zi,ze,v8,vS,vH,wC,wD,uo];rfl
 by_cases h2:op=2
 ·subst h2;simp -implicitDefEqProofs only [EE,nth,↓nw,Value.cells,↓BK,Int.reduceEq,zq,zi,ze,v8,vS,vH,v9,ua,wC,wD,uo];rfl
 by_cases h6:op=6
 ·subst h6;simp -implicitDefEqProofs only [EE,nth,↓nw,Value.cells,↓BK,Int.reduceEq,zq,zi,ze,v8,vS,vH,uU,v9,ua,wC,wD,uo];rfl
 by_cases h8:op=8
 ·subst h8;simp -implicitDefEqProofs only [EE,nth,↓nw,Value.cells,↓BK,Int.reduceEq,zq,zi,ze,v8,vS,vH,qJ,uU,v9,ua,wC,wD,uo];rfl
 by_cases h9:op=9
 ·subst h9;simp -implicitDefEqProofs only [EE,nth,↓nw,Value.cells,↓BK,Int.reduceEq,zq,zi,ze,v8,vS,vH,kH,qJ,uU,v9,ua,wC,wD,uo];rfl
 by_cases h11:op=11
 ·subst h11;simp -implicitDefEqProofs only [EE,nth,↓nw,Value.cells,↓BK,Int.reduceEq,zq,zi,ze,v8,vS,vH,jt,kH,qJ,uU,v9,ua,wC,wD,uo];rfl
 by_cases h12:op=12
 ·subst h12;simp -implicitDefEqProofs only [EE,nth,↓nw,Value.cells,↓BK,Int.reduceEq,zq,zi,ze,v8,vS,vH,Zf,jt,kH,qJ,uU,v9,ua,wC,wD,uo];rfl
 by_cases h17:op=17
 ·subst h17;simp -implicitDefEqProofs only [EE,nth,↓nw,Value.cells,↓BK,Int.reduceEq,zq,zi,ze,v8,vS,vH,Zf,jt,kH,qJ,uU,v9,ua,wC,wD,uo];rfl
 by_cases h4:op=4
 ·subst h4;simp -implicitDefEqProofs only [EE,nth,↓nw,Value.cells,↓BK,Int.reduceEq,zq,zi,ze,v8,vS,vH,Zf,jt,kH,qJ,uU,ZM,ZN,v9,ua,wC,wD,uo];rfl
 by_cases h15:op=15
 ·subst h15;simp -implicitDefEqProofs only [EE,nth,↓nw,Value.cells,↓BK,Int.reduceEq,zq,zi,ze,v8,vS,vH,Zf,jt,kH,qJ,uU,ZM,ZN,v9,ua,wC,wD,uo];rfl
 by_cases h16:op=16
 ·subst h16;simp -implicitDefEqProofs only [EE,nth,↓nw,Value.cells,↓BK,Int.reduceEq,zq,zi,ze,v8,vS,vH,Zf,jt,kH,qJ,uU,WI,ZM,ZN,v9,ua,wC,wD,uo];rfl
 by_cases h14:op=14
 ·subst h14;simp -implicitDefEqProofs only [EE,nth,↓nw,Value.cells,↓BK,Int.reduceEq,zq,zi,ze,v8,vS,vH,Zf,jt,kH,qJ,uU,Jv,WI,ZM,ZN,v9,ua,wC,wD,uo];rfl
 simp -implicitDefEqProofs only [EE,nth,↓nw,Value.cells,↓BK,zq,zi,ze,v8,vS,vH,Zf,jt,kH,qJ,uU,Jv,WI,ZM,ZN,v9,ua,wC,wD,uo,h1,h3,h5,h7,h10,h2,h6,h8,h9,h11,h12,h17,h4,h15,h16,h14]
 have e1:mq op=false:=by unfold mq;simp;omega
 have e2:Jg op=false:=by unfold Jg;simp;omega
 have e3:Wl op=false:=by unfold Wl;simp;omega
 rw [e1,e2,e3];rfl
theorem M0 {x:z8} {H:za} {b1:Nat} {B:Bool} {vs:List Value} (g:H.get b1=some (.cells x.row 42)) (hB:B=(decide (0<=x.m) && (decide (x.m < 16) && (!decide (x.m=4) || ue x.op)))):ye (.pointer (some ⟨b1,0,none⟩)) (xz B) vs H:=by
 obtain ⟨op,r,m,sub,cc,l,k⟩:=x
 simp only at hB g
 by_cases o3:op=3
 ·subst o3
  by_cases m0:0<=m
  ·by_cases m1:m < 16
   ·by_cases m4:m=4
    ·simp -implicitDefEqProofs only [EE,Int.reduceLT,Int.reduceLE,zq,zi,ze,zM,yP,yQ,yR,yS,yT,yU,yV,yW,yX,yu,ye,g,m4]
     rw [hB];simp [xz,m4,ue]
    ·simp -implicitDefEqProofs only [EE,zq,zi,ze,zM,yP,yQ,yR,yS,yT,yU,yV,yW,yX,yu,ye,g,m0,m1,m4]
     rw [hB];simp [xz,m0,m1,m4,ue]
   ·simp -implicitDefEqProofs only [EE,zq,zi,ze,zM,yP,yQ,yR,yS,yT,yU,yV,yW,yX,yu,ye,g,m0,m1]
    rw [hB];simp [xz,m0,m1,ue]
  ·simp -implicitDefEqProofs only [EE,zq,zi,ze,zM,yP,yQ,yR,yS,yT,yU,yV,yW,yX,yu,ye,g,m0]
   rw [hB];simp [xz,m0,ue]
 by_cases o4:op=4
 ·subst o4
  by_cases m0:0<=m
  ·by_cases m1:m < 16
   ·by_cases m4:m=4
    ·simp -implicitDefEqProofs only [EE,Int.reduceEq,Int.reduceLT,Int.reduceLE,zq,zi,ze,zM,yP,yQ,yR,yS,yT,yU,yV,yW,yX,yu,ye,g,m4]
     rw [hB];simp [xz,m4,ue]
    ·simp -implicitDefEqProofs only [EE,Int.reduceEq,zq,zi,ze,zM,yP,yQ,yR,yS,yT,yU,yV,yW,yX,yu,ye,g,m0,m1,m4]
     rw [hB];simp [xz,m0,m1,m4,ue]
   ·simp -implicitDefEqProofs only [EE,Int.reduceEq,zq,zi,ze,zM,yP,yQ,yR,yS,yT,yU,yV,yW,yX,yu,ye,g,m0,m1]
    rw [hB];simp [xz,m0,m1,ue]
  ·simp -implicitDefEqProofs only [EE,Int.reduceEq,zq,zi,ze,zM,yP,yQ,yR,yS,yT,yU,yV,yW,yX,yu,ye,g,m0]
   rw [hB];simp [xz,m0,ue]
 by_cases o5:op=5
 ·subst o5
  by_cases m0:0<=m
  ·by_cases m1:m < 16
   ·by_cases m4:m=4
    ·simp -implicitDefEqProofs only [EE,Int.reduceEq,Int.reduceLT,Int.reduceLE,zq,zi,ze,zM,yP,yQ,yR,yS,yT,yU,yV,yW,yX,yu,ye,g,m4]
     rw [hB];simp [xz,m4,ue]
    ·simp -implicitDefEqProofs only [EE,Int.reduceEq,zq,zi,ze,zM,yP,yQ,yR,yS,yT,yU,yV,yW,yX,yu,ye,g,m0,m1,m4]
     rw [hB];simp [xz,m0,m1,m4,ue]
   ·simp -implicitDefEqProofs only [EE,Int.reduceEq,zq,zi,ze,zM,yP,yQ,yR,yS,yT,yU,yV,yW,yX,yu,ye,g,m0,m1]
    rw [hB];simp [xz,m0,m1,ue]
  ·simp -implicitDefEqProofs only [EE,Int.reduceEq,zq,zi,ze,zM,yP,yQ,yR,yS,yT,yU,yV,yW,yX,yu,ye,g,m0]
   rw [hB];simp [xz,m0,ue]
 by_cases o1:op=1
 ·subst o1
  by_cases m0:0<=m
  ·by_cases m1:m < 16
   ·by_cases m4:m=4
    ·simp -implicitDefEqProofs only [EE,Int.reduceEq,Int.reduceLT,Int.reduceLE,zq,zi,ze,zM,yP,yQ,yR,yS,yT,yU,yV,yW,yX,yu,ye,g,m4]
     rw [hB];simp [xz,m4,ue]
    ·simp -implicitDefEqProofs only [EE,Int.reduceEq,zq,zi,ze,zM,yP,yQ,yR,yS,yT,yU,yV,yW,yX,yu,ye,g,m0,m1,m4]
     rw [hB];simp [xz,m0,m1,m4,ue]
   ·simp -implicitDefEqProofs only [EE,Int.reduceEq,zq,zi,ze,zM,yP,yQ,yR,yS,yT,yU,yV,yW,yX,yu,ye,g,m0,m1]
    rw [hB];simp [xz,m0,m1,ue]
  ·simp -implicitDefEqProofs only [EE,Int.reduceEq,zq,zi,ze,zM,yP,yQ,yR,yS,yT,yU,yV,yW,yX,yu,ye,g,m0]
   rw [hB];simp [xz,m0,ue]
 have ef:ue op=false:=by unfold ue;simp [o3,o4,o5,o1]
 by_cases m0:0<=m
 ·by_cases m1:m < 16
  ·by_cases m4:m=4
   ·simp -implicitDefEqProofs only [EE,Int.reduceLT,Int.reduceLE,zq,zi,ze,zM,yP,yQ,yR,yS,yT,yU,yV,yW,yX,yu,ye,g,m4,o3,o4,o5,o1]
    rw [hB];simp [xz,m4,ef]
   ·simp -implicitDefEqProofs only [EE,zq,zi,ze,zM,yP,yQ,yR,yS,yT,yU,yV,yW,yX,yu,ye,g,m0,m1,m4,o3,o4,o5,o1]
    rw [hB];simp [xz,m0,m1,m4,ef]
  ·simp -implicitDefEqProofs only [EE,zq,zi,ze,zM,yP,yQ,yR,yS,yT,yU,yV,yW,yX,yu,ye,g,m0,m1,o3,o4,o5,o1]
   rw [hB];simp [xz,m0,m1,ef]
 ·simp -implicitDefEqProofs only [EE,zq,zi,ze,zM,yP,yQ,yR,yS,yT,yU,yV,yW,yX,yu,ye,g,m0,o3,o4,o5,o1]
  rw [hB];simp [xz,m0,ef]
theorem LF {x:z8} {H:za} {b1:Nat} {B:Bool} {bad:Bool} {t10:Bool} (g:H.get b1=some (.cells x.row 42)) (hb:(t10 && bad)=false) (hB:B=(!Jg x.op || (decide (0<=x.m) && (decide (x.m < 16) && (!decide (x.m=4) || ue x.op))))) (v:Value) (hv:t10=true->v = .bool bad) (h0:t10=false->True):uf (.bool t10) (xz B) (.bool (Jg x.op)) (.pointer (some ⟨b1,0,none⟩)) v H:=by
 have fin:∀ vs,ye (.pointer (some ⟨b1,0,none⟩)) (xz B) vs H\/Jg x.op=false:=fun vs=>by
  cases hm:Jg x.op with
  | false=>exact .inr rfl
  | true=>exact .inl (M0 g (by rw [hB,hm];rfl))
 cases t10 with
 | false=>
   cases hm:Jg x.op with
   | false=>simp -implicitDefEqProofs only [EE,uf];rw [hB,hm];rfl
   | true=>simp -implicitDefEqProofs only [EE,nth,uf];rcases fin [.bool false] with q | q;exact q;rw [hm] at q;cases q
 | true=>
   have hbad:bad=false:=by simpa using hb
   subst hbad
   rw [hv rfl]
   cases hm:Jg x.op with
   | false=>simp -implicitDefEqProofs only [EE,uf];rw [hB,hm];rfl
   | true=>simp -implicitDefEqProofs only [EE,nth,uf];rcases fin [.bool false] with q | q;exact q;rw [hm] at q;cases q
theorem sA (x:z8) (h:za):wV Tryz.prog 71 [x.val] h (.bool (ZB x)):=by
 apply wq
 generalize h.lock=L
 apply fV
 unfold dr
 simp -implicitDefEqProofs only [EE,↓nw,Value.cells,N5,Nat.reduceAdd,jF,qf]
 refine zJ (by kernel_rfl) rfl (F8 x _) ?_
 have g:(L.push (.cells x.row 42)).get L.next=some (.cells x.row 42):=y6
 generalize L.push (.cells x.row 42)=H at g ⊢
 obtain ⟨op,r,m,sub,cc,l,k⟩:=x
 simp only at g ⊢
 cases hr:mq op with
 | false=>
   have hB:ZB ⟨op,r,m,sub,cc,l,k⟩=(!Jg op || (decide (0<=m) && (decide (m < 16) && (!decide (m=4) || ue op)))):=by unfold ZB;simp only [hr,Bool.false_and,Ps,OX]
   simp -implicitDefEqProofs only [EE,qu,qv,qw,qx,qy,qz,qA,qB,BX,BY,BZ]
   exact LF (x:=⟨op,r,m,sub,cc,l,k⟩) (t10:=false) (bad:=false) g rfl hB _ (fun q=>by cases q) (fun _=>trivial)
 | true=>
   have bad:∀ {v},v = .bool true->ZB ⟨op,r,m,sub,cc,l,k⟩=false->uf (.bool true) (xz (ZB ⟨op,r,m,sub,cc,l,k⟩)) (.bool (Jg op)) (.pointer (some ⟨L.next,0,none⟩)) v H:=by
    rintro v rfl hf
    rw [hf]
    simp -implicitDefEqProofs only [EE,uf]
    rfl
   have good:∀ {v},v = .bool false->(decide (r < 0) || (decide (16<=r) || (Wl op && decide (r=4))))=false->uf (.bool true) (xz (ZB ⟨op,r,m,sub,cc,l,k⟩)) (.bool (Jg op)) (.pointer (some ⟨L.next,0,none⟩)) v H:=by
    rintro v rfl hf
    have hB:ZB ⟨op,r,m,sub,cc,l,k⟩=(!Jg op || (decide (0<=m) && (decide (m < 16) && (!decide (m=4) || ue op)))):=by unfold ZB;simp only [hr,hf,Bool.and_false,Ps,OX]
    exact LF (x:=⟨op,r,m,sub,cc,l,k⟩) (t10:=true) (bad:=false) g rfl hB _ (fun _=>rfl) (fun q=>by cases q)
   by_cases r0:r < 0
   ·simp -implicitDefEqProofs only [EE,zq,zi,zC,qu,qv,qw,qx,qy,qz,qA,qB,g,BX,BY,BZ,r0]
    exact bad rfl (by unfold ZB;simp [hr,r0])
   by_cases r1:r ≥ 16
   ·simp -implicitDefEqProofs only [EE,zq,zi,zC,qu,qv,qw,qx,qy,qz,qA,qB,g,BX,BY,BZ,r0,r1]
    exact bad rfl (by have r1:16<=r:=r1;unfold ZB;simp [hr,r1])
   have r1':¬ 16<=r:=r1
   cases hw:Wl op with
   | false=>
     simp -implicitDefEqProofs only [EE,zq,zi,zC,qu,qv,qw,qx,qy,qz,qA,qB,g,BX,BY,BZ,r0,r1]
     exact good rfl (by simp [r0,r1',hw])
   | true=>
     by_cases r4:r=4
     ·subst r4
      simp -implicitDefEqProofs only [EE,zq,zi,zC,qu,qv,qw,qx,qy,qz,qA,qB,g,BX,BY,BZ,r0,r1]
      exact bad rfl (by unfold ZB;simp [hr,hw])
     ·simp -implicitDefEqProofs only [EE,zq,zi,zC,qu,qv,qw,qx,qy,qz,qA,qB,g,BX,BY,BZ,r0,r1,r4]
      exact good rfl (by simp [r0,r1',r4])
theorem jC {h:za} {sv:Value} {zs:List Int} (S:zL h sv zs) (r:TypeId) (h':za):zg Tryz.prog .len [22] r [sv] h'=some (.int .i64 zs.length,h'):=by
 rcases S with ⟨rfl,rfl⟩ | ⟨b,off,cp,rfl,_⟩
 ·simp only [JS,O0]
 ·simp only [JS]
theorem XL {h:za} {sv:Value} {zs:List Int} (S:zL h sv zs) {i:Nat} {z:Int} (hz:zs[i]? = some z):∃ b o c t,zI Tryz.prog 22 sv (.int .i64 i)=some (.pointer (some ⟨b,o,none⟩))/\b < h.next/\h.get b=some (.cells c t)/\c[o]? = some (.int .i64 z):=by
 have hi:i < zs.length:=by
  rcases NZ i zs.length with q | q
  ·exact q
  ·rw [NM q] at hz;cases hz
 rcases S with ⟨rfl,rfl⟩ | ⟨b,off,cp,rfl,hc⟩
 ·cases hz
 ·obtain ⟨c,t,hb,hg,hat⟩:=hc (by intro e;subst e;cases hz)
  have h0:(0:Int)<=i:=by omega
  have h1:(i:Int) < (zs.length:Int):=by omega
  exact ⟨b,off + i,c,t,by simp only [pr,h0,h1,N5,and_self,Pd,OB],hb,hg,hat i z hz⟩
section
variable {gl:List Int} {gv:Value} {H:za} {b:Nat} {B:Bool} {vs:List Value} {x:z8}
theorem MT {r m sub cc l k:Int} (g:H.get b=some (.cells (z8.row ⟨3,r,m,sub,cc,l,k⟩) 42)) (S:zL H gv gl) (hB:B=yd gl ⟨3,r,m,sub,cc,l,k⟩):zj (.pointer (some ⟨b,0,none⟩)) (xz B) gv vs H:=by
 by_cases s1:sub=1
 ·subst s1
  simp -implicitDefEqProofs only [EE,nth,↓BK,zq,xA,zi,ze,zk,zu,uZ,u2,u7,qa,qb,uC,zA,zj,g]
  refine zJ (by kernel_rfl) rfl (W1 k _) ?_
  simp -implicitDefEqProofs only [EE]
  rw [hB];simp [xz,yd]
 by_cases s4:sub=4
 ·subst s4
  simp -implicitDefEqProofs only [EE,nth,↓BK,zq,xA,zi,ze,zk,zu,uZ,u2,u7,qa,qb,uC,zA,zj,g,s1]
  refine zJ (by kernel_rfl) rfl (W1 k _) ?_
  simp -implicitDefEqProofs only [EE]
  rw [hB];simp [xz,yd,s1]
 by_cases s8:sub=8
 ·subst s8
  simp -implicitDefEqProofs only [EE,nth,↓BK,zq,xA,zi,ze,zk,zu,uZ,u2,u7,qa,qb,uC,zA,zj,g,s1,s4]
  refine zJ (by kernel_rfl) rfl (W1 k _) ?_
  simp -implicitDefEqProofs only [EE]
  rw [hB];simp [xz,yd,s1,s4]
 simp -implicitDefEqProofs only [EE,nth,↓BK,zq,zi,ze,zk,uZ,u2,u7,qa,qb,uC,zA,zj,g,s1,s4,s8]
 rw [hB];simp [xz,yd,s1,s4,s8]
theorem MU {r m sub cc l k:Int} (g:H.get b=some (.cells (z8.row ⟨4,r,m,sub,cc,l,k⟩) 42)) (S:zL H gv gl) (hB:B=yd gl ⟨4,r,m,sub,cc,l,k⟩):zj (.pointer (some ⟨b,0,none⟩)) (xz B) gv vs H:=by
 by_cases s1:sub=1
 ·subst s1
  simp -implicitDefEqProofs only [EE,nth,↓BK,Int.reduceEq,zq,xA,zi,ze,zk,zu,uZ,u2,u7,qa,qb,uC,zA,zj,g]
  refine zJ (by kernel_rfl) rfl (W1 k _) ?_
  simp -implicitDefEqProofs only [EE]
  rw [hB];simp [xz,yd]
 by_cases s4:sub=4
 ·subst s4
  simp -implicitDefEqProofs only [EE,nth,↓BK,Int.reduceEq,zq,xA,zi,ze,zk,zu,uZ,u2,u7,qa,qb,uC,zA,zj,g,s1]
  refine zJ (by kernel_rfl) rfl (W1 k _) ?_
  simp -implicitDefEqProofs only [EE]
  rw [hB];simp [xz,yd,s1]
 by_cases s8:sub=8
 ·subst s8
  simp -implicitDefEqProofs only [EE,nth,↓BK,Int.reduceEq,zq,xA,zi,ze,zk,zu,uZ,u2,u7,qa,qb,uC,zA,zj,g,s1,s4]
  refine zJ (by kernel_rfl) rfl (W1 k _) ?_
  simp -implicitDefEqProofs only [EE]
  rw [hB];simp [xz,yd,s1,s4]
 simp -implicitDefEqProofs only [EE,nth,↓BK,Int.reduceEq,zq,zi,ze,zk,uZ,u2,u7,qa,qb,uC,zA,zj,g,s1,s4,s8]
 rw [hB];simp [xz,yd,s1,s4,s8]
theorem MV {r m sub cc l k:Int} (g:H.get b=some (.cells (z8.row ⟨5,r,m,sub,cc,l,k⟩) 42)) (S:zL H gv gl) (hB:B=yd gl ⟨5,r,m,sub,cc,l,k⟩):zj (.pointer (some ⟨b,0,none⟩)) (xz B) gv vs H:=by
 simp -implicitDefEqProofs only [EE,nth,↓BK,Int.reduceEq,zq,xA,zi,ze,zu,Wu,zF,zA,zj,g]
 refine zJ (by kernel_rfl) rfl (W1 k _) ?_
 simp -implicitDefEqProofs only [EE]
 rw [hB];simp [xz,yd]
theorem Ly {r m sub cc l k:Int} (g:H.get b=some (.cells (z8.row ⟨16,r,m,sub,cc,l,k⟩) 42)) (S:zL H gv gl) (hB:B=yd gl ⟨16,r,m,sub,cc,l,k⟩):zj (.pointer (some ⟨b,0,none⟩)) (xz B) gv vs H:=by
 simp -implicitDefEqProofs only [EE,nth,↓BK,Int.reduceEq,zq,xA,zi,ze,zu,Wu,zF,zA,zj,g]
 refine zJ (by kernel_rfl) rfl (W1 k _) ?_
 simp -implicitDefEqProofs only [EE]
 rw [hB];simp [xz,yd]
theorem MW {r m sub cc l k:Int} (g:H.get b=some (.cells (z8.row ⟨6,r,m,sub,cc,l,k⟩) 42)) (S:zL H gv gl) (hB:B=yd gl ⟨6,r,m,sub,cc,l,k⟩):zj (.pointer (some ⟨b,0,none⟩)) (xz B) gv vs H:=by
 have nl:=S.Zp
 have hl:=jC S 3
 by_cases s0:0<=sub
 ·by_cases s1:sub < (gl.length:Int)
  ·by_cases k0:0<=k
   ·obtain ⟨z,hz⟩:∃ z,gl[sub.toNat]? = some z:=⟨_,NC (by omega)⟩
    obtain ⟨bb,oo,c,t,ha,hbb,hgt,hat⟩:=XL S hz
    rw [O6 s0] at ha
    have hd:gl.getD sub.toNat 0=z:=by rw [Oz,hz];rfl
    by_cases k1:k<=z
    ·simp -implicitDefEqProofs only [EE,nth,↓BK,Int.reduceEq,zq,xA,zi,ze,zk,zu,jZ,j0,j1,j2,jm,jn,jo,jq,jr,zG,zF,zA,zj,g,nl,hl,s0,s1,k0,ha,hgt,hat,k1]
     rw [hB];simp only [yd,hd];simp [xz,s0,s1,k0,k1]
    ·simp -implicitDefEqProofs only [EE,nth,↓BK,Int.reduceEq,zq,xA,zi,ze,zk,zu,jZ,j0,j1,j2,jm,jn,jo,jq,jr,zG,zF,zA,zj,g,nl,hl,s0,s1,k0,ha,hgt,hat,k1]
     rw [hB];simp only [yd,hd];simp [xz,s0,s1,k0,k1]
   ·simp -implicitDefEqProofs only [EE,nth,↓BK,Int.reduceEq,zq,xA,zi,ze,zk,zu,jZ,j0,j1,j2,jm,jn,jo,jq,jr,zG,zF,zA,zj,g,nl,hl,s0,s1,k0]
    rw [hB];simp [xz,yd,s0,s1,k0]
  ·simp -implicitDefEqProofs only [EE,nth,↓BK,Int.reduceEq,zq,zi,ze,zk,jZ,j0,j1,j2,jm,jn,jo,jq,jr,zG,zF,zA,zj,g,nl,hl,s0,s1]
   rw [hB];simp [xz,yd,s0,s1]
 ·simp -implicitDefEqProofs only [EE,nth,↓BK,Int.reduceEq,zq,zi,ze,zk,jZ,j0,j1,j2,jm,jn,jo,jq,jr,zG,zF,zA,zj,g,s0]
  rw [hB];simp [xz,yd,s0]
theorem MX {r m sub cc l k:Int} (g:H.get b=some (.cells (z8.row ⟨7,r,m,sub,cc,l,k⟩) 42)) (S:zL H gv gl) (hB:B=yd gl ⟨7,r,m,sub,cc,l,k⟩):zj (.pointer (some ⟨b,0,none⟩)) (xz B) gv vs H:=by
 simp -implicitDefEqProofs only [EE,nth,↓BK,Int.reduceEq,zq,zi,ze,zk,Kg,zR,zG,zF,zA,zj,g]
 refine zJ (by kernel_rfl) rfl (oD sub _) ?_
 simp -implicitDefEqProofs only [EE]
 rw [hB];simp [xz,yd]
theorem MY {r m sub cc l k:Int} (g:H.get b=some (.cells (z8.row ⟨8,r,m,sub,cc,l,k⟩) 42)) (S:zL H gv gl) (hB:B=yd gl ⟨8,r,m,sub,cc,l,k⟩):zj (.pointer (some ⟨b,0,none⟩)) (xz B) gv vs H:=by
 simp -implicitDefEqProofs only [EE,nth,↓BK,Int.reduceEq,zq,zi,ze,zk,zV,zR,zG,zF,zA,zj,g]
 refine zJ (by kernel_rfl) rfl (oD sub _) ?_
 cases ha:jw sub with
 | false=>
   simp -implicitDefEqProofs only [EE,Wr,Ws]
   rw [hB];simp [xz,yd,ha]
 | true=>
   simp -implicitDefEqProofs only [EE,zq,xA,zu,Wr,Ws,g]
   refine zJ (by kernel_rfl) rfl (W1 k _) ?_
   simp -implicitDefEqProofs only [EE]
   rw [hB];simp [xz,yd,ha]
theorem MZ {r m sub cc l k:Int} (g:H.get b=some (.cells (z8.row ⟨9,r,m,sub,cc,l,k⟩) 42)) (S:zL H gv gl) (hB:B=yd gl ⟨9,r,m,sub,cc,l,k⟩):zj (.pointer (some ⟨b,0,none⟩)) (xz B) gv vs H:=by
 by_cases s1:sub=1
 ·subst s1
  simp -implicitDefEqProofs only [EE,nth,↓BK,Int.reduceEq,zq,zi,ze,zk,Yt,YA,zX,zV,zR,zG,zF,zA,zj,g]
  rw [hB];simp [xz,yd]
 by_cases s2:sub=2
 ·subst s2
  simp -implicitDefEqProofs only [EE,nth,↓BK,Int.reduceEq,zq,zi,ze,zk,Yt,YA,zX,zV,zR,zG,zF,zA,zj,g,s1]
  rw [hB];simp [xz,yd,s1]
 simp -implicitDefEqProofs only [EE,nth,↓BK,Int.reduceEq,zq,zi,ze,zk,Yt,YA,zX,zV,zR,zG,zF,zA,zj,g,s1,s2]
 rw [hB];simp [xz,yd,s1,s2]
theorem Lv {r m sub cc l k:Int} (g:H.get b=some (.cells (z8.row ⟨10,r,m,sub,cc,l,k⟩) 42)) (S:zL H gv gl) (hB:B=yd gl ⟨10,r,m,sub,cc,l,k⟩):zj (.pointer (some ⟨b,0,none⟩)) (xz B) gv vs H:=by
 by_cases s3:sub=3
 ·subst s3
  simp -implicitDefEqProofs only [EE,nth,↓BK,Int.reduceEq,zq,zi,ze,zk,Yu,Yz,yb,zX,zV,zR,zG,zF,zA,zj,g]
  rw [hB];simp [xz,yd]
 by_cases s4:sub=4
 ·subst s4
  simp -implicitDefEqProofs only [EE,nth,↓BK,Int.reduceEq,zq,zi,ze,zk,Yu,Yz,yb,zX,zV,zR,zG,zF,zA,zj,g,s3]
  rw [hB];simp [xz,yd,s3]
 simp -implicitDefEqProofs only [EE,nth,↓BK,Int.reduceEq,zq,zi,ze,zk,Yu,Yz,yb,zX,zV,zR,zG,zF,zA,zj,g,s3,s4]
 rw [hB];simp [xz,yd,s3,s4]
theorem Lx {r m sub cc l k:Int} (g:H.get b=some (.cells (z8.row ⟨12,r,m,sub,cc,l,k⟩) 42)) (S:zL H gv gl) (hB:B=yd gl ⟨12,r,m,sub,cc,l,k⟩):zj (.pointer (some ⟨b,0,none⟩)) (xz B) gv vs H:=by
 by_cases s19:sub=19
 ·subst s19
  simp -implicitDefEqProofs only [EE,nth,↓BK,Int.reduceEq,zq,zi,ze,zk,Yv,Yy,xX,yx,yb,zX,zV,zR,zG,zF,zA,zj,g]
  rw [hB];simp [xz,yd]
 by_cases s20:sub=20
 ·subst s20
  simp -implicitDefEqProofs only [EE,nth,↓BK,Int.reduceEq,zq,zi,ze,zk,Yv,Yy,xX,yx,yb,zX,zV,zR,zG,zF,zA,zj,g,s19]
  rw [hB];simp [xz,yd,s19]
 simp -implicitDefEqProofs only [EE,nth,↓BK,Int.reduceEq,zq,zi,ze,zk,Yv,Yy,xX,yx,yb,zX,zV,zR,zG,zF,zA,zj,g,s19,s20]
 rw [hB];simp [xz,yd,s19,s20]
theorem Lw {r m sub cc l k:Int} (g:H.get b=some (.cells (z8.row ⟨11,r,m,sub,cc,l,k⟩) 42)) (S:zL H gv gl) (hB:B=yd gl ⟨11,r,m,sub,cc,l,k⟩):zj (.pointer (some ⟨b,0,none⟩)) (xz B) gv vs H:=by
 by_cases s19:sub=19
 ·subst s19
  by_cases k0:0<=k
  ·by_cases k1:k<=63
   ·simp -implicitDefEqProofs only [EE,nth,↓BK,Int.reduceEq,zq,xA,zi,ze,zk,zu,u0,u1,u3,u4,u5,u9,yx,yb,zX,zV,zR,zG,zF,zA,zj,g,k0,k1]
    rw [hB];simp [xz,yd,k0,k1]
   ·simp -implicitDefEqProofs only [EE,nth,↓BK,Int.reduceEq,zq,xA,zi,ze,zk,zu,u0,u1,u3,u4,u5,u9,yx,yb,zX,zV,zR,zG,zF,zA,zj,g,k0,k1]
    rw [hB];simp [xz,yd,k0,k1]
  ·simp -implicitDefEqProofs only [EE,nth,↓BK,Int.reduceEq,zq,xA,zi,ze,zk,zu,u0,u1,u3,u4,u5,u9,yx,yb,zX,zV,zR,zG,zF,zA,zj,g,k0]
   rw [hB];simp [xz,yd,k0]
 by_cases s20:sub=20
 ·subst s20
  by_cases k0:0<=k
  ·by_cases k1:k<=63
   ·simp -implicitDefEqProofs only [EE,nth,↓BK,Int.reduceEq,zq,xA,zi,ze,zk,zu,u0,u1,u3,u4,u5,u9,yx,yb,zX,zV,zR,zG,zF,zA,zj,g,s19,k0,k1]
    rw [hB];simp [xz,yd,s19,k0,k1]
   ·simp -implicitDefEqProofs only [EE,nth,↓BK,Int.reduceEq,zq,xA,zi,ze,zk,zu,u0,u1,u3,u4,u5,u9,yx,yb,zX,zV,zR,zG,zF,zA,zj,g,s19,k0,k1]
    rw [hB];simp [xz,yd,s19,k0,k1]
  ·simp -implicitDefEqProofs only [EE,nth,↓BK,Int.reduceEq,zq,xA,zi,ze,zk,zu,u0,u1,u3,u4,u5,u9,yx,yb,zX,zV,zR,zG,zF,zA,zj,g,s19,k0]
   rw [hB];simp [xz,yd,s19,k0]
 simp -implicitDefEqProofs only [EE,nth,↓BK,Int.reduceEq,zq,zi,ze,zk,u0,u1,u3,u4,u5,u9,yx,yb,zX,zV,zR,zG,zF,zA,zj,g,s19,s20]
 rw [hB];simp [xz,yd,s19,s20]
theorem Lz {r m sub cc l k:Int} (g:H.get b=some (.cells (z8.row ⟨17,r,m,sub,cc,l,k⟩) 42)) (S:zL H gv gl) (hB:B=yd gl ⟨17,r,m,sub,cc,l,k⟩):zj (.pointer (some ⟨b,0,none⟩)) (xz B) gv vs H:=by
 simp -implicitDefEqProofs only [EE,nth,↓BK,Int.reduceEq,zq,zi,ze,Z0,Wt,wX,xX,yx,yb,zX,zV,zR,zG,zF,zA,zj,g]
 refine zJ (by kernel_rfl) rfl (eD cc _) ?_
 simp -implicitDefEqProofs only [EE]
 rw [hB];simp [xz,yd]
theorem LA {r m sub cc l k:Int} (g:H.get b=some (.cells (z8.row ⟨19,r,m,sub,cc,l,k⟩) 42)) (S:zL H gv gl) (hB:B=yd gl ⟨19,r,m,sub,cc,l,k⟩):zj (.pointer (some ⟨b,0,none⟩)) (xz B) gv vs H:=by
 simp -implicitDefEqProofs only [EE,nth,↓BK,Int.reduceEq,zq,zi,ze,Z0,Wt,wX,xX,yx,yb,zX,zV,zR,zG,zF,zA,zj,g]
 refine zJ (by kernel_rfl) rfl (eD cc _) ?_
 simp -implicitDefEqProofs only [EE]
 rw [hB];simp [xz,yd]
theorem LB {r m sub cc l k:Int} (g:H.get b=some (.cells (z8.row ⟨20,r,m,sub,cc,l,k⟩) 42)) (S:zL H gv gl) (hB:B=yd gl ⟨20,r,m,sub,cc,l,k⟩):zj (.pointer (some ⟨b,0,none⟩)) (xz B) gv vs H:=by
 by_cases k0:0<=l
 ·by_cases k1:l<=10000000
  ·simp -implicitDefEqProofs only [EE,nth,↓BK,Int.reduceEq,zq,zi,ze,x9,Yw,Yx,vM,wX,xX,yx,yb,zX,zV,zR,zG,zF,zA,zj,g,k0,k1]
   rw [hB];simp [xz,yd,k0,k1]
  ·simp -implicitDefEqProofs only [EE,nth,↓BK,Int.reduceEq,zq,zi,ze,x9,Yw,Yx,vM,wX,xX,yx,yb,zX,zV,zR,zG,zF,zA,zj,g,k0,k1]
   rw [hB];simp [xz,yd,k0,k1]
 ·simp -implicitDefEqProofs only [EE,nth,↓BK,Int.reduceEq,zq,zi,ze,x9,Yw,Yx,vM,wX,xX,yx,yb,zX,zV,zR,zG,zF,zA,zj,g,k0]
  rw [hB];simp [xz,yd,k0]
theorem LC {r m sub cc l k:Int} (g:H.get b=some (.cells (z8.row ⟨23,r,m,sub,cc,l,k⟩) 42)) (S:zL H gv gl) (hB:B=yd gl ⟨23,r,m,sub,cc,l,k⟩):zj (.pointer (some ⟨b,0,none⟩)) (xz B) gv vs H:=by
 by_cases k0:0<=k
 ·by_cases k1:k<=65536
  ·simp -implicitDefEqProofs only [EE,nth,↓BK,Int.reduceEq,zq,xA,zi,ze,zu,ki,kj,u6,vM,wX,xX,yx,yb,zX,zV,zR,zG,zF,zA,zj,g,k0,k1]
   rw [hB];simp [xz,yd,k0,k1]
  ·simp -implicitDefEqProofs only [EE,nth,↓BK,Int.reduceEq,zq,xA,zi,ze,zu,ki,kj,u6,vM,wX,xX,yx,yb,zX,zV,zR,zG,zF,zA,zj,g,k0,k1]
   rw [hB];simp [xz,yd,k0,k1]
 ·simp -implicitDefEqProofs only [EE,nth,↓BK,Int.reduceEq,zq,xA,zi,ze,zu,ki,kj,u6,vM,wX,xX,yx,yb,zX,zV,zR,zG,zF,zA,zj,g,k0]
  rw [hB];simp [xz,yd,k0]
theorem LD {r m sub cc l k:Int} (g:H.get b=some (.cells (z8.row ⟨24,r,m,sub,cc,l,k⟩) 42)) (S:zL H gv gl) (hB:B=yd gl ⟨24,r,m,sub,cc,l,k⟩):zj (.pointer (some ⟨b,0,none⟩)) (xz B) gv vs H:=by
 by_cases k0:0<=k
 ·by_cases k1:k<=65536
  ·simp -implicitDefEqProofs only [EE,nth,↓BK,Int.reduceEq,zq,xA,zi,ze,zu,ki,kj,u6,vM,wX,xX,yx,yb,zX,zV,zR,zG,zF,zA,zj,g,k0,k1]
   rw [hB];simp [xz,yd,k0,k1]
  ·simp -implicitDefEqProofs only [EE,nth,↓BK,Int.reduceEq,zq,xA,zi,ze,zu,ki,kj,u6,vM,wX,xX,yx,yb,zX,zV,zR,zG,zF,zA,zj,g,k0,k1]
   rw [hB];simp [xz,yd,k0,k1]
 ·simp -implicitDefEqProofs only [EE,nth,↓BK,Int.reduceEq,zq,xA,zi,ze,zu,ki,kj,u6,vM,wX,xX,yx,yb,zX,zV,zR,zG,zF,zA,zj,g,k0]
  rw [hB];simp [xz,yd,k0]
theorem HX (g:H.get b=some (.cells x.row 42)) (S:zL H gv gl) (hB:B=yd gl x):zj (.pointer (some ⟨b,0,none⟩)) (xz B) gv vs H:=by
 obtain ⟨op,r,m,sub,cc,l,k⟩:=x
 by_cases o3:op=3
 ·subst o3;exact MT g S hB
 by_cases o4:op=4
 ·subst o4;exact MU g S hB
 by_cases o5:op=5
 ·subst o5;exact MV g S hB
 by_cases o16:op=16
 ·subst o16;exact Ly g S hB
 by_cases o6:op=6
 ·subst o6;exact MW g S hB
 by_cases o7:op=7
 ·subst o7;exact MX g S hB
 by_cases o8:op=8
 ·subst o8;exact MY g S hB
 by_cases o9:op=9
 ·subst o9;exact MZ g S hB
 by_cases o10:op=10
 ·subst o10;exact Lv g S hB
 by_cases o11:op=11
 ·subst o11;exact Lw g S hB
 by_cases o12:op=12
 ·subst o12;exact Lx g S hB
 by_cases o17:op=17
 ·subst o17;exact Lz g S hB
 by_cases o19:op=19
 ·subst o19;exact LA g S hB
 by_cases o20:op=20
 ·subst o20;exact LB g S hB
 by_cases o23:op=23
 ·subst o23;exact LC g S hB
 by_cases o24:op=24
 ·subst o24;exact LD g S hB
 simp -implicitDefEqProofs only [EE,nth,↓BK,zq,zi,ze,u6,vM,wX,xX,yx,yb,zX,zV,zR,zG,zF,zA,zj,g,o3,o4,o5,o16,o6,o7,o8,o9,o10,o11,o12,o17,o19,o20,o23,o24]
 rw [hB];simp [xz,yd,o3,o4,o5,o16,o6,o7,o8,o9,o10,o11,o12,o17,o19,o20,o23,o24]
theorem Ci (S:zL H gv gl):wV Tryz.prog 34 [x.val,gv] H (.bool (ZG gl x)):=by
 apply wq
 replace S:=S.lock
 generalize H.lock=L at S
 apply lr
 unfold gK
 have nl:=S.Zp
 simp -implicitDefEqProofs only [EE,↓nw,Value.cells,zq,zi,ze]
 have S2:=S.old (Old.push L (.cells x.row 42))
 have g:(L.push (.cells x.row 42)).get L.next=some (.cells x.row 42):=y6
 generalize L.push (.cells x.row 42)=G at g S2 ⊢
 obtain ⟨op,r,m,sub,cc,l,k⟩:=x
 simp only at g ⊢
 by_cases o1:op < 1
 ·have e:ZG gl ⟨op,r,m,sub,cc,l,k⟩=false:=by have q:¬ 1<=op:=by omega
                                             unfold ZG;simp [q]
  simp -implicitDefEqProofs only [EE,Zt,YB,YC,o1]
  rw [e];rfl
 by_cases o2:op > 26
 ·have e:ZG gl ⟨op,r,m,sub,cc,l,k⟩=false:=by have q:¬ op<=26:=by omega
                                             unfold ZG;simp [q]
  simp -implicitDefEqProofs only [EE,zq,zi,ze,Zt,YB,YC,g,o1,o2]
  rw [e];rfl
 simp -implicitDefEqProofs only [EE,N5,Nat.reduceAdd,jF,zq,zi,qf,ze,YB,YC,g,o1,o2]
 refine zJ (by kernel_rfl) rfl (sA ⟨op,r,m,sub,cc,l,k⟩ G) ?_
 have e:ZG gl ⟨op,r,m,sub,cc,l,k⟩=(ZB ⟨op,r,m,sub,cc,l,k⟩ && yd gl ⟨op,r,m,sub,cc,l,k⟩):=by
  have q1:1<=op:=by omega
  have q2:op<=26:=by omega
  unfold ZG;simp only [q1,q2,decide_true,OX]
 cases hr:ZB ⟨op,r,m,sub,cc,l,k⟩ with
 | false=>
   simp -implicitDefEqProofs only [EE,Zt]
   rw [e,hr];rfl
 | true=>
   simp -implicitDefEqProofs only [EE,Zt]
   exact HX (x:=⟨op,r,m,sub,cc,l,k⟩) g S2 (by rw [e,hr];rfl)
end
open Go.Rtl (inc CT rY jv YH WT get_some)
section
variable {h:za} {sv:Value} {rows:List (List Value)}
theorem uL (S:zP h sv 7 rows) {i:Nat} {r:List Value} (hr:rows[i]? = some r) (hn:r.length=7):∃ b o c t,zI Tryz.prog 48 sv (.int .i64 i)=some (.pointer (some ⟨b,o,none⟩))/\b < h.next/\h.get b=some (.cells c t)/\o + 7<=c.length/\(c.drop o).take 7=r /\ ∀ k,k < 7->c[o + k]? = r[k]?:=by
 obtain ⟨b,o,c,t,⟨off,cp,rfl,rfl⟩,hi,hb,hg,hl,ht,hk⟩:=S.spot hr hn
 have h1:0<=(i:Int)/\(i:Int) < (rows.length:Int):=by omega
 exact ⟨b,off + i * 7,c,t,by simp only [Am,h1,OB,and_self,N5],hb,hg,hl,ht,hk⟩
theorem jg (S:zP h sv 2 rows) {i:Nat} {r:List Value} (hr:rows[i]? = some r) (hn:r.length=2):∃ b o c t,zI Tryz.prog 23 sv (.int .i64 i)=some (.pointer (some ⟨b,o,none⟩))/\b < h.next/\h.get b=some (.cells c t)/\o + 2<=c.length/\(c.drop o).take 2=r /\ ∀ k,k < 2->c[o + k]? = r[k]?:=by
 obtain ⟨b,o,c,t,⟨off,cp,rfl,rfl⟩,hi,hb,hg,hl,ht,hk⟩:=S.spot hr hn
 have h1:0<=(i:Int)/\(i:Int) < (rows.length:Int):=by omega
 exact ⟨b,off + i * 2,c,t,by simp only [pw,h1,OB,and_self,N5],hb,hg,hl,ht,hk⟩
theorem vQ {l:List z8} {n:Nat} (S:zP h sv n (l.map z8.row)) (r:TypeId) (h':za):zg Tryz.prog .len [48] r [sv] h'=some (.int .i64 l.length,h'):=by
 rcases S with ⟨rfl,e⟩ | ⟨b,off,cp,rfl,_⟩
 ·have:l = []:=by simpa using e
  subst this
  simp only [eX,O0]
 ·simp only [eX,NX]
theorem um {l:List Fn} {n:Nat} (S:zP h sv n (l.map Fn.row)) (r:TypeId) (h':za):zg Tryz.prog .len [23] r [sv] h'=some (.int .i64 l.length,h'):=by
 rcases S with ⟨rfl,e⟩ | ⟨b,off,cp,rfl,_⟩
 ·have:l = []:=by simpa using e
  subst this
  simp only [JT,O0]
 ·simp only [JT,NX]
end
theorem Mv (h:za):(vO h).1 = .map (some h.next):=rfl
theorem No (h:za):(vO h).2=h.push (W5 []):=rfl
theorem Nd:zT Tryz.prog (underlying 3)=some (.int .i64):=by kernel_rfl
theorem Nf:zT Tryz.prog (underlying 115)=some (.map 3 4):=by kernel_rfl
theorem Nt:vK Tryz.prog 4=some (.bool false):=by kernel_rfl
def ew (m:List (Int × Value)):Prop := ∀ k v,Wb m k=some v->v = .bool true
theorem LV {h:za} {b:Nat} {m:List (Int × Value)} (hb:ew m) (g:h.get b=some (W5 m)) (k:Int):Zw Tryz.prog 115 (.map (some b)) (.int .i64 k) false h=some (.bool (hasB m k)):=by
 rw [pz Nf Nd Nt g k false]
 unfold hasB
 cases e:Wb m k with
 | none=>rfl
 | some v=>rw [hb k v e];rfl
theorem B4 {m:List (Int × Value)} (hb:ew m) (k:Int):ew (Xl m k (.bool true)):=by
 intro k' v e
 rw [VT] at e
 by_cases q:k=k'
 ·rw [NK q] at e;exact (PE e).symm
 ·rw [NJ q] at e;exact hb k' v e
theorem Jk (gl:List Int):∀ (xs ys:List z8) (m:List (Int × Value)) (s:Bool),kG gl (xs ++ ys) m s=(kG gl xs m s).bind fun r=>kG gl ys r.1 r.2
 | [],ys,m,s=>rfl
 | x :: xs,ys,m,s=>by
   show (if ZG gl x=false then none else if x.op=20 then (if hasB m x.l=true then none else kG gl (xs ++ ys) _ s) else kG gl (xs ++ ys) m true)=Option.bind (if ZG gl x=false then none else if x.op=20 then (if hasB m x.l=true then none else kG gl xs _ s) else kG gl xs m true) _
   rw [Jk gl xs,Jk gl xs]
   repeat' split
   all_goals rfl
theorem Vh (gl:List Int):∀ (xs:List z8) (m:List (Int × Value)) (s:Bool) {r:List (Int × Value) × Bool},ew m->kG gl xs m s=some r->ew r.1
 | [],m,s,r,hb,e=>by cases e;exact hb
 | x :: xs,m,s,r,hb,e=>by
   have e:(if ZG gl x=false then none else if x.op=20 then (if hasB m x.l=true then none else kG gl xs _ s) else kG gl xs m true)=some r:=e
   split at e
   ·cases e
   split at e
   ·split at e
    ·cases e
    ·exact Vh gl xs _ _ (B4 hb _) e
   ·exact Vh gl xs _ _ hb e
section
variable {h:za} {p:Pg} {f:Fn}
theorem sy (P:vV h p) (hf:f ∈ p.funcs):wV Tryz.prog 46 [p.val,f.val] h (.bool (JK p f)):=by
 apply wq
 replace P:=P.lock
 generalize h.lock=L at P
 apply jY;intro wf
 apply fU
 unfold dq
 have F:=P.fns f hf
 have s0:Sat (.of L) L []:=Sat.self wf.2
 have RP:Rd (.of L) (vV · p):=Rd.of (y5.Zz L) P fun h' o=>P.old o
 have gvn:=P.globals.Zp
 have fvn:=P.funcs.Zp
 have cvn:=F.code.Zp
 have cvc:=F.code.KW
 have gvc:=P.globals.KW
 have fvc:=P.funcs.KW
 have cl:=fun H=>vQ F.code 3 H
 have fl:=fun H=>um P.funcs 3 H
 simp -implicitDefEqProofs only [EE,Value.cells]
 refine ZY s0 fun b2 h2 s2 => ?_
 simp -implicitDefEqProofs only []
 refine ZY s2 fun b3 h4 s4 => ?_
 have g3:=s4.get
 simp -implicitDefEqProofs only [EE,zq,uP,wj,cvn,g3,cl]
 by_cases c1:(f.code.length:Int) > 100000
 ·simp -implicitDefEqProofs only [EE,c1]
  have:JK p f=false:=by unfold JK;simp [show (100000:Int) < f.code.length from c1]
  rw [this];rfl
 have c1':¬ (100000:Int) < f.code.length:=c1
 have hB:JK p f=fh p.funcs.length f.code (kG p.globals f.code [] false):=by unfold JK;rw [OC c1'];rfl
 simp -implicitDefEqProofs only [EE,zq,uP,wj,U5,c1]
 have sm:=s4.push (W5 [])
 have gm3:=(sm.p 1).get
 simp -implicitDefEqProofs only [EE,nth,↓z7,No,gm3,cvn,cl]
 generalize hmb:h4.next=mb at sm gm3 ⊢
 generalize h4.push (W5 [])=h5 at sm gm3 ⊢
 have bad:∀ n m s,kG p.globals (f.code.take n) m s=none->kG p.globals f.code m s=none:=fun n m s e=>by
  rw [<- O9 n f.code,Jk,e];rfl
 refine uY (fun n vs h' => ∃ (i:Nat) (m:List (Int × Value)) (more:Bool) (v0:Value),i<=f.code.length/\n=f.code.length - i/\vs = [v0,.bool more,.int .i64 (i:Nat)]/\kG p.globals (f.code.take i) [] false=some (m,more)/\Sat (.of L) h' [pt mb (W5 m),pt b3 (.cells f.row 50),pt b2 (.cells p.row 25)])
  f.code.length ⟨0,[],false,.bool false,Oe _,rfl,rfl,rfl,sm⟩ ?_
 rintro n vs h' ⟨i,m,more,v0,hi,rfl,rfl,hscan,s⟩
 unfold KE
 by_cases hc:(i:Int) < (f.code.length:Int)
 ·obtain ⟨x,hx,hxm⟩:=get_some (l:=f.code) (k:=i) (by omega)
  have F2:=(RP.at s).fns f hf
  obtain ⟨bi,oi,ci,ti,ha,hbi,hgi,hle,htk,_⟩:=uL F2.code (i:=i) (r:=x.row) (by rw [NU,hx];rfl) rfl
  have et:f.code.take (i + 1)=f.code.take i ++ [x]:=by rw [OA,hx];rfl
  have hsn:=Jk p.globals (f.code.take i) [x] [] false
  rw [<- et,hscan] at hsn
  have hsn:kG p.globals (f.code.take (i + 1)) [] false=if ZG p.globals x=false then none else if x.op=20 then (if hasB m x.l=true then none else some (Xl m x.l (.bool true),more)) else some (m,true):=hsn
  have no:kG p.globals (f.code.take (i + 1)) [] false=none->JK p f=false:=fun e=>by rw [hB,bad _ _ _ e];rfl
  simp -implicitDefEqProofs only [EE,nth,Value.cells,↓z7,N5,jF,qf,aT,KD,hc,ha,hgi,hle,htk]
  refine ZY s fun b8 h6 s6 => ?_
  simp -implicitDefEqProofs only [EE,Nat.reduceAdd,aS]
  refine ZJ s6 (by simp) rfl fun h7 s7 => ?_
  have g8:=s7.get
  have g2:=(s7.p 3).get
  simp -implicitDefEqProofs only [EE,zt,N5,Nat.reduceAdd,jF,zq,wL,qf,yZ,g8,g2]
  refine zJ (by kernel_rfl) (by simp only [yB,gvn,N1];rfl) (Ci (x:=x) (RP.at s7).globals) ?_
  cases hI:ZG p.globals x with
  | false=>
    simp -implicitDefEqProofs only [EE]
    rw [no (by rw [hsn,NK hI])];rfl
  | true=>
    rw [NJ (by rw [hI];simp)] at hsn
    simp -implicitDefEqProofs only [EE,zt,Nat.reduceAdd,zq,zi,ze,KC,g8]
    by_cases o20:x.op=20
    ·rw [NK o20] at hsn
     have lk:=LV (Vh p.globals _ _ _ (fun k v e=>by cases e) hscan) (s7.p 1).get x.l
     simp -implicitDefEqProofs only [EE,zt,Nat.reduceAdd,zq,zi,x9,KB,g8,o20,Mv,hmb,lk]
     cases hl:hasB m x.l with
     | true=>
       simp -implicitDefEqProofs only [EE]
       rw [no (by rw [hsn,NK hl])];rfl
     | false=>
       rw [NJ (by rw [hl];simp)] at hsn
       have up:=rj (v := .bool true) Nf Nd (s7.p 1).get (s7.p 1).wr x.l
       simp -implicitDefEqProofs only [EE,nth,zt,Nat.reduceAdd,zq,zi,x9,KA,WH,g8,Mv,hmb,up,inc (show i < 4611686018427387904 by have:=F.gj;omega)]
       exact ⟨f.code.length - (i + 1),by omega,i + 1,_,_,_,by omega,rfl,rfl,hsn,((s7.p 1).set _).k [0,2,3]⟩
    ·rw [NJ o20] at hsn
     simp -implicitDefEqProofs only [EE,nth,WH,o20,inc (show i < 4611686018427387904 by have:=F.gj;omega)]
     exact ⟨f.code.length - (i + 1),by omega,i + 1,_,_,_,by omega,rfl,rfl,hsn,s7.k [1,2,3]⟩
 ·have hi9:i=f.code.length:=by omega
  subst hi9
  rw [OE] at hscan
  rw [hscan] at hB
  have hB:JK p f=(f.code.all (Y9 p.funcs.length m) && more):=hB
  have g3:=(s.p 1).get
  simp -implicitDefEqProofs only [EE,nth,hc]
  simp -implicitDefEqProofs only [EE,nth,↓z7,zq,uP,wj,U4,g3,cvn,cl]
  have hbm:=Vh p.globals _ _ _ (fun k v e=>by cases e) hscan
  refine uY (fun n vs h' => ∃ (i:Nat) (v0:Value),i<=f.code.length/\n=f.code.length - i/\vs = [v0,.int .i64 (i:Nat)]/\(∀ k,k < i->rY f.code (Y9 p.funcs.length m) k=true)/\Sat (.of L) h' [pt mb (W5 m),pt b3 (.cells f.row 50),pt b2 (.cells p.row 25)])
   f.code.length ⟨0,v0,Oe _,rfl,rfl,fun k hk=>by omega,s⟩ ?_
  rintro n vs h' ⟨i,v0,hi,rfl,rfl,hall,s⟩
  unfold U3
  by_cases hc:(i:Int) < (f.code.length:Int)
  ·obtain ⟨x,hx,hxm⟩:=get_some (l:=f.code) (k:=i) (by omega)
   have F2:=(RP.at s).fns f hf
   obtain ⟨bi,oi,ci,ti,ha,hbi,hgi,hle,htk,_⟩:=uL F2.code (i:=i) (r:=x.row) (by rw [NU,hx];rfl) rfl
   have no:Y9 p.funcs.length m x=false->JK p f=false:=fun e=>by rw [hB,YH hx e];rfl
   have go:Y9 p.funcs.length m x=true->∀ k,k < i + 1->rY f.code (Y9 p.funcs.length m) k=true:=fun e k hk=>by
    by_cases q:k=i
    ·subst q;rw [WT hx];exact e
    ·exact hall k (by omega)
   have hin:=inc (show i < 4611686018427387904 by have:=F.gj;omega)
   simp -implicitDefEqProofs only [EE,nth,Value.cells,↓z7,N5,jF,qf,aT,U2,hc,ha,hgi,hle,htk]
   refine ZY s fun b10 h6 s6 => ?_
   simp -implicitDefEqProofs only [EE,Nat.reduceAdd,aS]
   refine ZJ s6 (by simp) rfl fun h7 s7 => ?_
   have g10:=s7.get
   have g2:=(s7.p 3).get
   have lk:=LV hbm (s7.p 1).get x.l
   have fin:(∀ v,Y9 p.funcs.length m x=true->∃ m1,m1 < f.code.length - i /\ ∃ (i':Nat) (v0:Value),i'<=f.code.length/\m1=f.code.length - i' /\ [v,.int .i64 ((i + 1:Nat):Int)] = [v0,Value.int .i64 (i':Nat)]/\(∀ k,k < i'->rY f.code (Y9 p.funcs.length m) k=true)/\Sat (.of L) h7 [pt mb (W5 m),pt b3 (.cells f.row 50),pt b2 (.cells p.row 25)]) :=
    fun v e=>⟨f.code.length - (i + 1),by omega,i + 1,v,by omega,rfl,rfl,go e,s7.k [1,2,3]⟩
   by_cases o18:x.op=18
   ·have hh:Y9 p.funcs.length m x=hasB m x.l:=by unfold Y9;simp [o18]
    simp -implicitDefEqProofs only [EE,↓z7,zt,Nat.reduceAdd,zq,zi,ze,x9,qm,qo,qp,qq,qt,g10,o18,Mv,hmb,lk]
    cases hl:hasB m x.l with
    | false=>simp -implicitDefEqProofs only [EE];rw [no (by rw [hh,hl])];rfl
    | true=>
      simp -implicitDefEqProofs only [EE,nth,zt,Nat.reduceAdd,Int.reduceEq,zq,zi,ze,kr,ks,ku,qi,qj,qk,ql,jI,g10,o18,hin]
      exact fin _ (by rw [hh,hl])
   by_cases o19:x.op=19
   ·have hh:Y9 p.funcs.length m x=hasB m x.l:=by unfold Y9;simp [o19]
    simp -implicitDefEqProofs only [EE,↓z7,zt,Nat.reduceAdd,Int.reduceEq,zq,zi,ze,x9,qm,qo,qp,qq,qt,g10,o19,Mv,hmb,lk]
    cases hl:hasB m x.l with
    | false=>simp -implicitDefEqProofs only [EE];rw [no (by rw [hh,hl])];rfl
    | true=>
      simp -implicitDefEqProofs only [EE,nth,zt,Nat.reduceAdd,Int.reduceEq,zq,zi,ze,kr,ks,ku,qi,qj,qk,ql,jI,g10,o19,hin]
      exact fin _ (by rw [hh,hl])
   by_cases o21:x.op=21
   ·by_cases s0:x.sub < 0
    ·simp -implicitDefEqProofs only [EE,↓z7,zt,Nat.reduceAdd,Int.reduceEq,zq,zi,ze,zk,kr,ks,ku,qi,qj,qk,ql,qm,qo,qp,qq,qt,g10,o21,s0]
     rw [no (by unfold Y9;simp [o21,s0])];rfl
    by_cases s1:x.sub ≥ (p.funcs.length:Int)
    ·simp -implicitDefEqProofs only [EE,↓z7,zt,Nat.reduceAdd,Int.reduceEq,zq,wN,zi,yo,ze,zk,kr,ks,ku,qi,qj,qk,ql,qm,qo,qp,qq,qt,g10,g2,fvn,fl,o21,s0,s1]
     rw [no (by have s1:(p.funcs.length:Int)<=x.sub:=s1;unfold Y9;simp [o21,s1])];rfl
    simp -implicitDefEqProofs only [EE,nth,↓z7,zt,Nat.reduceAdd,Int.reduceEq,zq,wN,zi,yo,ze,zk,kr,ks,ku,qi,qj,qk,ql,qm,qo,qp,qq,qt,jI,g10,g2,fvn,fl,o21,s0,s1,hin]
    exact fin _ (by have s1:¬ (p.funcs.length:Int)<=x.sub:=s1;unfold Y9;simp [o21,s0,s1])
   simp -implicitDefEqProofs only [EE,nth,↓z7,zt,Nat.reduceAdd,zq,zi,ze,kr,ks,ku,qi,qj,qk,ql,qm,qo,qp,qq,qt,jI,g10,o18,o19,o21,hin]
   exact fin _ (by unfold Y9;simp [o18,o19,o21])
  ·have hi9:i=f.code.length:=by omega
   subst hi9
   simp -implicitDefEqProofs only [EE,nth,hc]
   rw [hB,jv hall]
   simp [xz]
end
def mi (n:Int):Bool := !decide (n < 0) && !decide (65536 < n)
section
variable {p:Pg}
theorem MR {lo:y5} {H:za} {b1:Nat} {vs:List Value} (RP:Rd lo (vV · p)) (s:Sat lo H [pt b1 (.cells p.row 25)]) {B:Bool} (hB:B=p.funcs.all (JK p)):Jr (.pointer (some ⟨b1,0,none⟩)) (xz B) vs H:=by
 have P:=RP.at s
 have g1:=s.get
 have fvn:=P.funcs.Zp
 have fl:=fun h'=>um P.funcs 3 h'
 unfold Jr
 simp -implicitDefEqProofs only [EE,↓z7,zq,wN,yo,g1,fvn,fl]
 refine uY (fun n vs h' => ∃ (i:Nat) (v0:Value),i<=p.funcs.length/\n=p.funcs.length - i/\vs = [v0,.int .i64 (i:Nat)]/\(∀ k,k < i->rY p.funcs (JK p) k=true)/\Sat lo h' [pt b1 (.cells p.row 25)])
  p.funcs.length ⟨0,nth vs 0,Oe _,rfl,rfl,fun k hk=>by omega,s⟩ ?_
 rintro n vs h' ⟨i,v0,hi,rfl,rfl,hall,s⟩
 unfold m7
 by_cases hc:(i:Int) < (p.funcs.length:Int)
 ·obtain ⟨f,hf,hfm⟩:=get_some (l:=p.funcs) (k:=i) (by omega)
  obtain ⟨bi,oi,ci,ti,ha,hbi,hgi,hle,htk,_⟩:=jg (RP.at s).funcs (i:=i) (r:=f.row) (by rw [NU,hf];rfl) rfl
  have cvn:=(P.fns f hfm).code.Zp
  have cvc:=(P.fns f hfm).code.KW
  have gvn:=P.globals.Zp
  simp -implicitDefEqProofs only [EE,nth,Value.cells,↓z7,N5,jF,Yr,eu,m5,hc,ha,hgi,hle,htk]
  refine ZY s fun b6 h6 s6 => ?_
  simp -implicitDefEqProofs only [EE,Nat.reduceAdd,dZ]
  refine ZJ s6 (by simp) (by simp [cvc];rfl) fun h7 s7 => ?_
  have g6:=s7.get
  have g1:=(s7.p 1).get
  simp -implicitDefEqProofs only [EE,zt,N5,Nat.reduceAdd,jF,Xv,Yr,g6,g1]
  refine zJ (by kernel_rfl) (by simp only [yB];rfl) (sy (RP.at s7) hfm) ?_
  cases hF:JK p f with
  | false=>
    simp -implicitDefEqProofs only [EE,cW]
    rw [hB,YH hf hF];rfl
  | true=>
    simp -implicitDefEqProofs only [EE,nth,cW,m6,inc (show i < 4611686018427387904 by have:=P.Cd;omega)]
    exact ⟨p.funcs.length - (i + 1),by omega,i + 1,_,by omega,rfl,rfl,fun k hk=>(by
     by_cases q:k=i
     ·subst q;rw [WT hf];exact hF
     ·exact hall k (by omega)),s7.k [1]⟩
 ·have hi9:i=p.funcs.length:=by omega
  subst hi9
  simp -implicitDefEqProofs only [EE,nth,hc]
  rw [hB,jv hall];rfl
theorem MS {lo:y5} {H:za} {b1:Nat} {vs:List Value} (RP:Rd lo (vV · p)) (s:Sat lo H [pt b1 (.cells p.row 25)]) {B:Bool} (hB:B=(p.globals.all mi && p.funcs.all (JK p))):Js (.pointer (some ⟨b1,0,none⟩)) (xz B) vs H:=by
 have P:=RP.at s
 have g1:=s.get
 have gvn:=P.globals.Zp
 have gl:=fun h'=>jC P.globals 3 h'
 unfold Js
 simp -implicitDefEqProofs only [EE,↓z7,zq,wL,yZ,g1,gvn,gl]
 refine uY (fun n vs h' => ∃ (i:Nat) (v0:Value),i<=p.globals.length/\n=p.globals.length - i/\vs = [v0,.int .i64 (i:Nat)]/\(∀ k,k < i->rY p.globals mi k=true)/\Sat lo h' [pt b1 (.cells p.row 25)])
  p.globals.length ⟨0,nth vs 0,Oe _,rfl,rfl,fun k hk=>by omega,s⟩ ?_
 rintro n vs h' ⟨i,v0,hi,rfl,rfl,hall,s⟩
 unfold m3
 by_cases hc:(i:Int) < (p.globals.length:Int)
 ·obtain ⟨z,hz,hzm⟩:=get_some (l:=p.globals) (k:=i) (by omega)
  obtain ⟨bi,oi,ci,ti,ha,hbi,hgi,hat⟩:=XL (RP.at s).globals hz
  have no:mi z=false->B=false:=fun e=>by rw [hB,YH hz e];rfl
  by_cases z0:z < 0
  ·simp -implicitDefEqProofs only [EE,nth,↓z7,zq,zi,Kh,Ki,Kj,hc,ha,hgi,hat,z0]
   rw [no (by unfold mi;simp [z0])];rfl
  by_cases z1:z > 65536
  ·simp -implicitDefEqProofs only [EE,nth,↓z7,zq,zi,Kh,Ki,Kj,hc,ha,hgi,hat,z0,z1]
   rw [no (by have z1:65536 < z:=z1;unfold mi;simp [z1])];rfl
  simp -implicitDefEqProofs only [EE,nth,↓z7,zq,zi,Kh,Ki,Kj,mZ,hc,ha,hgi,hat,z0,z1,inc (show i < 4611686018427387904 by have:=P.pf;omega)]
  exact ⟨p.globals.length - (i + 1),by omega,i + 1,_,by omega,rfl,rfl,fun k hk=>(by
   by_cases q:k=i
   ·subst q;rw [WT hz];have z1:¬ 65536 < z:=z1;unfold mi;simp [z0,z1]
   ·exact hall k (by omega)),s⟩
 ·have hi9:i=p.globals.length:=by omega
  subst hi9
  simp -implicitDefEqProofs only [EE,nth,hc]
  exact MR RP s (by rw [hB,jv hall];rfl)
theorem HZ {h:za} (P:vV h p):wV Tryz.prog 23 [p.val] h (.bool (kf p)):=by
 apply wq
 replace P:=P.lock
 generalize h.lock=L at P
 apply jY;intro wf
 apply A9
 unfold C4
 have s0:Sat (.of L) L []:=Sat.self wf.2
 have RP:Rd (.of L) (vV · p):=Rd.of (y5.Zz L) P fun h' o=>P.old o
 have gvn:=P.globals.Zp
 have fvn:=P.funcs.Zp
 have fl:=fun h'=>um P.funcs 3 h'
 have gl:=fun h'=>jC P.globals 3 h'
 simp -implicitDefEqProofs only [EE,Value.cells]
 refine ZY s0 fun b1 h2 s2 => ?_
 have g1:=s2.get
 have no:uq p=false->kf p=false:=fun e=>by unfold kf;rw [e];rfl
 by_cases c1:p.main < 0
 ·simp -implicitDefEqProofs only [EE,zq,zi,ug,j3,j4,j5,j6,j7,j8,j9,Za,Zb,Zc,Zd,g1,c1]
  rw [no (by unfold uq;simp [c1])];rfl
 by_cases c2:p.main ≥ (p.funcs.length:Int)
 ·simp -implicitDefEqProofs only [EE,zq,wN,zi,yo,ug,j3,j4,j5,j6,j7,j8,j9,Za,Zb,Zc,Zd,g1,fvn,fl,c1,c2]
  rw [no (by have c2:(p.funcs.length:Int)<=p.main:=c2;unfold uq;simp [c2])];rfl
 by_cases c3:(p.funcs.length:Int) > 100
 ·simp -implicitDefEqProofs only [EE,zq,wN,zi,yo,ug,j3,j4,j5,j6,j7,j8,j9,Za,Zb,Zc,Zd,g1,fvn,fl,c1,c2,c3]
  rw [no (by have c3:(100:Int) < p.funcs.length:=c3;unfold uq;simp [c3])];rfl
 by_cases c4:(p.globals.length:Int) > 200
 ·simp -implicitDefEqProofs only [EE,zq,wL,wN,zi,yZ,yo,ug,j3,j4,j5,j6,j7,j8,j9,Za,Zb,Zc,Zd,g1,fvn,fl,gvn,gl,c1,c2,c3,c4]
  rw [no (by have c4:(200:Int) < p.globals.length:=c4;unfold uq;simp [c4])];rfl
 by_cases c5:p.params < 0
 ·simp -implicitDefEqProofs only [EE,zq,wL,wN,zi,yZ,yo,ug,kL,j3,j4,j5,j6,j7,j8,j9,Za,Zb,Zc,Zd,g1,fvn,fl,gvn,gl,c1,c2,c3,c4,c5]
  rw [no (by unfold uq;simp [c5])];rfl
 by_cases c6:p.params > 6
 ·simp -implicitDefEqProofs only [EE,zq,wL,wN,zi,yZ,yo,ug,kL,j3,j4,j5,j6,j7,j8,j9,Za,Zb,Zc,Zd,g1,fvn,fl,gvn,gl,c1,c2,c3,c4,c5,c6]
  rw [no (by have c6:6 < p.params:=c6;unfold uq;simp [c6])];rfl
 simp -implicitDefEqProofs only [EE,zq,wL,wN,zi,yZ,yo,ug,kL,j3,j4,j5,j6,j7,j8,j9,Za,Zb,Zc,Zd,g1,fvn,fl,gvn,gl,c1,c2,c3,c4,c5,c6]
 refine MS RP s2 ?_
 have hs:uq p=true:=by
  have c2:¬ (p.funcs.length:Int)<=p.main:=c2
  have c3:¬ (100:Int) < p.funcs.length:=c3
  have c4:¬ (200:Int) < p.globals.length:=c4
  have c6:¬ 6 < p.params:=c6
  unfold uq;simp [c1,c2,c3,c4,c5,c6]
 unfold kf
 rw [hs];rfl
end
end Go.As
namespace Go.Ar
open Go.Ai Go.Proofs
open Go.Rtl (zL zP Old wq xz)
open Go.Rm (Uw)
open Go.As (z8 mq Jg Wl ue jw ZI)
def uN (k:Int):Bool:=decide (-2147483648<=k) && decide (k<=2147483647)
theorem ZC (k:Int) (h:za):wV Tryz.prog 37 [.int .i64 k] h (.bool (uN k)):=by
 apply wq
 apply rO
 unfold tT
 by_cases a:k ≥ -2147483648
 ·by_cases b:k<=2147483647
  ·simp -implicitDefEqProofs only [EE,Int.reduceNeg,Uk,a,b];simp [xz,uN];omega
  ·simp -implicitDefEqProofs only [EE,Int.reduceNeg,Uk,a,b];simp [xz,uN];omega
 ·simp -implicitDefEqProofs only [EE,Int.reduceNeg,Uk,a];simp [xz,uN];omega
theorem Lc (k:Int) (h:za):wV Tryz.prog 56 [.int .i64 k] h (.bool (ZI k)):=by
 apply wq
 apply C9
 unfold GH
 by_cases a:k ≥ 21
 ·by_cases b:k<=26
  ·simp -implicitDefEqProofs only [EE,bD,a,b];simp [xz,ZI];omega
  ·simp -implicitDefEqProofs only [EE,bD,a,b];simp [xz,ZI];omega
 ·simp -implicitDefEqProofs only [EE,bD,a];simp [xz,ZI];omega
theorem oD (n:Int) (h:za):wV Tryz.prog 55 [.int .i64 n] h (.bool (jw n)):=by
 apply wq
 apply Bc
 unfold C8
 by_cases h11:n=11
 ·subst h11;simp -implicitDefEqProofs only [EE,Z7,Z8,Z9,Ya,Yb];rfl
 by_cases h12:n=12
 ·subst h12;simp -implicitDefEqProofs only [EE,Int.reduceEq,Z7,Z8,Z9,Ya,Yb];rfl
 by_cases h13:n=13
 ·subst h13;simp -implicitDefEqProofs only [EE,Int.reduceEq,Z7,Z8,Z9,Ya,Yb];rfl
 by_cases h16:n=16
 ·subst h16;simp -implicitDefEqProofs only [EE,Int.reduceEq,Z7,Z8,Z9,Ya,Yb];rfl
 by_cases h17:n=17
 ·subst h17;simp -implicitDefEqProofs only [EE,Int.reduceEq,Z7,Z8,Z9,Ya,Yb];rfl
 by_cases h18:n=18
 ·subst h18;simp -implicitDefEqProofs only [EE,Int.reduceEq,Z7,Z8,Z9,Ya,Yb];rfl
 simp -implicitDefEqProofs only [EE,Z7,Z8,Z9,Ya,Yb,h11,h12,h13,h16,h17,h18]
 have e:jw n=false:=by unfold jw;simp;omega
 rw [e];rfl
theorem V5 (x:z8) (h:za):wV Tryz.prog 54 [x.val] h (.bool (Wl x.op)):=by
 apply wq
 apply oj
 unfold oh
 obtain ⟨op,r,m,sub,cc,l,k⟩:=x
 by_cases h1:op=1
 ·subst h1;simp -implicitDefEqProofs only [EE,nth,↓nw,Value.cells,↓BK,zq,zi,ze,vi];rfl
 by_cases h2:op=2
 ·subst h2;simp -implicitDefEqProofs only [EE,nth,↓nw,Value.cells,↓BK,Int.reduceEq,zq,zi,ze,vJ,vi];rfl
 by_cases h3:op=3
 ·subst h3;simp -implicitDefEqProofs only [EE,nth,↓nw,Value.cells,↓BK,Int.reduceEq,zq,zi,ze,uA,vJ,vi];rfl
 by_cases h5:op=5
 ·subst h5;simp -implicitDefEqProofs only [EE,nth,↓nw,Value.cells,↓BK,Int.reduceEq,zq,zi,ze,uJ,uA,vJ,vi];rfl
 by_cases h6:op=6
 ·subst h6;simp -implicitDefEqProofs only [EE,nth,↓nw,Value.cells,↓BK,Int.reduceEq,zq,zi,ze,qD,uJ,uA,vJ,vi];rfl
 by_cases h7:op=7
 ·subst h7;simp -implicitDefEqProofs only [EE,nth,↓nw,Value.cells,↓BK,Int.reduceEq,zq,zi,ze,kz,qD,uJ,uA,vJ,vi];rfl
 by_cases h8:op=8
 ·subst h8;simp -implicitDefEqProofs only [EE,nth,↓nw,Value.cells,↓BK,Int.reduceEq,zq,zi,ze,jf,kz,qD,uJ,uA,vJ,vi];rfl
 by_cases h9:op=9
 ·subst h9;simp -implicitDefEqProofs only [EE,nth,↓nw,Value.cells,↓BK,Int.reduceEq,zq,zi,ze,jT,jf,kz,qD,uJ,uA,vJ,vi];rfl
 by_cases h10:op=10
 ·subst h10;simp -implicitDefEqProofs only [EE,nth,↓nw,Value.cells,↓BK,Int.reduceEq,zq,zi,ze,ZQ,jT,jf,kz,qD,uJ,uA,vJ,vi];rfl
 by_cases h11:op=11
 ·subst h11;simp -implicitDefEqProofs only [EE,nth,↓nw,Value.cells,↓BK,Int.reduceEq,zq,zi,ze,YV,ZQ,jT,jf,kz,qD,uJ,uA,vJ,vi];rfl
 by_cases h12:op=12
 ·subst h12;simp -implicitDefEqProofs only [EE,nth,↓nw,Value.cells,↓BK,Int.reduceEq,zq,zi,ze,WL,YV,ZQ,jT,jf,kz,qD,uJ,uA,vJ,vi];rfl
 by_cases h17:op=17
 ·subst h17;simp -implicitDefEqProofs only [EE,nth,↓nw,Value.cells,↓BK,Int.reduceEq,zq,zi,ze,WL,YV,ZQ,jT,jf,kz,qD,uJ,uA,vJ,vi];rfl
 simp -implicitDefEqProofs only [EE,nth,↓nw,Value.cells,↓BK,zq,zi,ze,WL,YV,ZQ,jT,jf,kz,qD,uJ,uA,vJ,vi,h1,h2,h3,h5,h6,h7,h8,h9,h10,h11,h12,h17]
 have e:Wl op=false:=by unfold Wl;simp;omega
 rw [e];rfl
theorem F9 (x:z8) (h:za):wV Tryz.prog 53 [x.val] h (.tuple #[.bool (mq x.op),.bool (Jg x.op)]):=by
 apply Uw rfl
 apply rL
 unfold tQ
 obtain ⟨op,r,m,sub,cc,l,k⟩:=x
 simp -implicitDefEqProofs only [EE,↓nw,Value.cells,N5,Nat.reduceAdd,jF,qf]
 refine zJ (by kernel_rfl) rfl (V5 ⟨op,r,m,sub,cc,l,k⟩ _) ?_
 by_cases h1:op=1
 ·subst h1;simp -implicitDefEqProofs only [EE,nth,↓BK,zq,zi,ze,vj,vk,vm,wE,wF,wG,wH,wI,wJ,show Wl 1=true from rfl];rfl
 by_cases h3:op=3
 ·subst h3;simp -implicitDefEqProofs only [EE,nth,↓BK,Int.reduceEq,zq,zi,ze,vI,vj,vk,vm,wE,wF,wG,wH,wI,wJ,show Wl 3=true from rfl];rfl
 by_cases h5:op=5
 ·subst h5;simp -implicitDefEqProofs only [EE,nth,↓BK,Int.reduceEq,zq,zi,ze,ub,vT,vI,vj,vk,vm,wE,wF,wG,wH,wI,wJ,show Wl 5=true from rfl];rfl
 by_cases h7:op=7
 ·subst h7;simp -implicitDefEqProofs only [EE,nth,↓BK,Int.reduceEq,zq,zi,ze,uu,ub,vT,vI,vj,vk,vm,wE,wF,wG,wH,wI,wJ,show Wl 7=true from rfl];rfl
 by_cases h10:op=10
 ·subst h10;simp -implicitDefEqProofs only [EE,nth,↓BK,Int.reduceEq,zq,zi,ze,uF,uu,ub,vT,vI,vj,vk,vm,wE,wF,wG,wH,wI,wJ,show Wl 10=true from rfl];rfl
 by_cases h2:op=2
 ·subst h2;simp -implicitDefEqProofs only [EE,nth,↓BK,Int.reduceEq,zq,zi,ze,uV,uF,uu,ub,vT,vI,vj,vk,vm,wE,wF,wG,wH,wI,wJ,show Wl 2=true from rfl];rfl
 by_cases h6:op=6
 ·subst h6;simp -implicitDefEqProofs only [EE,nth,↓BK,Int.reduceEq,zq,zi,ze,uV,uF,uu,ub,vT,vI,vj,vk,vm,wE,wF,wG,wH,wI,wJ,show Wl 6=true from rfl];rfl
 by_cases h8:op=8
 ·subst h8;simp -implicitDefEqProofs only [EE,nth,↓BK,Int.reduceEq,zq,zi,ze,uV,uF,uu,ub,vT,vI,vj,vk,vm,wE,wF,wG,wH,wI,wJ,show Wl 8=true from rfl];rfl
 by_cases h9:op=9
 ·subst h9;simp -implicitDefEqProofs only [EE,nth,↓BK,Int.reduceEq,zq,zi,ze,uV,uF,uu,ub,vT,vI,vj,vk,vm,wE,wF,wG,wH,wI,wJ,show Wl 9=true from rfl];rfl
 by_cases h11:op=11
 ·subst h11;simp -implicitDefEqProofs only [EE,nth,↓BK,Int.reduceEq,zq,zi,ze,uV,uF,uu,ub,vT,vI,vj,vk,vm,wE,wF,wG,wH,wI,wJ,show Wl 11=true from rfl];rfl
 by_cases h12:op=12
 ·subst h12;simp -implicitDefEqProofs only [EE,nth,↓BK,Int.reduceEq,zq,zi,ze,uV,uF,uu,ub,vT,vI,vj,vk,vm,wE,wF,wG,wH,wI,wJ,show Wl 12=true from rfl];rfl
 by_cases h17:op=17
 ·subst h17;simp -implicitDefEqProofs only [EE,nth,↓BK,Int.reduceEq,zq,zi,ze,uV,uF,uu,ub,vT,vI,vj,vk,vm,wE,wF,wG,wH,wI,wJ,show Wl 17=true from rfl];rfl
 by_cases h4:op=4
 ·subst h4;simp -implicitDefEqProofs only [EE,nth,↓BK,Int.reduceEq,zq,zi,ze,vT,vI,vj,vk,vm,wE,wF,wG,wH,wI,wJ,show Wl 4=false from rfl];rfl
 by_cases h15:op=15
 ·subst h15;simp -implicitDefEqProofs only [EE,nth,↓BK,Int.reduceEq,zq,zi,ze,uV,uF,uu,ub,vT,vI,vj,vk,vm,wE,wF,wG,wH,wI,wJ,show Wl 15=false from rfl];rfl
 by_cases h16:op=16
 ·subst h16;simp -implicitDefEqProofs only [EE,nth,↓BK,Int.reduceEq,zq,zi,ze,uV,uF,uu,ub,vT,vI,vj,vk,vm,wE,wF,wG,wH,wI,wJ,show Wl 16=false from rfl];rfl
 by_cases h14:op=14
 ·subst h14;simp -implicitDefEqProofs only [EE,nth,↓BK,Int.reduceEq,zq,zi,ze,uV,uF,uu,ub,vT,vI,vj,vk,vm,wE,wF,wG,wH,wI,wJ,show Wl 14=false from rfl];rfl
 have e3:Wl op=false:=by unfold Wl;simp;omega
 simp -implicitDefEqProofs only [EE,nth,↓BK,zq,zi,ze,uV,uF,uu,ub,vT,vI,vj,vk,vm,wE,wF,wG,wH,wI,wJ,e3,h1,h3,h5,h7,h10,h4,h15,h16,h14]
 have e1:mq op=false:=by unfold mq;simp;omega
 have e2:Jg op=false:=by unfold Jg;simp;omega
 rw [e1,e2];rfl
def tailD (i:z8):Bool :=
 if i.op=3\/i.op=4 then decide (i.sub=1\/i.sub=4\/i.sub=8) && uN i.k
 else if i.op=5\/i.op=16 then uN i.k
 else if i.op=7 then jw i.sub
 else if i.op=8 then jw i.sub && uN i.k
 else if i.op=9 then decide (i.sub=1\/i.sub=2)
 else if i.op=10 then decide (i.sub=3\/i.sub=4)
 else if i.op=11 then decide (i.sub=19\/i.sub=20) && (decide (0<=i.k) && decide (i.k<=63))
 else if i.op=12 then decide (i.sub=19\/i.sub=20)
 else if i.op=17 then ZI i.cc
 else if i.op=19 then ZI i.cc && (decide (0<=i.l) && decide (i.l<=10000000))
 else if i.op=18\/i.op=20 then decide (0<=i.l) && decide (i.l<=10000000)
 else if i.op=23\/i.op=24 then decide (0<=i.k) && decide (i.k<=65536)
 else true
section
variable {H:za} {b:Nat} {B:Bool} {vs:List Value} {x:z8}
theorem MK {r m sub cc l k:Int} (g:H.get b=some (.cells (z8.row ⟨3,r,m,sub,cc,l,k⟩) 42)) (hB:B=tailD ⟨3,r,m,sub,cc,l,k⟩):zl (.pointer (some ⟨b,0,none⟩)) (xz B) vs H:=by
 by_cases s1:sub=1
 ·subst s1
  simp -implicitDefEqProofs only [EE,nth,↓BK,zq,xA,zi,ze,zk,zu,km,kn,ko,kp,kq,qc,zE,zl,g]
  refine zJ (by kernel_rfl) rfl (ZC k _) ?_
  simp -implicitDefEqProofs only [EE]
  rw [hB];simp [xz,tailD]
 by_cases s4:sub=4
 ·subst s4
  simp -implicitDefEqProofs only [EE,nth,↓BK,zq,xA,zi,ze,zk,zu,km,kn,ko,kp,kq,qc,zE,zl,g,s1]
  refine zJ (by kernel_rfl) rfl (ZC k _) ?_
  simp -implicitDefEqProofs only [EE]
  rw [hB];simp [xz,tailD,s1]
 by_cases s8:sub=8
 ·subst s8
  simp -implicitDefEqProofs only [EE,nth,↓BK,zq,xA,zi,ze,zk,zu,km,kn,ko,kp,kq,qc,zE,zl,g,s1,s4]
  refine zJ (by kernel_rfl) rfl (ZC k _) ?_
  simp -implicitDefEqProofs only [EE]
  rw [hB];simp [xz,tailD,s1,s4]
 simp -implicitDefEqProofs only [EE,nth,↓BK,zq,zi,ze,zk,km,kn,ko,kp,kq,qc,zE,zl,g,s1,s4,s8]
 rw [hB];simp [xz,tailD,s1,s4,s8]
theorem ML {r m sub cc l k:Int} (g:H.get b=some (.cells (z8.row ⟨4,r,m,sub,cc,l,k⟩) 42)) (hB:B=tailD ⟨4,r,m,sub,cc,l,k⟩):zl (.pointer (some ⟨b,0,none⟩)) (xz B) vs H:=by
 by_cases s1:sub=1
 ·subst s1
  simp -implicitDefEqProofs only [EE,nth,↓BK,Int.reduceEq,zq,xA,zi,ze,zk,zu,km,kn,ko,kp,kq,qc,zE,zl,g]
  refine zJ (by kernel_rfl) rfl (ZC k _) ?_
  simp -implicitDefEqProofs only [EE]
  rw [hB];simp [xz,tailD]
 by_cases s4:sub=4
 ·subst s4
  simp -implicitDefEqProofs only [EE,nth,↓BK,Int.reduceEq,zq,xA,zi,ze,zk,zu,km,kn,ko,kp,kq,qc,zE,zl,g,s1]
  refine zJ (by kernel_rfl) rfl (ZC k _) ?_
  simp -implicitDefEqProofs only [EE]
  rw [hB];simp [xz,tailD,s1]
 by_cases s8:sub=8
 ·subst s8
  simp -implicitDefEqProofs only [EE,nth,↓BK,Int.reduceEq,zq,xA,zi,ze,zk,zu,km,kn,ko,kp,kq,qc,zE,zl,g,s1,s4]
  refine zJ (by kernel_rfl) rfl (ZC k _) ?_
  simp -implicitDefEqProofs only [EE]
  rw [hB];simp [xz,tailD,s1,s4]
 simp -implicitDefEqProofs only [EE,nth,↓BK,Int.reduceEq,zq,zi,ze,zk,km,kn,ko,kp,kq,qc,zE,zl,g,s1,s4,s8]
 rw [hB];simp [xz,tailD,s1,s4,s8]
theorem MN {r m sub cc l k:Int} (g:H.get b=some (.cells (z8.row ⟨5,r,m,sub,cc,l,k⟩) 42)) (hB:B=tailD ⟨5,r,m,sub,cc,l,k⟩):zl (.pointer (some ⟨b,0,none⟩)) (xz B) vs H:=by
 simp -implicitDefEqProofs only [EE,nth,↓BK,Int.reduceEq,zq,xA,zi,ze,zu,VG,zN,zE,zl,g]
 refine zJ (by kernel_rfl) rfl (ZC k _) ?_
 simp -implicitDefEqProofs only [EE]
 rw [hB];simp [xz,tailD]
theorem Lh {r m sub cc l k:Int} (g:H.get b=some (.cells (z8.row ⟨16,r,m,sub,cc,l,k⟩) 42)) (hB:B=tailD ⟨16,r,m,sub,cc,l,k⟩):zl (.pointer (some ⟨b,0,none⟩)) (xz B) vs H:=by
 simp -implicitDefEqProofs only [EE,nth,↓BK,Int.reduceEq,zq,xA,zi,ze,zu,VG,zN,zE,zl,g]
 refine zJ (by kernel_rfl) rfl (ZC k _) ?_
 simp -implicitDefEqProofs only [EE]
 rw [hB];simp [xz,tailD]
theorem MO {r m sub cc l k:Int} (g:H.get b=some (.cells (z8.row ⟨7,r,m,sub,cc,l,k⟩) 42)) (hB:B=tailD ⟨7,r,m,sub,cc,l,k⟩):zl (.pointer (some ⟨b,0,none⟩)) (xz B) vs H:=by
 simp -implicitDefEqProofs only [EE,nth,↓BK,Int.reduceEq,zq,zi,ze,zk,aM,zU,zN,zE,zl,g]
 refine zJ (by kernel_rfl) rfl (oD sub _) ?_
 simp -implicitDefEqProofs only [EE]
 rw [hB];simp [xz,tailD]
theorem MP {r m sub cc l k:Int} (g:H.get b=some (.cells (z8.row ⟨8,r,m,sub,cc,l,k⟩) 42)) (hB:B=tailD ⟨8,r,m,sub,cc,l,k⟩):zl (.pointer (some ⟨b,0,none⟩)) (xz B) vs H:=by
 simp -implicitDefEqProofs only [EE,nth,↓BK,Int.reduceEq,zq,zi,ze,zk,zW,zU,zN,zE,zl,g]
 refine zJ (by kernel_rfl) rfl (oD sub _) ?_
 cases ha:jw sub with
 | false=>
   simp -implicitDefEqProofs only [EE,Qx,Qy]
   rw [hB];simp [xz,tailD,ha]
 | true=>
   simp -implicitDefEqProofs only [EE,zq,xA,zu,Qx,Qy,g]
   refine zJ (by kernel_rfl) rfl (ZC k _) ?_
   simp -implicitDefEqProofs only [EE]
   rw [hB];simp [xz,tailD,ha]
theorem MQ {r m sub cc l k:Int} (g:H.get b=some (.cells (z8.row ⟨9,r,m,sub,cc,l,k⟩) 42)) (hB:B=tailD ⟨9,r,m,sub,cc,l,k⟩):zl (.pointer (some ⟨b,0,none⟩)) (xz B) vs H:=by
 by_cases s1:sub=1
 ·subst s1
  simp -implicitDefEqProofs only [EE,nth,↓BK,Int.reduceEq,zq,zi,ze,zk,WE,Xt,zY,zW,zU,zN,zE,zl,g]
  rw [hB];simp [xz,tailD]
 by_cases s2:sub=2
 ·subst s2
  simp -implicitDefEqProofs only [EE,nth,↓BK,Int.reduceEq,zq,zi,ze,zk,WE,Xt,zY,zW,zU,zN,zE,zl,g,s1]
  rw [hB];simp [xz,tailD,s1]
 simp -implicitDefEqProofs only [EE,nth,↓BK,Int.reduceEq,zq,zi,ze,zk,WE,Xt,zY,zW,zU,zN,zE,zl,g,s1,s2]
 rw [hB];simp [xz,tailD,s1,s2]
theorem Ld {r m sub cc l k:Int} (g:H.get b=some (.cells (z8.row ⟨10,r,m,sub,cc,l,k⟩) 42)) (hB:B=tailD ⟨10,r,m,sub,cc,l,k⟩):zl (.pointer (some ⟨b,0,none⟩)) (xz B) vs H:=by
 by_cases s3:sub=3
 ·subst s3
  simp -implicitDefEqProofs only [EE,nth,↓BK,Int.reduceEq,zq,zi,ze,zk,WG,Xs,yc,zY,zW,zU,zN,zE,zl,g]
  rw [hB];simp [xz,tailD]
 by_cases s4:sub=4
 ·subst s4
  simp -implicitDefEqProofs only [EE,nth,↓BK,Int.reduceEq,zq,zi,ze,zk,WG,Xs,yc,zY,zW,zU,zN,zE,zl,g,s3]
  rw [hB];simp [xz,tailD,s3]
 simp -implicitDefEqProofs only [EE,nth,↓BK,Int.reduceEq,zq,zi,ze,zk,WG,Xs,yc,zY,zW,zU,zN,zE,zl,g,s3,s4]
 rw [hB];simp [xz,tailD,s3,s4]
theorem Lg {r m sub cc l k:Int} (g:H.get b=some (.cells (z8.row ⟨12,r,m,sub,cc,l,k⟩) 42)) (hB:B=tailD ⟨12,r,m,sub,cc,l,k⟩):zl (.pointer (some ⟨b,0,none⟩)) (xz B) vs H:=by
 by_cases s19:sub=19
 ·subst s19
  simp -implicitDefEqProofs only [EE,nth,↓BK,Int.reduceEq,zq,zi,ze,zk,Xq,Xr,xE,yq,yc,zY,zW,zU,zN,zE,zl,g]
  rw [hB];simp [xz,tailD]
 by_cases s20:sub=20
 ·subst s20
  simp -implicitDefEqProofs only [EE,nth,↓BK,Int.reduceEq,zq,zi,ze,zk,Xq,Xr,xE,yq,yc,zY,zW,zU,zN,zE,zl,g,s19]
  rw [hB];simp [xz,tailD,s19]
 simp -implicitDefEqProofs only [EE,nth,↓BK,Int.reduceEq,zq,zi,ze,zk,Xq,Xr,xE,yq,yc,zY,zW,zU,zN,zE,zl,g,s19,s20]
 rw [hB];simp [xz,tailD,s19,s20]
theorem Lf {r m sub cc l k:Int} (g:H.get b=some (.cells (z8.row ⟨11,r,m,sub,cc,l,k⟩) 42)) (hB:B=tailD ⟨11,r,m,sub,cc,l,k⟩):zl (.pointer (some ⟨b,0,none⟩)) (xz B) vs H:=by
 by_cases s19:sub=19
 ·subst s19
  by_cases k0:0<=k
  ·by_cases k1:k<=63
   ·simp -implicitDefEqProofs only [EE,nth,↓BK,Int.reduceEq,zq,xA,zi,ze,zk,zu,qQ,qR,qS,qT,qU,qW,yq,yc,zY,zW,zU,zN,zE,zl,g,k0,k1]
    rw [hB];simp [xz,tailD,k0,k1]
   ·simp -implicitDefEqProofs only [EE,nth,↓BK,Int.reduceEq,zq,xA,zi,ze,zk,zu,qQ,qR,qS,qT,qU,qW,yq,yc,zY,zW,zU,zN,zE,zl,g,k0,k1]
    rw [hB];simp [xz,tailD,k0,k1]
  ·simp -implicitDefEqProofs only [EE,nth,↓BK,Int.reduceEq,zq,xA,zi,ze,zk,zu,qQ,qR,qS,qT,qU,qW,yq,yc,zY,zW,zU,zN,zE,zl,g,k0]
   rw [hB];simp [xz,tailD,k0]
 by_cases s20:sub=20
 ·subst s20
  by_cases k0:0<=k
  ·by_cases k1:k<=63
   ·simp -implicitDefEqProofs only [EE,nth,↓BK,Int.reduceEq,zq,xA,zi,ze,zk,zu,qQ,qR,qS,qT,qU,qW,yq,yc,zY,zW,zU,zN,zE,zl,g,s19,k0,k1]
    rw [hB];simp [xz,tailD,s19,k0,k1]
   ·simp -implicitDefEqProofs only [EE,nth,↓BK,Int.reduceEq,zq,xA,zi,ze,zk,zu,qQ,qR,qS,qT,qU,qW,yq,yc,zY,zW,zU,zN,zE,zl,g,s19,k0,k1]
    rw [hB];simp [xz,tailD,s19,k0,k1]
  ·simp -implicitDefEqProofs only [EE,nth,↓BK,Int.reduceEq,zq,xA,zi,ze,zk,zu,qQ,qR,qS,qT,qU,qW,yq,yc,zY,zW,zU,zN,zE,zl,g,s19,k0]
   rw [hB];simp [xz,tailD,s19,k0]
 simp -implicitDefEqProofs only [EE,nth,↓BK,Int.reduceEq,zq,zi,ze,zk,qQ,qR,qS,qT,qU,qW,yq,yc,zY,zW,zU,zN,zE,zl,g,s19,s20]
 rw [hB];simp [xz,tailD,s19,s20]
theorem Li {r m sub cc l k:Int} (g:H.get b=some (.cells (z8.row ⟨17,r,m,sub,cc,l,k⟩) 42)) (hB:B=tailD ⟨17,r,m,sub,cc,l,k⟩):zl (.pointer (some ⟨b,0,none⟩)) (xz B) vs H:=by
 simp -implicitDefEqProofs only [EE,nth,↓BK,Int.reduceEq,zq,zi,ze,Z0,aL,wz,xE,yq,yc,zY,zW,zU,zN,zE,zl,g]
 refine zJ (by kernel_rfl) rfl (Lc cc _) ?_
 simp -implicitDefEqProofs only [EE]
 rw [hB];simp [xz,tailD]
theorem Ll {r m sub cc l k:Int} (g:H.get b=some (.cells (z8.row ⟨19,r,m,sub,cc,l,k⟩) 42)) (hB:B=tailD ⟨19,r,m,sub,cc,l,k⟩):zl (.pointer (some ⟨b,0,none⟩)) (xz B) vs H:=by
 simp -implicitDefEqProofs only [EE,nth,↓BK,Int.reduceEq,zq,zi,ze,Z0,wQ,wz,xE,yq,yc,zY,zW,zU,zN,zE,zl,g]
 refine zJ (by kernel_rfl) rfl (Lc cc _) ?_
 cases ha:ZI cc with
 | false=>
   simp -implicitDefEqProofs only [EE,Yc,Yd,Ye,Yf]
   rw [hB];simp [xz,tailD,ha]
 | true=>
   by_cases k0:0<=l
   ·by_cases k1:l<=10000000
    ·simp -implicitDefEqProofs only [EE,zq,zi,x9,Yc,Yd,Ye,Yf,g,k0,k1]
     rw [hB];simp [xz,tailD,ha,k0,k1]
    ·simp -implicitDefEqProofs only [EE,zq,zi,x9,Yc,Yd,Ye,Yf,g,k0,k1]
     rw [hB];simp [xz,tailD,ha,k0,k1]
   ·simp -implicitDefEqProofs only [EE,zq,zi,x9,Yc,Yd,Ye,Yf,g,k0]
    rw [hB];simp [xz,tailD,ha,k0]
theorem Lj {r m sub cc l k:Int} (g:H.get b=some (.cells (z8.row ⟨18,r,m,sub,cc,l,k⟩) 42)) (hB:B=tailD ⟨18,r,m,sub,cc,l,k⟩):zl (.pointer (some ⟨b,0,none⟩)) (xz B) vs H:=by
 by_cases k0:0<=l
 ·by_cases k1:l<=10000000
  ·simp -implicitDefEqProofs only [EE,nth,↓BK,Int.reduceEq,zq,zi,ze,x9,k8,jb,vh,wQ,wz,xE,yq,yc,zY,zW,zU,zN,zE,zl,g,k0,k1]
   rw [hB];simp [xz,tailD,k0,k1]
  ·simp -implicitDefEqProofs only [EE,nth,↓BK,Int.reduceEq,zq,zi,ze,x9,k8,jb,vh,wQ,wz,xE,yq,yc,zY,zW,zU,zN,zE,zl,g,k0,k1]
   rw [hB];simp [xz,tailD,k0,k1]
 ·simp -implicitDefEqProofs only [EE,nth,↓BK,Int.reduceEq,zq,zi,ze,x9,k8,jb,vh,wQ,wz,xE,yq,yc,zY,zW,zU,zN,zE,zl,g,k0]
  rw [hB];simp [xz,tailD,k0]
theorem Lm {r m sub cc l k:Int} (g:H.get b=some (.cells (z8.row ⟨20,r,m,sub,cc,l,k⟩) 42)) (hB:B=tailD ⟨20,r,m,sub,cc,l,k⟩):zl (.pointer (some ⟨b,0,none⟩)) (xz B) vs H:=by
 by_cases k0:0<=l
 ·by_cases k1:l<=10000000
  ·simp -implicitDefEqProofs only [EE,nth,↓BK,Int.reduceEq,zq,zi,ze,x9,k8,jb,vh,wQ,wz,xE,yq,yc,zY,zW,zU,zN,zE,zl,g,k0,k1]
   rw [hB];simp [xz,tailD,k0,k1]
  ·simp -implicitDefEqProofs only [EE,nth,↓BK,Int.reduceEq,zq,zi,ze,x9,k8,jb,vh,wQ,wz,xE,yq,yc,zY,zW,zU,zN,zE,zl,g,k0,k1]
   rw [hB];simp [xz,tailD,k0,k1]
 ·simp -implicitDefEqProofs only [EE,nth,↓BK,Int.reduceEq,zq,zi,ze,x9,k8,jb,vh,wQ,wz,xE,yq,yc,zY,zW,zU,zN,zE,zl,g,k0]
  rw [hB];simp [xz,tailD,k0]
theorem Ln {r m sub cc l k:Int} (g:H.get b=some (.cells (z8.row ⟨23,r,m,sub,cc,l,k⟩) 42)) (hB:B=tailD ⟨23,r,m,sub,cc,l,k⟩):zl (.pointer (some ⟨b,0,none⟩)) (xz B) vs H:=by
 by_cases k0:0<=k
 ·by_cases k1:k<=65536
  ·simp -implicitDefEqProofs only [EE,nth,↓BK,Int.reduceEq,zq,xA,zi,ze,zu,k9,ja,qV,vh,wQ,wz,xE,yq,yc,zY,zW,zU,zN,zE,zl,g,k0,k1]
   rw [hB];simp [xz,tailD,k0,k1]
  ·simp -implicitDefEqProofs only [EE,nth,↓BK,Int.reduceEq,zq,xA,zi,ze,zu,k9,ja,qV,vh,wQ,wz,xE,yq,yc,zY,zW,zU,zN,zE,zl,g,k0,k1]
   rw [hB];simp [xz,tailD,k0,k1]
 ·simp -implicitDefEqProofs only [EE,nth,↓BK,Int.reduceEq,zq,xA,zi,ze,zu,k9,ja,qV,vh,wQ,wz,xE,yq,yc,zY,zW,zU,zN,zE,zl,g,k0]
  rw [hB];simp [xz,tailD,k0]
theorem Lo {r m sub cc l k:Int} (g:H.get b=some (.cells (z8.row ⟨24,r,m,sub,cc,l,k⟩) 42)) (hB:B=tailD ⟨24,r,m,sub,cc,l,k⟩):zl (.pointer (some ⟨b,0,none⟩)) (xz B) vs H:=by
 by_cases k0:0<=k
 ·by_cases k1:k<=65536
  ·simp -implicitDefEqProofs only [EE,nth,↓BK,Int.reduceEq,zq,xA,zi,ze,zu,k9,ja,qV,vh,wQ,wz,xE,yq,yc,zY,zW,zU,zN,zE,zl,g,k0,k1]
   rw [hB];simp [xz,tailD,k0,k1]
  ·simp -implicitDefEqProofs only [EE,nth,↓BK,Int.reduceEq,zq,xA,zi,ze,zu,k9,ja,qV,vh,wQ,wz,xE,yq,yc,zY,zW,zU,zN,zE,zl,g,k0,k1]
   rw [hB];simp [xz,tailD,k0,k1]
 ·simp -implicitDefEqProofs only [EE,nth,↓BK,Int.reduceEq,zq,xA,zi,ze,zu,k9,ja,qV,vh,wQ,wz,xE,yq,yc,zY,zW,zU,zN,zE,zl,g,k0]
  rw [hB];simp [xz,tailD,k0]
theorem JI (g:H.get b=some (.cells x.row 42)) (hB:B=tailD x):zl (.pointer (some ⟨b,0,none⟩)) (xz B) vs H:=by
 obtain ⟨op,r,m,sub,cc,l,k⟩:=x
 by_cases o3:op=3
 ·subst o3;exact MK g hB
 by_cases o4:op=4
 ·subst o4;exact ML g hB
 by_cases o5:op=5
 ·subst o5;exact MN g hB
 by_cases o16:op=16
 ·subst o16;exact Lh g hB
 by_cases o7:op=7
 ·subst o7;exact MO g hB
 by_cases o8:op=8
 ·subst o8;exact MP g hB
 by_cases o9:op=9
 ·subst o9;exact MQ g hB
 by_cases o10:op=10
 ·subst o10;exact Ld g hB
 by_cases o11:op=11
 ·subst o11;exact Lf g hB
 by_cases o12:op=12
 ·subst o12;exact Lg g hB
 by_cases o17:op=17
 ·subst o17;exact Li g hB
 by_cases o19:op=19
 ·subst o19;exact Ll g hB
 by_cases o18:op=18
 ·subst o18;exact Lj g hB
 by_cases o20:op=20
 ·subst o20;exact Lm g hB
 by_cases o23:op=23
 ·subst o23;exact Ln g hB
 by_cases o24:op=24
 ·subst o24;exact Lo g hB
 simp -implicitDefEqProofs only [EE,nth,↓BK,zq,zi,ze,qV,vh,wQ,wz,xE,yq,yc,zY,zW,zU,zN,zE,zl,g,o3,o4,o5,o16,o7,o8,o9,o10,o11,o12,o17,o19,o18,o20,o23,o24]
 rw [hB];simp [xz,tailD,o3,o4,o5,o16,o7,o8,o9,o10,o11,o12,o17,o19,o18,o20,o23,o24]
end
def Xg (x:z8):Bool := !(mq x.op && (decide (x.r < 0) || decide (15 < x.r)))
def XR (x:z8):Bool := !(Jg x.op && (decide (x.m < 0) || decide (15 < x.m)))
def UG (x:z8):Bool := !(Wl x.op && decide (x.r=4))
def bw (x:z8):Bool := !(Jg x.op && (decide (x.m=4) && !ue x.op))
def xC (x:z8):Bool := !decide (x.op < 1) && (!decide (26 < x.op) && (Xg x && (XR x && (UG x && (bw x && tailD x)))))
section
variable {H:za} {b:Nat} {B:Bool} {vs:List Value} {x:z8}
theorem a9 {mb:Bool} (hm:Jg x.op=mb) (g:H.get b=some (.cells x.row 42)) (hB:B=(bw x && tailD x)):qd (.bool mb) (.pointer (some ⟨b,0,none⟩)) (xz B) vs H:=by
 cases mb with
 | false=>
   simp -implicitDefEqProofs only [EE,qX,qY,qZ,q7,q8,q9,ka,kd,ke,qd]
   exact JI g (by rw [hB];simp [bw,hm])
 | true=>
   by_cases m4:x.m=4
   ·by_cases o3:x.op=3
    ·simp -implicitDefEqProofs only [EE,zq,zi,ze,zM,qX,qY,qZ,q7,q8,q9,ka,kd,ke,qd,g,m4,o3]
     exact JI g (by rw [hB];simp [bw,ue,o3])
    by_cases o4:x.op=4
    ·simp -implicitDefEqProofs only [EE,Int.reduceEq,zq,zi,ze,zM,qX,qY,qZ,q7,q8,q9,ka,kd,ke,qd,g,m4,o4]
     exact JI g (by rw [hB];simp [bw,ue,o4])
    by_cases o5:x.op=5
    ·simp -implicitDefEqProofs only [EE,Int.reduceEq,zq,zi,ze,zM,qX,qY,qZ,q7,q8,q9,ka,kd,ke,qd,g,m4,o5]
     exact JI g (by rw [hB];simp [bw,ue,o5])
    by_cases o1:x.op=1
    ·simp -implicitDefEqProofs only [EE,Int.reduceEq,zq,zi,ze,zM,qX,qY,qZ,q7,q8,q9,ka,kd,ke,qd,g,m4,o1]
     exact JI g (by rw [hB];simp [bw,ue,o1])
    simp -implicitDefEqProofs only [EE,zq,zi,ze,zM,qX,qY,qZ,q7,q8,q9,ka,kd,ke,qd,g,m4,o3,o4,o5,o1]
    have e:ue x.op=false:=by unfold ue;simp [o3,o4,o5,o1]
    rw [hB];simp [xz,bw,hm,m4,e]
   ·simp -implicitDefEqProofs only [EE,zq,zi,zM,qX,qY,qZ,q7,q8,q9,ka,kd,ke,qd,g,m4]
    exact JI g (by rw [hB];simp [bw,m4])
theorem AL:wV Tryz.prog 27 [x.val] H (.bool (xC x)):=by
 apply wq
 generalize H.lock=L
 apply nq
 unfold np
 simp -implicitDefEqProofs only [EE,↓nw,Value.cells,N5,Nat.reduceAdd,jF,qf]
 have g:(L.push (.cells x.row 42)).get L.next=some (.cells x.row 42):=y6
 generalize L.push (.cells x.row 42)=G at g ⊢
 generalize L.next=b at g ⊢
 simp -implicitDefEqProofs only []
 refine zJ (by kernel_rfl) rfl (F9 x _) ?_
 by_cases c1:x.op < 1
 ·simp -implicitDefEqProofs only [EE,zq,zi,ze,xq,xr,xt,vr,vt,vu,vv,vw,vx,vy,vz,vA,vB,vC,vD,vE,vF,vG,g,c1]
  simp [xz,xC,c1]
 by_cases c2:x.op > 26
 ·simp -implicitDefEqProofs only [EE,zq,zi,ze,xq,xr,xt,vr,vt,vu,vv,vw,vx,vy,vz,vA,vB,vC,vD,vE,vF,vG,g,c1,c2]
  have c2':26 < x.op:=c2
  simp [xz,xC,c2']
 have c2':¬ 26 < x.op:=c2
 cases hr:mq x.op with
 | false=>
   cases hm:Jg x.op with
   | false=>
     simp -implicitDefEqProofs only [EE,N5,Nat.reduceAdd,jF,zq,zi,qf,ze,vr,vt,vu,vv,vw,vx,vy,vz,vA,vB,vC,vD,vE,vF,vG,g,c1,c2]
     refine zJ (by kernel_rfl) rfl (V5 x _) ?_
     cases hw:Wl x.op with
     | false=>
       simp -implicitDefEqProofs only [EE,xq,xr,xt]
       refine a9 (x:=x) (B:=xC x) hm g ?_
       simp [xC,Xg,XR,UG,c1,c2',hr,hm,hw]
     | true=>
       by_cases r4:x.r=4
       ·simp -implicitDefEqProofs only [EE,zq,zi,zC,xq,xr,xt,g,r4]
        simp [xz,xC,Xg,XR,UG,hw,r4]
       ·simp -implicitDefEqProofs only [EE,zq,zi,zC,xq,xr,xt,g,r4]
        refine a9 (x:=x) (B:=xC x) hm g ?_
        simp [xC,Xg,XR,UG,c1,c2',hr,hm,hw,r4]
   | true=>
     by_cases m0:x.m < 0
     ·simp -implicitDefEqProofs only [EE,zq,zi,ze,zM,xq,xr,xt,vr,vt,vu,vv,vw,vx,vy,vz,vA,vB,vC,vD,vE,vF,vG,g,c1,c2,m0]
      simp [xz,xC,Xg,XR,hm,m0]
     by_cases m1:x.m > 15
     ·simp -implicitDefEqProofs only [EE,zq,zi,ze,zM,xq,xr,xt,vr,vt,vu,vv,vw,vx,vy,vz,vA,vB,vC,vD,vE,vF,vG,g,c1,c2,m0,m1]
      have m1':15 < x.m:=m1
      simp [xz,xC,Xg,XR,hm,m1']
     have m1':¬ 15 < x.m:=m1
     simp -implicitDefEqProofs only [EE,N5,Nat.reduceAdd,jF,zq,zi,qf,ze,zM,vr,vt,vu,vv,vw,vx,vy,vz,vA,vB,vC,vD,vE,vF,vG,g,c1,c2,m0,m1]
     refine zJ (by kernel_rfl) rfl (V5 x _) ?_
     cases hw:Wl x.op with
     | false=>
       simp -implicitDefEqProofs only [EE,xq,xr,xt]
       refine a9 (x:=x) (B:=xC x) hm g ?_
       simp [xC,Xg,XR,UG,c1,c2',hr,hm,m0,m1',hw]
     | true=>
       by_cases r4:x.r=4
       ·simp -implicitDefEqProofs only [EE,zq,zi,zC,xq,xr,xt,g,r4]
        simp [xz,xC,Xg,XR,UG,hw,r4]
       ·simp -implicitDefEqProofs only [EE,zq,zi,zC,xq,xr,xt,g,r4]
        refine a9 (x:=x) (B:=xC x) hm g ?_
        simp [xC,Xg,XR,UG,c1,c2',hr,hm,m0,m1',hw,r4]
 | true=>
   by_cases r0:x.r < 0
   ·simp -implicitDefEqProofs only [EE,zq,zi,ze,zC,xq,xr,xt,vr,vt,vu,vv,vw,vx,vy,vz,vA,vB,vC,vD,vE,vF,vG,g,c1,c2,r0]
    simp [xz,xC,Xg,hr,r0]
   by_cases r1:x.r > 15
   ·simp -implicitDefEqProofs only [EE,zq,zi,ze,zC,xq,xr,xt,vr,vt,vu,vv,vw,vx,vy,vz,vA,vB,vC,vD,vE,vF,vG,g,c1,c2,r0,r1]
    have r1':15 < x.r:=r1
    simp [xz,xC,Xg,hr,r1']
   have r1':¬ 15 < x.r:=r1
   cases hm:Jg x.op with
   | false=>
     simp -implicitDefEqProofs only [EE,N5,Nat.reduceAdd,jF,zq,zi,qf,ze,zC,vr,vt,vu,vv,vw,vx,vy,vz,vA,vB,vC,vD,vE,vF,vG,g,c1,c2,r0,r1]
     refine zJ (by kernel_rfl) rfl (V5 x _) ?_
     cases hw:Wl x.op with
     | false=>
       simp -implicitDefEqProofs only [EE,xq,xr,xt]
       refine a9 (x:=x) (B:=xC x) hm g ?_
       simp [xC,Xg,XR,UG,c1,c2',hr,r0,r1',hm,hw]
     | true=>
       by_cases r4:x.r=4
       ·simp -implicitDefEqProofs only [EE,zq,zi,zC,xq,xr,xt,g,r4]
        simp [xz,xC,Xg,XR,UG,hw,r4]
       ·simp -implicitDefEqProofs only [EE,zq,zi,zC,xq,xr,xt,g,r4]
        refine a9 (x:=x) (B:=xC x) hm g ?_
        simp [xC,Xg,XR,UG,c1,c2',hr,r0,r1',hm,hw,r4]
   | true=>
     by_cases m0:x.m < 0
     ·simp -implicitDefEqProofs only [EE,zq,zi,ze,zC,zM,xq,xr,xt,vr,vt,vu,vv,vw,vx,vy,vz,vA,vB,vC,vD,vE,vF,vG,g,c1,c2,r0,r1,m0]
      simp [xz,xC,Xg,XR,hm,m0]
     by_cases m1:x.m > 15
     ·simp -implicitDefEqProofs only [EE,zq,zi,ze,zC,zM,xq,xr,xt,vr,vt,vu,vv,vw,vx,vy,vz,vA,vB,vC,vD,vE,vF,vG,g,c1,c2,r0,r1,m0,m1]
      have m1':15 < x.m:=m1
      simp [xz,xC,Xg,XR,hm,m1']
     have m1':¬ 15 < x.m:=m1
     simp -implicitDefEqProofs only [EE,N5,Nat.reduceAdd,jF,zq,zi,qf,ze,zC,zM,vr,vt,vu,vv,vw,vx,vy,vz,vA,vB,vC,vD,vE,vF,vG,g,c1,c2,r0,r1,m0,m1]
     refine zJ (by kernel_rfl) rfl (V5 x _) ?_
     cases hw:Wl x.op with
     | false=>
       simp -implicitDefEqProofs only [EE,xq,xr,xt]
       refine a9 (x:=x) (B:=xC x) hm g ?_
       simp [xC,Xg,XR,UG,c1,c2',hr,r0,r1',hm,m0,m1',hw]
     | true=>
       by_cases r4:x.r=4
       ·simp -implicitDefEqProofs only [EE,zq,zi,zC,xq,xr,xt,g,r4]
        simp [xz,xC,Xg,XR,UG,hw,r4]
       ·simp -implicitDefEqProofs only [EE,zq,zi,zC,xq,xr,xt,g,r4]
        refine a9 (x:=x) (B:=xC x) hm g ?_
        simp [xC,Xg,XR,UG,c1,c2',hr,r0,r1',hm,m0,m1',hw,r4]
end
open Go.Rtl (inc)
open Go.Rm (Rd Rd.of Rd.at Nb)
open Go.As (ZF uL vQ)
def xi:List z8->Int->Nat->Int
 | [],_,_ => -1
 | x :: xs,l,n=>if x.op=20/\x.l=l then (n:Nat) else xi xs l (n + 1)
theorem YI {h:za} {f:Go.As.Fn} (F:ZF h f) (l:Int):wV Tryz.prog 28 [f.val,.int .i64 l] h (.int .i64 (xi f.code l 0)):=by
 apply Uw rfl
 replace F:=F.lock
 generalize h.lock=L at F
 apply jY;intro wf
 apply rG
 unfold tA
 have s0:Sat (.of L) L []:=Sat.self wf.2
 have RF:Rd (.of L) (ZF · f):=Rd.of (y5.Zz L) F fun h' o=>F.old o
 have cn:=F.code.Zp
 have cc:=F.code.KW
 simp -implicitDefEqProofs only [EE,Value.cells,↓z7]
 refine ZY s0 fun b2 h2 s2 => ?_
 have g2:=s2.get
 simp -implicitDefEqProofs only []
 have F2:=RF.at s2
 have cl:=vQ F2.code 3
 refine uY (fun m vs h' => ∃ i:Nat,i<=f.code.length/\m=f.code.length - i/\vs = [.int .i64 0,.int .i64 (i:Nat)]/\h'=h2/\xi f.code l 0=xi (f.code.drop i) l i) f.code.length ⟨0,Oe _,rfl,rfl,rfl,rfl⟩ ?_
 rintro m vs h' ⟨i,hi,rfl,rfl,rfl,he⟩
 unfold gN
 by_cases hc:(i:Int) < (f.code.length:Int)
 ·obtain ⟨x,hx⟩:∃ x,f.code[i]? = some x:=⟨_,NC (by omega)⟩
  have hd:f.code.drop i=x :: f.code.drop (i + 1):=by
   rw [List.drop_eq_getElem_cons (by omega)]
   rw [NC (by omega)] at hx
   rw [PE hx]
  rw [hd] at he
  obtain ⟨bi,oi,ci,ti,ha,hbi,hgi,hle,htk,hki⟩:=uL F2.code (i:=i) (r:=x.row) (by rw [NU,hx];rfl) rfl
  have q0:=hki 0 (by decide)
  have q0:ci[oi]? = some (.int .i64 x.op):=q0
  have q5:=hki 5 (by decide)
  have q5:ci[oi + 5]? = some (.int .i64 x.l):=q5
  have hin:=inc (show i < 4611686018427387904 by have:=F.gj;omega)
  by_cases e1:x.op=20
  ·by_cases e2:x.l=l
   ·simp -implicitDefEqProofs only [EE,nth,↓z7,zq,zi,uP,ze,x9,wj,V8,V9,Ua,Ub,Uc,hc,g2,cn,cl,ha,hgi,q0,q5,e1,e2]
    show Value.int .i64 (i:Nat) = .int .i64 (xi f.code l 0)
    rw [he]
    unfold xi
    rw [NK ⟨e1,e2⟩]
   ·simp -implicitDefEqProofs only [EE,nth,↓z7,zq,zi,uP,ze,x9,wj,V8,V9,Ua,Ub,Uc,Jt,hc,g2,cn,cl,ha,hgi,q0,q5,e1,e2,hin]
    refine ⟨f.code.length - (i + 1),by omega,i + 1,by omega,rfl,rfl,?_⟩
    rw [he]
    conv=>lhs;unfold xi
    rw [NJ (fun q=>e2 q.2)]
  ·simp -implicitDefEqProofs only [EE,nth,↓z7,zq,zi,uP,ze,wj,V8,V9,Ua,Ub,Uc,Jt,hc,g2,cn,cl,ha,hgi,q0,e1,hin]
   refine ⟨f.code.length - (i + 1),by omega,i + 1,by omega,rfl,rfl,?_⟩
   rw [he]
   conv=>lhs;unfold xi
   rw [NJ (fun q=>e1 q.1)]
 ·have e:i=f.code.length:=by omega
  subst e
  simp -implicitDefEqProofs only [EE,nth,Int.reduceNeg,zq,uP,wj,hc,g2,cn,cl]
  show Value.int .i64 (-1) = .int .i64 (xi f.code l 0)
  rw [he,List.drop_length]
  rfl
end Go.Ar
