/- A part of the proof. -/
import Derived.Test.YtfhacoddmpbgnaaGreatDoorTB
set_option linter.unusedVariables false
set_option linter.unusedSimpArgs false
set_option maxRecDepth 100000
namespace Go.Ai
noncomputable section
variable {P:Program}
def yN.cut (ρ:yN) (n:Nat):yN:={ ρ with next:=n }
theorem zK.ext {ρ ρ':yN} (hn:ρ.next<=ρ'.next) (hm:∀ b pl,b < ρ.next->ρ.m b=some pl->ρ'.m b=some pl) {v v':Value} (h:zK ρ v v'):zK ρ' v v':=by
 induction h with
 | t7 h=>exact .t7 h
 | bool b=>exact .bool b
 | int k n=>exact .int k n
 | float k n=>exact .float k n
 | string s=>exact .string s
 | ptrNil=>exact .ptrNil
 | ptr hb hm0=>exact .ptr (aai hb hn) (hm _ _ hb hm0)
 | Zg=>exact .Zg
 | sliceNil c=>exact .sliceNil c
 | slice hb hm0 hl hc=>exact .slice (aai hb hn) (hm _ _ hb hm0) hl hc
 | sliceOut hb hc=>exact .sliceOut (aai hb hn) hc
 | nilFunc=>exact .nilFunc
 | nilIface=>exact .nilIface
 | mapNil=>exact .mapNil
 | map hb hm0=>exact .map (aai hb hn) (hm _ _ hb hm0)
 | yield hb hm0=>exact .yield (aai hb hn) (hm _ _ hb hm0)
 | iface _ ih=>exact .iface ih
 | func ha hc _ _ ih ih'=>exact .func ha hc ih ih'
 | agg ha _ ih=>exact .agg ha ih
 | tuple ha _ ih=>exact .tuple ha ih
theorem zK.down {ρ ρ2:yN} (hm:∀ b,b < ρ.next->ρ2.m b=ρ.m b) {v v':Value} (h:zK ρ v v'):∀ {u:Value},zK ρ2 v u->zK ρ v u:=by
 induction h with
 | t7 h=>intro u hu;cases hu with | t7 h2=>exact .t7 h2
 | bool b=>intro u hu;cases hu;exact .bool b
 | int k n=>intro u hu;cases hu;exact .int k n
 | float k n=>intro u hu;cases hu;exact .float k n
 | string s=>intro u hu;cases hu;exact .string s
 | ptrNil=>intro u hu;cases hu;exact .ptrNil
 | ptr hb hm0=>intro u hu;cases hu with | ptr hb2 hm2=>exact .ptr hb ((hm _ hb).symm.trans hm2)
 | Zg=>intro u hu;cases hu;exact .Zg
 | sliceNil c=>intro u hu;cases hu;exact .sliceNil c
 | slice hb hm0 hl hc=>
   intro u hu
   cases hu with
   | slice hb2 hm2 hl2 hc2=>exact .slice hb ((hm _ hb).symm.trans hm2) hl2 hc2
   | sliceOut hb2 hc2=>exact .sliceOut hb hc2
 | sliceOut hb hc=>
   intro u hu
   cases hu with
   | slice hb2 hm2 hl2 hc2=>exact .slice hb ((hm _ hb).symm.trans hm2) hl2 hc2
   | sliceOut hb2 hc2=>exact .sliceOut hb hc2
 | nilFunc=>intro u hu;cases hu;exact .nilFunc
 | nilIface=>intro u hu;cases hu;exact .nilIface
 | mapNil=>intro u hu;cases hu;exact .mapNil
 | map hb hm0=>intro u hu;cases hu with | map hb2 hm2=>exact .map hb ((hm _ hb).symm.trans hm2)
 | yield hb hm0=>intro u hu;cases hu with | yield hb2 hm2=>exact .yield hb ((hm _ hb).symm.trans hm2)
 | iface _ ih=>intro u hu;cases hu with | iface h2=>exact .iface (ih h2)
 | func ha hc h1 h2 ih ih'=>
   rename_i f a c a' c'
   intro u hu
   cases hu with
   | func ha2 hc2 k1 k2=>
     refine .func ha2 hc2 (fun i x y hx hy => ?_) (fun i x y hx hy => ?_)
     ·obtain ⟨z,hz⟩:∃ z,a'[i]? = some z:=by
       have hlt:i < a.size:=by
        rcases aar i a.size with h | h
        ·exact h
        ·rw [aaF h] at hx;cases hx
       exact ⟨_,aaG (ha ▸ hlt)⟩
      exact ih i x z hx hz (k1 i x y hx hy)
     ·obtain ⟨z,hz⟩:∃ z,c'[i]? = some z:=by
       have hlt:i < c.size:=by
        rcases aar i c.size with h | h
        ·exact h
        ·rw [aaF h] at hx;cases hx
       exact ⟨_,aaG (hc ▸ hlt)⟩
      exact ih' i x z hx hz (k2 i x y hx hy)
 | agg ha h1 ih=>
   rename_i a a'
   intro u hu
   cases hu with
   | agg ha2 k1=>
     refine .agg ha2 (fun i x y hx hy => ?_)
     obtain ⟨z,hz⟩:∃ z,a'[i]? = some z:=by
      have hlt:i < a.size:=by
       rcases aar i a.size with h | h
       ·exact h
       ·rw [aaF h] at hx;cases hx
      exact ⟨_,aaG (ha ▸ hlt)⟩
     exact ih i x z hx hz (k1 i x y hx hy)
 | tuple ha h1 ih=>
   rename_i a a'
   intro u hu
   cases hu with
   | tuple ha2 k1=>
     refine .tuple ha2 (fun i x y hx hy => ?_)
     obtain ⟨z,hz⟩:∃ z,a'[i]? = some z:=by
      have hlt:i < a.size:=by
       rcases aar i a.size with h | h
       ·exact h
       ·rw [aaF h] at hx;cases hx
      exact ⟨_,aaG (ha ▸ hlt)⟩
     exact ih i x z hx hz (k1 i x y hx hy)
theorem yO.ext {ρ ρ':yN} (hn:ρ.next<=ρ'.next) (hm:∀ b pl,b < ρ.next->ρ.m b=some pl->ρ'.m b=some pl) {wr:Bool} {c:List Value} {t:TypeId} {pl:Place} {w:World} (hc:yO P ρ wr c t pl w):yO P ρ' wr c t pl w:=by
 obtain ⟨cs,fz,h1,h2,h3,h4,h5,h6⟩:=hc
 exact ⟨cs,fz,h1,h2,h3,h4,h5,fun i x hx=>by obtain ⟨y,hy,hv⟩:=h6 i x hx;exact ⟨y,hy,hv.ext hn hm⟩⟩
theorem yO.down {ρ ρ2:yN} (hm:∀ b,b < ρ.next->ρ2.m b=ρ.m b) {wr wr2:Bool} {c:List Value} {t:TypeId} {pl:Place} {w w2:World} (h:yO P ρ wr c t pl w) (h2:yO P ρ2 wr2 c t pl w2):yO P ρ wr2 c t pl w2:=by
 obtain ⟨cs,fz,a1,a2,a3,a4,a5,a6⟩:=h
 obtain ⟨cs2,fz2,b1,b2,b3,b4,b5,b6⟩:=h2
 exact ⟨cs2,fz2,b1,b2,b3,b4,b5,fun i x hx=>by
  obtain ⟨y,hy,hv⟩:=a6 i x hx
  obtain ⟨y2,hy2,hv2⟩:=b6 i x hx
  exact ⟨y2,hy2,hv.down hm hv2⟩⟩
theorem wI.ext {ρ ρ':yN} (hn:ρ.next<=ρ'.next) (hm:∀ b pl,b < ρ.next->ρ.m b=some pl->ρ'.m b=some pl) {wr:Bool} {o:xE} {pl:Place} {w:World} (hc:wI P ρ wr o pl w):wI P ρ' wr o pl w:=by
 cases o with
 | cells c t=>exact yO.ext hn hm hc
 | map es q=>obtain ⟨ms,h1,h2,h3⟩:=hc;exact ⟨ms,h1,h2,fun i x m hx hm0=>⟨(h3 i x m hx hm0).1.ext hn hm,(h3 i x m hx hm0).2.1.ext hn hm,(h3 i x m hx hm0).2.2⟩⟩
 | iter m a b c=>obtain ⟨m',h1,h0,h2⟩:=hc;exact ⟨m',h1,h0,h2.ext hn hm⟩
 | tab c=>obtain ⟨t,h1⟩:=hc;exact ⟨t,yO.ext hn hm h1⟩
 | siter s pos=>exact hc
 | loop l=>obtain ⟨tm,d,fn,h1,h2⟩:=hc;exact ⟨tm,d,fn,h1,h2.size,fun i=>(h2.get i).ext hn hm⟩
theorem wI.down {ρ ρ2:yN} (hm:∀ b,b < ρ.next->ρ2.m b=ρ.m b) {wr wr2:Bool} {o:xE} {pl:Place} {w w2:World} (h:wI P ρ wr o pl w) (h2:wI P ρ2 wr2 o pl w2):wI P ρ wr2 o pl w2:=by
 cases o with
 | cells c t=>exact yO.down hm h h2
 | iter m a b c=>
   obtain ⟨m1,a1,_,a2⟩:=h
   obtain ⟨m2,b1,b0,b2⟩:=h2
   exact ⟨m2,b1,b0,a2.down hm b2⟩
 | siter s pos=>exact h2
 | tab c=>
   obtain ⟨t,cs,fz,a1,a2,a3,a4,a5,a6⟩:=h
   obtain ⟨t2,cs2,fz2,b1,b2,b3,b4,b5,b6⟩:=h2
   exact ⟨t2,cs2,fz2,b1,b2,b3,b4,b5,fun i x hx=>by
    obtain ⟨y,hy,hv⟩:=a6 i x hx
    obtain ⟨y2,hy2,hv2⟩:=b6 i x hx
    exact ⟨y2,hy2,hv.down hm hv2⟩⟩
 | map es q=>
   obtain ⟨ms,a1,a2,a3⟩:=h
   obtain ⟨ms2,b1,b2,b3⟩:=h2
   refine ⟨ms2,b1,b2,fun i x m hx hm0 => ?_⟩
   obtain ⟨z,hz⟩:∃ z,ms[i]? = some z:=by
    have hlt:i < ms.size:=by
     rcases aar i es.length with h | h
     ·omega
     ·rw [aaj h] at hx;cases hx
    exact ⟨_,aaG hlt⟩
   exact ⟨(a3 i x z hx hz).1.down hm (b3 i x m hx hm0).1,(a3 i x z hx hz).2.1.down hm (b3 i x m hx hm0).2.1,(b3 i x m hx hm0).2.2⟩
 | loop l=>
   obtain ⟨tm,d,fn,a1,a2⟩:=h
   obtain ⟨tm2,d2,fn2,b1,b2⟩:=h2
   exact ⟨tm2,d2,fn2,b1,b2.size,fun i=>(a2.get i).down hm (b2.get i)⟩
theorem wI.Kg {ρ:yN} {n m:Nat} (h:n<=m) {wr:Bool} {o:xE} {pl:Place} {w:World} (hc:wI P (ρ.cut n) wr o pl w):wI P (ρ.cut m) wr o pl w:=wI.ext (ρ:=ρ.cut n) (ρ':=ρ.cut m) h (fun _ _ _ h=>h) hc
theorem wI.mg {ρ ρ':yN} {n:Nat} (hm:∀ b pl,ρ.m b=some pl->ρ'.m b=some pl) {wr:Bool} {o:xE} {pl:Place} {w:World} (hc:wI P (ρ.cut n) wr o pl w):wI P (ρ'.cut n) wr o pl w:=wI.ext (ρ:=ρ.cut n) (ρ':=ρ'.cut n) (aah _) (fun b pl _ h=>hm b pl h) hc
theorem zK.Kg {ρ:yN} {n m:Nat} (h:n<=m) {v v':Value} (hv:zK (ρ.cut n) v v'):zK (ρ.cut m) v v':=zK.ext (ρ:=ρ.cut n) (ρ':=ρ.cut m) h (fun _ _ _ h=>h) hv
theorem zK.mg {ρ ρ':yN} {n:Nat} (hm:∀ b pl,ρ.m b=some pl->ρ'.m b=some pl) {v v':Value} (hv:zK (ρ.cut n) v v'):zK (ρ'.cut n) v v':=zK.ext (ρ:=ρ.cut n) (ρ':=ρ'.cut n) (aah _) (fun b pl _ h=>hm b pl h) hv
structure yx where
 j:Nat
 o:Oper
 v:Value
 s:Env
 g:za
 g':za
 rd:Nat->Bool
 tc:Nat->Bool
def xL (T:List yx) (p:yx->Bool):Option yx:=(T.filter p).getLast?
def VI (t:Nat) (r:yx):Bool:=decide (r.o.dst=some t)
def Vx (T:List yx) (s0:Env) (t:Nat):Value:=match xL T (VI t) with | some r=>r.v | none=>s0.get t
def cL (T:List yx) (n0:Nat) (t:Nat):Nat:=match xL T (VI t) with | some r=>r.g'.next | none=>n0
def ZN (T:List yx) (h0:za) (b:Nat):Option xE:=match xL T (fun r=>r.tc b) with | some r=>r.g'.get b | none=>h0.get b
def eW (T:List yx) (n0:Nat) (b:Nat):Nat:=match xL T (fun r=>r.tc b) with | some r=>r.g'.next | none=>n0
inductive Prec (ops:Array Oper):Nat->Nat->Prop
 | one {j:Nat} {o:Oper} {e:Edge} (ho:ops[j]? = some o) (he:e ∈ o.after) (hb:Region.binds .any e=true):Prec ops e.on j
 | more {i j:Nat} {o:Oper} {e:Edge} (ho:ops[j]? = some o) (he:e ∈ o.after) (hb:Region.binds .any e=true) (h:Prec ops i e.on):Prec ops i j
structure iK (ops:Array Oper) (x y:yx):Prop where
 d1:∀ d,x.o.dst=some d->d ∉ y.o.looksAt ops/\y.o.dst ≠ some d
 d2:∀ d,y.o.dst=some d->d ∉ x.o.looksAt ops
 b1:∀ b,x.tc b=true->y.rd b=false/\y.tc b=false
 b2:∀ b,y.tc b=true->x.rd b=false
structure Told (P:Program) (ops:Array Oper) (s0:Env) (h0:za) (A:List yx) (r:yx):Prop where
 op:ops[r.j]? = some r.o
 env:∀ t,r.s.get t=Vx A s0 t
 size:r.s.size=s0.size
 heap:∀ b,r.g.get b=if r.rd b=true then ZN A h0 b else none
 ro:r.g.ro=h0.ro
 n0:h0.next<=r.g.next
 nA:∀ x,x ∈ A->x.g'.next<=r.g.next
 n1:r.g.next<=r.g'.next
 SB:kO P ops r.s r.o r.g r.v r.g'
 put:∀ d,r.o.dst=some d->d < s0.size
 tc1:∀ b,r.tc b=true->r.rd b=true\/(r.g.next<=b/\b < r.g'.next)
 SS:∀ b,r.tc b=false->r.g'.get b=r.g.get b
 SU:∀ b o,r.tc b=true->b < r.g.next->r.g'.get b=some o->r.g.get b ≠ none
structure Valid (P:Program) (ops:Array Oper) (s0:Env) (h0:za) (tr:List yx):Prop where
 nodup:(tr.map (·.j)).Nodup
 all:∀ i,i < ops.size->∃ r,r ∈ tr/\r.j=i
 told:∀ A r B,tr=A ++ r :: B->Told P ops s0 h0 A r
 Ub:∀ A r B,tr=A ++ r :: B->∀ e,e ∈ r.o.after->Region.binds .any e=true->∃ x,x ∈ A/\x.j=e.on
 apart:∀ A x B y C,tr=A ++ x :: (B ++ y :: C)->Prec ops x.j y.j\/iK ops x y
theorem Xz {tr A B:List yx} {r x:yx} (hn:(tr.map (·.j)).Nodup) (e:tr=A ++ r :: B) (hx:x ∈ A\/x ∈ B):x.j ≠ r.j:=by
 subst e
 rw [aaU,abv] at hn
 have h1:=List.nodup_append.1 hn
 intro ej
 rcases hx with hx | hx
 ·exact h1.2.2 x.j (List.mem_map_of_mem hx) r.j (by simp) ej
 ·have:=(List.nodup_cons.1 h1.2.1).1
  exact this (ej ▸ List.mem_map_of_mem hx)
theorem I5 {ops:Array Oper} {s0:Env} {h0:za} {tr:List yx} (V:Valid P ops s0 h0 tr) {S:Nat->Bool} (hdown:∀ i j,Prec ops i j->S j=true->S i=true) {A B:List yx} {r:yx} (e:tr=A ++ r :: B)
  (hready:∀ i,Prec ops i r.j->S i=true) (hnot:S r.j=false) {p:yx->Bool} (hp:∀ x,(x ∈ A->p x=true->Prec ops x.j r.j)/\(x ∈ B->p x=true->Prec ops r.j x.j)) :
  (A.filter (fun x=>S x.j)).filter p=A.filter p/\(B.filter (fun x=>S x.j)).filter p = []:=by
 constructor
 ·rw [abS]
  apply abF
  intro x hx
  cases hpx:p x with
  | false=>simp
  | true=>rw [hready _ ((hp x).1 hx hpx)];rfl
 ·rw [abS,aco]
  intro x hx hc
  simp only [aac] at hc
  have:=hdown _ _ ((hp x).2 hx hc.1) hc.2
  rw [hnot] at this
  cases this
theorem Valid.order {ops:Array Oper} {s0:Env} {h0:za} {tr A B:List yx} {r:yx} (V:Valid P ops s0 h0 tr) (e:tr=A ++ r :: B) {p:yx->Bool} (hA:∀ x,iK ops x r->p x=false) (hB:∀ x,iK ops r x->p x=false) :
  ∀ x,(x ∈ A->p x=true->Prec ops x.j r.j)/\(x ∈ B->p x=true->Prec ops r.j x.j):=by
 intro x
 constructor
 ·intro hx hpx
  obtain ⟨A1,A2,rfl⟩:=aaM hx
  rcases V.apart A1 x A2 r B (by simp [e]) with h | h
  ·exact h
  ·rw [hA x h] at hpx;cases hpx
 ·intro hx hpx
  obtain ⟨B1,B2,rfl⟩:=aaM hx
  rcases V.apart A r B1 x B2 e with h | h
  ·exact h
  ·rw [hB x h] at hpx;cases hpx
end
noncomputable section
variable {P:Program}
structure Jj (P:Program) (tr:List yx) (s0:Env) (h0:za) (N:Nat) (ρ0:yN) (w0:World) (S:Nat->Bool) (ρ:yN) (w:World) (tm:Array Value):Prop where
 next:ρ.next=N
 old:∀ b,b < h0.next->ρ.m b=ρ0.m b
 size:s0.size=tm.size
 env:∀ t,zK (ρ.cut (cL (tr.filter fun r=>S r.j) h0.next t)) (Vx (tr.filter fun r=>S r.j) s0 t) (tm.getD t undef)
 heap:∀ b o,ZN (tr.filter fun r=>S r.j) h0 b=some o->b < eW (tr.filter fun r=>S r.j) h0.next b /\
  ∃ pl,ρ.m b=some pl/\wI P (ρ.cut (eW (tr.filter fun r=>S r.j) h0.next b)) (decide (h0.ro<=b)) o pl w
 inj:∀ b1 b2 o1 o2 p1 p2,ZN (tr.filter fun r=>S r.j) h0 b1=some o1->ZN (tr.filter fun r=>S r.j) h0 b2=some o2->ρ.m b1=some p1->ρ.m b2=some p2->p1.c=p2.c->b1=b2
 fresh:∀ x,x ∈ tr->S x.j=false->∀ b,x.g.next<=b->b < x.g'.next->ρ.m b=none
 os:w.os=w0.os
 tape:w.tape=w0.tape
 output:w.output=w0.output
 JB:w0.heap.size<=w.heap.size
 frame:∀ c,c < w0.heap.size->¬ aV ρ0 h0 c->w.heap[c]? = w0.heap[c]?
 im:∀ b o pl,ZN (tr.filter fun r=>S r.j) h0 b=some o->h0.ro<=b->ρ.m b=some pl->pl.c < w0.heap.size->aV ρ0 h0 pl.c
 eV:P.globals.size<=h0.ro
 gl:∀ b pl,b < P.globals.size->ρ.m b=some pl->pl.c=b/\pl.base=0
def uP (S:Nat->Bool) (j:Nat):Nat->Bool:=fun i=>S i || decide (i=j)
section
variable {ops:Array Oper} {s0:Env} {h0:za} {tr A B:List yx} {r:yx} {S:Nat->Bool}
theorem cR (e:tr=A ++ r :: B) (hnot:S r.j=false):tr.filter (fun x=>S x.j)=A.filter (fun x=>S x.j) ++ B.filter (fun x=>S x.j):=by
 subst e;simp [hnot]
theorem mB (V:Valid P ops s0 h0 tr) (e:tr=A ++ r :: B):tr.filter (fun x=>uP S r.j x.j)=A.filter (fun x=>S x.j) ++ r :: B.filter (fun x=>S x.j):=by
 have hA:A.filter (fun x=>uP S r.j x.j)=A.filter (fun x=>S x.j):=abF fun x hx=>by simp [uP,Xz V.nodup e (.inl hx)]
 have hB:B.filter (fun x=>uP S r.j x.j)=B.filter (fun x=>S x.j):=abF fun x hx=>by simp [uP,Xz V.nodup e (.inr hx)]
 rw [e,aaJ,aby,hA,hB,if_pos (by simp [uP])]
theorem gS (V:Valid P ops s0 h0 tr) (hdown:∀ i j,Prec ops i j->S j=true->S i=true) (e:tr=A ++ r :: B) (hready:∀ i,Prec ops i r.j->S i=true) (hnot:S r.j=false) {p:yx->Bool}
  (hA:∀ x,iK ops x r->p x=false) (hB:∀ x,iK ops r x->p x=false):xL (tr.filter fun x=>S x.j) p=xL A p:=by
 obtain ⟨h1,h2⟩:=I5 V hdown e hready hnot (V.order e hA hB)
 rw [xL,cR e hnot,aaJ,h1,h2,abD];rfl
theorem aE (V:Valid P ops s0 h0 tr) (hdown:∀ i j,Prec ops i j->S j=true->S i=true) (e:tr=A ++ r :: B) (hready:∀ i,Prec ops i r.j->S i=true) (hnot:S r.j=false) {p:yx->Bool} (hr:p r=true)
  (hA:∀ x,iK ops x r->p x=false) (hB:∀ x,iK ops r x->p x=false):xL (tr.filter fun x=>uP S r.j x.j) p=some r:=by
 obtain ⟨h1,h2⟩:=I5 V hdown e hready hnot (V.order e hA hB)
 rw [xL,mB V e,aaJ,aby,if_pos hr,h1,h2]
 simp
theorem aF (V:Valid P ops s0 h0 tr) (e:tr=A ++ r :: B) (hnot:S r.j=false) {p:yx->Bool} (hr:p r=false):xL (tr.filter fun x=>uP S r.j x.j) p=xL (tr.filter fun x=>S x.j) p:=by
 rw [xL,xL,mB V e,cR e hnot,aaJ,aby,hr,if_neg (by simp),aaJ]
theorem YF {T:List yx} {p:yx->Bool} {x:yx} (h:xL T p=some x):x ∈ T/\p x=true:=by
 have:=List.mem_of_getLast? h
 exact abQ.1 this
theorem G7 (hro0:h0.ro<=h0.next) (V:Valid P ops s0 h0 tr) (hdown:∀ i j,Prec ops i j->S j=true->S i=true) (e:tr=A ++ r :: B) (hready:∀ i,Prec ops i r.j->S i=true) (hnot:S r.j=false)
  {N:Nat} (hN:∀ x,x ∈ tr->x.g'.next<=N) {ρ0 ρ:yN} {w0 w:World} {tm:Array Value} (I:Jj P tr s0 h0 N ρ0 w0 S ρ w tm) (ds:List Deferred) (rest:List Nat) (b:Frame) (k:List Item) (cs:List Frame) :
  ∃ ρ' w' tm',Jj P tr s0 h0 N ρ0 w0 (uP S r.j) ρ' w' tm'/\Steps P (lone (wi b tm ds (.inRegion ops (r.j :: rest) :: k)) cs w) (lone (wi b tm' ds (.inRegion ops rest :: k)) cs w'):=by
 have D:=V.told A r B e
 have hrm:r ∈ tr:=by rw [e];simp
 have lookEnv:∀ t,t ∈ r.o.looksAt ops->xL (tr.filter fun x=>S x.j) (VI t)=xL A (VI t):=fun t ht=>
  gS V hdown e hready hnot (fun x hx=>by
   cases hw:VI t x with
   | false=>rfl
   | true=>exact absurd ht (hx.d1 t (of_decide_eq_true hw)).1) (fun x hx=>by
   cases hw:VI t x with
   | false=>rfl
   | true=>exact absurd ht (hx.d2 t (of_decide_eq_true hw)))
 have lookHeap:∀ bb,r.rd bb=true->xL (tr.filter fun x=>S x.j) (fun x=>x.tc bb)=xL A (fun x=>x.tc bb):=fun bb hb=>
  gS V hdown e hready hnot (fun x hx=>by
   cases hw:x.tc bb with
   | false=>rfl
   | true=>have:=(hx.b1 bb hw).1;rw [hb] at this;cases this) (fun x hx=>by
   cases hw:x.tc bb with
   | false=>rfl
   | true=>have:=hx.b2 bb hw;rw [hb] at this;cases this)
 have hpVeq:∀ bb,r.rd bb=true->ZN (tr.filter fun x=>S x.j) h0 bb=r.g.get bb:=fun bb hb=>by
  rw [D.heap,if_pos hb];simp only [ZN,lookHeap bb hb]
 have hpNle:∀ bb,r.rd bb=true->eW (tr.filter fun x=>S x.j) h0.next bb<=r.g.next:=fun bb hb=>by
  simp only [eW,lookHeap bb hb]
  split
  ·rename_i x hx;exact D.nA x (YF hx).1
  ·exact D.n0
 have galive:∀ bb o,r.g.get bb=some o->r.rd bb=true/\ZN (tr.filter fun x=>S x.j) h0 bb=some o:=fun bb o hg=>by
  rw [D.heap] at hg
  cases hb:r.rd bb with
  | false=>rw [hb] at hg;simp at hg
  | true=>exact ⟨rfl,by rw [hpVeq bb hb,D.heap];exact hg⟩
 let ρr:=ρ.cut r.g.next
 have hrel:Rel P ρr r.g w:=by
  refine ⟨rfl,?_,?_,?_,?_,by rw [D.ro];exact I.eV,I.gl⟩
  ·have h1:=D.ro;have h2:=D.n0
   show r.g.ro<=r.g.next
   omega
  ·intro bb o hg
   obtain ⟨h1,h2⟩:=galive bb o hg
   exact aai (I.heap bb o h2).1 (hpNle bb h1)
  ·intro bb o hg
   obtain ⟨h1,h2⟩:=galive bb _ hg
   obtain ⟨_,pl,hp,hc⟩:=I.heap bb o h2
   refine ⟨pl,hp,?_⟩
   rw [D.ro]
   exact hc.Kg (hpNle bb h1)
  ·intro b1 b2 o1 o2 p1 p2 g1 g2
   exact I.inj b1 b2 o1 o2 p1 p2 (galive b1 o1 g1).2 (galive b2 o2 g2).2
 have hlook:∀ t,t ∈ r.o.looksAt ops->zK ρr (r.s.get t) (tm.getD t undef):=by
  intro t ht
  have h1:=I.env t
  have e1:Vx (tr.filter fun x=>S x.j) s0 t=r.s.get t:=by rw [D.env t];simp only [Vx,lookEnv t ht]
  have e2:cL (tr.filter fun x=>S x.j) h0.next t<=r.g.next:=by
   simp only [cL,lookEnv t ht]
   split
   ·rename_i x hx;exact D.nA x (YF hx).1
   ·exact D.n0
  rw [e1] at h1
  exact h1.Kg e2
 obtain ⟨v',w',ρq,st,hv,sx⟩:=Kw D.op D.SB hrel (D.size.trans I.size) hlook ds rest b k cs
 let ρ':yN:={ next:=N,m:=fun bb=>if r.g.next<=bb/\bb < r.g'.next then ρq.m bb else ρ.m bb }
 have qnext:ρq.next=r.g'.next:=st.rel.next
 have qlow:∀ bb,bb < r.g.next->ρq.m bb=ρ.m bb:=fun bb hb=>st.le.2 bb hb
 have pq:∀ bb,bb < r.g'.next->ρ'.m bb=ρq.m bb:=by
  intro bb hb
  by_cases hl:r.g.next<=bb
  ·exact if_pos ⟨hl,hb⟩
  ·rw [show ρ'.m bb=ρ.m bb from if_neg (by omega),qlow bb (by omega)]
 have rfresh:=I.fresh r hrm hnot
 have pext:∀ bb pl,ρ.m bb=some pl->ρ'.m bb=some pl:=by
  intro bb pl hm
  rw [show ρ'.m bb=ρ.m bb from if_neg (by
   rintro ⟨h1,h2⟩
   rw [rfresh bb h1 h2] at hm;cases hm)]
  exact hm
 have hn1N:r.g'.next<=N:=hN r hrm
 have notMine:∀ bb o pl,ZN (tr.filter fun x=>S x.j) h0 bb=some o->ρ.m bb=some pl->r.rd bb=false->¬ aV ρr r.g pl.c:=by
  rintro bb o pl hg hm hb ⟨b1,o1,p1,g1,_,m1,e1⟩
  obtain ⟨k1,k2⟩:=galive b1 o1 g1
  have:=I.inj b1 bb o1 o p1 pl k2 hg m1 hm e1
  subst this
  rw [hb] at k1;cases k1
 have hpVnew:∀ bb,ZN (tr.filter fun x=>uP S r.j x.j) h0 bb=if r.tc bb=true then r.g'.get bb else ZN (tr.filter fun x=>S x.j) h0 bb:=by
  intro bb
  cases ht:r.tc bb with
  | true=>
    rw [if_pos rfl]
    simp only [ZN]
    rw [aE V hdown e hready hnot ht (fun x hx=>by
     cases hw:x.tc bb with
     | false=>rfl
     | true=>have:=(hx.b1 bb hw).2;rw [ht] at this;cases this) (fun x hx=>by
     cases hw:x.tc bb with
     | false=>rfl
     | true=>have:=(hx.b1 bb ht).2;rw [hw] at this;cases this)]
  | false=>
    rw [if_neg (by simp)]
    simp only [ZN]
    rw [aF V e hnot (p:=fun x=>x.tc bb) ht]
 have hpNnew:∀ bb,eW (tr.filter fun x=>uP S r.j x.j) h0.next bb=if r.tc bb=true then r.g'.next else eW (tr.filter fun x=>S x.j) h0.next bb:=by
  intro bb
  cases ht:r.tc bb with
  | true=>
    rw [if_pos rfl]
    simp only [eW]
    rw [aE V hdown e hready hnot ht (fun x hx=>by
     cases hw:x.tc bb with
     | false=>rfl
     | true=>have:=(hx.b1 bb hw).2;rw [ht] at this;cases this) (fun x hx=>by
     cases hw:x.tc bb with
     | false=>rfl
     | true=>have:=(hx.b1 bb ht).2;rw [hw] at this;cases this)]
  | false=>
    rw [if_neg (by simp)]
    simp only [eW]
    rw [aF V e hnot (p:=fun x=>x.tc bb) ht]
 have cases':∀ bb o,ZN (tr.filter fun x=>uP S r.j x.j) h0 bb=some o->(r.tc bb=true/\r.g'.get bb=some o)\/(r.tc bb=false/\ZN (tr.filter fun x=>S x.j) h0 bb=some o):=by
  intro bb o h
  rw [hpVnew] at h
  cases ht:r.tc bb with
  | true=>rw [ht,if_pos rfl] at h;exact .inl ⟨rfl,h⟩
  | false=>rw [ht,if_neg (by simp)] at h;exact .inr ⟨rfl,h⟩
 refine ⟨ρ',w',vU tm r.o.dst v',⟨rfl,?_,?_,?_,?_,?_,?_,st.os.trans I.os,st.tape.trans I.tape,st.output.trans I.output,aaH I.JB st.size,?_,?_,I.eV,fun b pl hb hm=>I.gl b pl hb (by
  rw [show ρ'.m b=ρ.m b from if_neg (by have:=D.n0;have:=I.eV;omega)] at hm;exact hm)⟩,sx⟩
 ·intro bb hb
  rw [show ρ'.m bb=ρ.m bb from if_neg (by have:=D.n0;omega)]
  exact I.old bb hb
 ·cases r.o.dst with
  | none=>exact I.size
  | some d=>simp only [vU,Array.size_setIfInBounds];exact I.size
 ·
  intro t
  by_cases ht:r.o.dst=some t
  ·have e1:xL (tr.filter fun x=>uP S r.j x.j) (VI t)=some r:=aE V hdown e hready hnot (p:=VI t) (by simp [VI,ht]) (fun x hx=>by
    cases hw:VI t x with
    | false=>rfl
    | true=>exact absurd ht (hx.d1 t (of_decide_eq_true hw)).2) (fun x hx=>by
    cases hw:VI t x with
    | false=>rfl
    | true=>exact absurd (of_decide_eq_true hw) (hx.d1 t ht).2)
   simp only [Vx,cL,e1]
   have e2:(vU tm r.o.dst v').getD t undef=v':=by
    have hlt:t < tm.size:=by rw [<- I.size];exact D.put t ht
    rw [ht];simp [vU,aay,hlt]
   rw [e2]
   refine hv.ext (by show ρq.next<=r.g'.next;rw [qnext];exact aah _) (fun bb pl hb hm => ?_)
   show ρ'.m bb=some pl
   rw [pq bb (by rw [<- qnext];exact hb)];exact hm
  ·have e1:xL (tr.filter fun x=>uP S r.j x.j) (VI t)=xL (tr.filter fun x=>S x.j) (VI t):=aF V e hnot (p:=VI t) (by simp [VI,ht])
   have e2:(vU tm r.o.dst v').getD t undef=tm.getD t undef:=by
    cases hd:r.o.dst with
    | none=>rfl
    | some d=>
      have:d ≠ t:=fun h=>ht (by rw [hd,h])
      simp [vU,aay,this]
   have h1:=I.env t
   simp only [Vx,cL] at h1 ⊢
   rw [e1,e2]
   exact h1.mg (ρ':=ρ') pext
 ·
  intro bb o hg
  rcases cases' bb _ hg with ⟨ht,hg'⟩ | ⟨ht,hg'⟩
  ·rw [hpNnew,if_pos ht]
   obtain ⟨pl,hp,hc⟩:=st.rel.ok bb o hg'
   have hlt:=st.rel.Qs bb _ hg'
   refine ⟨hlt,pl,by rw [pq bb hlt];exact hp,?_⟩
   have hro:r.g'.ro=h0.ro:=st.ro.trans D.ro
   rw [hro] at hc
   exact hc.ext (by show ρq.next<=r.g'.next;rw [qnext];exact aah _) (fun b2 p2 hb hm=>by show ρ'.m b2=some p2;rw [pq b2 (by rw [<- qnext];exact hb)];exact hm)
  ·rw [hpNnew,ht,if_neg (by simp)]
   obtain ⟨hlt,pl,hp,hc⟩:=I.heap bb o hg'
   refine ⟨hlt,pl,pext bb pl hp,?_⟩
   have hdone:wI P (ρ.cut (eW (tr.filter fun x=>S x.j) h0.next bb)) (decide (h0.ro<=bb)) o pl w':=by
    cases hb:r.rd bb with
    | true=>
      have hgg:r.g'.get bb=some o:=by rw [D.SS bb ht,<- hpVeq bb hb];exact hg'
      obtain ⟨p2,hp2,hc2⟩:=st.rel.ok bb o hgg
      have hbl:bb < r.g.next:=aai hlt (hpNle bb hb)
      rw [qlow bb hbl,hp] at hp2
      cases hp2
      have hro:r.g'.ro=h0.ro:=st.ro.trans D.ro
      rw [hro] at hc2
      exact wI.down (ρ:=ρ.cut (eW (tr.filter fun x=>S x.j) h0.next bb)) (ρ2:=ρq) (fun b2 hb2=>qlow b2 (aai hb2 (hpNle bb hb))) hc hc2
    | false=>exact hc.other (st.frame pl.c hc.lt (notMine bb _ pl hg' hp hb))
   exact hdone.mg (ρ':=ρ') pext
 ·
  have key:∀ b1 b2 o1 o2 p1 p2,r.tc b1=true->r.g'.get b1=some o1->r.tc b2=false->ZN (tr.filter fun x=>S x.j) h0 b2=some o2->ρ'.m b1=some p1->ρ'.m b2=some p2->p1.c=p2.c->b1=b2:=by
   intro b1 b2 o1 o2 p1 p2 t1 g1 t2 g2 m1 m2 ec
   obtain ⟨hlt2,q2,hq2,hc2⟩:=I.heap b2 o2 g2
   rw [pext b2 q2 hq2] at m2
   cases m2
   have hl1:=st.rel.Qs b1 o1 g1
   rw [pq b1 hl1] at m1
   cases hb2:r.rd b2 with
   | true=>
     have hgg:r.g'.get b2=some o2:=by rw [D.SS b2 t2,<- hpVeq b2 hb2];exact g2
     have hbl:b2 < r.g.next:=aai hlt2 (hpNle b2 hb2)
     exact st.rel.inj b1 b2 o1 _ p1 p2 g1 hgg m1 (by rw [qlow b2 hbl];exact hq2) ec
   | false=>
     by_cases hw:h0.ro<=b1
     ·have hM:aV ρq r.g' p1.c:=⟨b1,o1,p1,g1,by rw [st.ro,D.ro];exact hw,m1,rfl⟩
      have hlt:p1.c < w.heap.size:=by rw [ec];exact hc2.lt
      have:=st.im p1.c hlt hM
      rw [ec] at this
      exact absurd this (notMine b2 _ p2 g2 hq2 hb2)
     ·have hb1:b1 < r.g.next:=by have:=D.n0;omega
      have hne:=D.SU b1 o1 t1 hb1 g1
      obtain ⟨o1',ho1'⟩:∃ o,r.g.get b1=some o:=by cases hh:r.g.get b1 with | none=>exact absurd hh hne | some o=>exact ⟨o,rfl⟩
      rw [qlow b1 hb1] at m1
      exact I.inj b1 b2 o1' _ p1 p2 (galive b1 o1' ho1').2 g2 m1 hq2 ec
  intro b1 b2 o1 o2 p1 p2 g1 g2 m1 m2 ec
  rcases cases' b1 o1 g1 with ⟨t1,k1⟩ | ⟨t1,k1⟩ <;> rcases cases' b2 o2 g2 with ⟨t2,k2⟩ | ⟨t2,k2⟩
  ·have l1:=st.rel.Qs b1 o1 k1
   have l2:=st.rel.Qs b2 o2 k2
   rw [pq b1 l1] at m1;rw [pq b2 l2] at m2
   exact st.rel.inj b1 b2 o1 o2 p1 p2 k1 k2 m1 m2 ec
  ·exact key b1 b2 o1 o2 p1 p2 t1 k1 t2 k2 m1 m2 ec
  ·exact (key b2 b1 o2 o1 p2 p1 t2 k2 t1 k1 m2 m1 ec.symm).symm
  ·obtain ⟨_,q1,hq1,_⟩:=I.heap b1 o1 k1
   obtain ⟨_,q2,hq2,_⟩:=I.heap b2 o2 k2
   rw [pext b1 q1 hq1] at m1;rw [pext b2 q2 hq2] at m2
   cases m1;cases m2
   exact I.inj b1 b2 _ _ p1 p2 k1 k2 hq1 hq2 ec
 ·
  intro x hx hS bb h1 h2
  simp only [uP,aca,decide_eq_false_iff_not] at hS
  have h3:=I.fresh x hx hS.1 bb h1 h2
  have hne:x ≠ r:=fun h=>hS.2 (by rw [h])
  have hdis:¬ (r.g.next<=bb/\bb < r.g'.next):=by
   rw [e] at hx
   rcases aaP.1 hx with hxA | hxB
   ·have:=D.nA x hxA;omega
   ·rcases abf.1 hxB with hxr | hxB
    ·exact absurd hxr hne
    ·obtain ⟨B1,B2,rfl⟩:=aaM hxB
     have:=(V.told (A ++ r :: B1) x B2 (by simp [e])).nA r (by simp)
     omega
  rw [show ρ'.m bb=ρ.m bb from if_neg hdis]
  exact h3
 ·intro c hc hn
  rw [st.frame c (aai hc I.JB) (by
   rintro ⟨b1,o1,p1,g1,hro1,m1,rfl⟩
   exact hn (I.im b1 o1 p1 (galive b1 o1 g1).2 (by rw [<- D.ro];exact hro1) m1 hc))]
  exact I.frame c hc hn
 ·intro bb o pl hg hro hm hc
  rcases cases' bb o hg with ⟨ht,hg'⟩ | ⟨ht,hg'⟩
  ·rw [pq bb (st.rel.Qs bb o hg')] at hm
   obtain ⟨b1,o1,p1,g1,hro1,m1,e1⟩:=st.im pl.c (aai hc I.JB) ⟨bb,o,pl,hg',by rw [st.ro,D.ro];exact hro,hm,rfl⟩
   rw [<- e1]
   exact I.im b1 o1 p1 (galive b1 o1 g1).2 (by rw [<- D.ro];exact hro1) m1 (by rw [e1];exact hc)
  ·obtain ⟨_,q,hq,_⟩:=I.heap bb o hg'
   rw [pext bb q hq] at hm
   cases hm
   exact I.im bb _ pl hg' hro hq hc
end
end
noncomputable section
variable {P:Program}
section
variable {ops:Array Oper} {s0:Env} {h0:za} {tr:List yx}
theorem Je {listed:Array Bool} {i:Nat} (h:i ∈ Region.ready .any ops listed):i < ops.size/\listed.getD i true=false /\ ∀ o,ops[i]? = some o->∀ e,e ∈ o.after->Region.binds .any e=true->listed.getD e.on false=true:=by
 simp only [Region.ready,abQ,aa7,aac,aat] at h
 refine ⟨h.1,h.2.1,fun o ho e he hb => ?_⟩
 have:=h.2.2
 rw [ho] at this
 simp only [abz,abx,Array.all_eq_true_iff_forall_mem,aaV,aat] at this
 rcases this e he with h1 | h1
 ·rw [hb] at h1;cases h1
 ·exact h1
theorem Cn {listed:Array Bool} {i:Nat} (hi:i < ops.size) (hl:listed.getD i true=false) (h:∀ o,ops[i]? = some o->∀ e,e ∈ o.after->Region.binds .any e=true->listed.getD e.on false=true):i ∈ Region.ready .any ops listed:=by
 simp only [Region.ready,abQ,aa7,aac,aat]
 refine ⟨hi,hl,?_⟩
 rw [aaG hi]
 simp only [abz,abx,Array.all_eq_true_iff_forall_mem,aaV,aat]
 intro e he
 cases hb:Region.binds .any e with
 | false=>exact .inl rfl
 | true=>exact .inr (h _ (aaG hi) e he hb)
theorem No (hro0:h0.ro<=h0.next) (V:Valid P ops s0 h0 tr) {N:Nat} (hN:∀ x,x ∈ tr->x.g'.next<=N) {ρ0:yN} {w0:World} (ds:List Deferred) (b:Frame) (k:List Item) (cs:List Frame) :
  ∀ (fuel t:Nat) (listed:Array Bool) (ρ:yN) (w:World) (tm:Array Value),listed.size=ops.size->((List.range ops.size).filter fun i => !listed.getD i false).length<=fuel ->
    (∀ i j,Prec ops i j->listed.getD j false=true->listed.getD i false=true)->Jj P tr s0 h0 N ρ0 w0 (fun j=>listed.getD j false) ρ w tm ->
    ∃ S ρ' w' tm',(∀ r,r ∈ tr->S r.j=true)/\Jj P tr s0 h0 N ρ0 w0 S ρ' w' tm' /\
      Steps P (lone (wi b tm ds (.inRegion ops (Region.linearise.go .any ops fuel t listed []) :: k)) cs w) (lone (wi b tm' ds (.inRegion ops [] :: k)) cs w'):=by
 intro fuel
 induction fuel with
 | zero=>
   intro t listed ρ w tm hsz hcount hdown I
   refine ⟨_,ρ,w,tm,?_,I,.refl P _⟩
   intro r hr
   have hnil:=abw (Nat.le_zero.1 hcount)
   obtain ⟨A,B,e⟩:=aaM hr
   have yF:=(V.told A r B e).op
   have hlt:r.j < ops.size:=by
    rcases aar r.j ops.size with h | h
    ·exact h
    ·rw [aaF h] at yF;cases yF
   cases hl:listed.getD r.j false with
   | true=>rfl
   | false=>
     have:r.j ∈ (List.range ops.size).filter fun i => !listed.getD i false:=abQ.2 ⟨aa7.2 hlt,by rw [hl];rfl⟩
     rw [hnil] at this;cases this
 | succ fuel ih=>
   intro t listed ρ w tm hsz hcount hdown I
   simp only [Region.linearise.go]
   change ∃ S ρ' w' tm',(∀ r,r ∈ tr->S r.j=true)/\Jj P tr s0 h0 N ρ0 w0 S ρ' w' tm'/\Steps P (lone (wi b tm ds (.inRegion ops (match (Region.ready .any ops listed)[t % (Region.ready .any ops listed).length]? with
    | some i=>Region.linearise.go .any ops fuel (t / (Region.ready .any ops listed).length) (listed.setIfInBounds i true) [i]
    | none=>[].reverse) :: k)) cs w) _
   have getTF:∀ i,i < ops.size->listed.getD i true=listed.getD i false:=by
    intro i hi
    simp [aay,aaG (hsz ▸ hi)]
   by_cases hall:∀ r,r ∈ tr->listed.getD r.j false=true
   ·
    have hnone:Region.ready .any ops listed = []:=by
     rw [List.eq_nil_iff_forall_not_mem]
     intro i hi
     obtain ⟨h1,h2,_⟩:=Je hi
     obtain ⟨r,hr,hrj⟩:=V.all i h1
     have:=hall r hr
     rw [hrj,<- getTF i h1,h2] at this
     cases this
    rw [hnone]
    exact ⟨_,ρ,w,tm,hall,I,.refl P _⟩
   ·
    have hex:∃ i,i ∈ Region.ready .any ops listed:=by
     have:∃ A r B,tr=A ++ r :: B/\listed.getD r.j false=false /\ ∀ x,x ∈ A->listed.getD x.j false=true:=by
      clear ih I hN V
      induction tr with
      | nil=>exact absurd (fun r hr=>by cases hr) hall
      | cons x tr iht=>
        cases hx:listed.getD x.j false with
        | false=>exact ⟨[],x,tr,rfl,hx,fun y hy=>by cases hy⟩
        | true=>
          obtain ⟨A,r,B,e,h1,h2⟩:=iht (fun h=>hall (fun r hr=>by rcases abf.1 hr with rfl | hr;exact hx;exact h r hr))
          exact ⟨x :: A,r,B,by rw [e];rfl,h1,fun y hy=>by rcases abf.1 hy with rfl | hy;exact hx;exact h2 y hy⟩
     obtain ⟨A,r,B,e,h1,h2⟩:=this
     have yF:=(V.told A r B e).op
     have hlt:r.j < ops.size:=by
      rcases aar r.j ops.size with h | h
      ·exact h
      ·rw [aaF h] at yF;cases yF
     refine ⟨r.j,Cn hlt (by rw [getTF _ hlt];exact h1) (fun o ho ed hed hb => ?_)⟩
     rw [yF] at ho
     cases ho
     obtain ⟨x,hx,hxe⟩:=V.Ub A r B e ed hed hb
     rw [<- hxe];exact h2 x hx
    cases hi:(Region.ready .any ops listed)[t % (Region.ready .any ops listed).length]? with
    | none=>
      obtain ⟨i,hmem⟩:=hex
      have hpos:0 < (Region.ready .any ops listed).length:=List.length_pos_of_mem hmem
      rw [aab (Nat.mod_lt _ hpos)] at hi
      cases hi
    | some i=>
      simp only []
      rw [linearise_go_acc,List.reverse_singleton,List.singleton_append]
      obtain ⟨hlt,hl,hed⟩:=Je (aaq hi)
      obtain ⟨r,hr,hrj⟩:=V.all i hlt
      obtain ⟨A,B,e⟩:=aaM hr
      subst hrj
      have yF:=(V.told A r B e).op
      have hready:∀ q,Prec ops q r.j->listed.getD q false=true:=by
       intro q hq
       cases hq with
       | one ho he hb=>exact hed _ ho _ he hb
       | more ho he hb hp=>exact hdown _ _ hp (hed _ ho _ he hb)
      have hnot:listed.getD r.j false=false:=by rw [<- getTF _ hlt];exact hl
      obtain ⟨ρ1,w1,tm1,I1,sx⟩:=G7 hro0 V hdown e hready hnot hN I ds (Region.linearise.go .any ops fuel (t / (Region.ready .any ops listed).length) (listed.setIfInBounds r.j true) []) b k cs
      have hadd:(fun j=>(listed.setIfInBounds r.j true).getD j false)=uP (fun j=>listed.getD j false) r.j:=by
       funext j
       simp only [uP,aay,abc]
       by_cases ej:r.j=j
       ·subst ej
        rw [if_pos rfl,if_pos (by omega)];simp
       ·rw [if_neg ej]
        have:decide (j=r.j)=false:=decide_eq_false (fun h=>ej h.symm)
        rw [this,Bool.or_false]
      rw [<- hadd] at I1
      have hcnt:((List.range ops.size).filter fun i => !(listed.setIfInBounds r.j true).getD i false).length<=fuel:=by
       have hmem:r.j ∈ (List.range ops.size).filter fun i => !listed.getD i false:=abQ.2 ⟨aa7.2 hlt,by rw [hnot];rfl⟩
       have hsub:(List.range ops.size).filter (fun i => !(listed.setIfInBounds r.j true).getD i false)=((List.range ops.size).filter fun i => !listed.getD i false).filter (fun i=>decide (i ≠ r.j)):=by
        rw [abS]
        apply abF
        intro i _
        have:=congrFun hadd i
        simp only [uP] at this
        rw [this]
        by_cases ei:i=r.j <;> simp [ei]
       rw [hsub]
       have hlen:∀ (l:List Nat),r.j ∈ l->(l.filter fun i=>decide (i ≠ r.j)).length < l.length:=by
        intro l hl
        apply List.length_filter_lt_length_iff_exists.2
        exact ⟨r.j,hl,by simp⟩
       have:=hlen _ hmem
       omega
      have hdn:∀ q j,Prec ops q j->(listed.setIfInBounds r.j true).getD j false=true->(listed.setIfInBounds r.j true).getD q false=true:=by
       intro q j hq hj
       have h1:=congrFun hadd j
       have h2:=congrFun hadd q
       rw [h1] at hj
       rw [h2]
       simp only [uP,aaV,decide_eq_true_eq] at hj ⊢
       rcases hj with hj | rfl
       ·exact .inl (hdown q j hq hj)
       ·exact .inl (hready q hq)
      obtain ⟨S,ρ2,w2,tm2,hS,I2,sx2⟩:=ih (t / (Region.ready .any ops listed).length) (listed.setIfInBounds r.j true) ρ1 w1 tm1 (by simpa using hsz) hcnt hdn I1
      exact ⟨S,ρ2,w2,tm2,hS,I2,sx.trans sx2⟩
theorem Us (hmix:P.follows .mixedOrders=true) {id:Nat} {rd:Option Nat} {Q:Ex->Env->za->Prop} (V:Valid P ops s0 h0 tr) {sf:Env} {hf:za} (hs:∀ t,sf.get t=Vx tr s0 t) (hsz:sf.size=s0.size)
  (hh:∀ b,hf.get b=ZN tr h0 b) (hro:hf.ro=h0.ro) (hn:h0.next<=hf.next) (hN:∀ x,x ∈ tr->x.g'.next<=hf.next) (hq:Q .normal sf hf):T P rd (.region id ops true) s0 h0 Q:=by
 intro ρ w tm ds hr hse b hb k cs
 let w1:World:={ w with drawn:=w.drawn + 1 }
 let ρ1:yN:={ next:=hf.next,m:=fun bb=>if bb < h0.next then ρ.m bb else none }
 have hm1:∀ bb pl,bb < ρ.next->ρ.m bb=some pl->ρ1.m bb=some pl:=fun bb pl hb hm=>by
  rw [show ρ1.m bb=ρ.m bb from if_pos (by rw [<- hr.next];exact hb)];exact hm
 have hnil:tr.filter (fun r=>(Array.replicate ops.size false).getD r.j false) = []:=by
  rw [aco]
  intro r _ h
  simp only [aay,abR] at h
  split at h <;> simp at h
 have I:Jj P tr s0 h0 hf.next ρ w (fun j=>(Array.replicate ops.size false).getD j false) ρ1 w1 tm:=by
  refine ⟨rfl,fun bb hb=>if_pos hb,hse.size,?_,?_,?_,?_,rfl,rfl,rfl,aah _,fun _ _ _=>rfl,?_,hr.eV,fun bb pl hb hm=>hr.Zg bb pl hb (by
   rw [show ρ1.m bb=ρ.m bb from if_pos (aai hb (aaH hr.eV hr.ro))] at hm;exact hm)⟩
  ·intro t
   rw [hnil]
   exact (hse.get t).ext (ρ':=ρ1.cut h0.next) (by rw [hr.next];exact aah _) hm1
  ·intro bb o hg
   rw [hnil] at hg ⊢
   have hb:=hr.Qs bb _ hg
   obtain ⟨pl,hp,hc⟩:=hr.ok bb o hg
   refine ⟨hb,pl,hm1 bb pl (by rw [hr.next];exact hb) hp,?_⟩
   exact wI.other (wI.ext (ρ:=ρ) (ρ':=ρ1.cut h0.next) (by rw [hr.next];exact aah _) hm1 hc) rfl
  ·intro b1 b2 o1 o2 p1 p2 g1 g2 m1 m2 e
   rw [hnil] at g1 g2
   have l1:=hr.Qs b1 o1 g1
   have l2:=hr.Qs b2 o2 g2
   rw [show ρ1.m b1=ρ.m b1 from if_pos l1] at m1
   rw [show ρ1.m b2=ρ.m b2 from if_pos l2] at m2
   exact hr.inj b1 b2 o1 o2 p1 p2 g1 g2 m1 m2 e
  ·intro x hx _ bb h1 h2
   obtain ⟨A,B,e⟩:=aaM hx
   have:=(V.told A x B e).n0
   exact if_neg (by omega)
  ·intro bb o pl hg hro' hm hc
   rw [hnil] at hg
   have l:=hr.Qs bb o hg
   rw [show ρ1.m bb=ρ.m bb from if_pos l] at hm
   exact ⟨bb,o,pl,hg,hro',hm,rfl⟩
 have hcount:((List.range ops.size).filter fun i => !(Array.replicate ops.size false).getD i false).length<=ops.size:=by
  have:=List.length_filter_le (fun i => !(Array.replicate ops.size false).getD i false) (List.range ops.size)
  simpa using this
 obtain ⟨S,ρ2,w2,tm2,hS,I2,sx⟩:=No hr.ro V hN ds b k cs ops.size (w.tape w.drawn (.order b.fn id)) (Array.replicate ops.size false) ρ1 w1 tm (by simp) hcount (fun i j _ hj=>by
  simp only [aay,abR] at hj
  split at hj <;> simp at hj) I
 have hfull:tr.filter (fun r=>S r.j)=tr:=List.filter_eq_self.2 hS
 have lastn:∀ (p:yx->Bool) x,xL tr p=some x->x.g'.next<=hf.next:=fun p x hx=>hN x (YF hx).1
 have hcut:ρ2=ρ2.cut hf.next:=by have:=I2.next;cases ρ2;simp only at this;subst this;rfl
 have hrel:Rel P ρ2 hf w2:=by
  refine ⟨I2.next,by rw [hro];exact aaH hr.ro hn,?_,?_,?_,by rw [hro];exact hr.eV,I2.gl⟩
  ·intro bb o hg
   rw [hh] at hg
   have:=(I2.heap bb o (by rw [hfull];exact hg)).1
   rw [hfull] at this
   refine aai this ?_
   simp only [eW]
   split
   ·rename_i x hx;exact lastn _ x hx
   ·exact hn
  ·intro bb o hg
   rw [hh] at hg
   obtain ⟨_,pl,hp,hc⟩:=I2.heap bb o (by rw [hfull];exact hg)
   refine ⟨pl,hp,?_⟩
   rw [hro]
   rw [hfull] at hc
   rw [hcut]
   refine wI.Kg ?_ hc
   simp only [eW]
   split
   ·rename_i x hx;exact lastn _ x hx
   ·exact hn
  ·intro b1 b2 o1 o2 p1 p2 g1 g2
   rw [hh] at g1 g2
   exact I2.inj b1 b2 o1 o2 p1 p2 (by rw [hfull];exact g1) (by rw [hfull];exact g2)
 refine ⟨.normal,sf,hf,ρ2,w2,tm2,ds,hq,⟨⟨by rw [I2.next,hr.next];exact hn,fun bb hb=>I2.old bb (by rw [<- hr.next];exact hb)⟩,hrel,hro,I2.os,I2.tape,I2.output,I2.JB,I2.frame,?_⟩,⟨hsz.trans I2.size,fun t => ?_⟩,.refl _ _ _,?_⟩
 ·rintro c hc ⟨bb,o,pl,hg,hrb,hm,rfl⟩
  rw [hh] at hg
  exact I2.im bb o pl (by rw [hfull];exact hg) (by rw [<- hro];exact hrb) hm hc
 ·have:=I2.env t
  rw [hfull] at this
  rw [hs t]
  rw [hcut]
  refine zK.Kg ?_ this
  simp only [cL]
  split
  ·rename_i x hx;exact lastn _ x hx
  ·exact hn
 ·refine .head Vg ?_
  have:Region.schedule (P.follows .mixedOrders) ops (w.tape w.drawn (.order b.fn id))=Region.linearise .any ops (w.tape w.drawn (.order b.fn id)):=by
   simp only [Region.schedule,hmix,Bool.true_or,if_true]
  rw [this]
  exact sx.trans (.one YC)
end
end
noncomputable section
variable {P:Program}
def jv:List Tmp->List Value->Env->Option Env
 | [],[],s=>some s
 | t :: ts,v :: vs,s=>(match s.put (some t) v with
   | some s1=>jv ts vs s1
   | none=>none)
 | _,_,_=>none
theorem Kz {ρ:yN}:∀ {ts:List Tmp} {vs vs':List Value} {s s':Env} {tm:Array Value},jv ts vs s=some s'->wt ρ s tm->xf ρ vs vs' ->
  ts.length=vs'.length/\wt ρ s' ((ts.zip vs').foldl (fun tm x=>tm.setIfInBounds x.1 x.2) tm)
 | [],[],vs',s,s',tm,he,hs,hv=>by
   cases hv.vp
   simp only [jv,aaa] at he
   subst he
   exact ⟨rfl,hs⟩
 | t :: ts,v :: vs,vs',s,s',tm,he,hs,hv=>by
   obtain ⟨y,ys,rfl,h1,h2⟩:=hv.cons_inv
   simp only [jv] at he
   split at he
   ·rename_i s1 hp
    have:=Kz he (hs.put h1 hp) h2
    exact ⟨by simp [this.1],by simpa [vU] using this.2⟩
   ·cases he
 | [],_ :: _,_,_,_,_,he,_,_=>by simp [jv] at he
 | _ :: _,[],_,_,_,_,he,_,_=>by simp [jv] at he
def VD (l:kN) (tm:Array Value) (d:Nat) (fn:FuncId):Loop:={ state:=l.state,pending:=l.pending,fn:=fn,tmps:=tm,params:=l.params,assign:=l.assign,body:=l.body,defers:=d }
theorem Rel.loop {ρ:yN} {h:za} {w:World} (hr:Rel P ρ h w) {b:Nat} {A:kN} {pl:Place} (hg:h.get b=some (.loop A)) (hm:ρ.m b=some pl) :
  ∃ tm d fn,w.heap[pl.c]? = some (.loop (VD A tm d fn))/\wt ρ A.s tm:=hr.Mg hg hm
theorem BZ (w:World) (l k:Nat) (o:Obj) (hk:k ≠ l):(w.heap.setIfInBounds l o)[k]? = w.heap[k]?:=by rw [abc,if_neg (Ne.symm hk)]
theorem BY (w:World) (l:Nat) (o:Obj) (hl:l < w.heap.size):(w.heap.setIfInBounds l o)[l]? = some o:=by rw [abc,if_pos rfl,if_pos hl]
theorem Step.PX {ρ:yN} {h:za} {w:World} (hr:Rel P ρ h w) {b:Nat} {A A':kN} {pl:Place} (hg:h.get b=some (.loop A)) (hm:ρ.m b=some pl) (hro:h.ro<=b) {tm:Array Value} {d fn:Nat}
  (ho:w.heap[pl.c]? = some (.loop (VD A tm d fn))) (hs:wt ρ A'.s tm) :
  Step P ρ h w ρ (h.set b (some (.loop A'))) { w with heap:=w.heap.setIfInBounds pl.c (.loop (VD A' tm d fn)) } :=
 Step.Mo hr hg hm hro (ob' := .loop A') ⟨tm,d,fn,BY w pl.c _ (YG ho),hs⟩ rfl rfl rfl (by simp) (fun k hk=>BZ w pl.c k _ hk)
theorem Xd {w:World} {l:Nat} {r:Loop} (h:w.heap[l]? = some (.loop r)):(Instr.getLoop l).run P w = .ok r w:=by
 simp only [Instr.getLoop,getObj,aag]
 simp only [Sem.run,h,aad]
 rfl
theorem KA {w:World} {l:Nat} {r:Loop} (h:w.heap[l]? = some (.loop r)) (o:Obj):(setObj l o).run P w = .ok () { w with heap:=w.heap.setIfInBounds l o }:=by
 simp only [setObj,Sem.run,h]
theorem HC {w:World} {l:Nat} {r:Loop} {args:Array Value} (h:w.heap[l]? = some (.loop r)) (hn:args.size=r.params.size) :
  (Instr.yield l args).run P w = .ok (.round l r.fn ((r.params.toList.zip args.toList).foldl (fun tm x=>tm.setIfInBounds x.1 x.2) r.tmps) r.assign r.body) w:=by
 simp only [Instr.yield,aag,Xd h,aad]
 rw [if_neg (by simp [hn])]
 simp only [aan]
 rw [<- Array.foldl_toList,Array.toList_zip]
theorem nh {w:World} {l:Nat} {r:Loop} (h:w.heap[l]? = some (.loop r)) (hr:r.state = .ready) :
  (Instr.beginRound l).run P w = .ok () { w with heap:=w.heap.setIfInBounds l (.loop { r with state := .busy }) }:=by
 simp only [Instr.beginRound,aag,Xd h,aad,KA h,hr,aan]
theorem Qj {w:World} {l:Nat} {r:Loop} (h:w.heap[l]? = some (.loop r)) (jump:Option Code) :
  (Instr.endRound l jump).run P w = .ok (.bool jump.isNone) { w with heap:=w.heap.setIfInBounds l (.loop { r with state:=if jump.isNone then .ready else .done,pending:=jump }) }:=by
 simp only [Instr.endRound,aag,Xd h,aad,KA h,aan]
theorem Cs {w:World} {l:Nat} {r:Loop} (h:w.heap[l]? = some (.loop r)) (hb:(r.state == .busy)=false) :
  (Instr.endLoop l).run P w = .ok r.pending { w with heap:=w.heap.setIfInBounds l (.loop { r with state := .exhausted }) }:=by
 simp only [Instr.endLoop,aag,Xd h,aad,hb,aa8,if_false,KA h,aan]
section moves
variable {b:Frame} {tm:Array Value} {ds:List Deferred} {k:List Item} {cs:List Frame} {w w':World}
theorem eT {l:Nat} (hb:b.roundOf=some l) (hrun:(Instr.beginRound l).run P w = .ok () w'):step P (lone (wi b tm ds (.beginRound :: k)) cs w) = .next (lone (wi b tm ds k) cs w') :=
 step_lone_go (by
  simp only [stepG,wi,stepG.exec,hb,stepG.apply]
  simp [hrun,Frame.finish])
def YE:Ex->Option Code
 | .normal=>none
 | .ret=>some .ret
 | .exit id=>some (.exit id)
theorem Kj {l:Nat} {fr:Frame} (hb:b.roundOf=some l) (hk:b.kind = .normal) {e:Ex} (todo:List Item)
  (htodo:match e with | .normal=>todo = [] | .ret => ∃ t,todo = .code .ret :: t | .exit id => ∃ t,todo = .code (.exit id) :: t/\exitTo id t=none) {v:Value}
  (hrun:(Instr.endRound l (YE e)).run P w = .ok v w') :
  step P (lone (wi b tm ds todo) (fr :: cs) w) = .next (lone (fr.finish v) cs w') :=
 step_lone_go (by
  cases e with
  | normal=>subst htodo;simp only [YE] at hrun;simp [stepG,wi,stepG.exec,hb,hrun,doReturn,hk]
  | ret=>obtain ⟨t,rfl⟩:=htodo;simp only [YE] at hrun;simp [stepG,wi,stepG.exec,hb,hrun,doReturn,hk]
  | exit id=>obtain ⟨t,rfl,ht⟩:=htodo;simp only [YE] at hrun;simp [stepG,wi,stepG.exec,hb,ht,hrun,doReturn,hk])
theorem mE {ops:Array Oper} {i:Nat} {rest:List Nat} {o:Oper} (ho:ops[i]? = some o) (hw:Region.wanted o (yielded ops tm)=true) (hd:YO o.op=false) {l:Nat} {f:FuncId} {tm':Array Value} {as bd:Code} {w':World}
  (hr:(execOp (Act.eval ⟨tm,ds⟩) o).run P w = .ok (.round l f tm' as bd) w') :
  step P (lone (wi b tm ds (.inRegion ops (i :: rest) :: k)) cs w) = .next (lone (Frame.round l f tm' as bd .normal) (wi b tm ds (.inRegion ops (i :: rest) :: k) :: cs) w') :=
 step_lone_go (by rw [Ji ho hw hd];simp [stepG.apply,hr,wi])
theorem aB {l:Nat} {jump:Option Code} (hrun:(Instr.endLoop l).run P w = .ok jump w') :
  step P (lone (wi b tm ds (.endRangeFunc l :: k)) cs w) = .next (lone (wi b tm ds ((jump.map Item.code).toList ++ k)) cs w') :=
 step_lone_go (by simp [stepG,wi,stepG.exec,hrun])
theorem ik {f:Operand} {params:Array Tmp} {as bd:Code} {l:Nat} {mark:List Deferred} {w1 w2:World} {g:FuncId} {args:Array Value}
  (hrun:(Instr.enterLoop b.fn tm params as bd b.roundOf).run P w = .ok (l,mark) w1)
  (hcall:(do let d <- resolve (Act.eval ⟨tm,ds⟩) { callee := .value f,args := #[.const (.func (.yield l) #[] #[])],argTypes := #[] } 0;invoke d.target d.args:Sem Next).run P w1 = .ok (.enter g args) w2) :
  step P (lone (wi b tm ds (.code (.rangeFunc f params as bd) :: k)) cs w) = .next (lone (Frame.enter P g args .normal) (wi b tm (mark ++ ds) (.inRangeFunc l :: k) :: cs) w2) :=
 step_lone_go (by
  have he:=mz b tm (mark ++ ds) (.inRangeFunc l :: k)
  have he':(Act.eval ⟨tm,mark ++ ds⟩)=(Act.eval ⟨tm,ds⟩):=by funext x;cases x <;> rfl
  rw [he'] at he
  simp only [wi] at he
  simp only [stepG,wi,stepG.exec]
  simp only [Sem.runT_eq,hrun,GStep.bare_after]
  simp only [stepG.apply,he,Sem.runT_eq,hcall]
  simp [GStep.bare,GStep.after])
end moves
def TY (P:Program) (L:Nat) (args:List Value) (h:za) (R:Value->za->Prop):Prop :=
 ∀ (ρ:yN) (w:World) (cargs:List Value) (pl:Place),Rel P ρ h w->xf ρ args cargs->L < ρ.next->ρ.m L=some pl ->
   ∃ f tm as bd,(Instr.yield pl.c cargs.toArray).run P w = .ok (.round pl.c f tm as bd) w /\
     ∀ (fr:Frame) (cs:List Frame),∃ v v' h' ρ' w',R v h'/\Step P ρ h w ρ' h' w'/\zK ρ' v v'/\Steps P (lone (Frame.round pl.c f tm as bd .normal) (fr :: cs) w) (lone (fr.finish v') cs w')
def kN.left (A:kN) (e:Ex):kN:={ A with state:=if (YE e).isNone then .ready else .done,pending:=YE e }
theorem Es {L:Nat} {A:kN} {args:List Value} {h:za} {s0:Env} {R:Value->za->Prop} (hg:h.get L=some (.loop A)) (he:jv A.params.toList args A.s=some s0)
  (ht:T P (some L) A.assign s0 h (fun e s1 h1=>e = .normal /\ ∃ A1,h1.get L=some (.loop A1)/\A1.state = .ready/\h1.ro<=L /\
   T P (some L) A.body s1 (h1.set L (some (.loop { A1 with state := .busy }))) (fun e s2 h2 => ∃ A2,h2.get L=some (.loop A2)/\h2.ro<=L /\
     R (.bool (YE e).isNone) (h2.set L (some (.loop (A2.left e))))))):TY P L args h R:=by
 intro ρ w cargs pl hr hv hL hm
 obtain ⟨tm,d,fn,ho,hs⟩:=hr.loop hg hm
 obtain ⟨hlen,hs0⟩:=Kz he hs hv
 refine ⟨fn,_,A.assign,A.body,HC ho (by simpa [VD] using hlen.symm),fun fr cs => ?_⟩
 let b:Frame:={ (default:Frame) with fn:=fn,kind := .normal,roundOf:=some pl.c }
 have hrd:Rd ρ (some L) b:=⟨hL,pl,hm,rfl⟩
 obtain ⟨e,s1,h1,ρ1,w1,tm1,ds1,⟨rfl,A1,g1,a1,ro1,q⟩,st1,hs1,_,ha⟩:=ht ρ w _ [] hr hs0 b hrd [.beginRound,.code A.body] (fr :: cs)
 have hm1:ρ1.m L=some pl:=(st1.le.2 L hL).trans hm
 obtain ⟨tmA,dA,fnA,hoA,hsA⟩:=st1.rel.loop g1 hm1
 have sb:=Step.PX st1.rel g1 hm1 ro1 (A':={ A1 with state := .busy }) hoA hsA
 obtain ⟨e,s2,h2,ρ2,w2,tm2,ds2,⟨A2,g2,ro2,hR⟩,st2,hs2,_,ha2⟩:=q ρ1 _ tm1 ds1 sb.rel hs1 b (hrd.mono st1.le) [] (fr :: cs)
 have hm2:ρ2.m L=some pl:=(st2.le.2 L (aai hL st1.le.1)).trans hm1
 obtain ⟨tmB,dB,fnB,hoB,hsB⟩:=st2.rel.loop g2 hm2
 have se:=Step.PX st2.rel g2 hm2 ro2 (A':=A2.left e) hoB hsB
 refine ⟨_,.bool (YE e).isNone,_,ρ2,_,hR,((st1.trans sb).trans st2).trans se,.bool _,?_⟩
 refine abW ha (.head (eT rfl (nh hoA a1)) ?_)
 cases e with
 | normal=>exact abW ha2 (.one (Kj (e := .normal) rfl rfl [] rfl (Qj hoB _)))
 | ret=>obtain ⟨t,sx⟩:=ha2;exact sx.trans (.one (Kj (e := .ret) rfl rfl _ ⟨t,rfl⟩ (Qj hoB _)))
 | exit id=>obtain ⟨t,et,sx⟩:=ha2;exact sx.trans (.one (Kj (e := .exit id) rfl rfl _ ⟨t,rfl,et.trans rfl⟩ (Qj hoB _)))
theorem Ae {s:Env} {h:za} {Q:Env->za->Prop} {ops:Array Oper} {i:Nat} {rest:List Nat} {o:Oper} {f:Operand} {cargs:Array Operand} {ts:Array TypeId} {L:Nat} {vs:List Value} {R:Value->za->Prop}
  (ho:ops[i]? = some o) (hw:yh ops s o=true) (yF:o.op = .call { callee := .value f,args:=cargs,argTypes:=ts }) (hf:qP s f=some (.func (.yield L) #[] #[])) (hargs:V5 s cargs.toList=some vs)
  (hc:TY P L vs h R) (ht:∀ v h1,R v h1->∃ s1,s.put o.dst v=some s1/\TO P ops rest s1 h1 Q):TO P ops (i :: rest) s h Q:=by
 intro ρ w tm ds hr hs b k cs
 have hw':Region.wanted o (yielded ops tm)=true:=(Yy hs ops o).trans hw
 have e1:=zS (a:=⟨tm,ds⟩) hs hf
 have e2:=kf (a:=⟨tm,ds⟩) hs hargs
 generalize hfv:Act.eval ⟨tm,ds⟩ f=fv at e1
 cases e1 with
 | yield hb hm=>
   rename_i pl
   obtain ⟨fn,tmr,as,bd,hy,hgo⟩:=hc ρ w _ pl hr e2 hb hm
   have hrun:(execOp (Act.eval ⟨tm,ds⟩) o).run P w = .ok (.round pl.c fn tmr as bd) w:=by
    have hargs':(#[]:Array Value) ++ cargs.map (Act.eval ⟨tm,ds⟩)=(cargs.toList.map (Act.eval ⟨tm,ds⟩)).toArray:=by apply ab2;simp
    simp only [execOp,yF,resolve,hfv,Deferred.ofValue,aag,aan,aad,invoke,hargs',hy]
   obtain ⟨v,v',h',ρ',w1,hR,st,hv,hgo⟩:=hgo (wi b tm ds (.inRegion ops (i :: rest) :: k)) cs
   obtain ⟨s1,hp,hrest⟩:=ht v h' hR
   have hs1:wt ρ' s1 (vU tm o.dst v'):=(hs.mono st.le).put hv hp
   obtain ⟨s2,h2,ρ2,w2,tm2,q,st2,hs2,sx⟩:=hrest ρ' w1 _ ds st.rel hs1 b k cs
   have hd:YO o.op=false:=by rw [yF];rfl
   refine ⟨s2,h2,ρ2,w2,tm2,q,st.trans st2,hs2,.head (mE ho hw' hd hrun) (abW hgo ?_)⟩
   rw [kg,ho]
   exact sx
theorem Step.more {ρ:yN} {h:za} {w w':World} (hr:Rel P ρ h w) {o:Obj} (hw:w' = { w with heap:=w.heap.push o }):Step P ρ h w ρ h w':=by
 subst hw
 have hold:∀ k,k < w.heap.size->(w.heap.push o)[k]? = w.heap[k]?:=fun k hk=>by rw [Array.getElem?_push,if_neg (by omega)]
 exact ⟨yN.le_refl _,hr.grow hold,rfl,rfl,rfl,rfl,by simp,fun k hk _=>hold k hk,fun _ _ h=>h⟩
theorem run_newObj (w:World) (o:Obj):(newObj o).run P w = .ok w.heap.size { w with heap:=w.heap.push o }:=rfl
theorem fG {rd:Option Nat} {f:Operand} {params:Array Tmp} {as bd:Code} {s:Env} {h:za} {g:FuncId} {fa fc:Array Value} {Q:Ex->Env->za->Prop}
  (hf:qP s f=some (.func (.func g) fa fc)) (hcall:x9 P g=true) (hrd:∀ L,rd=some L->∃ A,h.get L=some (.loop A))
  (hc:TC P g (fa.toList ++ [.func (.yield h.next) #[] #[]] ++ fc.toList) (h.push (.loop { state := .ready,pending:=none,s:=s,params:=params,assign:=as,body:=bd }))
   (fun _ h1 => ∃ A,h1.get h.next=some (.loop A)/\(A.state == .busy)=false/\h1.ro<=h.next /\ ∃ e,YE e=A.pending/\Q e s (h1.set h.next none))):T P rd (.rangeFunc f params as bd) s h Q:=by
 intro ρ w tm ds hr hs b hb k cs
 let A0:kN:={ state := .ready,pending:=none,s:=s,params:=params,assign:=as,body:=bd }
 obtain ⟨mark,d,w1,hrun,st1,hd1⟩:∃ mark d w1,(Instr.enterLoop b.fn tm params as bd b.roundOf).run P w = .ok (w1.heap.size,mark) { w1 with heap:=w1.heap.push (.loop (VD A0 tm d b.fn)) } /\ Step P ρ h w ρ h w1/\Qx w ds w1 (mark ++ ds):=by
  cases rd with
  | none=>
    have hb:b.roundOf=none:=hb
    refine ⟨[B6 w.heap.size],w.heap.size,{ w with heap:=w.heap.push (.deferred (some [])) },?_,Step.more hr rfl,[w.heap.size],rfl,by simp,fun r hr' => ?_⟩
    ·simp only [Instr.enterLoop,hb,aag,run_newObj,aad,aan]
     rfl
    ·simp only [aaS] at hr'
     subst hr'
     exact ⟨aah _,by simp⟩
  | some L0=>
    obtain ⟨hL,pl,hm,hb⟩:=hb
    obtain ⟨A,gA⟩:=hrd L0 rfl
    obtain ⟨tmA,dA,fnA,hoA,_⟩:=hr.loop gA hm
    refine ⟨[],dA,w,?_,.refl hr,.refl _ _ _⟩
    simp only [Instr.enterLoop,hb,aag,Xd hoA,run_newObj,aad,aan]
    rfl
 let pl:Place:=⟨w1.heap.size,0,0,0⟩
 have stp:Step P ρ h w1 (ρ.ext pl) (h.push (.loop A0)) { w1 with heap:=w1.heap.push (.loop (VD A0 tm d b.fn)) } :=
  Step.Jd st1.rel (ob := .loop A0) (pl:=pl) rfl rfl ⟨tm,d,b.fn,by simp [pl,VD],hs.mono (ρ.eY pl)⟩ rfl rfl rfl
 have hnew:(ρ.ext pl).m h.next=some pl:=by rw [<- hr.next];exact ρ.qo pl
 have hlt:h.next < (ρ.ext pl).next:=by show h.next < ρ.next + 1;rw [hr.next];omega
 have e1:=zS (a:=⟨tm,ds⟩) (hs.mono (ρ.eY pl)) hf
 generalize hfv:Act.eval ⟨tm,ds⟩ f=fv at e1
 cases e1 with
 | func ha hcs k1 k2=>
   rename_i fa' fc'
   let yl:Value := .func (.yield w1.heap.size) #[] #[]
   let full:=fa'.toList ++ [yl] ++ fc'.toList
   have hyl:zK (ρ.ext pl) (.func (.yield h.next) #[] #[]) yl := .yield (pl:=pl) hlt hnew
   have hfull:xf (ρ.ext pl) (fa.toList ++ [.func (.yield h.next) #[] #[]] ++ fc.toList) full :=
    (xf.append ⟨by simpa using ha,fun i x y hx hy=>k1 i x y (by simpa using hx) (by simpa using hy)⟩ (.cons hyl (.nil _))).append ⟨by simpa using hcs,fun i x y hx hy=>k2 i x y (by simpa using hx) (by simpa using hy)⟩
   have hrun2:(do let d <- resolve (Act.eval ⟨tm,ds⟩) { callee := .value f,args := #[.const yl],argTypes := #[] } 0;invoke d.target d.args:Sem Next).run P { w1 with heap:=w1.heap.push (.loop (VD A0 tm d b.fn)) } = .ok (.enter g full.toArray) { w1 with heap:=w1.heap.push (.loop (VD A0 tm d b.fn)) }:=by
    have hargs':fa' ++ (#[.const yl]:Array Operand).map (Act.eval ⟨tm,ds⟩) ++ fc'=full.toArray:=by apply ab2;simp [full];rfl
    simp only [resolve,hfv,Deferred.ofValue,aag,aan,aad,invoke,callFunc,run_program,hargs']
    unfold x9 at hcall
    cases hfn:P.funcs[g]? with
    | none=>rw [hfn] at hcall;cases hcall
    | some fn=>
      rw [hfn] at hcall
      simp only [aac,aat] at hcall
      simp only [hcall.2,aa8,if_false]
      rw [if_neg (by cases hb:fn.body <;> simp_all)]
      rfl
   obtain ⟨e,w3,fr,⟨v,v',h',ρ',rfl,⟨A,gA,nb,roA,ex,hj,q⟩,st,hv⟩,hcomes,_,hleave⟩:=hc (ρ.ext pl) _ full stp.rel hfull (wi b tm (mark ++ ds) (.inRangeFunc w1.heap.size :: k) :: cs)
   have hm':ρ'.m h.next=some pl:=(st.le.2 _ hlt).trans hnew
   obtain ⟨tmA,dA,fnA,hoA,hsA⟩:=st.rel.loop gA hm'
   have stt:=Step.PX st.rel gA hm' roA (A':={ A with state := .exhausted }) hoA hsA
   have std:=Step.D4 stt.rel h.next
   have sta:=(((stp.trans st).trans stt).trans std).same (h'':=h'.set h.next none) ⟨rfl,rfl,fun x=>by rw [za.set_set]⟩
   refine ⟨ex,s,h'.set h.next none,ρ',_,tm,mark ++ ds,q,st1.trans sta,hs.mono (st1.trans sta).le,hd1.trans (.refl _ _ _) st1.size st1.rel sta,?_⟩
   have harr:Steps P (lone (wi b tm ds (.code (.rangeFunc f params as bd) :: k)) cs w) (lone (wi b tm (mark ++ ds) ((A.pending.map Item.code).toList ++ k)) cs { w3 with heap:=w3.heap.setIfInBounds pl.c (.loop (VD { A with state := .exhausted } tmA dA fnA)) }) :=
    .head (ik hrun hrun2) (abW hcomes (.head (step_leave_returned hleave) (.one (aB (Cs hoA nb)))))
   have hp:(A.pending.map Item.code).toList=((YE ex).map Item.code).toList:=by rw [hj]
   rw [hp] at harr
   cases ex with
   | normal=>exact harr
   | ret=>exact ⟨k,harr⟩
   | exit id=>exact ⟨k,rfl,harr⟩
end
noncomputable section
inductive Task where
 | code (rd:Option Nat) (c:Code) (s:Env)
 | call (f:FuncId) (args:List Value)
inductive Out where
 | ex (e:Ex) (s:Env)
 | val (v:Value)
abbrev Z0:=Task->za->Option (Out × za)
def wY (h h2:za):za := @za.rec (fun _=>za) (fun t n r => @za.rec (fun _=>za) (fun t2 n2 _=>⟨(List.range' n (n2 - n)).foldl (fun t b=>t.set b (t2.get b)) t,n2,r⟩) h2) h
def By (cls:List Nat) (rec:Z0) (g:FuncId) (args:List Value) (h:za):Option (Value × za) :=
 match cls.getD g 0 with
 | 1=>(match rec (.call g args) h with
   | some (.val v,h')=>some (v,h')
   | _=>none)
 | 2=>(match rec (.call g args) h.lock with
   | some (.val v,_)=>cond (fy v) (some (v,h)) none
   | _=>none)
 | 3=>(match rec (.call g args) h.lock with
   | some (.val v,h2)=>some (v,wY h h2)
   | _=>none)
 | _=>none
def Pl:Ex->Bool
 | .normal=>true
 | _=>false
def isReady:LoopState->Bool
 | .ready=>true
 | _=>false
def NI:LoopState->Bool
 | .busy=>false
 | _=>true
def nf (rec:Z0) (L:Nat) (args:List Value) (h:za):Option (Value × za) :=
 match h.get L with
 | some (.loop A)=>(match jv A.params.toList args A.s with
   | some s0=>(match rec (.code (some L) A.assign s0) h with
     | some (.ex .normal s1,h1)=>(match h1.get L with
       | some (.loop A1)=>cond (isReady A1.state && Nat.ble h1.ro L)
         (match rec (.code (some L) A.body s1) (h1.set L (some (.loop { A1 with state := .busy }))) with
          | some (.ex e _,h2)=>(match h2.get L with
            | some (.loop A2)=>cond (Nat.ble h2.ro L) (some (.bool (Pl e),h2.set L (some (.loop (A2.left e))))) none
            | _=>none)
          | _=>none) none
       | _=>none)
     | _=>none)
   | none=>none)
 | _=>none
def Pf:Option Code->Option Ex
 | none=>some .normal
 | some .ret=>some .ret
 | some (.exit id)=>some (.exit id)
 | _=>none
def m9 (cls:List Nat) (rec:Z0) (rd:Option Nat) (f:Option Value) (params:Array Tmp) (as bd:Code) (s:Env) (h:za):Option (Ex × za) :=
 match f with
 | some (.func (.func g) fa fc)=>cond (Nat.beq (cls.getD g 0) 1 && (match rd with
   | none=>true
   | some L0=>(match h.get L0 with
     | some (.loop _)=>true
     | _=>false)))
   (match rec (.call g (fa.toList ++ [.func (.yield h.next) #[] #[]] ++ fc.toList)) (h.push (.loop { state := .ready,pending:=none,s:=s,params:=params,assign:=as,body:=bd })) with
    | some (.val _,h1)=>(match h1.get h.next with
      | some (.loop A)=>cond (NI A.state && Nat.ble h1.ro h.next)
        (match Pf A.pending with
         | some e=>some (e,h1.set h.next none)
         | none=>none) none
      | _=>none)
    | _=>none) none
 | _=>none
def evalOp (P:Program) (cls:List Nat) (rec:Z0) (s:Env) (o:Oper) (h:za):Option (Value × za) :=
 match o.op with
 | .call { callee := .value f,args,argTypes }=>(match qP s f,V5 s args.toList with
   | some (.func (.func g) fa fc),some vs=>cond (Nat.beq (cls.getD g 0) 0) (sR P g (fa.toList ++ vs ++ fc.toList) h) (By cls rec g (fa.toList ++ vs ++ fc.toList) h)
   | some (.func (.yield L) fa fc),some vs=>cond (Nat.beq fa.size 0 && Nat.beq fc.size 0) (nf rec L vs h) none
   | _,_=>none)
 | _=>Jt P s o h
def Qh (P:Program) (cls:List Nat) (rec:Z0) (ops:Array Oper):List Oper->Env->za->Option (Env × za)
 | [],s,h=>some (s,h)
 | o :: os,s,h=>
   cond (yh ops s o)
    (match evalOp P cls rec s o h with
     | some (v,h1)=>(match s.put o.dst v with
       | some s1=>Qh P cls rec ops os s1 h1
       | none=>none)
     | none=>none)
    (match s.put o.dst undef with
     | some s1=>Qh P cls rec ops os s1 h
     | none=>none)
structure hZ where
 r:yx
 CB:List Nat
 all:Bool
 Jz:Bool
 Rj:List Nat
 ex:Bool
def yH (ms:List Nat) (o:Oper):Nat:=o.after.toList.foldl (fun m e=>cond (Region.binds .any e) (m ||| (1 <<< e.on) ||| ms.getD e.on 0) m) 0
def jI (ops:Array Oper) (x y:Oper):Bool :=
 (match x.dst with
  | none=>true
  | some d => !(y.looksAt ops).contains d && !(decide (y.dst=some d))) &&
 (match y.dst with
  | none=>true
  | some d => !(x.looksAt ops).contains d)
def mJ (x y:hZ):Bool :=
 cond x.all (y.Jz || (y.ex && !y.all && y.Rj.all (fun b => !x.r.tc b) && y.CB.all (fun b => !x.r.tc b))) (x.CB.all fun b => !y.r.rd b && !y.r.tc b) &&
 cond y.all (x.Jz || (x.ex && x.Rj.all fun b => !y.r.tc b)) (y.CB.all fun b => !x.r.rd b)
def ZU (ops:Array Oper):List Oper->Nat->List Nat->List (Nat × Oper)->Bool
 | [],_,_,_=>true
 | o :: os,i,ms,prev=>
   (o.after.toList.all fun e => !(Region.binds .any e) || Nat.blt e.on i) && (prev.all fun x=>(yH ms o).testBit x.1 || jI ops x.2 o) && ZU ops os (i + 1) (ms ++ [yH ms o]) ((i,o) :: prev)
def Oj:Value->List Nat
 | .pointer (some a)=>[a.block]
 | .slice (some a) _ _=>[a.block]
 | .map (some b)=>[b]
 | _=>[]
def rR:Op->Bool
 | .call { callee := .builtin .cap,.. } | .call { callee := .builtin .min,.. } | .call { callee := .builtin .max,.. } | .call { callee := .builtin .unsafeSliceData,.. }=>false
 | .move _ | .assign _ | .pick _ _ _ | .alloc _ | .box _ _ | .build _ _ | .nilCheck _ | .binOp _ _ _ _ _ | .unOp _ _ _ | .makeInterface _ _ | .makeFunc _ _ _ | .fieldAddr _ _ _ | .field _ _ _ | .indexAddr _ _ _ | .index _ _ _ | .extract _ _=>false
 | _=>true
def Dt (h:za) (b:Nat):List Nat :=
 match h.get b with
 | some (.iter (some m) _ _ _)=>[b,m]
 | _=>[b]
def Mj (s:Env) (o:Oper) (h:za):List Nat:=cond (rR o.op) ((o.op.operands.toList.flatMap fun x=>(match qP s x with | some v=>Oj v | none=>[])).flatMap (Dt h)) []
def za.pick (h:za) (l:List Nat):za := @za.rec (fun _=>za) (fun t0 n r=>⟨l.foldl (fun t b=>t.set b (t0.get b)) .e,n,r⟩) h
def za.VB (h:za) (l:List Nat):za := @za.rec (fun _=>za) (fun t0 n r=>⟨l.foldl (fun t b=>t.set b none) t0,n,r⟩) h
def za.NG (h g:za) (l:List Nat):za := @za.rec (fun _=>za) (fun t0 _ r => @za.rec (fun _=>za) (fun t1 n _=>⟨l.foldl (fun t b=>t.set b (t1.get b)) t0,n,r⟩) g) h
def za.MS (h' h:za) (l:List Nat):za := @za.rec (fun _=>za) (fun t0 n r=>⟨l.foldl (fun t b=>t.set b (h.get b)) t0,n,r⟩) h'
def cA (s:Env) (dsts:List Nat):List Oper->Nat->Nat->List Nat
 | [],_,_=>[]
 | o :: os,j,desc=>cond (o.after.toList.any fun e=>Region.binds .any e && desc.testBit e.on)
     (cA s dsts os (j + 1) (desc ||| (1 <<< j)))
     ((cond (rR o.op) (o.op.operands.toList.flatMap fun x=>(match x with
       | .tmp t=>cond (dsts.contains t) [] (Oj (s.get t))
       | _=>[])) []) ++ cA s dsts os (j + 1) desc)
def Xo:Builtin->Bool
 | .len | .cap | .min | .max | .unsafeSliceData=>true
 | _=>false
def YQ:Op->Bool
 | .call { callee := .builtin b,.. } => !Xo b
 | .store _ _ _=>true
 | .mapUpdate _ _ _ _=>true
 | .next _ _=>true
 | .call _=>true
 | _=>false
def mj (P:Program) (cls:List Nat) (rec:Z0) (ops:Array Oper) (recs:List hZ) (mask i:Nat) (os:List Oper) (o:Oper) (s:Env) (h:za):Option (hZ × za) :=
 cond (yh ops s o)
  (match o.op with
   | .call { callee := .value f,args,argTypes }=>(match qP s f,V5 s args.toList with
     | some (.func (.func g) fa fc),some vs=>
       (match cls.getD g 0 with
        | 1=>
          let hid:=((recs.flatMap fun x=>cond (mask.testBit x.r.j) [] (x.CB ++ x.Rj)) ++ cA s ((o :: os).filterMap (·.dst)) os (i + 1) (1 <<< i)).filter fun b=>Nat.blt b h.next
          (match rec (.call g (fa.toList ++ vs ++ fc.toList)) (h.VB hid) with
           | some (.val v,h')=>some (⟨⟨i,o,v,s,h.VB hid,h',fun b=>Nat.blt b h.next && !hid.contains b,fun b=>Nat.blt b h'.next && !hid.contains b⟩,[],true,false,[],false⟩,h'.MS h hid)
           | _=>none)
        | 2=>
          let hid:=recs.flatMap fun x=>cond (mask.testBit x.r.j) [] x.CB
          (match rec (.call g (fa.toList ++ vs ++ fc.toList)) (h.VB hid).lock with
           | some (.val v,_)=>cond (fy v) (some (⟨⟨i,o,v,s,h.VB hid,h.VB hid,fun b=>Nat.blt b h.next && !hid.contains b,fun _=>false⟩,[],false,false,[],false⟩,h)) none
           | _=>none)
        | 3=>
          let hid:=recs.flatMap fun x=>cond (mask.testBit x.r.j) [] x.CB
          (match rec (.call g (fa.toList ++ vs ++ fc.toList)) (h.VB hid).lock with
           | some (.val v,h2)=>
             let new:=List.range' h.next (h2.next - h.next)
             some (⟨⟨i,o,v,s,h.VB hid,wY (h.VB hid) h2,fun b=>Nat.blt b h.next && !hid.contains b,fun b=>new.contains b⟩,new,false,false,[],false⟩,wY h h2)
           | _=>none)
        | _=>(match sR P g (fa.toList ++ vs ++ fc.toList) (h.pick []) with
          | some (v,g')=>
            let new:=List.range' h.next (g'.next - h.next)
            some (⟨⟨i,o,v,s,h.pick [],g',fun _=>false,fun b=>new.contains b⟩,new,false,new.isEmpty,[],true⟩,h.NG g' new)
          | none=>none))
     | _,_=>none)
   | _=>
     let bs:=Mj s o h
     (match Jt P s o (h.pick bs) with
      | some (v,g')=>
        let new:=List.range' h.next (g'.next - h.next)
        let CB:=cond (YQ o.op) (bs ++ new) new
        some (⟨⟨i,o,v,s,h.pick bs,g',fun b=>bs.contains b,fun b=>CB.contains b⟩,CB,false,bs.isEmpty && CB.isEmpty,bs,true⟩,h.NG g' CB)
      | none=>none))
  (some (⟨⟨i,o,undef,s,h.pick [],h.pick [],fun _=>false,fun _=>false⟩,[],false,true,[],true⟩,h))
def U5 (P:Program) (cls:List Nat) (rec:Z0) (ops:Array Oper):List Oper->Nat->List Nat->List hZ->Env->za->Option (Env × za)
 | [],_,_,_,s,h=>some (s,h)
 | o :: os,i,ms,recs,s,h=>
   (match mj P cls rec ops recs (yH ms o) i os o s h with
    | some (y,h1)=>cond (y.Jz || recs.all fun x=>mJ x y || (yH ms o).testBit x.r.j)
      (match s.put o.dst y.r.v with
       | some s1=>U5 P cls rec ops os (i + 1) (ms ++ [yH ms o]) (y :: recs) s1 h1
       | none=>none) none
    | none=>none)
def body (P:Program) (cls:List Nat) (rec:Z0):Task->za->Option (Out × za)
 | .call f args,h=>(match P.funcs[f]? with
   | none=>none
   | some fn=>(match fn.body with
     | none=>none
     | some c=>(match rec (.code none c (Env.enter args fn.ntmps)) h with
       | some (.ex .normal s1,h1)=>(match uG P s1 h1 fn.results.toList with
         | some vs=>some (.val (jF vs),h1)
         | none=>none)
       | some (.ex .ret s1,h1)=>(match uG P s1 h1 fn.results.toList with
         | some vs=>some (.val (jF vs),h1)
         | none=>none)
       | _=>none)))
 | .code rd c s,h=>(match c with
   | .skip=>some (.ex .normal s,h)
   | .label _=>some (.ex .normal s,h)
   | .exit id=>some (.ex (.exit id) s,h)
   | .ret=>some (.ex .ret s,h)
   | .seq a b=>(match rec (.code rd a s) h with
     | some (.ex .normal s1,h1)=>rec (.code rd b s1) h1
     | r=>r)
   | .cond x a b=>(match qP s x with
     | some (.bool true)=>rec (.code rd a s) h
     | some (.bool false)=>rec (.code rd b s) h
     | _=>none)
   | .block id a=>(match rec (.code rd a s) h with
     | some (.ex (.exit id') s1,h1)=>cond (Nat.beq id' id) (some (.ex .normal s1,h1)) (some (.ex (.exit id') s1,h1))
     | r=>r)
   | .scope a=>rec (.code rd a s) h
   | .loop a=>(match rec (.code rd a s) h with
     | some (.ex .normal s1,h1)=>rec (.code rd (.loop a) s1) h1
     | r=>r)
   | .region _ ops draw=>cond draw
     (cond (ZU ops ops.toList 0 [] []) (match U5 P cls rec ops ops.toList 0 [] [] s h with
      | some (s1,h1)=>some (.ex .normal s1,h1)
      | none=>none) none)
     (match Qh P cls rec ops ops.toList s h with
      | some (s1,h1)=>some (.ex .normal s1,h1)
      | none=>none)
   | .rangeFunc f params as bd=>(match m9 cls rec rd (qP s f) params as bd s h with
     | some (e,h1)=>some (.ex e s,h1)
     | none=>none)
   | _=>none)
def run (P:Program) (cls:List Nat) (n:Nat):Z0:=Nat.rec (fun _ _=>none) (fun _ rec=>body P cls rec) n
end
noncomputable section
variable {P:Program} {cls:List Nat}
theorem kB {α:Type} (f:Nat->Option α) (j:Nat):∀ (l:List Nat) (t:Tr α),(l.foldl (fun t b=>t.set b (f b)) t).get j=if j ∈ l then f j else t.get j
 | [],t=>by simp
 | b :: l,t=>by
   rw [List.foldl_cons,kB f j l,Tr.yb]
   by_cases h:j ∈ l
   ·simp [h]
   ·by_cases e:j=b
    ·subst e;simp [h]
    ·simp [h,e]
theorem vM (h:za) (l:List Nat) (b:Nat):(h.pick l).get b=if b ∈ l then h.get b else none:=by
 show (l.foldl (fun t b=>t.set b (h.get b)) Tr.e).get b=_
 rw [kB];rfl
theorem jY (h:za) (l:List Nat) (b:Nat):(h.VB l).get b=if b ∈ l then none else h.get b:=by
 show (l.foldl (fun t b=>t.set b none) h.t).get b=_
 rw [kB (fun _=>none)];rfl
theorem Kn (h g:za) (l:List Nat) (b:Nat):(h.NG g l).get b=if b ∈ l then g.get b else h.get b:=by
 show (l.foldl (fun t b=>t.set b (g.get b)) h.t).get b=_
 rw [kB];rfl
theorem aD (h' h:za) (l:List Nat) (b:Nat):(h'.MS h l).get b=if b ∈ l then h.get b else h'.get b:=by
 show (l.foldl (fun t b=>t.set b (h.get b)) h'.t).get b=_
 rw [kB];rfl
theorem kK {a c b:Nat}:b ∈ List.range' a (c - a) ↔ a<=b/\b < c:=by
 rw [List.mem_range'_1];omega
theorem vx (h h2:za) (b:Nat):(wY h h2).get b=if h.next<=b/\b < h2.next then h2.get b else h.get b:=by
 show ((List.range' h.next (h2.next - h.next)).foldl (fun t b=>t.set b (h2.get b)) h.t).get b=_
 rw [kB]
 by_cases hb:h.next<=b/\b < h2.next
 ·rw [if_pos (kK.2 hb),if_pos hb]
 ·rw [if_neg (fun hm=>hb (kK.1 hm)),if_neg hb];rfl
theorem TC.fresh {f:FuncId} {args:List Value} {h h2:za} {v:Value} (ht:TC P f args h.lock (fun v1 h1=>v1=v/\h1=h2)):TC P f args h (fun v1 h1=>v1=v/\h1=wY h h2):=by
 intro ρ w cargs hr hv
 refine (ht ρ w cargs hr.lock hv).mono fun e w' => ?_
 rintro ⟨v1,v',h',ρ',e1,⟨rfl,rfl⟩,st,hvv⟩
 have nomine:∀ c,¬ aV ρ h.lock c:=by
  rintro c ⟨b,o,pl,hg,hro,_⟩
  have h1:h.next<=b:=hro
  have h2:=hr.Qs b o hg
  omega
 have hsame:∀ c,c < w.heap.size->w'.heap[c]? = w.heap[c]?:=fun c hc=>st.frame c hc (nomine c)
 have hn:h.next<=h'.next:=by have:=st.le.1;rw [hr.next,st.rel.next] at this;exact this
 have hold:∀ b,b < h.next->ρ'.m b=ρ.m b:=fun b hb=>st.le.2 b (by rw [hr.next];exact hb)
 have cases':∀ b o,(wY h h').get b=some o->(h.next<=b/\b < h'.next/\h'.get b=some o)\/(b < h.next/\h.get b=some o):=by
  intro b o hg
  rw [vx] at hg
  split at hg
  ·rename_i hb;exact .inl ⟨hb.1,hb.2,hg⟩
  ·exact .inr ⟨hr.Qs b o hg,hg⟩
 refine ⟨v1,v',wY h h',ρ',e1,⟨rfl,rfl⟩,⟨st.le,⟨st.rel.next,aaH hr.ro hn,?_,?_,?_,hr.eV,st.rel.Zg⟩,rfl,st.os,st.tape,st.output,st.size,fun c hc _=>hsame c hc,?_⟩,hvv⟩
 ·intro b o hg
  rcases cases' b o hg with ⟨_,h2,_⟩ | ⟨h1,_⟩
  ·exact h2
  ·exact aai h1 hn
 ·intro b o hg
  rcases cases' b _ hg with ⟨h1,h2,h3⟩ | ⟨h1,h3⟩
  ·obtain ⟨pl,hp,hc⟩:=st.rel.ok b o h3
   refine ⟨pl,hp,hc.HR (fun _ => ?_)⟩
   rw [st.ro];exact decide_eq_true h1
  ·obtain ⟨pl,hp,hc⟩:=hr.ok b o h3
   exact ⟨pl,(hold b h1).trans hp,(hc.mono st.le).other (hsame _ hc.lt)⟩
 ·have key:∀ b1 b2 o1 o2 p1 p2,h.next<=b1->h'.get b1=some o1->b2 < h.next->h.get b2=some o2->ρ'.m b1=some p1->ρ'.m b2=some p2->p1.c=p2.c->False:=by
   intro b1 b2 o1 o2 p1 p2 l1 g1 l2 g2 m1 m2 ec
   obtain ⟨pl,hp,hc⟩:=hr.ok b2 o2 g2
   rw [hold b2 l2,hp] at m2
   cases m2
   have:=st.im p1.c (by rw [ec];exact hc.lt) ⟨b1,o1,p1,g1,by rw [st.ro];exact l1,m1,rfl⟩
   exact nomine _ this
  intro b1 b2 o1 o2 p1 p2 g1 g2 m1 m2 ec
  rcases cases' b1 o1 g1 with ⟨l1,_,k1⟩ | ⟨l1,k1⟩ <;> rcases cases' b2 o2 g2 with ⟨l2,_,k2⟩ | ⟨l2,k2⟩
  ·exact st.rel.inj b1 b2 o1 o2 p1 p2 k1 k2 m1 m2 ec
  ·exact (key b1 b2 o1 o2 p1 p2 l1 k1 l2 k2 m1 m2 ec).elim
  ·exact (key b2 b1 o2 o1 p2 p1 l2 k2 l1 k1 m2 m1 ec.symm).elim
  ·rw [hold b1 l1] at m1;rw [hold b2 l2] at m2
   exact hr.inj b1 b2 o1 o2 p1 p2 k1 k2 m1 m2 ec
 ·rintro c hc ⟨b,o,pl,hg,hro,hm,rfl⟩
  rcases cases' b o hg with ⟨l1,_,k1⟩ | ⟨l1,k1⟩
  ·exact (nomine _ (st.im pl.c hc ⟨b,o,pl,k1,by rw [st.ro];exact l1,hm,rfl⟩)).elim
  ·rw [hold b l1] at hm;exact ⟨b,o,pl,k1,hro,hm,rfl⟩
def j3 (P:Program) (cls:List Nat):Bool:=(List.range cls.length).all fun g=>Nat.beq (cls.getD g 0) 0 || x9 P g
theorem jn {g:FuncId} {k:Nat} (hC:j3 P cls=true) (h:cls.getD g 0=k + 1):x9 P g=true:=by
 simp only [j3,aas,aa7,aaV] at hC
 have hg:g < cls.length:=by
  rcases aar g cls.length with h1 | h1
  ·exact h1
  ·rw [aaB,aaj h1] at h;cases h
 rcases hC g hg with h1 | h1
 ·rw [h] at h1;cases h1
 ·exact h1
structure Sound (P:Program) (rec:Z0):Prop where
 code:∀ rd c s h e s' h',rec (.code rd c s) h=some (.ex e s',h')->T P rd c s h (fun e1 s1 h1=>e1=e/\s1=s'/\h1=h')
 call:∀ f args h v h',rec (.call f args) h=some (.val v,h')->TC P f args h (fun v1 h1=>v1=v/\h1=h')
 kind:∀ rd c s h o h',rec (.code rd c s) h=some (o,h')->∃ e s',o = .ex e s'
 TQ:∀ f args h o h',rec (.call f args) h=some (o,h')->∃ v,o = .val v
theorem Bz {rec:Z0} (S:Sound P rec) (hC:j3 P cls=true) {g:FuncId} {args:List Value} {h h':za} {v:Value} (he:By cls rec g args h=some (v,h')) :
  x9 P g=true/\TC P g args h (fun v1 h1=>v1=v/\h1=h'):=by
 unfold By at he
 split at he
 ·rename_i hk
  refine ⟨jn hC hk,?_⟩
  split at he
  ·rename_i v1 h1 hrec
   simp only [aaa,aae] at he
   obtain ⟨rfl,rfl⟩:=he
   exact S.call _ _ _ _ _ hrec
  ·cases he
 ·rename_i hk
  refine ⟨jn hC hk,?_⟩
  split at he
  ·rename_i v1 h1 hrec
   obtain ⟨hsc,he⟩:=zv he
   simp only [aaa,aae] at he
   obtain ⟨rfl,rfl⟩:=he
   refine ((S.call _ _ _ _ _ hrec).quiet (fun v2 h2 q=>by rw [q.1];exact hsc)).mono ?_
   rintro v2 h2 ⟨⟨h3,q1,q2⟩,rfl⟩
   exact ⟨q1,rfl⟩
  ·cases he
 ·rename_i hk
  refine ⟨jn hC hk,?_⟩
  split at he
  ·rename_i v1 h2 hrec
   simp only [aaa,aae] at he
   obtain ⟨rfl,rfl⟩:=he
   exact (S.call _ _ _ _ _ hrec).fresh
  ·cases he
 ·cases he
theorem tT {rec:Z0} (S:Sound P rec) {L:Nat} {args:List Value} {h h':za} {v:Value} (he:nf rec L args h=some (v,h')):TY P L args h (fun v1 h1=>v1=v/\h1=h'):=by
 unfold nf at he
 split at he
 case h_2=>cases he
 rename_i A hg
 split at he
 case h_2=>cases he
 rename_i s0 hs0
 split at he
 case h_2=>cases he
 rename_i s1 h1 hrec
 split at he
 case h_2=>cases he
 rename_i A1 g1
 obtain ⟨hc,he⟩:=zv he
 simp only [aac] at hc
 split at he
 case h_2=>cases he
 rename_i e s2 h2 hrec2
 split at he
 case h_2=>cases he
 rename_i A2 g2
 obtain ⟨hro,he⟩:=zv he
 simp only [aaa,aae] at he
 obtain ⟨rfl,rfl⟩:=he
 refine Es hg hs0 ((S.code _ _ _ _ _ _ _ hrec).mono ?_)
 rintro e1 s3 h3 ⟨rfl,rfl,rfl⟩
 refine ⟨rfl,A1,g1,?_,aaA hc.2,(S.code _ _ _ _ _ _ _ hrec2).mono ?_⟩
 ·cases hst:A1.state <;> first | rfl | (rw [hst] at hc;cases hc.1)
 ·rintro e1 s3 h3 ⟨rfl,rfl,rfl⟩
  refine ⟨A2,g2,aaA hro,?_,rfl⟩
  cases e1 <;> rfl
theorem B0 {p:Option Code} {e:Ex} (h:Pf p=some e):YE e=p:=by
 unfold Pf at h
 split at h <;> first | (simp only [aaa] at h;subst h;rfl) | cases h
theorem tR {rec:Z0} (S:Sound P rec) (hC:j3 P cls=true) {rd:Option Nat} {f:Operand} {params:Array Tmp} {as bd:Code} {s:Env} {h h':za} {e:Ex} (he:m9 cls rec rd (qP s f) params as bd s h=some (e,h')) :
  T P rd (.rangeFunc f params as bd) s h (fun e1 s1 h1=>e1=e/\s1=s/\h1=h'):=by
 unfold m9 at he
 split at he
 case h_2=>cases he
 rename_i g fa fc hf
 obtain ⟨hc,he⟩:=zv he
 simp only [aac] at hc
 split at he
 case h_2=>cases he
 rename_i v h1 hrec
 split at he
 case h_2=>cases he
 rename_i A hA
 obtain ⟨hb,he⟩:=zv he
 simp only [aac] at hb
 split at he
 case h_2=>cases he
 rename_i e1 hex
 simp only [aaa,aae] at he
 obtain ⟨rfl,rfl⟩:=he
 refine fG hf (jn (k:=0) hC (aam hc.1)) ?_ ((S.call _ _ _ _ _ hrec).mono ?_)
 ·rintro L rfl
  have:=hc.2
  simp only at this
  split at this
  ·rename_i A0 g0;exact ⟨A0,g0⟩
  ·cases this
 ·rintro v1 h2 ⟨rfl,rfl⟩
  refine ⟨A,hA,?_,aaA hb.2,e1,B0 hex,rfl,rfl,rfl⟩
  cases hst:A.state <;> first | rfl | (rw [hst] at hb;cases hb.1)
theorem Qi {rec:Z0} (S:Sound P rec) (hC:j3 P cls=true) {ops:Array Oper}:∀ (l:List Oper) (i:Nat) {s s':Env} {h h':za},ops.toList.drop i=l->Qh P cls rec ops l s h=some (s',h') ->
  TO P ops (List.range' i l.length) s h (fun s1 h1=>s1=s'/\h1=h')
 | [],i,s,s',h,h',hl,he=>by
   simp only [Qh,aaa,aae] at he
   exact HY ⟨he.1,he.2⟩
 | o :: os,i,s,s',h,h',hl,he=>by
   have ho:ops[i]? = some o:=by
    have:=congrArg (fun l=>l[0]?) hl
    simp only [aaN,aaf] at this
    simpa using this
   have hl':ops.toList.drop (i + 1)=os:=by rw [<- acx,hl];rfl
   rw [aaz,List.range'_succ]
   simp only [Qh] at he
   cases hw:yh ops s o with
   | false=>
     rw [hw] at he
     simp only [cond_false] at he
     split at he
     ·rename_i s1 hp
      exact Er ho hw hp (Qi S hC os (i + 1) hl' he)
     ·cases he
   | true=>
     rw [hw] at he
     simp only [cond_true] at he
     split at he
     ·rename_i v h1 hev
      split at he
      ·rename_i s1 hp
       have hrest:=Qi S hC os (i + 1) hl' he
       unfold evalOp at hev
       split at hev
       ·rename_i f args ts yF
        split at hev
        ·rename_i g fa fc vs hf hargs
         cases hk:Nat.beq (cls.getD g 0) 0 with
         | true=>
           rw [hk] at hev
           simp only [cond_true] at hev
           exact N3 ho hw (by rw [yF];rfl) (fun ρ w a hr hs=>sS yF hf hargs hev hr hs) hp hrest
         | false=>
           rw [hk] at hev
           simp only [cond_false] at hev
           obtain ⟨h1c,h2c⟩:=Bz S hC hev
           exact Ep ho hw yF hf hargs h1c h2c (by rintro v2 h2 ⟨rfl,rfl⟩;exact ⟨s1,hp,hrest⟩)
        ·rename_i L fa fc vs hf hargs
         obtain ⟨hz,hev⟩:=zv hev
         simp only [aac] at hz
         obtain rfl:=Vc hz.1
         obtain rfl:=Vc hz.2
         exact Ae ho hw yF hf hargs (tT S hev) (by rintro v2 h2 ⟨rfl,rfl⟩;exact ⟨s1,hp,hrest⟩)
        ·cases hev
       ·exact N4 ho hw hev hp hrest
      ·cases he
     ·cases he
end
noncomputable section
variable {P:Program} {cls:List Nat}
structure AF (h h':za):Prop where
 next:h.next<=h'.next
 ro:h'.ro=h.ro
 alive:∀ b o,h'.get b=some o->h.get b ≠ none\/(h.next<=b/\b < h'.next)
theorem AF.refl (h:za):AF h h:=⟨aah _,rfl,fun b o hb => .inl (by rw [hb];simp)⟩
theorem AF.trans {a b c:za} (h:AF a b) (k:AF b c):AF a c:=by
 refine ⟨aaH h.next k.next,k.ro.trans h.ro,fun x o hx => ?_⟩
 rcases k.alive x o hx with h1 | ⟨h1,h2⟩
 ·obtain ⟨o',ho'⟩:∃ o,b.get x=some o:=by cases hh:b.get x with | none=>exact absurd hh h1 | some o=>exact ⟨o,rfl⟩
  rcases h.alive x o' ho' with h2 | ⟨h2,h3⟩
  ·exact .inl h2
  ·exact .inr ⟨h2,aai h3 k.next⟩
 ·exact .inr ⟨aaH h.next h1,h2⟩
theorem AF.push (h:za) (o:xE):AF h (h.push o):=⟨abn _,rfl,fun b o' hb=>by
 rw [za.wm] at hb
 split at hb
 ·rename_i e;subst e;exact .inr ⟨aah _,aaD _⟩
 ·exact .inl (by rw [hb];simp)⟩
theorem AF.aN {h:za} {b:Nat} {o:xE} (hb:h.get b=some o) (x:Option xE):AF h (h.set b x):=⟨aah _,rfl,fun c o' hc=>by
 rw [za.yb] at hc
 split at hc
 ·rename_i e;subst e;exact .inl (by rw [hb];simp)
 ·exact .inl (by rw [hc];simp)⟩
theorem Dn {h h':za} {b off:Nat} {new:List Value} (he:K7 h b off new=some h'):AF h h':=by
 unfold K7 at he
 cases hz:Nat.beq new.length 0 with
 | true=>rw [hz] at he;simp only [cond_true,aaa] at he;subst he;exact .refl _
 | false=>
   rw [hz] at he
   simp only [cond_false] at he
   split at he
   ·rename_i hg
    obtain ⟨_,he⟩:=zv he
    simp only [aaa] at he
    subst he
    exact .aN hg _
   ·cases he
theorem rf {t:TypeId} {a v:Value} {h h':za} (he:zh P t a v h=some h'):AF h h':=by
 unfold zh at he
 split at he
 ·split at he
  ·cases he
  ·rename_i hg
   split at he
   ·cases he
   ·obtain ⟨_,he⟩:=zv he
    simp only [aaa] at he
    subst he
    exact .aN hg _
  ·cases he
 ·cases he
theorem Dc {sT xT:TypeId} {s x v:Value} {h h':za} (he:Vb P sT xT s x h=some (v,h')):AF h h':=by
 unfold Vb at he
 split at he
 case h_2=>cases he
 rename_i elem xd n _ _ _
 split at he
 case h_2=>cases he
 split at he
 case h_2=>cases he
 obtain ⟨_,he⟩:=zv he
 unfold V3 at he
 split at he
 ·cases hz:Nat.beq n 0 with
  | true=>rw [hz] at he;simp only [cond_true,aaa,aae] at he;obtain ⟨_,rfl⟩:=he;exact .refl _
  | false=>
    rw [hz] at he
    obtain ⟨_,he⟩:=zv (show cond _ _ none=_ from he)
    simp only [aaa,aae] at he
    obtain ⟨_,rfl⟩:=he
    exact .push _ _
 ·cases hz:Nat.beq n 0 with
  | true=>rw [hz] at he;simp only [cond_true,aaa,aae] at he;obtain ⟨_,rfl⟩:=he;exact .refl _
  | false=>
    rw [hz] at he
    simp only [cond_false] at he
    split at he
    ·rename_i hg
     obtain ⟨_,he⟩:=zv he
     simp only [aaa,aae] at he
     obtain ⟨_,rfl⟩:=he
     exact (AF.aN hg none).trans (.push _ _)
    ·cases he
 ·cases he
theorem IH {t:TypeId} {d x v:Value} {h h':za} (he:Bh P t d x h=some (v,h')):AF h h':=by
 unfold Bh at he
 split at he
 case h_2=>cases he
 split at he
 case h_1=>cases he
 split at he
 case h_1=>cases he
 split at he
 ·simp only [aaa,aae] at he;obtain ⟨_,rfl⟩:=he;exact .refl _
 ·simp only [aao,aae] at he
  obtain ⟨h2,hs,_,rfl⟩:=he
  exact Dn hs
 ·cases he
theorem GG {t:TypeId} {x:Value} {h h':za} (he:lT P t x h=some h'):AF h h':=by
 unfold lT at he
 cases he
theorem nK {t:TypeId} {x k v:Value} {h h':za} (he:Yw P t x k v h=some h'):AF h h':=by
 unfold Yw at he
 cases he
theorem nJ {t:TypeId} {x k:Value} {h h':za} (he:X9 P t x k h=some h'):AF h h':=by
 unfold X9 at he
 cases he
theorem IU {x v:Value} {str:Bool} {h h':za} (he:p9 P x str h=some (v,h')):AF h h':=by
 unfold p9 at he
 cases he
def Still (h h':za):Prop:=h'=h \/ ∃ o,h'=h.push o
theorem Still.af {h h':za} (s:Still h h'):AF h h':=by
 rcases s with rfl | ⟨o,rfl⟩
 ·exact .refl _
 ·exact .push _ _
theorem Bm {t:TypeId} {l c v:Value} {h h':za} (he:ZY P t l c h=some (v,h')):Still h h':=by
 unfold ZY at he
 split at he
 case h_2=>cases he
 split at he
 case h_1=>cases he
 split at he
 case h_1=>cases he
 obtain ⟨_,he⟩:=zv he
 simp only [aaa,aae] at he
 obtain ⟨_,rfl⟩:=he
 exact .inr ⟨_,rfl⟩
theorem sM {src dst:TypeId} {x v:Value} {h h':za} (he:lU P src dst x h=some (v,h')):Still h h':=by
 unfold lU at he
 split at he
 ·simp only [aaa,aae] at he;obtain ⟨_,rfl⟩:=he;exact .inl rfl
 ·split at he
  ·split at he
   ·simp only [aaa,aae] at he;obtain ⟨_,rfl⟩:=he;exact .inr ⟨_,rfl⟩
   ·cases he
  ·split at he
   ·simp only [aao,aae] at he;obtain ⟨_,_,_,rfl⟩:=he;exact .inl rfl
   ·cases he
  ·cases he
theorem Bg {src dst:TypeId} {x v:Value} {h h':za} (he:uf P src dst x h=some (v,h')):Still h h':=by
 unfold uf at he
 split at he
 ·rename_i r hc
  simp only [aaa] at he
  subst he
  exact sM hc
 ·simp only [aao,aae] at he;obtain ⟨_,_,_,rfl⟩:=he;exact .inl rfl
theorem OW {pt:TypeId} {p v:Value} {n:Int} {h h':za} (he:RY P pt p n h=some (v,h')):AF h h':=by
 unfold RY at he
 split at he
 ·obtain ⟨_,he⟩:=zv he
  simp only [aaa,aae] at he;obtain ⟨_,rfl⟩:=he;exact .refl _
 ·cases hn:decide (n=0) with
  | true=>rw [hn] at he;simp only [cond_true,aaa,aae] at he;obtain ⟨_,rfl⟩:=he;exact .refl _
  | false=>
    rw [hn] at he
    simp only [cond_false] at he
    split at he
    case h_2=>cases he
    rename_i hg
    split at he
    case h_2=>cases he
    obtain ⟨_,he⟩:=zv he
    simp only [aaa,aae] at he;obtain ⟨_,rfl⟩:=he;exact .aN hg _
 ·cases he
theorem bZ {t:TypeId} {n:Nat} {ps:List (Nat × Value)} {v:Value} {h h':za} (he:zO P t n ps h=some (v,h')):Still h h':=by
 unfold zO at he
 split at he
 case h_2=>cases he
 split at he
 case h_2=>cases he
 obtain ⟨_,he⟩:=zv he
 split at he
 case h_2=>cases he
 obtain ⟨_,he⟩:=zv he
 simp only [aaa,aae] at he
 obtain ⟨_,rfl⟩:=he
 exact .inr ⟨_,rfl⟩
theorem vi {x:Option Value} {v:Value} {h h':za} (he:one h x=some (v,h')):Still h h' := .inl (wq he).2
theorem Be {b:Builtin} {ts:List TypeId} {r:TypeId} {vs:List Value} {v:Value} {h h':za} (he:zg P b ts r vs h=some (v,h')):AF h h':=by
 unfold zg at he
 split at he
 ·exact Dc he
 ·exact IH he
 ·simp only [aao,aae] at he;obtain ⟨_,_,_,rfl⟩:=he;exact .refl _
 ·simp only [aao,aae] at he;obtain ⟨_,hc,_,rfl⟩:=he;exact GG hc
 ·obtain ⟨_,he⟩:=zv he;simp only [aao,aae] at he;obtain ⟨_,_,_,rfl⟩:=he;exact .refl _
 ·obtain ⟨_,he⟩:=zv he;simp only [aao,aae] at he;obtain ⟨_,_,_,rfl⟩:=he;exact .refl _
 ·simp only [aao,aae] at he;obtain ⟨_,hc,_,rfl⟩:=he;exact nJ hc
 ·simp only [aao,aae] at he;obtain ⟨_,_,_,rfl⟩:=he;exact .refl _
 ·simp only [aao,aae] at he;obtain ⟨_,_,_,rfl⟩:=he;exact .refl _
 ·exact OW he
 ·cases he
theorem ta {t:TypeId} {x v:Value} {h h':za} (he:eK P t x h=some (v,h')):Still h h':=by
 unfold eK at he
 cases he
theorem Ka {b:Builtin} {ts:List TypeId} {r:TypeId} {vs:List Value} {v:Value} {h h':za} (hq:Xo b=true) (he:zg P b ts r vs h=some (v,h')):h'=h:=by
 unfold zg at he
 split at he <;> first
  | (simp [Xo] at hq;done)
  | (simp only [aao,aae] at he;obtain ⟨_,_,_,rfl⟩:=he;rfl)
  | (obtain ⟨_,he⟩:=zv he;simp only [aao,aae] at he;obtain ⟨_,_,_,rfl⟩:=he;rfl)
  | cases he
theorem Yt {g:FuncId} {args:List Value} {v:Value} {h h':za} (he:sR P g args h=some (v,h')):Still h h':=by
 unfold sR at he
 split at he
 ·rename_i r hn
  simp only [aaa] at he
  subst he
  unfold Fy at hn
  split at hn
  case h_2=>cases hn
  obtain ⟨_,hn⟩:=zv hn
  split at hn
  case h_2=>cases hn
  simp only [aaa,aae] at hn
  obtain ⟨_,rfl⟩:=hn
  exact .inl rfl
 ·unfold mU at he
  split at he
  case h_2=>cases he
  obtain ⟨_,he⟩:=zv he
  split at he
  case h_2=>cases he
  split at he
  case h_2=>cases he
  obtain ⟨_,he⟩:=zv he
  simp only [aaa,aae] at he
  obtain ⟨_,rfl⟩:=he
  exact .inr ⟨_,rfl⟩
theorem Zz {s:Env} {o:Oper} {v:Value} {h h':za} (he:Jt P s o h=some (v,h')):AF h h'/\(YQ o.op=false->Still h h'):=by
 unfold Jt at he
 split at he <;> rename_i yF
 ·have:=vi he;exact ⟨this.af,fun _=>this⟩
 ·have:=vi he;exact ⟨this.af,fun _=>this⟩
 ·split at he
  ·have:=vi he;exact ⟨this.af,fun _=>this⟩
  ·have:=vi he;exact ⟨this.af,fun _=>this⟩
  ·cases he
 ·split at he
  ·simp only [aaa,nT,aae] at he;obtain ⟨_,rfl⟩:=he;exact ⟨.push _ _,fun _ => .inr ⟨_,rfl⟩⟩
  ·cases he
 ·split at he
  ·simp only [aaa,nT,aae] at he;obtain ⟨_,rfl⟩:=he;exact ⟨.push _ _,fun _ => .inr ⟨_,rfl⟩⟩
  ·cases he
 ·split at he
  ·have:=vi he;exact ⟨this.af,fun _=>this⟩
  ·cases he
 ·split at he
  ·have:=bZ he;exact ⟨this.af,fun _=>this⟩
  ·cases he
 ·split at he
  ·have:=vi he;exact ⟨this.af,fun _=>this⟩
  ·cases he
 ·split at he
  ·split at he
   ·rename_i hs
    simp only [aaa,aae] at he
    obtain ⟨_,rfl⟩:=he
    exact ⟨rf hs,fun hw=>by rw [yF] at hw;cases hw⟩
   ·cases he
  ·cases he
 ·split at he
  ·simp only [aaa,aae] at he;obtain ⟨_,rfl⟩:=he;exact ⟨.refl _,fun _ => .inl rfl⟩
  ·simp only [aaa,aae] at he;obtain ⟨_,rfl⟩:=he;exact ⟨.refl _,fun _ => .inl rfl⟩
  ·cases he
 ·split at he
  ·have:=vi he;exact ⟨this.af,fun _=>this⟩
  ·cases he
 ·split at he
  ·obtain ⟨_,he⟩:=zv he;have:=vi he;exact ⟨this.af,fun _=>this⟩
  ·cases he
 ·split at he
  ·have:=Bg he;exact ⟨this.af,fun _=>this⟩
  ·cases he
 ·split at he
  ·split at he
   ·simp only [aaa,aae] at he;obtain ⟨_,rfl⟩:=he;exact ⟨.refl _,fun _ => .inl rfl⟩
   ·cases he
  ·cases he
 ·split at he
  ·simp only [aaa,aae] at he;obtain ⟨_,rfl⟩:=he;exact ⟨.refl _,fun _ => .inl rfl⟩
  ·cases he
 ·split at he
  ·have:=Bm he;exact ⟨this.af,fun _=>this⟩
  ·cases he
 ·split at he
  ·split at he
   ·simp only [aaa,aae] at he;obtain ⟨_,rfl⟩:=he;exact ⟨.refl _,fun _ => .inl rfl⟩
   ·cases he
  ·have:=vi he;exact ⟨this.af,fun _=>this⟩
  ·cases he
 ·split at he
  ·have:=vi he;exact ⟨this.af,fun _=>this⟩
  ·cases he
 ·split at he
  ·split at he
   ·split at he
    ·have:=vi he;exact ⟨this.af,fun _=>this⟩
    ·cases he
   ·cases he
  ·cases he
 ·split at he
  ·have:=vi he;exact ⟨this.af,fun _=>this⟩
  ·cases he
 ·split at he
  ·obtain ⟨_,he⟩:=zv he;have:=vi he;exact ⟨this.af,fun _=>this⟩
  ·cases he
 ·split at he
  ·have:=vi he;exact ⟨this.af,fun _=>this⟩
  ·cases he
 ·split at he
  ·refine ⟨Be he,fun hw => ?_⟩
   rw [yF] at hw
   simp only [YQ,Bool.not_eq_false'] at hw
   exact .inl (Ka hw he)
  ·cases he
 ·simp only [aaa,V7,aae] at he;obtain ⟨_,rfl⟩:=he;exact ⟨.push _ _,fun _ => .inr ⟨_,rfl⟩⟩
 ·split at he
  ·have:=vi he;exact ⟨this.af,fun _=>this⟩
  ·cases he
 ·split at he
  ·split at he
   ·rename_i hu
    simp only [aaa,aae] at he
    obtain ⟨_,rfl⟩:=he
    exact ⟨nK hu,fun hw=>by rw [yF] at hw;cases hw⟩
   ·cases he
  ·cases he
 ·split at he
  ·have:=ta he;exact ⟨this.af,fun _=>this⟩
  ·cases he
 ·split at he
  ·exact ⟨IU he,fun hw=>by rw [yF] at hw;cases hw⟩
  ·cases he
 ·split at he
  ·have:=vi he;exact ⟨this.af,fun _=>this⟩
  ·cases he
 ·cases he
end
noncomputable section
variable {P:Program} {cls:List Nat}
def Frames (rec:Z0):Prop := ∀ t h o h',rec t h=some (o,h')->AF h h'
def WF (h:za):Prop := ∀ b o,h.get b=some o->b < h.next
theorem WF.af {h h':za} (w:WF h) (a:AF h h'):WF h':=by
 intro b o hb
 rcases a.alive b o hb with h1 | ⟨_,h2⟩
 ·obtain ⟨o',ho'⟩:∃ o,h.get b=some o:=by cases hh:h.get b with | none=>exact absurd hh h1 | some o=>exact ⟨o,rfl⟩
  exact aai (w b o' ho') a.next
 ·exact h2
theorem AF.lock {h h':za} (a:AF h.lock h'):h.next<=h'.next /\ ∀ b o,h'.get b=some o->h.get b ≠ none\/(h.next<=b/\b < h'.next):=⟨a.next,a.alive⟩
theorem AF.wY {h h2:za} (hn:h.next<=h2.next):AF h (wY h h2):=⟨hn,rfl,fun b o hb=>by
 rw [vx] at hb
 split at hb
 ·rename_i hc;exact .inr hc
 ·exact .inl (by rw [hb];simp)⟩
def JC (ops:Array Oper) (ms:List Nat):Prop := ∀ k q,(ms.getD k 0).testBit q=true->Prec ops q k
theorem uY {ops:Array Oper} {ms:List Nat} (hm:JC ops ms) {i:Nat} {o:Oper} (ho:ops[i]? = some o) {q:Nat} (h:(yH ms o).testBit q=true):Prec ops q i:=by
 have key:∀ (l:List Edge) (m:Nat),(∀ e,e ∈ l->e ∈ o.after)->(l.foldl (fun m e=>cond (Region.binds .any e) (m ||| (1 <<< e.on) ||| ms.getD e.on 0) m) m).testBit q=true->m.testBit q=true\/Prec ops q i:=by
  intro l
  induction l with
  | nil=>intro m _ h;exact .inl h
  | cons e l ih=>
    intro m hl h
    rw [List.foldl_cons] at h
    rcases ih _ (fun x hx=>hl x (by simp [hx])) h with h1 | h1
    ·cases hb:Region.binds .any e with
     | false=>rw [hb] at h1;exact .inl h1
     | true=>
       rw [hb] at h1
       simp only [cond_true,Nat.testBit_or,aaV] at h1
       rcases h1 with (h1 | h1) | h1
       ·exact .inl h1
       ·rw [Nat.testBit_shiftLeft] at h1
        simp only [aac,decide_eq_true_eq,Nat.testBit_one_eq_true_iff_self_eq_zero] at h1
        have:q=e.on:=by omega
        subst this
        exact .inr (.one ho (hl e (by simp)) hb)
       ·exact .inr (.more ho (hl e (by simp)) hb (hm _ _ h1))
    ·exact .inr h1
 rcases key o.after.toList 0 (fun e he=>by simpa using he) h with h1 | h1
 ·simp at h1
 ·exact h1
theorem Vn {ops:Array Oper} {ms:List Nat} (hm:JC ops ms) {i:Nat} (hl:ms.length=i) {o:Oper} (ho:ops[i]? = some o):JC ops (ms ++ [yH ms o]):=by
 intro k q h
 rcases Nat.lt_trichotomy k i with hk | hk | hk
 ·rw [aaB,abl (by omega),<- aaB] at h
  exact hm k q h
 ·subst hk
  rw [aaB,abb (by omega),hl] at h
  simp at h
  exact uY hm ho h
 ·rw [aaB,aaj (by simp;omega)] at h
  simp at h
theorem mQ (A:List yx) (r:yx) (p:yx->Bool):xL (A ++ [r]) p=if p r=true then some r else xL A p:=by
 simp only [xL,aaJ,aby,List.filter_nil]
 by_cases h:p r=true
 ·simp [h]
 ·simp [h]
theorem Ja (A:List yx) (r:yx) (s0:Env) (t:Nat):Vx (A ++ [r]) s0 t=if r.o.dst=some t then r.v else Vx A s0 t:=by
 simp only [Vx,mQ,VI,decide_eq_true_eq]
 by_cases h:r.o.dst=some t <;> simp [h]
theorem cU (A:List yx) (r:yx) (h0:za) (b:Nat):ZN (A ++ [r]) h0 b=if r.tc b=true then r.g'.get b else ZN A h0 b:=by
 simp only [ZN,mQ]
 by_cases h:r.tc b=true <;> simp [h]
structure SN (y:hZ):Prop where
 tc:y.all=false->∀ b,y.r.tc b=true ↔ b ∈ y.CB
 lt:∀ b,y.all=true->y.r.tc b=true->True
 Jz:y.Jz=true->(∀ b,y.r.rd b=false) /\ ∀ b,y.r.tc b=false
 ex:y.ex=true->∀ b,y.r.rd b=true->b ∈ y.Rj
theorem Fm {ops:Array Oper} {x y:hZ} (hx:SN x) (hy:SN y) (hs:jI ops x.r.o y.r.o=true) (h:y.Jz=true\/mJ x y=true):iK ops x.r y.r:=by
 simp only [jI,aac] at hs
 obtain ⟨h1,h2⟩:=hs
 have hd1:∀ d,x.r.o.dst=some d->d ∉ y.r.o.looksAt ops/\y.r.o.dst ≠ some d:=by
  intro d hd
  rw [hd] at h1
  simp only [aac,aat,decide_eq_false_iff_not,aaE] at h1
  exact ⟨h1.1,h1.2⟩
 have hd2:∀ d,y.r.o.dst=some d->d ∉ x.r.o.looksAt ops:=by
  intro d hd
  rw [hd] at h2
  simp only [aat,decide_eq_false_iff_not,aaE] at h2
  exact h2
 rcases h with hl | h
 ·obtain ⟨l1,l2⟩:=hy.Jz hl
  exact ⟨hd1,hd2,fun b _=>⟨l1 b,l2 b⟩,fun b hb=>by rw [l2 b] at hb;cases hb⟩
 simp only [mJ,aac] at h
 obtain ⟨h3,h4⟩:=h
 refine ⟨hd1,hd2,?_,?_⟩
 ·intro b hb
  cases ha:x.all with
  | true=>
    rw [ha] at h3
    simp only [cond_true,aaV,aac,aat,aas] at h3
    rcases h3 with h3 | ⟨⟨⟨h3,h5⟩,h6⟩,h7⟩
    ·exact ⟨(hy.Jz h3).1 b,(hy.Jz h3).2 b⟩
    ·refine ⟨?_,?_⟩
     ·cases hr:y.r.rd b with
      | false=>rfl
      | true=>have:=h6 b (hy.ex h3 b hr);rw [hb] at this;cases this
     ·cases hr:y.r.tc b with
      | false=>rfl
      | true=>have:=h7 b ((hy.tc h5 b).1 hr);rw [hb] at this;cases this
  | false=>
    rw [ha] at h3
    simp only [cond_false,aas,aac,aat] at h3
    exact h3 b ((hx.tc ha b).1 hb)
 ·intro b hb
  cases ha:y.all with
  | true=>
    rw [ha] at h4
    simp only [cond_true,aaV,aac,aat,aas] at h4
    rcases h4 with h4 | ⟨h4,h5⟩
    ·exact (hx.Jz h4).1 b
    ·cases hr:x.r.rd b with
     | false=>rfl
     | true=>have:=h5 b (hx.ex h4 b hr);rw [hb] at this;cases this
  | false=>
    rw [ha] at h4
    simp only [cond_false,aas,aat] at h4
    exact h4 b ((hy.tc ha b).1 hb)
structure vz (P:Program) (ops:Array Oper) (s0:Env) (h0:za) (A:List yx) (i:Nat) (s:Env) (h:za):Prop where
 js:A.map (·.j)=List.range i
 env:∀ t,s.get t=Vx A s0 t
 size:s.size=s0.size
 heap:∀ b,h.get b=ZN A h0 b
 ro:h.ro=h0.ro
 next:h0.next<=h.next
 nA:∀ x,x ∈ A->x.g'.next<=h.next
 wf:WF h
 told:∀ A1 r A2,A=A1 ++ r :: A2->Told P ops s0 h0 A1 r
 Ub:∀ A1 r A2,A=A1 ++ r :: A2->∀ e,e ∈ r.o.after->Region.binds .any e=true->∃ x,x ∈ A1/\x.j=e.on
 apart:∀ A1 x A2 y A3,A=A1 ++ x :: (A2 ++ y :: A3)->Prec ops x.j y.j\/iK ops x y
theorem G6 {rec:Z0} (S:Sound P rec) (hF:Frames rec) (hC:j3 P cls=true) {ops:Array Oper} {s0:Env} {h0:za} {A:List yx} {recs:List hZ} {i mask:Nat} {o:Oper} {os:List Oper} {s:Env} {h h1:za} {y:hZ}
  (F:vz P ops s0 h0 A i s h) (ho:ops[i]? = some o) (hput:∀ d,o.dst=some d->d < s.size) (he:mj P cls rec ops recs mask i os o s h=some (y,h1)) :
  y.r.j=i/\y.r.o=o/\SN y/\Told P ops s0 h0 A y.r/\(∀ b,h1.get b=if y.r.tc b=true then y.r.g'.get b else h.get b)/\h1.ro=h.ro/\h.next<=h1.next/\y.r.g'.next<=h1.next/\WF h1:=by
 unfold mj at he
 cases hw:yh ops s o with
 | false=>
   rw [hw] at he
   simp only [cond_false,aaa,aae] at he
   obtain ⟨rfl,rfl⟩:=he
   refine ⟨rfl,rfl,⟨fun _ b=>by simp,fun _ _ _=>trivial,fun _=>⟨fun _=>rfl,fun _=>rfl⟩,fun _ b hb=>(by cases hb)⟩,⟨ho,F.env,F.size,fun b=>by rw [vM];simp,F.ro,F.next,F.nA,aah _,.inl ⟨hw,rfl,rfl⟩,fun d hd=>by rw [<- F.size];exact hput d hd,fun b hb=>(by cases hb),fun b _=>rfl,fun b o' hb=>(by cases hb)⟩,fun b=>by simp,rfl,aah _,aah _,F.wf⟩
 | true=>
   rw [hw] at he
   simp only [cond_true] at he
   split at he
   ·
    rename_i f args ts yF
    split at he
    case h_2=>cases he
    rename_i g fa fc vs hf hargs
    split at he
    ·
     rename_i hk
     have hlt:∀ b,b ∈ (((recs.flatMap fun x=>cond (mask.testBit x.r.j) [] (x.CB ++ x.Rj)) ++ cA s ((o :: os).filterMap (·.dst)) os (i + 1) (1 <<< i)).filter fun b=>Nat.blt b h.next)->b < h.next:=fun b hb=>by
      simpa [aaR] using (abQ.1 hb).2
     generalize (((recs.flatMap fun x=>cond (mask.testBit x.r.j) [] (x.CB ++ x.Rj)) ++ cA s ((o :: os).filterMap (·.dst)) os (i + 1) (1 <<< i)).filter fun b=>Nat.blt b h.next)=hid at *
     split at he
     case h_2=>cases he
     rename_i v h' hrec
     simp only [aaa,aae] at he
     obtain ⟨rfl,rfl⟩:=he
     have af:=hF _ _ _ _ hrec
     have hwfh:WF (h.VB hid):=fun b o' hb=>by
      rw [jY] at hb
      split at hb
      ·cases hb
      ·exact F.wf b o' hb
     have hwf:=hwfh.af af
     have hn:h.next<=h'.next:=af.next
     have hgone:∀ b,b ∈ hid->h'.get b=none:=by
      intro b hb
      cases hh:h'.get b with
      | none=>rfl
      | some o'=>
        rcases af.alive b o' hh with h2 | ⟨h2,_⟩
        ·rw [jY,if_pos hb] at h2;exact absurd rfl h2
        ·have:h.next<=b:=h2
         have:=hlt b hb;omega
     have hbeyond:∀ b,¬ b < h'.next->h'.get b=none/\h.get b=none:=by
      intro b hb
      refine ⟨?_,?_⟩
      ·cases hh:h'.get b with | none=>rfl | some o'=>exact absurd (hwf b o' hh) hb
      ·cases hh:h.get b with | none=>rfl | some o'=>exact absurd (aai (F.wf b o' hh) hn) hb
     refine ⟨rfl,rfl,⟨fun ha=>(by cases ha),fun _ _ _=>trivial,fun hl=>(by cases hl),fun hl=>(by cases hl)⟩,⟨ho,F.env,F.size,fun b => ?_,F.ro,F.next,F.nA,hn,.inr ⟨hw,.inr (.inl ⟨f,args,ts,g,fa,fc,vs,yF,hf,hargs,jn hC hk,S.call _ _ _ _ _ hrec⟩)⟩,fun d hd=>by rw [<- F.size];exact hput d hd,fun b hb => ?_,fun b hb => ?_,fun b o' _ hlt2 hb => ?_⟩,fun b => ?_,af.ro,hn,aah _,?_⟩
     ·rw [jY]
      simp only [aac,aaR,aat,aaE,decide_eq_false_iff_not]
      by_cases hm:b ∈ hid
      ·rw [if_pos hm,if_neg (fun hc=>hc.2 hm)]
      ·rw [if_neg hm]
       by_cases hb:b < h.next
       ·rw [if_pos ⟨hb,hm⟩];exact F.heap b
       ·rw [if_neg (fun hc=>hb hc.1)]
        cases hh:h.get b with
        | none=>rfl
        | some o'=>exact absurd (F.wf b o' hh) hb
     ·simp only [aac,aaR,aat,aaE,decide_eq_false_iff_not] at hb ⊢
      by_cases hb2:b < h.next
      ·exact .inl ⟨hb2,hb.2⟩
      ·exact .inr ⟨ack hb2,hb.1⟩
     ·show h'.get b=(h.VB hid).get b
      rw [jY]
      by_cases hm:b ∈ hid
      ·rw [if_pos hm,hgone b hm]
      ·rw [if_neg hm]
       have hb':¬ b < h'.next:=by
        intro hc
        have h3:(Nat.blt b h'.next && !hid.contains b)=true:=by simpa [aaR] using ⟨hc,hm⟩
        exact acp ((show (Nat.blt b h'.next && !hid.contains b)=false from hb).symm.trans h3)
       rw [(hbeyond b hb').1,(hbeyond b hb').2]
     ·rcases af.alive b o' hb with h2 | ⟨h2,_⟩
      ·exact h2
      ·exact absurd hlt2 (by show ¬ b < (h.VB hid).next;omega)
     ·rw [aD]
      simp only [aac,aaR,aat,aaE,decide_eq_false_iff_not]
      by_cases hm:b ∈ hid
      ·rw [if_pos hm,if_neg (fun hc=>hc.2 hm)]
      ·rw [if_neg hm]
       by_cases hb:b < h'.next
       ·rw [if_pos ⟨hb,hm⟩]
       ·rw [if_neg (fun hc=>hb hc.1),(hbeyond b hb).1,(hbeyond b hb).2]
     ·intro b o' hb
      rw [aD] at hb
      show b < h'.next
      split at hb
      ·exact aai (F.wf b o' hb) hn
      ·exact hwf b o' hb
    ·
     rename_i hk
     split at he
     case h_2=>cases he
     rename_i v h2 hrec
     obtain ⟨hsc,he⟩:=zv he
     simp only [aaa,aae] at he
     obtain ⟨rfl,rfl⟩:=he
     generalize (recs.flatMap fun x=>cond (mask.testBit x.r.j) [] x.CB)=hid at *
     have hq:TC P g (fa.toList ++ vs ++ fc.toList) (h.VB hid) (fun v1 h1=>v1=v/\h1=h.VB hid) :=
      ((S.call _ _ _ _ _ hrec).quiet (fun v2 h2 q=>by rw [q.1];exact hsc)).mono (by rintro v2 h3 ⟨⟨h4,q1,q2⟩,rfl⟩;exact ⟨q1,rfl⟩)
     refine ⟨rfl,rfl,⟨fun _ b=>by simp,fun _ _ _=>trivial,fun hl=>(by cases hl),fun hl=>(by cases hl)⟩,⟨ho,F.env,F.size,fun b => ?_,F.ro,F.next,F.nA,aah _,.inr ⟨hw,.inr (.inl ⟨f,args,ts,g,fa,fc,vs,yF,hf,hargs,jn hC hk,hq⟩)⟩,fun d hd=>by rw [<- F.size];exact hput d hd,fun b hb=>(by cases hb),fun b _=>rfl,fun b o' hb=>(by cases hb)⟩,fun b=>by simp,rfl,aah _,aah _,F.wf⟩
     rw [jY]
     simp only [aac,aaR,aat,aaE,decide_eq_false_iff_not]
     by_cases hm:b ∈ hid
     ·rw [if_pos hm,if_neg (fun hc=>hc.2 hm)]
     ·rw [if_neg hm]
      by_cases hb:b < h.next
      ·rw [if_pos ⟨hb,hm⟩];exact F.heap b
      ·rw [if_neg (fun hc=>hb hc.1)]
       cases hh:h.get b with
       | none=>rfl
       | some o'=>exact absurd (F.wf b o' hh) hb
    ·
     rename_i hk
     split at he
     case h_2=>cases he
     rename_i v h2 hrec
     simp only [aaa,aae] at he
     obtain ⟨rfl,rfl⟩:=he
     generalize (recs.flatMap fun x=>cond (mask.testBit x.r.j) [] x.CB)=hid at *
     have af:=(hF _ _ _ _ hrec).lock
     have hn:h.next<=h2.next:=af.1
     refine ⟨rfl,rfl,⟨fun _ b=>by simp,fun _ _ _=>trivial,fun hl=>(by cases hl),fun hl=>(by cases hl)⟩,⟨ho,F.env,F.size,fun b => ?_,F.ro,F.next,F.nA,hn,.inr ⟨hw,.inr (.inl ⟨f,args,ts,g,fa,fc,vs,yF,hf,hargs,jn hC hk,(S.call _ _ _ _ _ hrec).fresh⟩)⟩,fun d hd=>by rw [<- F.size];exact hput d hd,fun b hb => ?_,fun b hb => ?_,fun b o' hb hlt _ => ?_⟩,fun b => ?_,rfl,hn,aah _,F.wf.af (.wY hn)⟩
     ·rw [jY]
      simp only [aac,aaR,aat,aaE,decide_eq_false_iff_not]
      by_cases hm:b ∈ hid
      ·rw [if_pos hm,if_neg (fun hc=>hc.2 hm)]
      ·rw [if_neg hm]
       by_cases hb:b < h.next
       ·rw [if_pos ⟨hb,hm⟩];exact F.heap b
       ·rw [if_neg (fun hc=>hb hc.1)]
        cases hh:h.get b with
        | none=>rfl
        | some o'=>exact absurd (F.wf b o' hh) hb
     ·simp only [aaE,decide_eq_true_eq,kK] at hb
      exact .inr hb
     ·simp only [aaE,decide_eq_false_iff_not,kK] at hb
      simp only [vx]
      rw [if_neg (show ¬((h.VB hid).next<=b/\b < h2.next) from hb)]
     ·simp only [aaE,decide_eq_true_eq,kK] at hb
      exact absurd hlt (by show ¬ b < h.next;omega)
     ·simp only [aaE,decide_eq_true_eq,kK,vx]
      by_cases hb:h.next<=b/\b < h2.next
      ·rw [if_pos hb,if_pos hb,if_pos (show (h.VB hid).next<=b/\b < h2.next from hb)]
      ·rw [if_neg hb,if_neg hb]
    ·
     split at he
     case h_2=>cases he
     rename_i v g' hop2
     simp only [aaa,aae] at he
     obtain ⟨rfl,rfl⟩:=he
     have still:=Yt hop2
     have af:=still.af
     have hn:h.next<=g'.next:=af.next
     have hro:g'.ro=h.ro:=af.ro
     refine ⟨rfl,rfl,⟨fun _ b=>by simp,fun _ _ _=>trivial,fun hl => ?_,fun _ b hb=>(by cases hb)⟩,⟨ho,F.env,F.size,fun b=>by rw [vM];simp,F.ro,F.next,F.nA,hn,.inr ⟨hw,.inr (.inr ⟨f,args,ts,g,fa,fc,vs,yF,hf,hargs,hop2⟩)⟩,fun d hd=>by rw [<- F.size];exact hput d hd,fun b hb => ?_,fun b hb => ?_,fun b o' hb hlt hg => ?_⟩,fun b => ?_,rfl,hn,aah _,?_⟩
     ·simp only [List.isEmpty_iff] at hl
      refine ⟨fun b=>rfl,fun b => ?_⟩
      show (List.range' h.next (g'.next - h.next)).contains b=false
      rw [hl];rfl
     ·simp only [aaE,decide_eq_true_eq,kK] at hb
      exact .inr hb
     ·simp only [aaE,decide_eq_false_iff_not,kK] at hb
      rcases still with e | ⟨ob,e⟩
      ·rw [e]
      ·rw [e,za.wm]
       split
       ·rename_i eb
        exact absurd ⟨by rw [eb];exact aah _,by rw [eb,e];exact aaD _⟩ hb
       ·rfl
     ·simp only [aaE,decide_eq_true_eq,kK] at hb
      exact absurd hlt (by show ¬ b < h.next;omega)
     ·rw [Kn]
      simp only [aaE,decide_eq_true_eq]
     ·intro b o' hb
      rw [Kn] at hb
      split at hb
      ·rename_i hm
       exact (kK.1 hm).2
      ·exact aai (F.wf b o' hb) hn
   ·
    rename_i hnc
    split at he
    case h_2=>cases he
    rename_i v g' yF
    simp only [aaa,aae] at he
    obtain ⟨rfl,rfl⟩:=he
    obtain ⟨af,still⟩:=Zz yF
    generalize hbs:Mj s o h=bs at *
    have hn:h.next<=g'.next:=af.next
    have hmemtc:∀ b,b ∈ (cond (YQ o.op) (bs ++ List.range' h.next (g'.next - h.next)) (List.range' h.next (g'.next - h.next))) ↔ (YQ o.op=true/\b ∈ bs)\/(h.next<=b/\b < g'.next):=by
     intro b
     cases YQ o.op with
     | true=>simp only [cond_true,aaP,kK,true_and]
     | false=>simp only [cond_false,kK,aa8,false_and,false_or]
    generalize htcl:(cond (YQ o.op) (bs ++ List.range' h.next (g'.next - h.next)) (List.range' h.next (g'.next - h.next)))=CB at *
    have hnew:∀ b,¬ (h.next<=b/\b < g'.next)->b ∉ bs\/YQ o.op=false->g'.get b=(h.pick bs).get b:=by
     intro b hb hor
     cases hwr:YQ o.op with
     | false=>
       rcases still hwr with e | ⟨ob,e⟩
       ·rw [e]
       ·rw [e,za.wm]
        split
        ·rename_i eb
         exact absurd ⟨by rw [eb];exact aah _,by rw [eb,e];exact aaD _⟩ hb
        ·rfl
     | true=>
       rcases hor with hor | hor
       ·have e0:(h.pick bs).get b=none:=by rw [vM,if_neg hor]
        rw [e0]
        cases hh:g'.get b with
        | none=>rfl
        | some o'=>
          rcases af.alive b o' hh with h2 | h2
          ·exact absurd e0 h2
          ·exact absurd h2 hb
       ·rw [hwr] at hor;cases hor
    have hro:g'.ro=h.ro:=af.ro
    refine ⟨rfl,rfl,⟨fun _ b=>by simp,fun _ _ _=>trivial,fun hl => ?_,fun _ b hb=>by simpa using hb⟩,⟨ho,F.env,F.size,fun b => ?_,F.ro,F.next,F.nA,hn,.inr ⟨hw,.inl yF⟩,fun d hd=>by rw [<- F.size];exact hput d hd,fun b hb => ?_,fun b hb => ?_,fun b o' hb hlt hg => ?_⟩,fun b => ?_,rfl,hn,aah _,?_⟩
    ·simp only [aac,List.isEmpty_iff] at hl
     obtain ⟨e1,e2⟩:=hl
     subst e1 e2
     exact ⟨fun b=>rfl,fun b=>rfl⟩
    ·rw [vM]
     simp only [aaE,decide_eq_true_eq]
     split
     ·exact F.heap b
     ·rfl
    ·simp only [aaE,decide_eq_true_eq] at hb ⊢
     rcases (hmemtc b).1 hb with h2 | h2
     ·exact .inl h2.2
     ·exact .inr h2
    ·simp only [aaE,decide_eq_false_iff_not] at hb
     have hb2:=fun hc=>hb ((hmemtc b).2 hc)
     refine hnew b (fun hc=>hb2 (.inr hc)) ?_
     cases hwr:YQ o.op with
     | false=>exact .inr rfl
     | true=>exact .inl (fun hc=>hb2 (.inl ⟨hwr,hc⟩))
    ·rcases af.alive b o' hg with h2 | ⟨h2,_⟩
     ·exact h2
     ·exact absurd hlt (by show ¬ b < (h.pick bs).next;omega)
    ·rw [Kn]
     simp only [aaE,decide_eq_true_eq]
    ·intro b o' hb
     rw [Kn] at hb
     split at hb
     ·rcases af.alive b o' hb with h2 | ⟨_,h2⟩
      ·rw [vM] at h2
       split at h2
       ·obtain ⟨o2,ho2⟩:∃ o,h.get b=some o:=by cases hh:h.get b with | none=>exact absurd hh h2 | some o=>exact ⟨o,rfl⟩
        exact aai (F.wf b o2 ho2) hn
       ·exact absurd rfl h2
      ·exact h2
     ·exact aai (F.wf b o' hb) hn
end
end Go.Ai
