/- A part of the proof. -/
import Derived.Calls
import Derived.Below
import Derived.Laws.Sem
import Derived.Laws.Cells
import Derived.Laws.Entries
set_option linter.unusedVariables false
set_option linter.unusedSimpArgs false
set_option maxRecDepth 100000
namespace Go
theorem My:type_of% @Option.some.injEq:=@Option.some.injEq
theorem Mz:type_of% @Go.Result.andThen_ok:=@Go.Result.andThen_ok
theorem MA:type_of% @if_true:=@if_true
theorem MC:type_of% @Prod.mk.injEq:=@Prod.mk.injEq
theorem MD:type_of% @List.getElem?_cons_zero:=@List.getElem?_cons_zero
theorem ME:type_of% @Go.Sem.run_bind:=@Go.Sem.run_bind
theorem MF:type_of% @List.getElem?_eq_getElem:=@List.getElem?_eq_getElem
theorem MG:type_of% @Bool.and_eq_true:=@Bool.and_eq_true
theorem MH:type_of% @List.getElem?_cons_succ:=@List.getElem?_cons_succ
theorem MI:type_of% @Nat.le_refl:=@Nat.le_refl
theorem MJ:type_of% @if_neg:=@if_neg
theorem MK:type_of% @if_pos:=@if_pos
theorem ML:type_of% @Nat.lt_of_lt_of_le:=@Nat.lt_of_lt_of_le
theorem MN:type_of% @Go.Sem.run_pure:=@Go.Sem.run_pure
theorem MO:type_of% @List.getElem?_eq_none:=@List.getElem?_eq_none
theorem MP:type_of% @not_false_eq_true:=@not_false_eq_true
theorem MQ:type_of% @Nat.eq_of_beq_eq_true:=@Nat.eq_of_beq_eq_true
theorem MR:type_of% @Option.map_eq_some_iff:=@Option.map_eq_some_iff
theorem MS:type_of% @if_false:=@if_false
theorem MT:type_of% @Nat.zero_add:=@Nat.zero_add
theorem MU:type_of% @Bool.not_eq_true':=@Bool.not_eq_true'
theorem MV:type_of% @cond_true:=@cond_true
theorem MW:type_of% @Array.getD_eq_getD_getElem?:=@Array.getD_eq_getD_getElem?
theorem MX:type_of% @Nat.lt_or_ge:=@Nat.lt_or_ge
theorem MY:type_of% @List.length_cons:=@List.length_cons
theorem MZ:type_of% @or_false:=@or_false
theorem M0:type_of% @List.length_nil:=@List.length_nil
theorem M1:type_of% @List.toList_toArray:=@List.toList_toArray
theorem M3:type_of% @Nat.le_of_ble_eq_true:=@Nat.le_of_ble_eq_true
theorem M4:type_of% @Int.toNat_natCast:=@Int.toNat_natCast
theorem M5:type_of% @List.getElem?_map:=@List.getElem?_map
theorem M6:type_of% @decide_eq_false_iff_not:=@decide_eq_false_iff_not
theorem M7:type_of% @cond_false:=@cond_false
theorem M8:type_of% @List.contains_eq_mem:=@List.contains_eq_mem
theorem M9:type_of% @Array.getElem?_eq_none:=@Array.getElem?_eq_none
theorem Na:type_of% @Array.getElem?_eq_getElem:=@Array.getElem?_eq_getElem
theorem Nb:type_of% @or_true:=@or_true
theorem Nc:type_of% @or_self:=@or_self
theorem Nd:type_of% @Option.bind_some:=@Option.bind_some
theorem Nf:type_of% @List.length_map:=@List.length_map
theorem Ng:type_of% @List.filter_append:=@List.filter_append
theorem Nh:type_of% @List.take_succ_cons:=@List.take_succ_cons
theorem Ni:type_of% @List.all_eq_true:=@List.all_eq_true
theorem Nj:type_of% @decide_eq_true_eq:=@decide_eq_true_eq
theorem Nk:type_of% @List.getD_eq_getElem?_getD:=@List.getD_eq_getElem?_getD
theorem Nl:type_of% @List.append_of_mem:=@List.append_of_mem
theorem Nm:type_of% @Nat.le_trans:=@Nat.le_trans
theorem Nn:type_of% @List.getElem?_drop:=@List.getElem?_drop
theorem No:type_of% @Nat.blt_eq:=@Nat.blt_eq
theorem Np:type_of% @List.mem_of_getElem?:=@List.mem_of_getElem?
theorem Nq:type_of% @List.set_cons_succ:=@List.set_cons_succ
theorem Nr:type_of% @Bool.not_false:=@Bool.not_false
theorem Ns:type_of% @List.mem_append:=@List.mem_append
theorem Nt:type_of% @Bool.or_eq_true:=@Bool.or_eq_true
theorem Nu:type_of% @Array.getElem?_setIfInBounds:=@Array.getElem?_setIfInBounds
theorem Nv:type_of% @List.getElem?_take_of_lt:=@List.getElem?_take_of_lt
theorem Nw:type_of% @List.set_cons_zero:=@List.set_cons_zero
theorem Nx:type_of% @List.all_cons:=@List.all_cons
theorem Ny:type_of% @Option.bind_none:=@Option.bind_none
theorem Nz:type_of% @Bool.false_eq_true:=@Bool.false_eq_true
theorem NA:type_of% @List.getElem?_set_self:=@List.getElem?_set_self
theorem NB:type_of% @and_true:=@and_true
theorem NC:type_of% @List.getElem?_append_left:=@List.getElem?_append_left
theorem ND:type_of% @Bool.and_true:=@Bool.and_true
theorem NF:type_of% @List.cons.injEq:=@List.cons.injEq
theorem NG:type_of% @Nat.zero_le:=@Nat.zero_le
theorem NH:type_of% @of_decide_eq_true:=@of_decide_eq_true
theorem NI:type_of% @Array.mem_of_getElem?:=@Array.mem_of_getElem?
theorem NJ:type_of% @List.mem_cons:=@List.mem_cons
theorem NK:type_of% @Bool.not_true:=@Bool.not_true
theorem NL:type_of% @List.take_nil:=@List.take_nil
theorem NM:type_of% @List.getElem?_append_right:=@List.getElem?_append_right
theorem NN:type_of% @Nat.lt_succ_self:=@Nat.lt_succ_self
theorem NO:type_of% @List.all_nil:=@List.all_nil
theorem NP:type_of% @List.drop_zero:=@List.drop_zero
theorem NQ:type_of% @List.eq_nil_of_length_eq_zero:=@List.eq_nil_of_length_eq_zero
theorem NR:type_of% @Array.length_toList:=@Array.length_toList
theorem NS:type_of% @List.getElem?_set_ne:=@List.getElem?_set_ne
theorem NT:type_of% @List.prefix_refl:=@List.prefix_refl
theorem NU:type_of% @List.length_set:=@List.length_set
theorem NV:type_of% @List.mem_range:=@List.mem_range
theorem NW:type_of% @List.filter_cons:=@List.filter_cons
theorem NX:type_of% @Option.map_some:=@Option.map_some
theorem NY:type_of% @List.mem_map:=@List.mem_map
theorem NZ:type_of% @List.mem_singleton:=@List.mem_singleton
theorem N0:type_of% @List.filter_congr:=@List.filter_congr
theorem N1:type_of% @List.ext_getElem?:=@List.ext_getElem?
theorem N2:type_of% @Int.tmod_eq_emod_of_nonneg:=@Int.tmod_eq_emod_of_nonneg
theorem N3:type_of% @Nat.mul_le_mul_right:=@Nat.mul_le_mul_right
theorem N4:type_of% @Nat.mul_one:=@Nat.mul_one
theorem N5:type_of% @Array.eq_empty_of_size_eq_zero:=@Array.eq_empty_of_size_eq_zero
theorem N6:type_of% @List.map_cons:=@List.map_cons
theorem N7:type_of% @Nat.le_succ:=@Nat.le_succ
theorem N8:type_of% @List.getElem?_toArray:=@List.getElem?_toArray
theorem N9:type_of% @Array.toArray_toList:=@Array.toArray_toList
theorem Oa:type_of% @beq_self_eq_true:=@beq_self_eq_true
theorem Ob:type_of% @Bool.true_and:=@Bool.true_and
theorem Oc:type_of% @List.mem_filter:=@List.mem_filter
theorem Od:type_of% @Array.getElem?_replicate:=@Array.getElem?_replicate
theorem Oe:type_of% @List.filter_filter:=@List.filter_filter
theorem Of:type_of% @Go.Value.slice.injEq:=@Go.Value.slice.injEq
theorem Og:type_of% @List.dropLast_concat:=@List.dropLast_concat
theorem Oh:type_of% @List.length_eq_zero_iff:=@List.length_eq_zero_iff
theorem Oi:type_of% @Option.bind_eq_some_iff:=@Option.bind_eq_some_iff
theorem Oj:type_of% @Go.Steps.trans:=@Go.Steps.trans
theorem Ok:type_of% @List.drop_succ_cons:=@List.drop_succ_cons
theorem Ol:type_of% @Option.getD_some:=@Option.getD_some
theorem Om:type_of% @Array.ext':=@Array.ext'
theorem On:type_of% @List.length_drop:=@List.length_drop
theorem Oo:type_of% @Nat.beq_refl:=@Nat.beq_refl
theorem Oq:type_of% @true_and:=@true_and
theorem Ot:type_of% @Nat.eq_zero_or_pos:=@Nat.eq_zero_or_pos
theorem Ou:type_of% @Bool.or_eq_false_iff:=@Bool.or_eq_false_iff
theorem Ov:type_of% @List.map_append:=@List.map_append
theorem Ow:type_of% @Nat.ble_eq:=@Nat.ble_eq
theorem Ox:type_of% @Nat.add_zero:=@Nat.add_zero
theorem Oy:type_of% @Nat.add_assoc:=@Nat.add_assoc
theorem Oz:type_of% @Nat.le_of_not_lt:=@Nat.le_of_not_lt
theorem OA:type_of% @Bool.not_eq_true:=@Bool.not_eq_true
theorem OB:type_of% @List.length_take:=@List.length_take
theorem OC:type_of% @Go.Addr.mk.injEq:=@Go.Addr.mk.injEq
theorem OD:type_of% @Go.Sem.run_ite:=@Go.Sem.run_ite
theorem OE:type_of% @List.filter_eq_nil_iff:=@List.filter_eq_nil_iff
theorem OF:type_of% @List.length_append:=@List.length_append
theorem OG:type_of% @Bool.false_ne_true:=@Bool.false_ne_true
theorem OH:type_of% @Nat.beq_eq:=@Nat.beq_eq
theorem OI:type_of% @Nat.lt_succ_of_lt:=@Nat.lt_succ_of_lt
theorem OJ:type_of% @List.tail_drop:=@List.tail_drop
theorem OK:type_of% @Nat.add_mul:=@Nat.add_mul
theorem OL:type_of% @Int.le_refl:=@Int.le_refl
theorem OM:type_of% @Nat.zero_mul:=@Nat.zero_mul
end Go
namespace Go.Ai
noncomputable section
inductive Tr (α:Type) where
 | e
 | n (v:Option α) (l r:Tr α)
namespace Tr
variable {α:Type}
def get (t:Tr α) (k:Nat):Option α :=
 @Tr.rec α (fun _=>Nat->Option α) (fun _=>none)
  (fun v _ _ gl gr k => @Bool.rec (fun _=>Option α) (@Bool.rec (fun _=>Option α) (gr (Nat.sub (Nat.div k 2) 1)) (gl (Nat.div k 2)) (Nat.beq (Nat.mod k 2) 1)) v (Nat.beq k 0)) t k
def dm (f:Nat):Tr α->Nat->Option α->Tr α :=
 @Nat.rec (fun _=>Tr α->Nat->Option α->Tr α) (fun t _ _=>t)
  (fun _ ih t k x => @Tr.rec α (fun _=>Tr α)
   (@Bool.rec (fun _=>Tr α) (@Bool.rec (fun _=>Tr α) (.n none .e (ih .e (Nat.sub (Nat.div k 2) 1) x)) (.n none (ih .e (Nat.div k 2) x) .e) (Nat.beq (Nat.mod k 2) 1)) (.n x .e .e) (Nat.beq k 0))
   (fun v l r _ _ => @Bool.rec (fun _=>Tr α) (@Bool.rec (fun _=>Tr α) (.n v l (ih r (Nat.sub (Nat.div k 2) 1) x)) (.n v (ih l (Nat.div k 2) x) r) (Nat.beq (Nat.mod k 2) 1)) (.n x l r) (Nat.beq k 0)) t) f
def set (t:Tr α) (k:Nat) (x:Option α):Tr α:=dm (Nat.succ k) t k x
@[simp] theorem Fv (k:Nat):(Tr.e:Tr α).get k=none:=rfl
theorem beq_false {a b:Nat} (h:a ≠ b):Nat.beq a b=false:=by
 cases e:Nat.beq a b
 ·rfl
 ·exact absurd (MQ e) h
theorem beq_true {a b:Nat} (h:a=b):Nat.beq a b=true:=by subst h;exact Oo a
theorem aO (v:Option α) (l r:Tr α) (k:Nat):(Tr.n v l r).get k=if k=0 then v else if k % 2=1 then l.get (k / 2) else r.get (k / 2 - 1):=by
 show @Bool.rec (fun _=>Option α) (@Bool.rec (fun _=>Option α) (r.get (k / 2 - 1)) (l.get (k / 2)) (Nat.beq (k % 2) 1)) v (Nat.beq k 0)=_
 by_cases h:k=0
 ·rw [beq_true h,MK h]
 ·rw [beq_false h,MJ h]
  by_cases h2:k % 2=1
  ·rw [beq_true h2,MK h2]
  ·rw [beq_false h2,MJ h2]
theorem G7 (f:Nat) (k:Nat) (x:Option α):dm (f + 1) .e k x=dm (f + 1) (.n none .e .e) k x:=rfl
theorem G8 (f:Nat) (v:Option α) (l r:Tr α) (k:Nat) (x:Option α) :
  dm (f + 1) (.n v l r) k x=if k=0 then .n x l r else if k % 2=1 then .n v (dm f l (k / 2) x) r else .n v l (dm f r (k / 2 - 1) x):=by
 show @Bool.rec (fun _=>Tr α) (@Bool.rec (fun _=>Tr α) (.n v l (dm f r (k / 2 - 1) x)) (.n v (dm f l (k / 2) x) r) (Nat.beq (k % 2) 1)) (.n x l r) (Nat.beq k 0)=_
 by_cases h:k=0
 ·rw [beq_true h,MK h]
 ·rw [beq_false h,MJ h]
  by_cases h2:k % 2=1
  ·rw [beq_true h2,MK h2]
  ·rw [beq_false h2,MJ h2]
theorem CO (f:Nat):∀ (t:Tr α) (k j:Nat) (x:Option α),k < f->(dm f t k x).get j=if j=k then x else t.get j:=by
 induction f with
 | zero=>intro t k j x h;omega
 | succ f ih=>
   have node:∀ (v:Option α) (l r:Tr α) (k j:Nat) (x:Option α),k < f + 1->(dm (f + 1) (.n v l r) k x).get j=if j=k then x else (Tr.n v l r).get j:=by
    intro v l r k j x h
    rw [G8]
    by_cases h0:k=0
    ·subst h0
     rw [MK rfl,aO,aO]
     by_cases hj:j=0
     ·simp [hj]
     ·simp [hj]
    ·rw [MJ h0]
     by_cases h1:k % 2=1
     ·rw [MK h1,aO,aO,ih _ _ _ _ (by omega)]
      by_cases hj:j=0
      ·subst hj;simp [Ne.symm h0]
      ·rw [MJ hj,MJ hj]
       by_cases hj2:j % 2=1
       ·rw [MK hj2,MK hj2]
        by_cases e:j=k
        ·subst e;simp
        ·rw [MJ e,MJ (by omega)]
       ·rw [MJ hj2,MJ hj2,MJ (by intro e;subst e;exact hj2 h1)]
     ·rw [MJ h1,aO,aO,ih _ _ _ _ (by omega)]
      by_cases hj:j=0
      ·subst hj;simp [Ne.symm h0]
      ·rw [MJ hj,MJ hj]
       by_cases hj2:j % 2=1
       ·rw [MK hj2,MK hj2,MJ (by intro e;subst e;exact h1 hj2)]
       ·rw [MJ hj2,MJ hj2]
        by_cases e:j=k
        ·subst e;simp
        ·rw [MJ e,MJ (by omega)]
   intro t k j x h
   cases t with
   | e=>
     rw [G7,node _ _ _ _ _ _ h]
     by_cases e:j=k
     ·simp [e]
     ·simp only [MJ e,aO,Fv];split <;> (try split) <;> rfl
   | n v l r=>exact node v l r k j x h
theorem yo (t:Tr α) (k j:Nat) (x:Option α):(t.set k x).get j=if j=k then x else t.get j :=
 CO (k + 1) t k j x (NN k)
def ofList (t:Tr α) (i:Nat):List α->Tr α
 | []=>t
 | a :: l=>ofList (t.set i (some a)) (i + 1) l
theorem pB (l:List α):∀ (t:Tr α) (i j:Nat),(ofList t i l).get j=if i<=j/\j < i + l.length then l[j - i]? else t.get j:=by
 induction l with
 | nil=>intro t i j;simp [ofList];omega
 | cons a l ih=>
   intro t i j
   rw [ofList,ih,yo]
   by_cases h:j=i
   ·subst h
    rw [MJ (by omega),MK rfl,MK (by simp),Nat.sub_self];rfl
   ·by_cases h2:i + 1<=j/\j < i + 1 + l.length
    ·rw [MK h2,MK (by simp;omega)]
     have:j - i=(j - (i + 1)) + 1:=by omega
     rw [this];rfl
    ·rw [MJ h2,MJ h,MJ (by simp;omega)]
end Tr
structure Env where
 t:Tr Value
 size:Nat
def Env.get (s:Env) (i:Nat):Value := @Option.rec Value (fun _=>Value) undef (fun v=>v) (s.t.get i)
theorem Env.get_eq (s:Env) (i:Nat):s.get i=(s.t.get i).getD undef:=by
 unfold Env.get
 cases s.t.get i <;> rfl
def Env.set (s:Env) (i:Nat) (v:Value):Env := @Env.rec (fun _=>Env) (fun t n=>⟨t.set i (some v),n⟩) s
theorem Env.I4 (s:Env) (i:Nat) (v:Value):(s.set i v).t=s.t.set i (some v):=rfl
def Env.put (s:Env) (d:Option Nat) (v:Value):Option Env :=
 match d with
 | none=>some s
 | some d=>cond (Nat.blt d s.size) (some (s.set d v)) none
theorem Env.yo (s:Env) (i j:Nat) (v:Value):(s.set i v).get j=if j=i then v else s.get j:=by
 simp only [Env.get_eq,Env.I4,Tr.yo];split <;> rfl
@[simp] theorem Env.size_set (s:Env) (i:Nat) (v:Value):(s.set i v).size=s.size:=rfl
def sU {α:Type} (n:Nat) (f:Nat->α):α := @Nat.rec (fun _=>α) (f 0) (fun m _=>f (Nat.succ m)) n
theorem rm {α:Type} (n:Nat) (f:Nat->α):sU n f=f n:=by cases n <;> rfl
def Env.enter (args:List Value) (n:Nat):Env:=sU (max args.length n) fun k=>{ t:=Tr.ofList .e 0 args,size:=k }
theorem Env.mE (args:List Value) (n:Nat):Env.enter args n = { t:=Tr.ofList .e 0 args,size:=max args.length n }:=rm _ _
theorem Env.Az (args:List Value) (n j:Nat):(Env.enter args n).get j=(args[j]?).getD undef:=by
 simp only [Env.get_eq,Env.mE,Tr.pB,Tr.Fv]
 by_cases h:j < args.length
 ·rw [MK (by omega)];rfl
 ·rw [MJ (by omega),MO (by omega)]
structure W7 where
 state:LoopState
 pending:Option Code
 s:Env
 params:Array Tmp
 assign:Code
 body:Code
inductive xS where
 | cells (c:List Value) (elem:TypeId)
 | map (es:List (Value × Value × Nat)) (clock:Nat)
 | iter (m:Option Nat) (since:Nat) (seen:List Nat) (last:Nat)
 | siter (s:ByteArray) (pos:Nat)
 | tab (c:List Value)
 | loop (l:W7)
structure za where
 t:Tr xS
 next:Nat
 ro:Nat
def za.get (h:za) (b:Nat):Option xS:=h.t.get b
def za.set (h:za) (b:Nat) (o:Option xS):za := @za.rec (fun _=>za) (fun t n r=>⟨t.set b o,n,r⟩) h
def za.push (h:za) (o:xS):za := @za.rec (fun _=>za) (fun t n r=>⟨t.set n (some o),Nat.succ n,r⟩) h
theorem za.yo (h:za) (b c:Nat) (o:Option xS):(h.set b o).get c=if c=b then o else h.get c:=Tr.yo _ _ _ _
theorem za.wN (h:za) (c:Nat) (o:xS):(h.push o).get c=if c=h.next then some o else h.get c:=Tr.yo _ _ _ _
@[simp] theorem za.Ip (h:za) (b:Nat) (o:Option xS):(h.set b o).next=h.next:=rfl
@[simp] theorem za.L5 (h:za) (b:Nat) (o:Option xS):(h.set b o).ro=h.ro:=rfl
@[simp] theorem za.WY (h:za) (o:xS):(h.push o).next=h.next + 1:=rfl
@[simp] theorem za.Li (h:za) (o:xS):(h.push o).ro=h.ro:=rfl
def za.lock (h:za):za := @za.rec (fun _=>za) (fun t n _=>⟨t,n,n⟩) h
structure Place where
 c:Nat
 base:Nat
 size:Nat
 sr:Nat
structure yP where
 next:Nat
 m:Nat->Option Place
def Ht (pl:Place) (off cap:Nat) (c:Nat):Prop:=c ≠ 0->off + cap * pl.sr<=pl.size /\ ∀ k,c=k + 2->cap=k
def bot:Value := .complex .f32 0 0
def iN:Value->Bool
 | .bool _ | .agg _ | .tuple _=>false
 | _=>true
inductive zD (ρ:yP):Value->Value->Prop
 | iN {v:Value} (h:iN v=true):zD ρ bot v
 | bool (b:Bool):zD ρ (.bool b) (.bool b)
 | int (k:IntKind) (n:Int):zD ρ (.int k n) (.int k n)
 | float (k:FloatKind) (n:Nat):zD ρ (.float k n) (.float k n)
 | string (s:ByteArray):zD ρ (.string s) (.string s)
 | ptrNil:zD ρ (.pointer none) (.pointer none)
 | ptr {b off:Nat} {pl:Place} (hb:b < ρ.next) (hm:ρ.m b=some pl):zD ρ (.pointer (some ⟨b,off,none⟩)) (.pointer (some ⟨pl.c,pl.base + off,none⟩))
 | kx {g off:Nat}:zD ρ (.pointer (some ⟨g,off,some 0⟩)) (.pointer (some ⟨g,off,none⟩))
 | sliceNil (c:Nat):zD ρ (.slice none 0 c) (.slice none 0 0)
 | slice {b off len c cap:Nat} {pl:Place} (hb:b < ρ.next) (hm:ρ.m b=some pl) (hl:len<=cap) (hc:Ht pl (pl.base + off) cap c) :
   zD ρ (.slice (some ⟨b,off,none⟩) len c) (.slice (some ⟨pl.c,pl.base + off,none⟩) len cap)
 | sliceOut {b off c:Nat} {a:Addr} (hb:b < ρ.next) (hc:c<=2):zD ρ (.slice (some ⟨b,off,none⟩) 0 c) (.slice (some a) 0 0)
 | nilFunc:zD ρ .nilFunc .nilFunc
 | nilIface:zD ρ .nilIface .nilIface
 | mapNil:zD ρ (.map none) (.map none)
 | map {b:Nat} {pl:Place} (hb:b < ρ.next) (hm:ρ.m b=some pl):zD ρ (.map (some b)) (.map (some pl.c))
 | yield {b:Nat} {pl:Place} (hb:b < ρ.next) (hm:ρ.m b=some pl):zD ρ (.func (.yield b) #[] #[]) (.func (.yield pl.c) #[] #[])
 | iface {t:TypeId} {x y:Value} (h:zD ρ x y):zD ρ (.iface t x) (.iface t y)
 | func {f:FuncId} {a c a' c':Array Value} (ha:a.size=a'.size) (hc:c.size=c'.size)
   (h:∀ (i:Nat) x y,a[i]? = some x->a'[i]? = some y->zD ρ x y) (h':∀ (i:Nat) x y,c[i]? = some x->c'[i]? = some y->zD ρ x y):zD ρ (.func (.func f) a c) (.func (.func f) a' c')
 | agg {a a':Array Value} (ha:a.size=a'.size) (h:∀ (i:Nat) x y,a[i]? = some x->a'[i]? = some y->zD ρ x y):zD ρ (.agg a) (.agg a')
 | tuple {a a':Array Value} (ha:a.size=a'.size) (h:∀ (i:Nat) x y,a[i]? = some x->a'[i]? = some y->zD ρ x y):zD ρ (.tuple a) (.tuple a')
def yP.le (ρ ρ':yP):Prop:=ρ.next<=ρ'.next /\ ∀ b,b < ρ.next->ρ'.m b=ρ.m b
theorem yP.le_refl (ρ:yP):ρ.le ρ:=⟨MI _,fun _ _=>rfl⟩
theorem yP.le_trans {a b c:yP} (h:a.le b) (k:b.le c):a.le c:=⟨Nm h.1 k.1,fun x hx=>(k.2 x (ML hx h.1)).trans (h.2 x hx)⟩
theorem zD.mono {ρ ρ':yP} (hle:ρ.le ρ') {v v':Value} (h:zD ρ v v'):zD ρ' v v':=by
 induction h with
 | iN h=>exact .iN h
 | bool b=>exact .bool b
 | int k n=>exact .int k n
 | float k n=>exact .float k n
 | string s=>exact .string s
 | ptrNil=>exact .ptrNil
 | ptr hb hm=>exact .ptr (ML hb hle.1) ((hle.2 _ hb).trans hm)
 | kx=>exact .kx
 | sliceNil c=>exact .sliceNil c
 | slice hb hm hl hc=>exact .slice (ML hb hle.1) ((hle.2 _ hb).trans hm) hl hc
 | sliceOut hb hc=>exact .sliceOut (ML hb hle.1) hc
 | nilFunc=>exact .nilFunc
 | nilIface=>exact .nilIface
 | mapNil=>exact .mapNil
 | map hb hm=>exact .map (ML hb hle.1) ((hle.2 _ hb).trans hm)
 | yield hb hm=>exact .yield (ML hb hle.1) ((hle.2 _ hb).trans hm)
 | iface _ ih=>exact .iface ih
 | func ha hc _ _ ih ih'=>exact .func ha hc ih ih'
 | agg ha _ ih=>exact .agg ha ih
 | tuple ha _ ih=>exact .tuple ha ih
def xp (ρ:yP) (xs ys:List Value):Prop:=xs.length=ys.length /\ ∀ (i:Nat) x y,xs[i]? = some x->ys[i]? = some y->zD ρ x y
theorem xp.nil (ρ:yP):xp ρ [] []:=⟨rfl,fun i x y h=>by simp at h⟩
theorem xp.cons {ρ:yP} {x y:Value} {xs ys:List Value} (h:zD ρ x y) (hs:xp ρ xs ys):xp ρ (x :: xs) (y :: ys) :=
 ⟨by simp [hs.1],fun i a b ha hb=>by
  cases i with
  | zero=>simp at ha hb;subst ha hb;exact h
  | succ i=>exact hs.2 i a b (by simpa using ha) (by simpa using hb)⟩
theorem xp.cons_inv {ρ:yP} {x:Value} {xs ys:List Value} (h:xp ρ (x :: xs) ys):∃ y ys',ys=y :: ys'/\zD ρ x y/\xp ρ xs ys':=by
 cases ys with
 | nil=>simp [xp] at h
 | cons y ys=>exact ⟨y,ys,rfl,h.2 0 x y rfl rfl,by simpa using h.1,fun i a b ha hb=>h.2 (i + 1) a b (by simpa using ha) (by simpa using hb)⟩
theorem xp.wX {ρ:yP} {ys:List Value} (h:xp ρ [] ys):ys = []:=by
 have:=h.1;simp at this;exact NQ this.symm
theorem xp.mono {ρ ρ':yP} (hle:ρ.le ρ') {xs ys:List Value} (h:xp ρ xs ys):xp ρ' xs ys:=⟨h.1,fun i x y hx hy=>(h.2 i x y hx hy).mono hle⟩
theorem xp.append {ρ:yP} {a b c d:List Value} (h:xp ρ a b) (k:xp ρ c d):xp ρ (a ++ c) (b ++ d):=by
 refine ⟨by simp [h.1,k.1],fun i x y hx hy => ?_⟩
 by_cases hi:i < a.length
 ·rw [NC hi] at hx
  rw [NC (by rw [<- h.1];exact hi)] at hy
  exact h.2 i x y hx hy
 ·rw [NM (by omega)] at hx
  rw [NM (by rw [<- h.1];omega),<- h.1] at hy
  exact k.2 _ x y hx hy
theorem xp.get {ρ:yP} {xs ys:List Value} (h:xp ρ xs ys) {i:Nat} {x:Value} (hx:xs[i]? = some x):∃ y,ys[i]? = some y/\zD ρ x y:=by
 have hi:i < xs.length:=by
  rcases MX i xs.length with h | h
  ·exact h
  ·rw [MO h] at hx;cases hx
 have hj:i < ys.length:=h.1 ▸ hi
 exact ⟨ys[i],MF hj,h.2 i x _ hx (MF hj)⟩
def plain:Value->Bool
 | .bool _ | .int _ _ | .float _ _ | .string _ | .pointer none | .nilFunc | .nilIface | .map none=>true
 | .slice none n c=>Nat.beq n 0 && Nat.beq c 0
 | .func (.func _) a c=>Nat.beq a.size 0 && Nat.beq c.size 0
 | .tuple a=>Nat.beq a.size 0
 | _=>false
theorem Ym {a:Array Value} (h:Nat.beq a.size 0=true):a = #[]:=N5 (MQ h)
theorem zD.qD (ρ:yP) {v:Value} (h:plain v=true):zD ρ v v:=by
 cases v with
 | bool b=>exact .bool _
 | int k n=>exact .int _ _
 | float k n=>exact .float _ _
 | string s=>exact .string _
 | nilFunc=>exact .nilFunc
 | nilIface=>exact .nilIface
 | pointer a=>cases a <;> first | exact .ptrNil | cases h
 | map a=>cases a <;> first | exact .mapNil | cases h
 | slice a n c=>
   cases a with
   | some a=>cases h
   | none=>
     simp only [plain,MG] at h
     obtain rfl:=MQ h.1
     obtain rfl:=MQ h.2
     exact .sliceNil _
 | func f a c=>
   cases f with
   | func f=>
     simp only [plain,MG] at h
     obtain rfl:=Ym h.1
     obtain rfl:=Ym h.2
     exact .func rfl rfl (fun i x y hx=>by simp at hx) (fun i x y hx=>by simp at hx)
   | _=>cases h
 | tuple a=>
   obtain rfl:=Ym h
   exact .tuple rfl (fun i x y hx=>by simp at hx)
 | _=>cases h
def xE:Value->Bool
 | .agg _ | .tuple _=>false
 | _=>true
theorem J3 {ρ:yP} {v v':Value} (h:zD ρ v v'):xE v'=xE v:=by
 cases h with
 | iN h=>cases v' <;> first | rfl | cases h
 | _=>rfl
def yT (P:Program) (ρ:yP) (wr:Bool) (c:List Value) (elem:TypeId) (pl:Place) (w:World):Prop :=
 ∃ cs fz,w.heap[pl.c]? = some (.cells cs elem fz)/\cs.size=pl.size/\(pl.sr=P.cellsOf elem/\pl.base % pl.sr=0)/\pl.base + c.length<=cs.size /\
   (wr=true->∀ i,i < pl.size->¬(fz.1<=i/\i < fz.2)) /\ ∀ i x,c[i]? = some x->∃ y,cs[pl.base + i]? = some y/\zD ρ x y
structure wA (ρ:yP) (s:Env) (tm:Array Value):Prop where
 size:s.size=tm.size
 get:∀ i,zD ρ (s.get i) (tm.getD i undef)
theorem wA.mono {ρ ρ':yP} (hle:ρ.le ρ') {s:Env} {tm:Array Value} (h:wA ρ s tm):wA ρ' s tm:=⟨h.size,fun i=>(h.get i).mono hle⟩
def Hv (ρ:yP) (es:List (Value × Value × Nat)) (clock:Nat) (pl:Place) (w:World):Prop :=
 ∃ ms,w.heap[pl.c]? = some (.map ms clock)/\ms.size=es.length /\ ∀ (i:Nat) x m,es[i]? = some x->ms[i]? = some m->zD ρ x.1 m.key/\zD ρ x.2.1 m.val/\m.born=x.2.2
def FT (ρ:yP) (m:Option Nat) (since:Nat) (seen:List Nat) (last:Nat) (pl:Place) (w:World):Prop :=
 ∃ m',w.heap[pl.c]? = some (.mapIter m' since seen.toArray last)/\pl.base=0/\zD ρ (.map m) (.map m')
def FU (ρ:yP) (l:W7) (pl:Place) (w:World):Prop :=
 ∃ tm d fn,w.heap[pl.c]? = some (.loop { state:=l.state,pending:=l.pending,fn:=fn,tmps:=tm,params:=l.params,assign:=l.assign,body:=l.body,defers:=d })/\wA ρ l.s tm
def wE (P:Program) (ρ:yP) (wr:Bool) (o:xS) (pl:Place) (w:World):Prop :=
 match o with
 | .cells c t=>yT P ρ wr c t pl w
 | .map es q=>Hv ρ es q pl w
 | .iter m since seen last=>FT ρ m since seen last pl w
 | .siter s pos=>w.heap[pl.c]? = some (.stringIter s pos)/\pl.base=0
 | .tab c => ∃ t,yT P ρ false c t { pl with sr:=P.cellsOf t } w
 | .loop l=>FU ρ l pl w
structure Rel (P:Program) (ρ:yP) (h:za) (w:World):Prop where
 next:ρ.next=h.next
 ro:h.ro<=h.next
 XU:∀ b o,h.get b=some o->b < h.next
 ok:∀ b o,h.get b=some o->∃ pl,ρ.m b=some pl/\wE P ρ (decide (h.ro<=b)) o pl w
 inj:∀ b1 b2 o1 o2 p1 p2,h.get b1=some o1->h.get b2=some o2->ρ.m b1=some p1->ρ.m b2=some p2->p1.c=p2.c->b1=b2
 QO:P.globals.size<=h.ro
 kx:∀ b pl,b < P.globals.size->ρ.m b=some pl->pl.c=b/\pl.base=0
def VY (ρ:yP) (h:za) (c:Nat):Prop := ∃ b o pl,h.get b=some o/\h.ro<=b/\ρ.m b=some pl/\pl.c=c
structure Step (P:Program) (ρ:yP) (h:za) (w:World) (ρ':yP) (h':za) (w':World):Prop where
 le:ρ.le ρ'
 rel:Rel P ρ' h' w'
 ro:h'.ro=h.ro
 os:w'.os=w.os
 tape:w'.tape=w.tape
 output:w'.output=w.output
 size:w.heap.size<=w'.heap.size
 frame:∀ c,c < w.heap.size->¬ VY ρ h c->w'.heap[c]? = w.heap[c]?
 KI:∀ c,c < w.heap.size->VY ρ' h' c->VY ρ h c
theorem Step.refl {P:Program} {ρ:yP} {h:za} {w:World} (hr:Rel P ρ h w):Step P ρ h w ρ h w :=
 ⟨yP.le_refl _,hr,rfl,rfl,rfl,rfl,MI _,fun _ _ _=>rfl,fun _ _ h=>h⟩
theorem Step.trans {P:Program} {ρ ρ' ρ'':yP} {h h' h'':za} {w w' w'':World} (a:Step P ρ h w ρ' h' w') (b:Step P ρ' h' w' ρ'' h'' w'') :
  Step P ρ h w ρ'' h'' w'' :=
 ⟨yP.le_trans a.le b.le,b.rel,b.ro.trans a.ro,b.os.trans a.os,b.tape.trans a.tape,b.output.trans a.output,Nm a.size b.size,
  fun c hc hn=>(b.frame c (ML hc a.size) (fun hm=>hn (a.KI c hc hm))).trans (a.frame c hc hn),
  fun c hc hm=>a.KI c hc (b.KI c (ML hc a.size) hm)⟩
def vC (tm:Array Value) (d:Option Nat) (v:Value):Array Value :=
 match d with
 | some d=>tm.setIfInBounds d v
 | none=>tm
theorem wA.put {ρ:yP} {s s':Env} {tm:Array Value} {d:Option Nat} {v v':Value} (h:wA ρ s tm) (hv:zD ρ v v') (hp:s.put d v=some s') :
  wA ρ s' (vC tm d v'):=by
 cases d with
 | none=>simp only [Env.put,My] at hp;subst hp;exact h
 | some d=>
   simp only [Env.put] at hp
   cases hb:Nat.blt d s.size with
   | false=>rw [hb] at hp;cases hp
   | true=>
     rw [hb] at hp
     simp only [MV,My] at hp
     subst hp
     have hd:d < s.size:=by simpa [No] using hb
     refine ⟨by simp [vC,h.size],fun i => ?_⟩
     rw [Env.yo]
     simp only [vC]
     by_cases e:i=d
     ·subst e
      rw [MK rfl]
      have:(tm.setIfInBounds i v').getD i undef=v':=by
       simp [MW,<- h.size,hd]
      rw [this];exact hv
     ·rw [MJ e]
      have:(tm.setIfInBounds d v').getD i undef=tm.getD i undef:=by
       simp [MW,Ne.symm e]
      rw [this];exact h.get i
end
end Go.Ai
namespace Go.Ai
noncomputable section
variable {P:Program}
theorem Rel.place {ρ:yP} {h:za} {w:World} (hr:Rel P ρ h w) {b:Nat} {c:List Value} {t:TypeId} {pl:Place} (hg:h.get b=some (.cells c t)) (hm:ρ.m b=some pl) :
  yT P ρ (decide (h.ro<=b)) c t pl w:=by
 obtain ⟨pl',hm',hc⟩:=hr.ok b _ hg
 rw [hm] at hm'
 cases hm'
 exact hc
theorem Rel.cells {ρ:yP} {h:za} {w:World} (hr:Rel P ρ h w) (b:Nat) (c:List Value) (t:TypeId) (hg:h.get b=some (.cells c t)):∃ pl,ρ.m b=some pl/\yT P ρ (decide (h.ro<=b)) c t pl w:=hr.ok b _ hg
theorem Rel.C9 {ρ:yP} {h:za} {w:World} (hr:Rel P ρ h w) {b:Nat} {o:xS} {pl:Place} (hg:h.get b=some o) (hm:ρ.m b=some pl):wE P ρ (decide (h.ro<=b)) o pl w:=by
 obtain ⟨pl',hm',hc⟩:=hr.ok b _ hg
 rw [hm] at hm'
 cases hm'
 exact hc
theorem yT.cell {ρ:yP} {wr:Bool} {c:List Value} {t:TypeId} {pl:Place} {w:World} (hc:yT P ρ wr c t pl w) {i:Nat} {x:Value} (hx:c[i]? = some x) :
  ∃ y,w.cell? ⟨pl.c,pl.base + i,none⟩=some y/\zD ρ x y:=by
 obtain ⟨cs,fz,hb,_,_,_,_,hv⟩:=hc
 obtain ⟨y,hy,hxy⟩:=hv i x hx
 exact ⟨y,by simp [World.cell?,hb,hy],hxy⟩
theorem yT.DB {ρ:yP} {c:List Value} {t:TypeId} {pl:Place} {w:World} (hc:yT P ρ true c t pl w) {i:Nat} (hi:i < pl.size) :
  w.frozen? ⟨pl.c,i,none⟩=false:=by
 obtain ⟨cs,fz,hb,_,_,_,hf,_⟩:=hc
 have:=hf rfl i hi
 obtain ⟨lo,hi'⟩:=fz
 simp [World.frozen?,hb] at this ⊢
 exact this
theorem yT.other {ρ:yP} {wr:Bool} {c:List Value} {t:TypeId} {pl:Place} {w w':World} (hc:yT P ρ wr c t pl w) (hb:w'.heap[pl.c]? = w.heap[pl.c]?):yT P ρ wr c t pl w':=by
 obtain ⟨cs,fz,h1,h2⟩:=hc
 exact ⟨cs,fz,hb.trans h1,h2⟩
theorem yT.mono {ρ ρ':yP} (hle:ρ.le ρ') {wr:Bool} {c:List Value} {t:TypeId} {pl:Place} {w:World} (hc:yT P ρ wr c t pl w):yT P ρ' wr c t pl w:=by
 obtain ⟨cs,fz,h1,h2,h3,h4,h5,h6⟩:=hc
 exact ⟨cs,fz,h1,h2,h3,h4,h5,fun i x hx=>by obtain ⟨y,hy,hv⟩:=h6 i x hx;exact ⟨y,hy,hv.mono hle⟩⟩
theorem yT.lt {ρ:yP} {wr:Bool} {c:List Value} {t:TypeId} {pl:Place} {w:World} (hc:yT P ρ wr c t pl w):pl.c < w.heap.size:=by
 obtain ⟨cs,fz,h1,_⟩:=hc
 rcases MX pl.c w.heap.size with h | h
 ·exact h
 ·rw [M9 h] at h1;cases h1
theorem yT.Bb {ρ:yP} {c:List Value} {t:TypeId} {pl:Place} {w:World} {wr wr':Bool} (hw:wr'=true->wr=true) (hc:yT P ρ wr c t pl w):yT P ρ wr' c t pl w:=by
 obtain ⟨cs,fz,h1,h2,h3,h4,h5,h6⟩:=hc
 exact ⟨cs,fz,h1,h2,h3,h4,fun e=>h5 (hw e),h6⟩
theorem wE.other {ρ:yP} {wr:Bool} {o:xS} {pl:Place} {w w':World} (hc:wE P ρ wr o pl w) (hb:w'.heap[pl.c]? = w.heap[pl.c]?):wE P ρ wr o pl w':=by
 cases o with
 | cells c t=>exact yT.other hc hb
 | map es q=>obtain ⟨ms,h1,h2⟩:=hc;exact ⟨ms,hb.trans h1,h2⟩
 | iter m a b c=>obtain ⟨m',h1,h2⟩:=hc;exact ⟨m',hb.trans h1,h2⟩
 | siter s pos=>exact ⟨hb.trans hc.1,hc.2⟩
 | tab c=>obtain ⟨t,h1⟩:=hc;exact ⟨t,yT.other h1 hb⟩
 | loop l=>obtain ⟨tm,d,fn,h1,h2⟩:=hc;exact ⟨tm,d,fn,hb.trans h1,h2⟩
theorem wE.mono {ρ ρ':yP} (hle:ρ.le ρ') {wr:Bool} {o:xS} {pl:Place} {w:World} (hc:wE P ρ wr o pl w):wE P ρ' wr o pl w:=by
 cases o with
 | cells c t=>exact yT.mono hle hc
 | map es q=>obtain ⟨ms,h1,h2,h3⟩:=hc;exact ⟨ms,h1,h2,fun i x m hx hm=>⟨(h3 i x m hx hm).1.mono hle,(h3 i x m hx hm).2.1.mono hle,(h3 i x m hx hm).2.2⟩⟩
 | iter m a b c=>obtain ⟨m',h1,h0,h2⟩:=hc;exact ⟨m',h1,h0,h2.mono hle⟩
 | tab c=>obtain ⟨t,h1⟩:=hc;exact ⟨t,yT.mono hle h1⟩
 | siter s pos=>exact hc
 | loop l=>obtain ⟨tm,d,fn,h1,h2⟩:=hc;exact ⟨tm,d,fn,h1,h2.mono hle⟩
theorem k8 {w:World} {r:Nat} {o:Obj} (h:w.heap[r]? = some o):r < w.heap.size:=by
 rcases MX r w.heap.size with hl | hl
 ·exact hl
 ·rw [M9 hl] at h;cases h
theorem wE.lt {ρ:yP} {wr:Bool} {o:xS} {pl:Place} {w:World} (hc:wE P ρ wr o pl w):pl.c < w.heap.size:=by
 cases o with
 | cells c t=>exact yT.lt hc
 | map es q=>obtain ⟨ms,h1,_⟩:=hc;exact k8 h1
 | iter m a b c=>obtain ⟨m',h1,_⟩:=hc;exact k8 h1
 | siter s pos=>exact k8 hc.1
 | tab c=>obtain ⟨t,h1⟩:=hc;exact h1.lt
 | loop l=>obtain ⟨tm,d,fn,h1,_⟩:=hc;exact k8 h1
theorem wE.Bb {ρ:yP} {o:xS} {pl:Place} {w:World} {wr wr':Bool} (hw:wr'=true->wr=true) (hc:wE P ρ wr o pl w):wE P ρ wr' o pl w:=by
 cases o with
 | cells c t=>exact yT.Bb hw hc
 | map es q=>exact hc
 | tab c=>exact hc
 | iter m a b c=>exact hc
 | siter s pos=>exact hc
 | loop l=>exact hc
theorem Rel.drop {ρ:yP} {h:za} {w:World} (hr:Rel P ρ h w) (b:Nat):Rel P ρ (h.set b none) w:=by
 have hsub:∀ x o,(h.set b none).get x=some o->h.get x=some o:=by
  intro x o hx
  rw [za.yo] at hx
  split at hx
  ·cases hx
  ·exact hx
 exact ⟨hr.next,hr.ro,fun x o hx=>hr.XU x o (hsub x o hx),fun x o hx=>hr.ok x o (hsub x _ hx),
  fun b1 b2 o1 o2 p1 p2 h1 h2=>hr.inj b1 b2 o1 o2 p1 p2 (hsub _ _ h1) (hsub _ _ h2),hr.QO,hr.kx⟩
theorem Step.pZ {ρ:yP} {h:za} {w w':World} (hr:Rel P ρ h w) {b:Nat} {ob ob':xS} {pl:Place} (hg:h.get b=some ob) (hm:ρ.m b=some pl) (hro:h.ro<=b)
  (hok:wE P ρ true ob' pl w') (hos:w'.os=w.os) (htape:w'.tape=w.tape) (hout:w'.output=w.output) (hsz:w'.heap.size=w.heap.size)
  (hfr:∀ k,k ≠ pl.c->w'.heap[k]? = w.heap[k]?):Step P ρ h w ρ (h.set b (some ob')) w':=by
 have hold:∀ x o,(h.set b (some ob')).get x=some o->∃ o',h.get x=some o':=by
  intro x o hx
  rw [za.yo] at hx
  split at hx
  ·rename_i e;subst e;exact ⟨_,hg⟩
  ·exact ⟨o,hx⟩
 refine ⟨yP.le_refl _,⟨hr.next,hr.ro,?_,?_,?_,hr.QO,hr.kx⟩,rfl,hos,htape,hout,by omega,?_,?_⟩
 ·intro x o hx
  obtain ⟨o',ho'⟩:=hold x o hx
  exact hr.XU x o' ho'
 ·intro x ox hx
  rw [za.yo] at hx
  split at hx
  ·rename_i e;subst e;cases hx;exact ⟨pl,hm,hok.Bb (fun _=>rfl)⟩
  ·rename_i e
   obtain ⟨p,hp,hc⟩:=hr.ok x ox hx
   refine ⟨p,hp,hc.other (hfr _ ?_)⟩
   intro e2
   exact e (hr.inj x b _ _ p pl hx hg hp hm e2)
 ·intro b1 b2 o1 o2 p1 p2 h1 h2
  obtain ⟨o1',h1'⟩:=hold _ _ h1
  obtain ⟨o2',h2'⟩:=hold _ _ h2
  exact hr.inj b1 b2 o1' o2' p1 p2 h1' h2'
 ·intro k hk hn
  refine hfr k ?_
  intro e
  exact hn ⟨b,_,pl,hg,hro,hm,e.symm⟩
 ·rintro k hk ⟨x,o,p,hx,hrx,hp,hpc⟩
  obtain ⟨o',ho'⟩:=hold x o hx
  exact ⟨x,o',p,ho',hrx,hp,hpc⟩
theorem Step.write {ρ:yP} {h:za} {w w':World} (hr:Rel P ρ h w) {b:Nat} {c c':List Value} {t:TypeId} {pl:Place} (hg:h.get b=some (.cells c t)) (hm:ρ.m b=some pl) (hro:h.ro<=b)
  (hok:yT P ρ true c' t pl w') (hos:w'.os=w.os) (htape:w'.tape=w.tape) (hout:w'.output=w.output) (hsz:w'.heap.size=w.heap.size)
  (hfr:∀ k,k ≠ pl.c->w'.heap[k]? = w.heap[k]?):Step P ρ h w ρ (h.set b (some (.cells c' t))) w' :=
 Step.pZ hr hg hm hro (ob' := .cells c' t) hok hos htape hout hsz hfr
theorem size_setCell (w:World) (a:Addr) (v:Value):(w.setCell a v).heap.size=w.heap.size:=by simp [World.setCell]
theorem XW (w:World) (a:Addr) (v:Value) (k:Nat) (h:k ≠ a.block):(w.setCell a v).heap[k]? = w.heap[k]?:=RowKit.Below.heap_setCell w a v k h
theorem yT.setCell {ρ:yP} {wr:Bool} {c:List Value} {t:TypeId} {pl:Place} {w:World} (hc:yT P ρ wr c t pl w) {i:Nat} {v v':Value} (hi:i < c.length) (hv:zD ρ v v') :
  yT P ρ wr (c.set i v) t pl (w.setCell ⟨pl.c,pl.base + i,none⟩ v'):=by
 obtain ⟨cs,fz,h1,h2,h3,h4,h5,h6⟩:=hc
 refine ⟨cs.setIfInBounds (pl.base + i) v',fz,?_,by simpa using h2,h3,by simpa using h4,h5,?_⟩
 ·simp [World.setCell,Array.getElem?_modify,h1]
 ·intro j x hx
  by_cases e:j=i
  ·subst e
   rw [NA hi] at hx
   cases hx
   exact ⟨v',by rw [Nu,MK rfl,MK (by omega)],hv⟩
  ·rw [NS (fun h=>e h.symm)] at hx
   obtain ⟨y,hy,hxy⟩:=h6 j x hx
   exact ⟨y,by rw [Nu,MJ (by omega)];exact hy,hxy⟩
theorem bY {ρ:yP} {h:za} {w:World} (hr:Rel P ρ h w) {b:Nat} {c:List Value} {t:TypeId} {pl:Place} (hg:h.get b=some (.cells c t)) (hm:ρ.m b=some pl) (hro:h.ro<=b)
  {i:Nat} (hi:i < c.length) {v v':Value} (hv:zD ρ v v') (hcell:xE v=true) :
  (store ⟨pl.c,pl.base + i,none⟩ v').run P w = .ok () (w.setCell ⟨pl.c,pl.base + i,none⟩ v') /\
   Step P ρ h w ρ (h.set b (some (.cells (c.set i v) t))) (w.setCell ⟨pl.c,pl.base + i,none⟩ v'):=by
 have hc:=hr.place hg hm
 rw [show decide (h.ro<=b)=true by simpa using hro] at hc
 obtain ⟨y,hy,_⟩:=hc.cell (i:=i) (MF hi)
 have hsz:pl.base + i < pl.size:=by obtain ⟨cs,fz,_,h2,_,h4,_⟩:=hc;omega
 have hone:v'.oneCell'=true:=by have:=J3 hv;rw [hcell] at this;cases v' <;> simp_all [xE,Value.oneCell']
 refine ⟨?_,Step.write hr hg hm hro (hc.setCell hi hv) rfl rfl rfl (size_setCell _ _ _) (fun k hk=>XW _ _ _ _ hk)⟩
 rw [run_store _ _ _ _ _ hone,hy]
 simp [hc.DB hsz]
def ze (c:List Value) (i:Nat):List Value->List Value
 | []=>c
 | v :: vs=>ze (c.set i v) (i + 1) vs
theorem uU (vs:List Value):∀ (c:List Value) (i:Nat),(ze c i vs).length=c.length:=by
 induction vs with
 | nil=>intro c i;rfl
 | cons v vs ih=>intro c i;simp [ze,ih]
theorem za.set_set (h:za) (b:Nat) (x y:Option xS) (k:Nat):((h.set b x).set b y).get k=(h.set b y).get k:=by
 simp only [za.yo];split <;> rfl
structure Hw (h h':za):Prop where
 next:h'.next=h.next
 ro:h'.ro=h.ro
 get:∀ b,h'.get b=h.get b
theorem Rel.same {ρ:yP} {h h':za} {w:World} (hr:Rel P ρ h w) (e:Hw h h'):Rel P ρ h' w :=
 ⟨hr.next.trans e.next.symm,by rw [e.ro,e.next];exact hr.ro,fun b o hb=>by rw [e.next];exact hr.XU b o ((e.get b) ▸ hb),
  fun b o hb=>by rw [e.ro];exact hr.ok b o ((e.get b) ▸ hb),
  fun b1 b2 o1 o2 p1 p2 h1 h2=>hr.inj b1 b2 o1 o2 p1 p2 ((e.get b1) ▸ h1) ((e.get b2) ▸ h2),by rw [e.ro];exact hr.QO,hr.kx⟩
theorem Step.same {ρ ρ':yP} {h h' h'':za} {w w':World} (s:Step P ρ h w ρ' h' w') (e:Hw h' h''):Step P ρ h w ρ' h'' w' :=
 ⟨s.le,s.rel.same e,e.ro.trans s.ro,s.os,s.tape,s.output,s.size,s.frame,fun c hc hm=>s.KI c hc (by
  obtain ⟨b,o,pl,hb,hro,hp⟩:=hm
  exact ⟨b,o,pl,by rw [<- e.get];exact hb,by rw [<- e.ro];exact hro,hp⟩)⟩
theorem qh (c o i:Nat):(Addr.mk c o none).add i=⟨c,o + i,none⟩:=by
 unfold Addr.add
 split
 ·rename_i h;subst h;rfl
 ·rfl
theorem Wx {ρ:yP} {t:TypeId} {pl:Place} {b:Nat} {o:Nat} (hm:ρ.m b=some pl):∀ (vs vs':List Value) (h:za) (w:World) (c:List Value) (j:Nat),Rel P ρ h w->h.get b=some (.cells c t)->h.ro<=b ->
  o + j + vs.length<=c.length->xp ρ vs vs'->(∀ x ∈ vs,xE x=true) ->
  ∃ w',(storeCells ⟨pl.c,pl.base + o,none⟩ vs' j).run P w = .ok () w'/\Step P ρ h w ρ (h.set b (some (.cells (ze c (o + j) vs) t))) w':=by
 intro vs
 induction vs with
 | nil=>
   intro vs' h w c j hr hg hro hl hv hcell
   cases hv.wX
   refine ⟨w,rfl,(Step.refl hr).same ⟨rfl,rfl,fun x => ?_⟩⟩
   rw [za.yo];split
   ·rename_i e;subst e;exact hg.symm
   ·rfl
 | cons v vs ih=>
   intro vs' h w c j hr hg hro hl hv hcell
   obtain ⟨v',vs'',rfl,hv1,hv2⟩:=hv.cons_inv
   simp only [MY] at hl
   obtain ⟨e1,s1⟩:=bY hr hg hm hro (i:=o + j) (by omega) hv1 (hcell v (by simp))
   obtain ⟨w',e2,s2⟩:=ih vs'' _ _ (c.set (o + j) v) (j + 1) s1.rel (by rw [za.yo,MK rfl]) hro (by simp;omega) hv2 (fun x hx=>hcell x (by simp [hx]))
   refine ⟨w',?_,(s1.trans s2).same ⟨rfl,rfl,fun x => ?_⟩⟩
   ·simp only [storeCells,qh,ME,Oy] at e1 ⊢
    rw [e1];exact e2
   ·rw [za.set_set];rfl
def yP.ext (ρ:yP) (pl:Place):yP:={ next:=ρ.next + 1,m:=fun b=>if b=ρ.next then some pl else ρ.m b }
theorem yP.QR (ρ:yP) (pl:Place):ρ.le (ρ.ext pl):=⟨N7 _,fun _ hb=>MJ (Nat.ne_of_lt hb)⟩
theorem yP.uo (ρ:yP) (pl:Place):(ρ.ext pl).m ρ.next=some pl:=MK rfl
theorem Rel.WZ {ρ:yP} {h:za} {w:World} (hr:Rel P ρ h w) {ob:xS} {pl:Place} (hc:wE P (ρ.ext pl) true ob pl w)
  (hfresh:∀ b o p,h.get b=some o->ρ.m b=some p->p.c ≠ pl.c):Rel P (ρ.ext pl) (h.push ob) w:=by
 have hle:=ρ.QR pl
 have hcase:∀ x o,(h.push ob).get x=some o->(x=h.next/\o=ob)\/(x < h.next/\h.get x=some o):=by
  intro x o hx
  rw [za.wN] at hx
  split at hx
  ·rename_i e;cases hx;exact .inl ⟨e,rfl⟩
  ·exact .inr ⟨hr.XU x o hx,hx⟩
 have hold:∀ x,x < h.next->(ρ.ext pl).m x=ρ.m x:=fun x hx=>hle.2 x (by rw [hr.next];exact hx)
 have hnew:(ρ.ext pl).m h.next=some pl:=by rw [<- hr.next];exact ρ.uo pl
 refine ⟨by show ρ.next + 1=h.next + 1;rw [hr.next],Nm hr.ro (N7 _),?_,?_,?_,hr.QO,fun b p hb hm=>hr.kx b p hb (by rw [<- hold b (ML hb (Nm hr.QO hr.ro))];exact hm)⟩
 ·intro x o hx
  rcases hcase x o hx with ⟨e,_⟩ | ⟨hlt,_⟩
  ·subst e;exact NN _
  ·exact OI hlt
 ·intro x ox hx
  rcases hcase x _ hx with ⟨e,eo⟩ | ⟨hlt,hx'⟩
  ·cases eo;subst e
   exact ⟨pl,hnew,hc.Bb (fun _=>rfl)⟩
  ·obtain ⟨p,hp,hcx⟩:=hr.ok x ox hx'
   exact ⟨p,(hold x hlt).trans hp,hcx.mono hle⟩
 ·intro b1 b2 o1 o2 p1 p2 h1 h2 m1 m2 e
  rcases hcase b1 o1 h1 with ⟨e1,_⟩ | ⟨l1,g1⟩ <;> rcases hcase b2 o2 h2 with ⟨e2,_⟩ | ⟨l2,g2⟩
  ·omega
  ·subst e1
   rw [hnew] at m1;cases m1
   rw [hold _ l2] at m2
   exact absurd e.symm (hfresh b2 o2 p2 g2 m2)
  ·subst e2
   rw [hnew] at m2;cases m2
   rw [hold _ l1] at m1
   exact absurd e (hfresh b1 o1 p1 g1 m1)
  ·rw [hold _ l1] at m1;rw [hold _ l2] at m2
   exact hr.inj b1 b2 o1 o2 p1 p2 g1 g2 m1 m2 e
theorem Rel.push {ρ:yP} {h:za} {w:World} (hr:Rel P ρ h w) {c:List Value} {t:TypeId} {pl:Place} (hc:yT P (ρ.ext pl) true c t pl w)
  (hfresh:∀ b o p,h.get b=some o->ρ.m b=some p->p.c ≠ pl.c):Rel P (ρ.ext pl) (h.push (.cells c t)) w:=hr.WZ (ob := .cells c t) hc hfresh
theorem Rel.grow {ρ:yP} {h:za} {w w':World} (hr:Rel P ρ h w) (hold:∀ k,k < w.heap.size->w'.heap[k]? = w.heap[k]?):Rel P ρ h w' :=
 ⟨hr.next,hr.ro,hr.XU,fun b o hb=>by obtain ⟨pl,hp,hc⟩:=hr.ok b o hb;exact ⟨pl,hp,hc.other (hold _ hc.lt)⟩,hr.inj,hr.QO,hr.kx⟩
theorem Step.WZ {ρ:yP} {h:za} {w w':World} (hr:Rel P ρ h w) {ob:xS} {pl:Place} {wo:Obj} (hpl:pl.c=w.heap.size)
  (hnew:w'.heap=w.heap.push wo) (hok:wE P (ρ.ext pl) true ob pl w')
  (hos:w'.os=w.os) (htape:w'.tape=w.tape) (hout:w'.output=w.output) :
  Step P ρ h w (ρ.ext pl) (h.push ob) w':=by
 have hold:∀ k,k < w.heap.size->w'.heap[k]? = w.heap[k]?:=by
  intro k hk;rw [hnew,Array.getElem?_push,MJ (by omega)]
 have hle:=ρ.QR pl
 have hr':=hr.grow hold
 refine ⟨hle,hr'.WZ hok ?_,rfl,hos,htape,hout,by rw [hnew];simp,fun k hk _=>hold k hk,?_⟩
 ·intro b o p hg hm e
  obtain ⟨p',hp',hcx⟩:=hr.ok b o hg
  rw [hm] at hp';cases hp'
  have:=hcx.lt
  omega
 ·rintro k hk ⟨b,o,p,hg,hro,hm,e⟩
  rw [za.wN] at hg
  split at hg
  ·rename_i eb
   subst eb
   rw [<- hr.next,yP.uo] at hm
   cases hm
   omega
  ·have hlt:=hr.XU b o hg
   refine ⟨b,o,p,hg,hro,?_,e⟩
   rw [<- hm]
   exact (hle.2 b (by rw [hr.next];exact hlt)).symm
theorem Step.push {ρ:yP} {h:za} {w w':World} (hr:Rel P ρ h w) {c:List Value} {t:TypeId} {cs:Array Value} {fz:Nat × Nat}
  (hnew:w'.heap=w.heap.push (.cells cs t fz)) (hfz:∀ i,i < cs.size->¬(fz.1<=i/\i < fz.2)) (hlen:c.length<=cs.size) (hv:∀ (i:Nat) x,c[i]? = some x->∃ y,cs[i]? = some y/\zD ρ x y)
  (hos:w'.os=w.os) (htape:w'.tape=w.tape) (hout:w'.output=w.output) :
  Step P ρ h w (ρ.ext ⟨w.heap.size,0,cs.size,P.cellsOf t⟩) (h.push (.cells c t)) w':=by
 refine Step.WZ hr (ob := .cells c t) rfl hnew ⟨cs,fz,by rw [hnew];simp,rfl,⟨rfl,Nat.zero_mod _⟩,by simpa using hlen,fun _=>hfz,?_⟩ hos htape hout
 intro i x hx
 obtain ⟨y,hy,hxy⟩:=hv i x hx
 exact ⟨y,by simpa using hy,hxy.mono (ρ.QR _)⟩
theorem VS {ρ:yP} {h:za} {w:World} (hr:Rel P ρ h w) {c:List Value} {t:TypeId} {cs:Array Value} (hlen:c.length<=cs.size) (hv:∀ (i:Nat) x,c[i]? = some x->∃ y,cs[i]? = some y/\zD ρ x y) :
  (newRow t cs).run P w = .ok ⟨w.heap.size,0,none⟩ { w with heap:=w.heap.push (.cells cs t) } /\
   Step P ρ h w (ρ.ext ⟨w.heap.size,0,cs.size,P.cellsOf t⟩) (h.push (.cells c t)) { w with heap:=w.heap.push (.cells cs t) } :=
 ⟨rfl,Step.push hr rfl (fun i _ hi=>by simp at hi) hlen hv rfl rfl rfl⟩
theorem zD.new {ρ:yP} {h:za} {w:World} (hr:Rel P ρ h w) (pl:Place) (hb:pl.base=0):zD (ρ.ext pl) (.pointer (some ⟨h.next,0,none⟩)) (.pointer (some ⟨pl.c,0,none⟩)):=by
 have:=zD.ptr (ρ:=ρ.ext pl) (b:=h.next) (off:=0) (pl:=pl) (by show h.next < ρ.next + 1;rw [hr.next];exact NN _) (by rw [<- hr.next];exact ρ.uo pl)
 rw [hb] at this
 exact this
theorem uV {ρ:yP} {wr:Bool} {c:List Value} {t:TypeId} {pl:Place} {w:World} (hc:yT P ρ wr c t pl w) (o n:Nat) (h:o + n<=c.length) :
  ∃ ys:List Value,(loadCells ⟨pl.c,pl.base + o,none⟩ n).run P w = .ok ys.toArray w/\xp ρ ((c.drop o).take n) ys:=by
 obtain ⟨cs,fz,h1,h2,h3,h4,h5,h6⟩:=hc
 refine ⟨((cs.toList.drop (pl.base + o)).take n),?_,?_,?_⟩
 ·have hlen:((cs.toList.drop (pl.base + o)).take n).length=n:=by simp;omega
  have:=run_loadCells_list (P:=P) w ⟨pl.c,pl.base + o,none⟩ ((cs.toList.drop (pl.base + o)).take n) (fun j v hj=>by
   have hjn:j < n:=by
    rcases MX j n with h | h
    ·exact h
    ·rw [MO (by omega)] at hj;cases hj
   rw [Nv hjn,Nn] at hj
   rw [qh]
   simp [World.cell?,h1]
   simpa using hj)
  rw [hlen] at this
  exact this
 ·simp;omega
 ·intro i x y hx hy
  have hi:i < n:=by
   rcases MX i n with h | h
   ·exact h
   ·rw [MO (by simp;omega)] at hx;cases hx
  rw [Nv hi,Nn] at hx hy
  obtain ⟨y',hy',hxy⟩:=h6 _ _ hx
  have:y=y':=by
   have e:pl.base + (o + i)=pl.base + o + i:=by omega
   rw [e] at hy'
   have hy2:cs[pl.base + o + i]? = some y:=by simpa using hy
   rw [hy2] at hy';cases hy';rfl
  rw [this];exact hxy
end
noncomputable section
def zU {α:Type} (P:Program):Sem α->Option α
 | .pure a=>some a
 | .program k=>zU P (k P)
 | _=>none
theorem zg {α:Type} {P:Program} {s:Sem α} {a:α} (h:zU P s=some a) (w:World):s.run P w = .ok a w:=by
 induction s with
 | pure b=>simp only [zU,My] at h;subst h;rfl
 | program k ih=>simp only [zU] at h;exact ih P h
 | _=>cases h
def flat:Value->Bool
 | .agg a=>a.toList.all plain
 | v=>plain v
theorem nn {ρ:yP} {v v':Value} (h:zD ρ v v') (hp:plain v=true):v'=v:=by
 cases h with
 | iN h=>cases hp
 | bool | int | float | string | ptrNil | nilFunc | nilIface | mapNil=>rfl
 | ptr | kx | slice | sliceOut | iface | agg | map | yield=>simp [plain] at hp
 | sliceNil c=>simp only [plain,MG] at hp;obtain rfl:=MQ hp.2;rfl
 | func ha hc _ _=>
   simp only [plain,MG] at hp
   obtain rfl:=Ym hp.1
   obtain rfl:=Ym hp.2
   rw [N5 ha.symm,N5 hc.symm]
 | tuple ha _=>
   obtain rfl:=Ym hp
   rw [N5 ha.symm]
theorem bC {xs ys:List Value} (hl:xs.length=ys.length) (h:∀ (i:Nat) x y,xs[i]? = some x->ys[i]? = some y->y=x):ys=xs:=by
 apply N1
 intro i
 rcases MX i xs.length with hi | hi
 ·rw [MF hi,MF (hl ▸ hi)]
  congr 1
  exact h i _ _ (MF hi) (MF (hl ▸ hi))
 ·rw [MO hi,MO (by omega)]
theorem ur {ρ:yP} {v v':Value} (h:zD ρ v v') (hp:flat v=true):v'=v:=by
 cases h with
 | agg ha hv=>
   rename_i a a'
   simp only [flat,Ni] at hp
   congr 1
   apply Om
   refine bC (by simpa using ha) (fun i x y hx hy => ?_)
   exact nn (hv i x y (by simpa using hx) (by simpa using hy)) (hp x (Np hx))
 | _=>first | rfl | exact nn (ρ:=ρ) (by constructor <;> assumption) hp
theorem zD.of_flat (ρ:yP) {v:Value} (h:flat v=true):zD ρ v v:=by
 cases v with
 | agg a=>
   simp only [flat,Ni] at h
   exact .agg rfl (fun i x y hx hy=>by
    rw [hx] at hy;cases hy
    exact .qD ρ (h x (Np (by simpa using hx))))
 | _=>exact .qD ρ h
def uN (s:Env):Operand->Option Value
 | .tmp t=>some (s.get t)
 | .const v=>cond (flat v) (some v) none
 | .global g=>some (.pointer (some ⟨g,0,some 0⟩))
 | .func f=>some (.func (.func f) #[] #[])
theorem zP {ρ:yP} {s:Env} {a:Act} (hs:wA ρ s a.tmps) {x:Operand} {v:Value} (h:uN s x=some v):zD ρ v (a.eval x):=by
 cases x with
 | tmp t=>simp only [uN,My] at h;subst h;exact hs.get t
 | const c=>
   simp only [uN] at h
   cases hf:flat c with
   | false=>rw [hf] at h;cases h
   | true=>rw [hf] at h;simp only [MV,My] at h;subst h;exact .of_flat ρ hf
 | global g=>simp only [uN,My] at h;subst h;exact .kx
 | func f=>simp only [uN,My] at h;subst h;exact .qD ρ rfl
def YU (s:Env):List Operand->Option (List Value)
 | []=>some []
 | x :: xs=>match uN s x with
   | none=>none
   | some v=>match YU s xs with
     | none=>none
     | some vs=>some (v :: vs)
theorem u9 {ρ:yP} {s:Env} {a:Act} (hs:wA ρ s a.tmps):∀ {xs:List Operand} {vs:List Value},YU s xs=some vs->xp ρ vs (xs.map a.eval)
 | [],vs,h=>by simp only [YU,My] at h;subst h;exact .nil ρ
 | x :: xs,vs,h=>by
   simp only [YU] at h
   split at h
   ·cases h
   ·rename_i v hv
    split at h
    ·cases h
    ·rename_i vs' hvs
     simp only [My] at h
     subst h
     exact .cons (zP hs hv) (u9 hs hvs)
theorem zD.cells {ρ:yP} {v v':Value} (h:zD ρ v v'):xp ρ v.cells.toList v'.cells.toList:=by
 cases h with
 | agg ha hv=>exact ⟨by simpa [Value.cells] using ha,fun i x y hx hy=>hv i x y (by simpa [Value.cells] using hx) (by simpa [Value.cells] using hy)⟩
 | iN h=>cases v' <;> first | exact .cons (.iN h) (.nil ρ) | cases h
 | _=>exact .cons (by constructor <;> assumption) (.nil ρ)
def apart (P:Program) (t:TypeId) (cs:List Value) (off:Nat):Option Value :=
 match zU P (isAgg t) with
 | none=>none
 | some true=>(match zU P (sizeOf t) with
   | none=>none
   | some n=>some (.agg ((cs.drop off).take n).toArray))
 | some false=>cs[off]?
theorem ma {P:Program} {ρ:yP} {t:TypeId} {cs:List Value} {cs':Array Value} {off:Nat} {v:Value} (h:apart P t cs off=some v) (hc:xp ρ cs cs'.toList) (w:World) :
  ∃ v',(part t cs' off).run P w = .ok v' w/\zD ρ v v':=by
 simp only [apart] at h
 split at h
 ·cases h
 ·rename_i hagg
  split at h
  ·cases h
  ·rename_i n hn
   simp only [My] at h
   subst h
   refine ⟨_,by simp only [part,ME,zg hagg,Mz,MA,zg hn,MN];rfl,?_⟩
   refine .agg ?_ ?_
   ·simp only [List.size_toArray,OB,On,Array.size_extract,hc.1,NR];omega
   ·intro i x y hx hy
    rw [N8] at hx
    rw [Array.getElem?_extract] at hy
    split at hy
    ·rename_i hi
     rw [Nv (by omega),Nn] at hx
     exact hc.2 _ _ _ hx (by simpa using hy)
    ·cases hy
 ·rename_i hagg
  obtain ⟨y,hy,hxy⟩:=hc.get h
  refine ⟨y,?_,hxy⟩
  have hy':cs'[off]? = some y:=by simpa using hy
  simp only [part,ME,zg hagg,Mz,Nz,MS,hy',MN]
def zd (P:Program) (t:TypeId) (a:Value) (h:za):Option Value :=
 match a with
 | .pointer (some ⟨b,off,none⟩)=>(match h.get b with
   | none=>none
   | some (.cells c _)=>(match zU P (isAgg t) with
     | none=>none
     | some true=>(match zU P (sizeOf t) with
       | none=>none
       | some n=>cond (Nat.ble (off + n) c.length) (some (.agg ((c.drop off).take n).toArray)) none)
     | some false=>c[off]?)
   | some _=>none)
 | .pointer (some ⟨b,off,some 0⟩)=>cond (Nat.blt b P.globals.size) (match h.get b with
   | none=>none
   | some (.tab c)=>(match zU P (isAgg t) with
     | none=>none
     | some true=>(match zU P (sizeOf t) with
       | none=>none
       | some n=>cond (Nat.ble (off + n) c.length) (some (.agg ((c.drop off).take n).toArray)) none)
     | some false=>c[off]?)
   | some _=>none) none
 | _=>none
theorem Km {P:Program} {ρ:yP} {t:TypeId} {a a':Value} {h:za} {v:Value} {w:World} (he:zd P t a h=some v) (hr:Rel P ρ h w) (ha:zD ρ a a') :
  ∃ v',(Instr.loadAt t a').run P w = .ok v' w/\zD ρ v v':=by
 unfold zd at he
 split at he
 ·rename_i b off
  cases ha with
  | ptr hb hm=>
    rename_i pl
    split at he
    ·cases he
    ·rename_i c t' hg
     have hc:=hr.place hg hm
     split at he
     ·cases he
     ·rename_i hagg
      split at he
      ·cases he
      ·rename_i n hn
       cases hle:Nat.ble (off + n) c.length with
       | false=>rw [hle] at he;cases he
       | true=>
         rw [hle] at he
         simp only [MV,My] at he
         subst he
         obtain ⟨ys,hys,hv⟩:=uV hc off n (M3 hle)
         refine ⟨.agg ys.toArray,?_,.agg (by simpa using hv.1) (fun i x y hx hy=>hv.2 i x y (by simpa using hx) (by simpa using hy))⟩
         simp only [Instr.loadAt,Instr.sureAddr,loadVar,ME,MN,Mz,zg hagg,MA,zg hn,hys]
     ·rename_i hagg
      obtain ⟨y,hy,hxy⟩:=hc.cell he
      refine ⟨y,?_,hxy⟩
      simp only [Instr.loadAt,Instr.sureAddr,loadVar,ME,MN,Mz,zg hagg,Nz,MS,run_load,hy]
    ·cases he
 ·rename_i b off
  cases ha with
  | kx=>
    cases hbl:Nat.blt b P.globals.size with
    | false=>rw [hbl] at he;cases he
    | true=>
      rw [hbl] at he
      simp only [MV] at he
      have hbl:b < P.globals.size:=by simpa [No] using hbl
      split at he
      ·cases he
      ·rename_i c hg
       obtain ⟨pl,hm,t',hc⟩:=hr.ok b _ hg
       obtain ⟨q1,q2⟩:=hr.kx b pl hbl hm
       split at he
       ·cases he
       ·rename_i hagg
        split at he
        ·cases he
        ·rename_i n hn
         cases hle:Nat.ble (off + n) c.length with
         | false=>rw [hle] at he;cases he
         | true=>
           rw [hle] at he
           simp only [MV,My] at he
           subst he
           obtain ⟨ys,hys,hv⟩:=uV hc off n (M3 hle)
           simp only [q1,q2,MT] at hys
           refine ⟨.agg ys.toArray,?_,.agg (by simpa using hv.1) (fun i x y hx hy=>hv.2 i x y (by simpa using hx) (by simpa using hy))⟩
           simp only [Instr.loadAt,Instr.sureAddr,loadVar,ME,MN,Mz,zg hagg,MA,zg hn,hys]
       ·rename_i hagg
        obtain ⟨y,hy,hxy⟩:=hc.cell he
        simp only [q1,q2,MT] at hy
        refine ⟨y,?_,hxy⟩
        simp only [Instr.loadAt,Instr.sureAddr,loadVar,ME,MN,Mz,zg hagg,Nz,MS,run_load,hy]
      ·cases he
 ·cases he
def zk (P:Program) (t:TypeId) (a v:Value) (h:za):Option za :=
 match a with
 | .pointer (some ⟨b,off,none⟩)=>(match h.get b with
   | none=>none
   | some (.cells c t')=>(match zU P (sizeOf t) with
     | none=>none
     | some n=>cond (Nat.beq v.cells.size n && Nat.ble (off + n) c.length && Nat.ble h.ro b && v.cells.toList.all xE) (some (h.set b (some (.cells (ze c off v.cells.toList) t')))) none)
   | some _=>none)
 | _=>none
theorem gZ {P:Program} {ρ:yP} {t:TypeId} {a a' v v':Value} {h h':za} {w:World} (he:zk P t a v h=some h') (hr:Rel P ρ h w) (ha:zD ρ a a') (hv:zD ρ v v') :
  ∃ w',(Instr.storeAt t a' v').run P w = .ok () w'/\Step P ρ h w ρ h' w':=by
 unfold zk at he
 split at he
 ·rename_i b off
  cases ha with
  | ptr hb hm=>
    rename_i pl
    split at he
    ·cases he
    ·rename_i c t' hg
     split at he
     ·cases he
     ·rename_i n hn
      cases hc:(Nat.beq v.cells.size n && Nat.ble (off + n) c.length && Nat.ble h.ro b && v.cells.toList.all xE) with
      | false=>rw [hc] at he;cases he
      | true=>
        rw [hc] at he
        simp only [MV,My] at he
        subst he
        simp only [MG,Ni] at hc
        obtain ⟨⟨⟨h1,h2⟩,h3⟩,h4⟩:=hc
        have h1:=MQ h1
        have h2:=M3 h2
        have h3:=M3 h3
        have hcells:=hv.cells
        have hsz:v'.cells.size=n:=by have:=hcells.1;simp only [NR] at this;omega
        obtain ⟨w',e,st⟩:=Wx (o:=off) hm v.cells.toList v'.cells.toList h w c 0 hr hg h3 (by simp only [NR];omega) hcells h4
        refine ⟨w',?_,st⟩
        simp only [Instr.storeAt,Instr.sureAddr,storeVar,ME,MN,Mz,zg hn,OD,hsz]
        simp only [ne_eq,not_true,MS]
        exact e
    ·cases he
 ·cases he
def zb (P:Program) (s:TypeId) (a:Value) (i:Nat):Option Value :=
 match a with
 | .pointer (some ⟨b,off,none⟩)=>(match zU P (underlying s) with
   | some (.struct fields)=>(match fields[i]? with
     | none=>none
     | some f=>(match zU P (sizeOf f.type) with
       | none=>none
       | some n=>cond (Nat.beq n 0) none (some (.pointer (some ⟨b,off + f.offset,none⟩)))))
   | _=>none)
 | .pointer (some ⟨b,off,some 0⟩)=>(match zU P (underlying s) with
   | some (.struct fields)=>(match fields[i]? with
     | none=>none
     | some f=>(match zU P (sizeOf f.type) with
       | none=>none
       | some n=>cond (Nat.beq n 0) none (some (.pointer (some ⟨b,off + f.offset,some 0⟩)))))
   | _=>none)
 | _=>none
theorem gT {P:Program} {ρ:yP} {s:TypeId} {a a' v:Value} {i:Nat} (he:zb P s a i=some v) (ha:zD ρ a a') (w:World) :
  ∃ v',(Instr.fieldAt s a' i).run P w = .ok v' w/\zD ρ v v':=by
 unfold zb at he
 split at he
 ·rename_i b off
  cases ha with
  | ptr hb hm=>
    rename_i pl
    split at he
    ·rename_i fields hu
     split at he
     ·cases he
     ·rename_i f hf
      split at he
      ·cases he
      ·rename_i n hn
       cases hz:Nat.beq n 0 with
       | true=>rw [hz] at he;cases he
       | false=>
         rw [hz] at he
         simp only [M7,My] at he
         subst he
         have hne:n ≠ 0:=by intro e;subst e;simp at hz
         refine ⟨.pointer (some ⟨pl.c,pl.base + (off + f.offset),none⟩),?_,.ptr hb hm⟩
         simp only [Instr.fieldAt,Instr.sureAddr,fieldPlace,ME,MN,Mz,zg hu,hf,zg hn,OD,MJ hne,qh,Oy]
    ·cases he
 ·rename_i b off
  cases ha with
  | kx=>
    split at he
    ·rename_i fields hu
     split at he
     ·cases he
     ·rename_i f hf
      split at he
      ·cases he
      ·rename_i n hn
       cases hz:Nat.beq n 0 with
       | true=>rw [hz] at he;cases he
       | false=>
         rw [hz] at he
         simp only [M7,My] at he
         subst he
         have hne:n ≠ 0:=by intro e;subst e;simp at hz
         refine ⟨.pointer (some ⟨b,off + f.offset,none⟩),?_,.kx⟩
         simp only [Instr.fieldAt,Instr.sureAddr,fieldPlace,ME,MN,Mz,zg hu,hf,zg hn,OD,MJ hne,qh]
    ·cases he
 ·cases he
def zA (P:Program) (t:TypeId) (x ix:Value):Option Value :=
 match ix with
 | .int _ i=>(match zU P (underlying t),x with
   | some (.array len elem),.pointer (some ⟨b,off,none⟩)=>(match zU P (sizeOf elem) with
     | none=>none
     | some n=>cond (decide (0<=i) && decide (i < len)) (some (.pointer (some ⟨b,off + i.toNat * n,none⟩))) none)
   | some (.array len elem),.pointer (some ⟨b,off,some 0⟩)=>(match zU P (sizeOf elem) with
     | none=>none
     | some n=>cond (decide (0<=i) && decide (i < len)) (some (.pointer (some ⟨b,off + i.toNat * n,some 0⟩))) none)
   | some (.slice elem),.slice (some ⟨b,off,none⟩) len _=>(match zU P (sizeOf elem) with
     | none=>none
     | some n=>cond (decide (0<=i) && decide (i < len)) (some (.pointer (some ⟨b,off + i.toNat * n,none⟩))) none)
   | _,_=>none)
 | _=>none
theorem gU {P:Program} {ρ:yP} {t:TypeId} {x x' ix ix' v:Value} (he:zA P t x ix=some v) (hx:zD ρ x x') (hi:zD ρ ix ix') (w:World) :
  ∃ v',(Instr.indexAt t x' ix').run P w = .ok v' w/\zD ρ v v':=by
 unfold zA at he
 split at he
 ·rename_i k i
  cases hi
  split at he
  ·rename_i hu
   cases hx with
   | ptr hb hm=>
     split at he
     ·cases he
     ·rename_i n hn
      cases hc:(decide (0<=i) && decide (i < _)) with
      | false=>rw [hc] at he;cases he
      | true=>
        rw [hc] at he
        simp only [MV,My] at he
        subst he
        simp only [MG,Nj] at hc
        refine ⟨_,?_,.ptr hb hm⟩
        simp only [Instr.indexAt,Instr.sureAddr,asIntOf,ME,MN,Mz,zg hu,zg hn,OD,MK hc,qh,Oy]
  ·rename_i hu
   cases hx with
   | kx=>
     split at he
     ·cases he
     ·rename_i n hn
      cases hc:(decide (0<=i) && decide (i < _)) with
      | false=>rw [hc] at he;cases he
      | true=>
        rw [hc] at he
        simp only [MV,My] at he
        subst he
        simp only [MG,Nj] at hc
        refine ⟨_,?_,.kx⟩
        simp only [Instr.indexAt,Instr.sureAddr,asIntOf,ME,MN,Mz,zg hu,zg hn,OD,MK hc,qh]
  ·rename_i hu
   cases hx with
   | slice hb hm hl hcap=>
     split at he
     ·cases he
     ·rename_i n hn
      cases hc:(decide (0<=i) && decide (i < _)) with
      | false=>rw [hc] at he;cases he
      | true=>
        rw [hc] at he
        simp only [MV,My] at he
        subst he
        simp only [MG,Nj] at hc
        refine ⟨_,?_,.ptr hb hm⟩
        simp only [Instr.indexAt,asIntOf,ME,MN,Mz,zg hu,zg hn,OD,MK hc,qh,Oy]
   | sliceOut hb hc=>
     split at he
     ·cases he
     ·rename_i n hn
      rw [show (decide (0<=i) && decide (i < ((0:Nat):Int)))=false by simp] at he
      cases he
  ·cases he
 ·cases he
end
noncomputable section
variable {P:Program}
def fl (x:Option Value):Option Value :=
 match x with
 | none=>none
 | some v=>cond (flat v) (some v) none
theorem Yr {x:Option Value} {v:Value} (h:fl x=some v):x=some v/\flat v=true:=by
 unfold fl at h
 split at h
 ·cases h
 ·rename_i u
  cases hf:flat u with
  | false=>rw [hf] at h;cases h
  | true=>rw [hf] at h;simp only [MV,My] at h;subst h;exact ⟨rfl,hf⟩
def isNil (P:Program) (t:TypeId) (a b:Value):Option Bool :=
 match zU P (underlying t),a,b with
 | some (.pointer _),.pointer (some _),.pointer none | some (.pointer _),.pointer none,.pointer (some _)=>some false
 | some (.slice _),.slice (some _) _ _,.slice none _ _ | some (.slice _),.slice none _ _,.slice (some _) _ _=>some false
 | some (.func _ _ _),.func _ _ _,.nilFunc | some (.func _ _ _),.nilFunc,.func _ _ _=>some false
 | some (.interface _),.iface _ _,.nilIface | some (.interface _),.nilIface,.iface _ _=>some false
 | _,_,_=>none
def F4 (P:Program) (op:BinOp) (t:TypeId) (a b:Value):Option Value :=
 match op with
 | .eql=>(isNil P t a b).map .bool
 | .neq=>(isNil P t a b).map fun x => .bool (!x)
 | _=>none
theorem Yv {ρ:yP} {t:TypeId} {a b a' b':Value} {r:Bool} (h:isNil P t a b=some r) (ha:zD ρ a a') (hb:zD ρ b b') (w:World) :
  (∀ d,(Op.equalIn (d + 1) t a' b').run P w = .ok r w)/\(∀ op x y,(eqGuard op t x y a' b').run P w = .ok () w)/\(∀ op,op = .eql\/op = .neq->binOp op t a' b'=if op = .eql then (do pure (.bool (<- Op.equal t a' b'))) else (do pure (.bool (!(<- Op.equal t a' b'))))):=by
 unfold isNil at h
 split at h <;> first
  | cases h;done
  | (simp only [My] at h
     subst h
     rename_i hu
     cases ha <;> cases hb <;>
     (refine ⟨fun d => ?_,fun op x y => ?_,fun op yB => ?_⟩
      ·simp [Op.equalIn,zg hu]
      ·cases op <;> simp [eqGuard]
      ·rcases yB with rfl | rfl <;> rfl))
theorem AB {ρ:yP} {t:TypeId} {a b a' b':Value} {r:Bool} (h:isNil P t a b=some r) (ha:zD ρ a a') (hb:zD ρ b b') (w:World) :
  (binOp .eql t a' b').run P w = .ok (.bool r) w:=by
 obtain ⟨h1,_,h3⟩:=Yv h ha hb w
 rw [h3 .eql (.inl rfl),MK rfl]
 have h1:(Op.equal t a' b').run P w = .ok r w:=h1 9999
 simp only [ME,h1,Mz,MN]
theorem AD {ρ:yP} {t:TypeId} {a b a' b':Value} {r:Bool} (h:isNil P t a b=some r) (ha:zD ρ a a') (hb:zD ρ b b') (w:World) :
  (binOp .neq t a' b').run P w = .ok (.bool (!r)) w:=by
 obtain ⟨h1,_,h3⟩:=Yv h ha hb w
 rw [h3 .neq (.inr rfl),MJ (by simp)]
 have h1:(Op.equal t a' b').run P w = .ok r w:=h1 9999
 simp only [ME,h1,Mz,MN]
def tS (P:Program) (op:BinOp) (t:TypeId) (x y:Operand) (a b:Value):Option Value :=
 cond (flat a && flat b) (fl (zU P (do eqGuard op t x y a b;binOp op t a b))) (F4 P op t a b)
theorem oH {ρ:yP} {op:BinOp} {t:TypeId} {x y:Operand} {a b a' b' v:Value} (h:tS P op t x y a b=some v) (ha:zD ρ a a') (hb:zD ρ b b') (w:World) :
  ∃ v',(do eqGuard op t x y a' b';binOp op t a' b':Sem Value).run P w = .ok v' w/\zD ρ v v':=by
 unfold tS at h
 cases hf:(flat a && flat b) with
 | true=>
   rw [hf] at h
   simp only [MG] at hf
   obtain rfl:=ur ha hf.1
   obtain rfl:=ur hb hf.2
   obtain ⟨h1,h2⟩:=Yr h
   exact ⟨v,zg h1 w,.of_flat ρ h2⟩
 | false=>
   rw [hf] at h
   simp only [M7] at h
   unfold F4 at h
   split at h
   ·simp only [MR] at h
    obtain ⟨r,hr,rfl⟩:=h
    obtain ⟨_,h2,_⟩:=Yv hr ha hb w
    have h3:=AB hr ha hb w
    exact ⟨.bool r,by simp only [ME,h2,Mz,h3],.bool r⟩
   ·simp only [MR] at h
    obtain ⟨r,hr,rfl⟩:=h
    obtain ⟨_,h2,_⟩:=Yv hr ha hb w
    have h4:=AD hr ha hb w
    exact ⟨.bool (!r),by simp only [ME,h2,Mz,h4],.bool (!r)⟩
   ·cases h
def K0 (ρ:yP) (ps ps':List (Nat × Value)):Prop:=xp ρ (ps.map (·.2)) (ps'.map (·.2))/\ps.map (·.1)=ps'.map (·.1)
theorem Ba {ρ:yP} {xs ys:List Value} (h:xp ρ xs ys) (i:Nat) {x y:Value} (hv:zD ρ x y):xp ρ (xs.set i x) (ys.set i y):=by
 refine ⟨by simp [h.1],fun j a b ha hb => ?_⟩
 by_cases e:i=j
 ·subst e
  rcases MX i xs.length with hi | hi
  ·rw [NA hi] at ha
   rw [NA (h.1 ▸ hi)] at hb
   cases ha;cases hb;exact hv
  ·rw [MO (by simpa using hi)] at ha;cases ha
 ·rw [NS e] at ha hb
  exact h.2 j a b ha hb
theorem aH {ρ:yP} (off:Nat):∀ (l l':List (Value × Nat)) (c c':Array Value),xp ρ (l.map (·.1)) (l'.map (·.1))->l.map (·.2)=l'.map (·.2)->xp ρ c.toList c'.toList ->
  xp ρ (l.foldl (fun cs x=>cs.setIfInBounds (off + x.2) x.1) c).toList (l'.foldl (fun cs x=>cs.setIfInBounds (off + x.2) x.1) c').toList
 | [],l',c,c',hl,hn,hc=>by
   cases l' with
   | nil=>exact hc
   | cons x l'=>simp at hn
 | x :: l,l',c,c',hl,hn,hc=>by
   cases l' with
   | nil=>simp at hn
   | cons y l'=>
     simp only [N6,NF] at hl hn
     obtain ⟨y',ys',e,hv,hr⟩:=hl.cons_inv
     simp only [NF] at e
     obtain ⟨e1,e2⟩:=e
     subst e1 e2
     simp only [List.foldl_cons]
     refine aH off l l' _ _ hr hn.2 ?_
     rw [Array.toList_setIfInBounds,Array.toList_setIfInBounds,hn.1]
     exact Ba hc _ hv
theorem UD {ρ:yP} {place:Nat->Option (Nat × Nat)}:∀ (ps ps':List (Nat × Value)) (c c':Array Value) (r:Array Value),K0 ρ ps ps'->xp ρ c.toList c'.toList->Instr.fill place c ps=some r ->
  ∃ r',Instr.fill place c' ps'=some r'/\xp ρ r.toList r'.toList
 | [],ps',c,c',r,hp,hc,he=>by
   have:ps' = []:=by have:=hp.2;simp at this;cases ps' <;> simp_all
   subst this
   simp only [Instr.fill,My] at he
   subst he
   exact ⟨c',rfl,hc⟩
 | (i,v) :: ps,ps',c,c',r,hp,hc,he=>by
   cases ps' with
   | nil=>have:=hp.2;simp at this
   | cons p ps'=>
     obtain ⟨i',v'⟩:=p
     obtain ⟨h1,h2⟩:=hp
     simp only [N6,NF] at h1 h2
     obtain ⟨rfl,h2⟩:=h2
     obtain ⟨y,ys,e,hv,hr⟩:=h1.cons_inv
     simp only [NF] at e
     obtain ⟨e1,e2⟩:=e
     subst e1 e2
     simp only [Instr.fill] at he ⊢
     cases hpl:place i with
     | none=>rw [hpl] at he;cases he
     | some x=>
       obtain ⟨off,size⟩:=x
       rw [hpl] at he
       simp only at he ⊢
       have hcells:=hv.cells
       have e1:v'.cells.size=v.cells.size:=by simpa using hcells.1.symm
       have e2:c'.size=c.size:=by simpa using hc.1.symm
       split at he
       ·cases he
       ·rename_i hcond
        rw [MJ (by rw [e1,e2];exact hcond)]
        refine UD ps ps' _ _ r ⟨hr,h2⟩ ?_ he
        rw [<- Array.foldl_toList,<- Array.foldl_toList]
        refine aH off _ _ c c' ?_ ?_ hc
        ·simp only [Array.toList_zipIdx]
         have q:∀ (l:List Value) k,(l.zipIdx k).map (·.1)=l:=fun l k=>by simp
         rw [q,q];exact hcells
        ·simp only [Array.toList_zipIdx]
         have q:∀ (l:List Value) k,(l.zipIdx k).map (·.2)=List.range' k l.length:=fun l k=>by simp
         rw [q,q,hcells.1]
def ZT (s:Env):List (Nat × Operand)->Option (List (Nat × Value))
 | []=>some []
 | (i,x) :: ps=>match uN s x with
   | none=>none
   | some v=>match ZT s ps with
     | none=>none
     | some vs=>some ((i,v) :: vs)
theorem Xu {ρ:yP} {s:Env} {a:Act} (hs:wA ρ s a.tmps):∀ {ps:List (Nat × Operand)} {vs:List (Nat × Value)},ZT s ps=some vs->K0 ρ vs (ps.map fun x=>(x.1,a.eval x.2))
 | [],vs,h=>by simp only [ZT,My] at h;subst h;exact ⟨.nil ρ,rfl⟩
 | (i,x) :: ps,vs,h=>by
   simp only [ZT] at h
   split at h
   ·cases h
   ·rename_i v hv
    split at h
    ·cases h
    ·rename_i vs' hvs
     simp only [My] at h
     subst h
     have:=Xu hs hvs
     exact ⟨.cons (zP hs hv) this.1,by simp [this.2]⟩
def xP (P:Program) (t:TypeId):Option Value:=fl (zU P (zeroValue t))
theorem qA {ρ:yP} {t:TypeId} {z:Value} (h:xP P t=some z) (w:World):(zeroValue t).run P w = .ok z w/\zD ρ z z:=by
 obtain ⟨h1,h2⟩:=Yr h
 exact ⟨zg h1 w,.of_flat ρ h2⟩
def Eg (P:Program) (fields:Array Field):Option (Array (Nat × Nat)):=zU P (fields.mapM fun f=>do pure (f.offset,<- sizeOf f.type))
def yR (P:Program) (t:TypeId) (parts:List (Nat × Value)):Option Value :=
 match xP P t with
 | none=>none
 | some z=>match zU P (underlying t) with
   | some (.struct fields)=>(match Eg P fields with
     | none=>none
     | some places=>(Instr.fill (places[·]?) z.cells parts).map .agg)
   | some (.array _ elem)=>(match zU P (sizeOf elem) with
     | none=>none
     | some n=>(Instr.fill (fun i=>some (i * n,n)) z.cells parts).map .agg)
   | _=>none
theorem gI {ρ:yP} {t:TypeId} {parts parts':List (Nat × Value)} {v:Value} (h:yR P t parts=some v) (hp:K0 ρ parts parts') (w:World) :
  ∃ v',(Instr.build t parts'.toArray).run P w = .ok v' w/\zD ρ v v':=by
 unfold yR at h
 split at h
 ·cases h
 ·rename_i z hz
  obtain ⟨e0,hz⟩:=qA (ρ:=ρ) hz w
  split at h
  ·rename_i fields hu
   split at h
   ·cases h
   ·rename_i places hpl
    simp only [MR] at h
    obtain ⟨r,hr,rfl⟩:=h
    obtain ⟨r',hr',hv⟩:=UD _ _ _ _ _ hp hz.cells hr
    refine ⟨.agg r',?_,.agg (by simpa using hv.1) (fun i x y hx hy=>hv.2 i x y (by simpa using hx) (by simpa using hy))⟩
    simp only [Instr.build,ME,e0,Mz,zg hu,zg hpl,hr',MN]
  ·rename_i n elem hu
   split at h
   ·cases h
   ·rename_i n hn
    simp only [MR] at h
    obtain ⟨r,hr,rfl⟩:=h
    obtain ⟨r',hr',hv⟩:=UD _ _ _ _ _ hp hz.cells hr
    refine ⟨.agg r',?_,.agg (by simpa using hv.1) (fun i x y hx hy=>hv.2 i x y (by simpa using hx) (by simpa using hy))⟩
    simp only [Instr.build,ME,e0,Mz,zg hu,zg hn,hr',MN]
  ·cases h
def cZ (h:za) (c:List Value) (t:TypeId):Value × za:=(.pointer (some ⟨h.next,0,none⟩),h.push (.cells c t))
theorem UP {ρ:yP} {h:za} {w:World} (hr:Rel P ρ h w) {v v':Value} (hv:zD ρ v v') (t:TypeId) :
  ∃ a' w' ρ',(newVar t v').run P w = .ok a' w'/\Step P ρ h w ρ' (cZ h v.cells.toList t).2 w'/\zD ρ' (cZ h v.cells.toList t).1 (.pointer (some a')):=by
 have hc:=hv.cells
 obtain ⟨e,st⟩:=VS (t:=t) hr (c:=v.cells.toList) (cs:=v'.cells) (by rw [hc.1,NR];exact MI _) (fun i x hx=>by
  obtain ⟨y,hy,hxy⟩:=hc.get hx
  exact ⟨y,by simpa using hy,hxy⟩)
 exact ⟨_,_,_,e,st,.new hr _ rfl⟩
def q7 (z:List Value) (n:Nat):List Value:=(List.range n).map fun i=>(z[i % z.length]?).getD default
theorem f8 (z:Array Value) (n:Nat):((Array.range n).map fun i=>z[i % z.size]!)=(q7 z.toList n).toArray:=by
 apply Om
 simp only [Array.toList_map,Array.toList_range,q7]
 apply List.map_congr_left
 intro i _
 simp [getElem!_def]
 cases z[i % z.size]? <;> rfl
theorem cE {ρ:yP} {z:Value} (h:zD ρ z z) (hd:z.cells.size ≠ 0) (n:Nat):xp ρ (q7 z.cells.toList n) (q7 z.cells.toList n):=by
 refine ⟨rfl,fun i x y hx hy => ?_⟩
 rw [hx] at hy
 cases hy
 simp only [q7,M5,MR] at hx
 obtain ⟨k,_,hk⟩:=hx
 have hlt:k % z.cells.toList.length < z.cells.toList.length:=Nat.mod_lt _ (by simp;omega)
 rw [MF hlt] at hk
 simp only [Ol] at hk
 have:=h.cells.2 _ _ _ (MF hlt) (MF hlt)
 rw [hk] at this
 exact this
def Yl (P:Program) (t:TypeId) (len cap:Value) (h:za):Option (Value × za) :=
 match len,cap,zU P (underlying t) with
 | .int _ l,.int _ c,some (.slice elem)=>(match zU P (typeInfo elem) with
   | none=>none
   | some i=>(match xP P elem with
     | none=>none
     | some z=>cond (decide (IntKind.i64.wrap l=l) && decide (IntKind.i64.wrap c=c) && decide (0<=l) && decide (l<=c) && decide (i.bytes * c<=2 ^ 48) && Nat.beq z.cells.size i.size && Nat.blt 0 i.size)
       (some (.slice (some ⟨h.next,0,none⟩) l.toNat (c.toNat + 2),h.push (.cells (q7 z.cells.toList (c.toNat * i.size)) elem))) none))
 | _,_,_=>none
theorem uW {t:TypeId} {i:TypeInfo} (h:zU P (typeInfo t)=some i):P.cellsOf t=i.size /\ ∀ w,(sizeOf t).run P w = .ok i.size w:=by
 have h0:=h
 constructor
 ·simp only [typeInfo,program,Sem.bind,bind,zU] at h
  cases hp:P.info? t with
  | none=>rw [hp] at h;cases h
  | some j=>rw [hp] at h;simp only [pure,zU,My] at h;subst h;simp [Program.cellsOf,hp]
 ·intro w
  simp only [sizeOf,ME,zg h0,Mz,MN]
theorem l7 {ρ:yP} {t:TypeId} {l l' c c' v:Value} {h h':za} {w:World} (he:Yl P t l c h=some (v,h')) (hr:Rel P ρ h w) (hl:zD ρ l l') (hc:zD ρ c c') :
  ∃ v' w' ρ',(Instr.makeSlice t l' c').run P w = .ok v' w'/\Step P ρ h w ρ' h' w'/\zD ρ' v v':=by
 unfold Yl at he
 split at he
 ·rename_i kl l kc c elem hu
  cases hl;cases hc
  split at he
  ·cases he
  ·rename_i i hi
   split at he
   ·cases he
   ·rename_i z hz
    cases hcond:(decide (IntKind.i64.wrap l=l) && decide (IntKind.i64.wrap c=c) && decide (0<=l) && decide (l<=c) && decide (i.bytes * c<=2 ^ 48) && Nat.beq z.cells.size i.size && Nat.blt 0 i.size) with
    | false=>rw [hcond] at he;cases he
    | true=>
      rw [hcond] at he
      simp only [MV,My,MC] at he
      obtain ⟨rfl,rfl⟩:=he
      simp only [MG,Nj] at hcond
      obtain ⟨⟨⟨⟨⟨⟨w1,w2⟩,p1⟩,p2⟩,p3⟩,zs⟩,sp⟩:=hcond
      have zs:=MQ zs
      have sp:0 < i.size:=by simpa [No] using sp
      obtain ⟨e0,hz'⟩:=qA (ρ:=ρ) hz w
      obtain ⟨sz1,sz2⟩:=uW hi
      obtain ⟨e,st⟩:=VS (t:=elem) hr (c:=q7 z.cells.toList (c.toNat * i.size)) (cs:=(Array.range (c.toNat * i.size)).map fun k=>z.cells[k % z.cells.size]!)
       (by simp [q7]) (fun k x hx=>by
        rw [f8]
        obtain ⟨y,hy,hxy⟩:=(cE hz' (by omega) (c.toNat * i.size)).get hx
        exact ⟨y,by simpa using hy,hxy⟩)
      refine ⟨.slice (some ⟨w.heap.size,0,none⟩) l.toNat c.toNat,_,_,?_,st,?_⟩
      ·have b1:¬ ((i.bytes:Int) * c > 2 ^ 48):=by omega
       have b2:¬ (c < 0):=by omega
       have b3:¬ (l < 0):=by omega
       have b4:¬ (l > c):=by omega
       simp only [Instr.makeSlice,asInt,asIntOf,ME,MN,Mz,zg hu,zg hi,w1,w2]
       rw [MJ (by simp [b2,b3,b4];omega)]
       simp only [ME,run_askRoom,Mz,sz2]
       by_cases hn:c.toNat * i.size=0
       ·rw [MK hn]
        have e1:((Array.range (c.toNat * i.size)).map fun k=>(#[]:Array Value)[k % (#[]:Array Value).size]!)=((Array.range (c.toNat * i.size)).map fun k=>z.cells[k % z.cells.size]!):=by rw [hn];simp
        simp only [ME,MN,Mz]
        rw [e1,e]
        simp only [Mz]
       ·rw [MJ hn]
        simp only [ME,e0,MN,Mz,e]
      ·refine zD.slice (ρ:=ρ.ext _) (b:=h.next) (off:=0) (pl:=⟨w.heap.size,0,_,_⟩) (by show h.next < ρ.next + 1;rw [hr.next];exact NN _) (by rw [<- hr.next];exact ρ.uo _) (by omega) ?_
       intro _
       refine ⟨by simp [sz1],fun k hk=>by omega⟩
 ·cases he
end
noncomputable section
variable {P:Program}
def VD:Nat->Nat->Nat
 | 0,_=>0
 | 1,_=>1
 | k + 2,l=>(k - l) + 2
def vL (x:Option Value) (d:Nat) (most:Nat):Option Nat :=
 match x with
 | none=>some d
 | some (.int _ i)=>cond (decide (0<=i) && decide (i<=most)) (some i.toNat) none
 | some _=>none
def wide (P:Program) (h:za) (b n:Nat):Bool :=
 match h.get b with
 | some (.cells _ t)=>Nat.beq (P.cellsOf t) n
 | _=>false
def QG (P:Program) (t:TypeId) (x:Value) (lo hi:Option Value) (h:za):Option Value :=
 match zU P (underlying t),x with
 | some (.slice elem),.slice base len c=>(match zU P (sizeOf elem) with
   | none=>none
   | some n=>(match vL hi len len with
     | none=>none
     | some hh=>(match vL lo 0 hh with
       | none=>none
       | some l=>(match base with
         | none=>cond (Nat.beq len 0) (some (.slice none 0 0)) none
         | some ⟨b,off,none⟩=>some (.slice (some ⟨b,off + l * n,none⟩) (hh - l) (cond (wide P h b n) (VD c l) 0))
         | some _=>none))))
 | some (.array k elem),.pointer (some ⟨b,off,none⟩)=>(match zU P (sizeOf elem) with
   | none=>none
   | some n=>(match vL hi k k with
     | none=>none
     | some hh=>(match vL lo 0 hh with
       | none=>none
       | some l=>some (.slice (some ⟨b,off + (if k=l then 0 else l * n),none⟩) (hh - l) 0))))
 | _,_=>none
theorem WQ {x:Option Value} {d most r:Nat} (h:vL x d most=some r) (hd:d<=most):r<=most:=by
 unfold vL at h
 split at h
 ·simp only [My] at h;omega
 ·rename_i k i
  cases hc:(decide (0<=i) && decide (i<=(most:Int))) with
  | false=>rw [hc] at h;cases h
  | true=>
    rw [hc] at h
    simp only [MV,My] at h
    simp only [MG,Nj] at hc
    omega
 ·cases h
theorem JR {ρ:yP} {x x':Option Value} {d most r:Nat} (h:vL x d most=some r) (hx:∀ v,x=some v->∃ v',x'=some v'/\zD ρ v v') (hn:x=none->x'=none) {y:Nat} (hy:most<=y) (code:BoundsCode) (w:World) :
  (match x' with | some v=>Instr.sliceBound v y code | none=>(pure d:Sem Nat)).run P w = .ok r w:=by
 unfold vL at h
 split at h
 ·rw [hn rfl]
  simp only [My] at h
  subst h;rfl
 ·rename_i k i
  obtain ⟨v',rfl,hv⟩:=hx _ rfl
  cases hv
  cases hc:(decide (0<=i) && decide (i<=(most:Int))) with
  | false=>rw [hc] at h;cases h
  | true=>
    rw [hc] at h
    simp only [MV,My] at h
    simp only [MG,Nj] at hc
    subst h
    simp only [Instr.sliceBound,asIntOf,ME,MN,Mz,OD]
    rw [MK (by omega)]
 ·cases h
def td (ρ:yP) (x x':Option Value):Prop:=(∀ v,x=some v->∃ v',x'=some v'/\zD ρ v v')/\(x=none->x'=none)
theorem Xz {ρ:yP} {lo lo' hi hi':Option Value} {len cap hh l:Nat} (hhi:vL hi len len=some hh) (hlo:vL lo 0 hh=some l) (rl:td ρ lo lo') (rh:td ρ hi hi') (hl:len<=cap) (b:Bool) (w:World) :
  (Instr.sliceBounds b len cap lo' hi' none).run P w = .ok (l,hh,cap) w:=by
 have h1:=JR (P:=P) hhi rh.1 rh.2 hl (if b then .sliceAcap else .sliceAlen) w
 have h2:=JR (P:=P) hlo rl.1 rl.2 (MI hh) (.sliceB) w
 unfold Instr.sliceBounds
 cases hi' with
 | none=>
   have e1:len=hh:=by simpa using h1
   subst e1
   cases lo' with
   | none=>have e2:0=l:=by simpa using h2
           subst e2;rfl
   | some v=>
     simp only at h2
     simp only [ME,MN,Mz,Option.isSome_none,Nz,MS,h2]
 | some u=>
   simp only at h1
   cases lo' with
   | none=>have e2:0=l:=by simpa using h2
           subst e2
           simp only [ME,MN,Mz,h1]
   | some v=>
     simp only at h2
     simp only [ME,MN,Mz,Option.isSome_none,Nz,MS,h1,h2]
theorem gY {ρ:yP} {t:TypeId} {x x' v:Value} {lo lo' hi hi':Option Value} {h:za} {w:World} (he:QG P t x lo hi h=some v) (hr:Rel P ρ h w) (hx:zD ρ x x') (rl:td ρ lo lo') (rh:td ρ hi hi') :
  ∃ v',(Instr.sliceAt t x' lo' hi' none).run P w = .ok v' w/\zD ρ v v':=by
 unfold QG at he
 split at he
 ·rename_i elem base len c hu
  split at he
  ·cases he
  ·rename_i n hn
   split at he
   ·cases he
   ·rename_i hh hhi
    split at he
    ·cases he
    ·rename_i l hlo
     have h1:=WQ hhi (MI _)
     have h2:=WQ hlo (NG _)
     cases hx with
     | sliceNil=>
       simp only [Oo,MV,My] at he
       subst he
       have:hh=0:=by omega
       subst this
       have:l=0:=by omega
       subst this
       refine ⟨.slice none 0 0,?_,.sliceNil 0⟩
       have hb:=Xz (P:=P) hhi hlo rl rh (MI 0) true w
       simp only [Instr.sliceAt,Instr.slice,ME,zg hu,Mz,hb,zg hn,MN,MA,Nat.sub_self]
     | slice hb hm hl hc=>
       rename_i b off cap pl
       simp only [My] at he
       subst he
       have hbd:=Xz (P:=P) hhi hlo rl rh hl true w
       have hrun:(Instr.sliceAt t (.slice (some ⟨pl.c,pl.base + off,none⟩) len cap) lo' hi' none).run P w = .ok (.slice (if cap=l then some ⟨pl.c,pl.base + off,none⟩ else some ⟨pl.c,pl.base + off + l * n,none⟩) (hh - l) (cap - l)) w:=by
        simp only [Instr.sliceAt,Instr.slice,ME,zg hu,Mz,hbd,zg hn,MN,NX,qh]
       by_cases hcl:cap=l
       ·refine ⟨_,hrun,?_⟩
        rw [MK hcl]
        have e1:hh - l=0:=by omega
        have e2:cap - l=0:=by omega
        rw [e1,e2]
        refine .sliceOut hb ?_
        cases hw:wide P h b n with
        | false=>exact NG _
        | true=>
          simp only [MV]
          unfold VD
          split
          ·omega
          ·omega
          ·rename_i k
           have:=(hc (by omega)).2 k rfl
           omega
       ·refine ⟨_,hrun,?_⟩
        rw [MJ hcl,Oy]
        refine .slice hb hm (by omega) ?_
        cases hw:wide P h b n with
        | false=>intro hne;exact absurd rfl hne
        | true=>
          simp only [MV]
          intro hne
          have hc0:c ≠ 0:=by intro e;subst e;exact hne rfl
          obtain ⟨c1,c2⟩:=hc hc0
          unfold wide at hw
          split at hw
          ·rename_i cs tb hg
           have hw:=MQ hw
           obtain ⟨cs',fz,_,_,hesz,_⟩:=hr.place hg hm
           rw [hesz.1,hw] at c1 ⊢
           refine ⟨?_,?_⟩
           ·have:l * n + (cap - l) * n=cap * n:=by rw [<- OK];congr 1;omega
            omega
           ·intro k hk
            unfold VD at hk
            split at hk
            ·omega
            ·omega
            ·have:=c2 _ rfl
             omega
          ·cases hw
     | sliceOut hb hc=>
       rename_i b off a
       simp only [My] at he
       subst he
       have:hh=0:=by omega
       subst this
       have:l=0:=by omega
       subst this
       refine ⟨.slice (some a) 0 0,?_,.sliceOut hb ?_⟩
       ·have hbd:=Xz (P:=P) hhi hlo rl rh (MI 0) true w
        simp only [Instr.sliceAt,Instr.slice,ME,zg hu,Mz,hbd,zg hn,MN,MA,Nat.sub_self]
       ·cases wide P h b n with
        | false=>exact NG _
        | true=>simp only [MV];unfold VD;split <;> omega
 ·rename_i k elem b off hu
  cases hx with
  | ptr hb hm=>
    rename_i pl
    split at he
    ·cases he
    ·rename_i n hn
     split at he
     ·cases he
     ·rename_i hh hhi
      split at he
      ·cases he
      ·rename_i l hlo
       simp only [My] at he
       subst he
       have h1:=WQ hhi (MI _)
       have h2:=WQ hlo (NG _)
       have hbd:=Xz (P:=P) hhi hlo rl rh (MI k) false w
       refine ⟨_,by simp only [Instr.sliceAt,Instr.sureAddr,ME,zg hu,MN,Mz,hbd,zg hn];rfl,?_⟩
       have:(if k=l then (Addr.mk pl.c (pl.base + off) none) else (Addr.mk pl.c (pl.base + off) none).add (l * n))=⟨pl.c,pl.base + (off + (if k=l then 0 else l * n)),none⟩:=by
        split
        ·rfl
        ·rw [qh,Oy]
       rw [this]
       exact .slice hb hm (by omega) (fun hne=>absurd rfl hne)
 ·cases he
def DW (P:Program) (t:TypeId) (x:Value):Option Value :=
 match zU P (underlying t),x with
 | some (.slice _),.slice _ n _=>some (goInt n)
 | some .string,.string s=>some (goInt s.size)
 | some (.array n _),_=>some (goInt n)
 | _,_=>none
theorem oO {ρ:yP} {t:TypeId} {x x' v:Value} (he:DW P t x=some v) (hx:zD ρ x x') (r:TypeId) (w:World):(Builtin.len_ #[t] r #[x']).run P w = .ok v w/\zD ρ v v:=by
 unfold DW at he
 split at he
 ·rename_i hu
  simp only [My] at he
  subst he
  refine ⟨?_,.int _ _⟩
  cases hx <;> simp [Builtin.len_,zg hu]
 ·rename_i hu
  simp only [My] at he
  subst he
  refine ⟨?_,.int _ _⟩
  cases hx;simp [Builtin.len_,zg hu]
 ·rename_i hu
  simp only [My] at he
  subst he
  refine ⟨?_,.int _ _⟩
  simp [Builtin.len_,zg hu]
 ·cases he
end
noncomputable section
variable {P:Program}
def wW (h:za) (n size:Nat):Value->Option (List Value)
 | .slice (some ⟨b,off,none⟩) _ _=>cond (Nat.beq (n * size) 0) (some []) (match h.get b with
   | some (.cells c _)=>cond (Nat.ble (off + n * size) c.length) (some ((c.drop off).take (n * size))) none
   | _=>none)
 | .slice none _ _=>some []
 | .string s=>some ((s.extract 0 n).data.toList.map fun b => .int .u8 b.toNat)
 | _=>none
def ZQ:Value->Option Nat
 | .slice _ n _=>some n
 | .string s=>some s.size
 | _=>none
theorem Kk {ρ:yP} {x x':Value} {n:Nat} (h:ZQ x=some n) (hx:zD ρ x x') (w:World):(Builtin.lenOf x').run P w = .ok n w:=by
 cases hx with
 | iN _=>cases h
 | _=>simp only [ZQ,My,reduceCtorEq] at h <;> subst h <;> rfl
theorem XC {ρ:yP} {h:za} {w:World} {n size:Nat} {x x':Value} {c:List Value} (he:wW h n size x=some c) (hr:Rel P ρ h w) (hx:zD ρ x x') (hn:∀ b l cap,x = .slice b l cap->n<=l) :
  ∃ c':List Value,(Builtin.firstCells size n x').run P w = .ok c'.toArray w/\xp ρ c c':=by
 have hzero:n * size=0->∀ a:Addr,(loadCells a (n * size)).run P w = .ok ([]:List Value).toArray w:=by
  intro e a;rw [e];rfl
 cases hx with
 | sliceNil c0=>
   simp only [wW,My] at he
   subst he
   exact ⟨[],rfl,.nil ρ⟩
 | slice hb hm hl hc=>
   rename_i b off len c0 cap pl
   simp only [wW] at he
   cases hz:Nat.beq (n * size) 0 with
   | true=>
     rw [hz] at he
     simp only [MV,My] at he
     subst he
     exact ⟨[],by simp only [Builtin.firstCells];exact hzero (MQ hz) _,.nil ρ⟩
   | false=>
     rw [hz] at he
     simp only [M7] at he
     split at he
     ·rename_i cs t hg
      cases hle:Nat.ble (off + n * size) cs.length with
      | false=>rw [hle] at he;cases he
      | true=>
        rw [hle] at he
        simp only [MV,My] at he
        subst he
        obtain ⟨ys,hys,hv⟩:=uV (hr.place hg hm) off (n * size) (M3 hle)
        exact ⟨ys,by simpa only [Builtin.firstCells] using hys,hv⟩
     ·cases he
 | sliceOut hb hc=>
   rename_i b off c0 a
   have:=hn _ _ _ rfl
   have hz:n * size=0:=by have:n=0:=by omega
                          subst this;simp
   simp only [wW,hz,Oo,MV,My] at he
   subst he
   exact ⟨[],by simp only [Builtin.firstCells];exact hzero hz _,.nil ρ⟩
 | string s=>
   simp only [wW,My] at he
   subst he
   refine ⟨_,?_,⟨rfl,fun i x y hx hy => ?_⟩⟩
   ·simp only [Builtin.firstCells,MN]
    congr 1
    apply Om
    simp
   ·rw [hx] at hy;cases hy
    simp only [M5,MR] at hx
    obtain ⟨b,_,rfl⟩:=hx
    exact .int _ _
 | _=>cases he
def QQ:TypeDesc->Bool
 | .int _=>true
 | _=>false
theorem fH (need:Nat) (hn:255<=need):∀ (r c:Nat),c<=2 * need->Builtin.growBy need r c<=2 * need
 | 0,c,h=>h
 | r + 1,c,h=>by
   unfold Builtin.growBy
   split
   ·exact h
   ·exact fH need hn r _ (by omega)
theorem pR (need cap:Nat) (h:cap < need):Builtin.nextslicecap need cap<=2 * need:=by
 unfold Builtin.nextslicecap
 split
 ·omega
 ·split
  ·omega
  ·exact fH need (by omega) 4 cap (by omega)
theorem UQ (need:Nat) (h:0 < need):Builtin.nextslicecap need 0=need:=by
 unfold Builtin.nextslicecap;rw [MK (by omega)]
theorem run_append_grow {ρ:yP} {h:za} {w:World} (hr:Rel P ρ h w) {sT xT elem:TypeId} {r:TypeId} {xd:TypeDesc} {i:TypeInfo} {z:Value} {base:Option Addr} {len cap n:Nat} {x':Value} {old old' new new':List Value}
  (h1:zU P (underlying sT)=some (.slice elem)) (h2:zU P (underlying xT)=some xd) (h3:QQ xd=false) (hi:zU P (typeInfo elem)=some i) (hz:xP P elem=some z)
  (hb:0 < i.bytes) (hzs:z.cells.size=i.size)
  (hlen:∀ w,(Builtin.lenOf x').run P w = .ok n w) (hgrow:cap < len + n) (hlim:Builtin.nextslicecap (len + n) cap * i.bytes<=2 ^ 48)
  (hold:(Builtin.firstCells i.size len (.slice base len cap)).run P { w with drawn:=w.drawn + 1 } = .ok old'.toArray { w with drawn:=w.drawn + 1 }) (hnew:(Builtin.firstCells i.size n x').run P { w with drawn:=w.drawn + 1 } = .ok new'.toArray { w with drawn:=w.drawn + 1 })
  (vold:xp ρ old old') (vnew:xp ρ new new') (hol:old.length=len * i.size) (hnl:new.length=n * i.size) :
  ∃ cap' w' pl,(Builtin.append_ #[sT,xT] r #[.slice base len cap,x']).run P w = .ok (.slice (some ⟨w.heap.size,0,none⟩) (len + n) cap') w'/\len + n<=cap'/\pl.c=w.heap.size/\pl.base=0/\pl.sr=i.size/\cap' * i.size<=pl.size /\
    Step P ρ h w (ρ.ext pl) (h.push (.cells (old ++ new) elem)) w':=by
 obtain ⟨sz1,sz2⟩:=uW hi
 obtain ⟨z1,_⟩:=qA (ρ:=ρ) hz w
 have z1:∀ w,(zeroValue elem).run P w = .ok z w:=fun w=>(qA (ρ:=ρ) hz w).1
 let q:Question := .appendCap (len + n) cap elem
 let newCap:=q.cut (w.tape w.drawn q)
 let w1:World:={ w with drawn:=w.drawn + 1 }
 have hge:len + n<=newCap:=by show len + n<=(len + n) + _ % _;omega
 let cs:Array Value:=old'.toArray ++ new'.toArray ++ Builtin.zeroCells z.cells (newCap - (len + n))
 have hr1:Rel P ρ h w1:=hr.grow (fun k _=>rfl)
 have hcs:cs.size=newCap * i.size:=by
  simp only [cs,Builtin.zeroCells,Array.size_append,List.size_toArray,Array.size_map,Array.size_range,<- vold.1,<- vnew.1,hol,hnl,hzs]
  rw [<- OK,<- OK];congr 1;omega
 have st:=Step.push (t:=elem) hr1 (c:=old ++ new) (cs:=cs) (fz:=(0,0)) (w':={ w1 with heap:=w1.heap.push (.cells cs elem) }) rfl (fun i _ hi=>by simp at hi)
  (by simp only [cs,Array.size_append,OF,List.size_toArray,vold.1,vnew.1];omega)
  (fun k x hx=>by
   obtain ⟨y,hy,hxy⟩:=(vold.append vnew).get hx
   refine ⟨y,?_,hxy⟩
   have hlt:k < (old' ++ new').length:=by
    rcases MX k (old' ++ new').length with h | h
    ·exact h
    ·rw [MO h] at hy;cases hy
   have:cs=(old' ++ new').toArray ++ Builtin.zeroCells z.cells (newCap - (len + n)):=by
    have e:old'.toArray ++ new'.toArray=(old' ++ new').toArray:=by simp
    simp only [cs];rw [e]
   rw [this,Array.getElem?_append_left (by simpa using hlt)]
   simpa using hy) rfl rfl rfl
 refine ⟨newCap,_,⟨w.heap.size,0,cs.size,P.cellsOf elem⟩,?_,hge,rfl,rfl,sz1,by rw [hcs];exact MI _,⟨st.le,st.rel,st.ro,st.os,st.tape,st.output,st.size,st.frame,st.KI⟩⟩
 have e1:¬ (len + n<=cap):=by omega
 simp only [Builtin.append_]
 simp only [N8,MD,MH,ME,zg h1,Mz,sz2,zg h2,MN]
 rw [MJ (by cases xd <;> first | exact OG | cases h3)]
 simp only [ME,hlen,Mz]
 rw [MJ e1]
 simp only [ME,zg hi,Mz]
 rw [MJ (by
  rintro ⟨_,h | h⟩
  ·revert h;cases xd <;> first | exact OG | cases h3
  ·omega)]
 simp only [ME,zg hi,Mz]
 rw [MJ (by omega)]
 have hq:(choose (.appendCap (len + n) cap elem)).run P w = .ok newCap w1:=by rw [run_choose];rfl
 simp only [ME,hq,Mz,zg hi,run_askRoom]
 rw [show w1 = { w with drawn:=w.drawn + 1 } from rfl,hold]
 simp only [Mz]
 rw [MK (by cases xd <;> first | rfl | cases h3)]
 rw [hnew]
 simp only [Mz,z1,MN]
 rfl
theorem dk {ρ:yP} {h:za} {w:World} (hr:Rel P ρ h w) {sT xT elem:TypeId} {r:TypeId} {xd:TypeDesc} {i:TypeInfo} {b off len cap n:Nat} {cs:List Value} {pl:Place} {x':Value} {new new':List Value}
  (h1:zU P (underlying sT)=some (.slice elem)) (h2:zU P (underlying xT)=some xd) (h3:QQ xd=false) (hi:zU P (typeInfo elem)=some i)
  (hlen:∀ w,(Builtin.lenOf x').run P w = .ok n w) (hfits:len + n<=cap) (hg:h.get b=some (.cells cs elem)) (hm:ρ.m b=some pl) (hro:h.ro<=b)
  (hnew:(Builtin.firstCells i.size n x').run P w = .ok new'.toArray w) (vnew:xp ρ new new') (hnl:new.length=n * i.size) (hcell:∀ x ∈ new,xE x=true)
  (hroom:pl.base + off + cap * i.size<=pl.size) (hhave:off + len * i.size<=cs.length) (hoff:off % i.size=0) :
  ∃ w',(Builtin.append_ #[sT,xT] r #[.slice (some ⟨pl.c,pl.base + off,none⟩) len cap,x']).run P w = .ok (.slice (some ⟨pl.c,pl.base + off,none⟩) (len + n) cap) w' /\
    Step P ρ h w (ρ.ext ⟨pl.c,pl.base + off,pl.size,pl.sr⟩) ((h.set b none).push (.cells (((cs.drop off).take (len * i.size)) ++ new) elem)) w':=by
 obtain ⟨sz1,sz2⟩:=uW hi
 obtain ⟨cs',fz,g1,g2,g3,g4,g5,g6⟩:=hr.place hg hm
 have key:∀ (vs vs':List Value) (w0:World) (cc:Array Value) (j:Nat),w0.heap[pl.c]? = some (.cells cc elem fz)->cc.size=pl.size->pl.base + off + len * i.size + j + vs.length<=pl.size->xp ρ vs vs'->(∀ x ∈ vs,xE x=true) ->
   ∃ w',(storeCells ⟨pl.c,pl.base + off + len * i.size,none⟩ vs' j).run P w0 = .ok () w'/\(∃ dd:Array Value,w'.heap[pl.c]? = some (.cells dd elem fz)/\dd.size=cc.size /\
     (∀ k,(k < pl.base + off + len * i.size + j)->dd[k]? = cc[k]?)/\(∀ k y,vs'[k]? = some y->dd[pl.base + off + len * i.size + j + k]? = some y)) /\
     (∀ k,k ≠ pl.c->w'.heap[k]? = w0.heap[k]?)/\w'.os=w0.os/\w'.tape=w0.tape/\w'.output=w0.output/\w'.heap.size=w0.heap.size:=by
  intro vs
  induction vs with
  | nil=>
    intro vs' w0 cc j hb hsz _ hv _
    cases hv.wX
    exact ⟨w0,rfl,⟨cc,hb,rfl,fun _ _=>rfl,fun k y hy=>by simp at hy⟩,fun _ _=>rfl,rfl,rfl,rfl,rfl⟩
  | cons v vs ih=>
    intro vs' w0 cc j hb hsz hle hv hco
    obtain ⟨v',vs'',rfl,hv1,hv2⟩:=hv.cons_inv
    simp only [MY] at hle
    let p:=pl.base + off + len * i.size + j
    have hp:p < pl.size:=by show pl.base + off + len * i.size + j < pl.size;omega
    have hone:v'.oneCell'=true:=by have:=J3 hv1;rw [hco v (by simp)] at this;cases v' <;> simp_all [xE,Value.oneCell']
    have hcell0:w0.cell? ⟨pl.c,p,none⟩=some cc[p]!:=by
     simp only [World.cell?,hb]
     simp [getElem!_def,Na (show p < cc.size by omega)]
    have hfr:w0.frozen? ⟨pl.c,p,none⟩=false:=by
     have:=g5 (by simpa using hro) p hp
     obtain ⟨lo,hi'⟩:=fz
     simp [World.frozen?,hb] at this ⊢
     exact this
    have e1:(store ⟨pl.c,p,none⟩ v').run P w0 = .ok () (w0.setCell ⟨pl.c,p,none⟩ v'):=by
     rw [run_store _ _ _ _ _ hone,hcell0];simp [hfr]
    have hb1:(w0.setCell ⟨pl.c,p,none⟩ v').heap[pl.c]? = some (.cells (cc.setIfInBounds p v') elem fz):=by simp [World.setCell,Array.getElem?_modify,hb]
    obtain ⟨w',e2,⟨dd,d1,d2,d3,d4⟩,d5,d6,d7,d8,d9⟩:=ih vs'' _ (cc.setIfInBounds p v') (j + 1) hb1 (by simpa using hsz) (by omega) hv2 (fun x hx=>hco x (by simp [hx]))
    refine ⟨w',?_,⟨dd,d1,by simpa using d2,fun k hk => ?_,fun k y hy => ?_⟩,fun k hk=>(d5 k hk).trans (XW _ _ _ _ hk),d6,d7,d8,d9.trans (size_setCell _ _ _)⟩
    ·simp only [storeCells,qh,ME]
     rw [show (⟨pl.c,pl.base + off + len * i.size + j,none⟩:Addr)=⟨pl.c,p,none⟩ from rfl,e1]
     exact e2
    ·rw [d3 k (by omega),Nu,MJ (by show p ≠ k;omega)]
    ·cases k with
     | zero=>
       simp only [MD,My] at hy
       subst hy
       rw [Ox,d3 _ (by omega),Nu,MK rfl,MK (by omega)]
     | succ k=>
       have:=d4 k y (by simpa using hy)
       rw [show pl.base + off + len * i.size + j + (k + 1)=pl.base + off + len * i.size + (j + 1) + k by omega]
       exact this
 have hfit:pl.base + off + len * i.size + 0 + new.length<=pl.size:=by
  have:len * i.size + n * i.size<=cap * i.size:=by rw [<- OK];exact N3 _ hfits
  omega
 obtain ⟨w',e,⟨dd,d1,d2,d3,d4⟩,d5,d6,d7,d8,d9⟩:=key new new' w cs' 0 g1 g2 hfit vnew hcell
 refine ⟨w',?_,?_⟩
 ·simp only [Builtin.append_]
  simp only [N8,MD,MH,ME,zg h1,Mz,sz2,zg h2,MN]
  rw [MJ (by cases xd <;> first | exact OG | cases h3)]
  simp only [ME,hlen,Mz]
  rw [MK hfits]
  rw [MK (by cases xd <;> first | rfl | cases h3)]
  simp only [ME,hnew,Mz,qh,e,MN]
 ·have hr0:=hr.drop b
  have hle:=ρ.QR ⟨pl.c,pl.base + off,pl.size,pl.sr⟩
  have hr1:Rel P ρ (h.set b none) w':=⟨hr0.next,hr0.ro,hr0.XU,fun x ox hx=>by
    obtain ⟨p,hp,hc⟩:=hr0.ok x ox hx
    refine ⟨p,hp,hc.other (d5 _ ?_)⟩
    intro ec
    rw [za.yo] at hx
    split at hx
    ·cases hx
    ·rename_i ne
     exact ne (hr.inj x b _ _ p pl hx hg hp hm ec),hr0.inj,hr0.QO,hr0.kx⟩
  refine ⟨hle,hr1.push ⟨dd,fz,d1,d2.trans g2,⟨g3.1,by
   show (pl.base + off) % pl.sr=0
   rw [Nat.add_mod,g3.2,g3.1,sz1,hoff];simp⟩,?_,fun _=>g5 (by simpa using hro),?_⟩ ?_,rfl,d6,d7,d8,by omega,fun k hk hn=>d5 k (fun ec=>hn ⟨b,_,pl,hg,hro,hm,ec.symm⟩),?_⟩
  ·simp only [OF,OB,On,hnl] at hfit ⊢
   have:len * i.size + n * i.size<=cap * i.size:=by rw [<- OK];exact N3 _ hfits
   show pl.base + off + (min (len * i.size) (cs.length - off) + n * i.size)<=dd.size
   omega
  ·intro k x hx
   rcases MX k (len * i.size) with hk | hk
   ·have hk':k < ((cs.drop off).take (len * i.size)).length:=by simp only [OB,On];omega
    rw [NC hk',Nv hk,Nn] at hx
    obtain ⟨y,hy,hxy⟩:=g6 _ _ hx
    exact ⟨y,by rw [show (pl.base + off:Nat) + k=pl.base + (off + k) by omega,d3 _ (by omega)];exact hy,hxy.mono hle⟩
   ·have hl0:((cs.drop off).take (len * i.size)).length=len * i.size:=by simp only [OB,On];omega
    rw [NM (by omega),hl0] at hx
    obtain ⟨y,hy,hxy⟩:=vnew.get hx
    refine ⟨y,?_,hxy.mono hle⟩
    have:=d4 _ _ hy
    rw [show (pl.base + off:Nat) + k=pl.base + off + len * i.size + 0 + (k - len * i.size) by omega]
    exact this
  ·intro x o p hx hp ec
   rw [za.yo] at hx
   split at hx
   ·cases hx
   ·rename_i ne
    exact ne (hr.inj x b _ _ p pl hx hg hp hm ec)
  ·rintro k hk ⟨x,o,p,hx,hrx,hp,hpc⟩
   rw [za.wN] at hx
   split at hx
   ·rename_i ex
    subst ex
    rw [show (h.set b none).next=ρ.next from hr.next.symm,yP.uo] at hp
    cases hp
    exact ⟨b,_,pl,hg,hro,hm,hpc⟩
   ·have hlt:=hr0.XU x o hx
    have hp':ρ.m x=some p:=by rw [<- hp];exact (hle.2 x (by rw [hr0.next];exact hlt)).symm
    rw [za.yo] at hx
    split at hx
    ·cases hx
    ·exact ⟨x,o,p,hx,hrx,hp',hpc⟩
end
noncomputable section
variable {P:Program}
def uS (c need:Nat):Nat :=
 match c with
 | k + 2=>cond (Nat.ble need k) (k + 2) 1
 | _=>1
theorem ZY {c need k:Nat} (h:uS c need=k + 2):c=k + 2/\need<=k:=by
 unfold uS at h
 split at h
 ·rename_i q
  cases hq:Nat.ble need q with
  | true=>rw [hq] at h;simp only [MV] at h;exact ⟨h,by have:=M3 hq;omega⟩
  | false=>rw [hq] at h;simp only [M7] at h;omega
 ·omega
def roomFor (c need bytes:Nat):Bool:=Nat.ble (need * bytes) (cond (Nat.beq c 2) (2 ^ 48) (2 ^ 47))
def YS (h:za) (elem:TypeId) (i:TypeInfo) (n:Nat) (new:List Value) (s:Value):Option (Value × za) :=
 match s with
 | .slice none 0 0=>cond (Nat.beq n 0) (some (.slice none 0 0,h)) (cond (Nat.ble (n * i.bytes) (2 ^ 48)) (some (.slice (some ⟨h.next,0,none⟩) n 1,h.push (.cells new elem))) none)
 | .slice (some ⟨b,off,none⟩) len c=>cond (Nat.beq n 0) (some (s,h)) (match h.get b with
   | some (.cells cs t)=>cond (!(Nat.beq c 0) && Nat.beq t elem && Nat.ble h.ro b && Nat.ble (off + len * i.size) cs.length && (roomFor c (len + n) i.bytes && Nat.beq (off % i.size) 0))
     (some (.slice (some ⟨h.next,0,none⟩) (len + n) (uS c (len + n)),(h.set b none).push (.cells (((cs.drop off).take (len * i.size)) ++ new) elem))) none
   | _=>none)
 | _=>none
def Yi (P:Program) (sT xT:TypeId) (s x:Value) (h:za):Option (Value × za) :=
 match zU P (underlying sT),zU P (underlying xT),ZQ x with
 | some (.slice elem),some xd,some n=>(match zU P (typeInfo elem),xP P elem with
   | some i,some z=>(match wW h n i.size x with
     | some new=>cond (!(QQ xd) && Nat.blt 0 i.bytes && Nat.beq z.cells.size i.size && new.all xE && Nat.beq new.length (n * i.size)) (YS h elem i n new s) none
     | none=>none)
   | _,_=>none)
 | _,_,_=>none
theorem Step.pV {ρ:yP} {h:za} {w:World} (hr:Rel P ρ h w) (b:Nat):Step P ρ h w ρ (h.set b none) w :=
 ⟨yP.le_refl _,hr.drop b,rfl,rfl,rfl,rfl,MI _,fun _ _ _=>rfl,fun c _ hm=>by
  obtain ⟨x,o,pl,hx,h1,h2,h3⟩:=hm
  rw [za.yo] at hx
  split at hx
  ·cases hx
  ·exact ⟨x,o,pl,hx,h1,h2,h3⟩⟩
theorem Zo {sT xT elem:TypeId} {r:TypeId} {xd:TypeDesc} {i:TypeInfo} {len cap:Nat} {base:Option Addr} {x':Value} {w:World}
  (h1:zU P (underlying sT)=some (.slice elem)) (h2:zU P (underlying xT)=some xd) (h3:QQ xd=false) (hi:zU P (typeInfo elem)=some i)
  (hlen:∀ w,(Builtin.lenOf x').run P w = .ok 0 w) (hl:len<=cap) (hnew:(Builtin.firstCells i.size 0 x').run P w = .ok ([]:List Value).toArray w) :
  (Builtin.append_ #[sT,xT] r #[.slice base len cap,x']).run P w = .ok (.slice base len cap) w:=by
 obtain ⟨sz1,sz2⟩:=uW hi
 simp only [Builtin.append_]
 simp only [N8,MD,MH,ME,zg h1,Mz,sz2,zg h2,MN]
 rw [MJ (by cases xd <;> first | exact OG | cases h3)]
 simp only [ME,hlen,Mz]
 rw [MK (by omega)]
 rw [MK (by cases xd <;> first | rfl | cases h3)]
 simp only [ME,hnew,Mz,Ox]
 cases base with
 | none=>simp only [MN]
 | some a=>simp only [storeCells,MN,Mz,ME]
set_option maxHeartbeats 1000000 in
theorem cO {ρ:yP} {sT xT r:TypeId} {s s' x x' v:Value} {h h':za} {w:World} (he:Yi P sT xT s x h=some (v,h')) (hr:Rel P ρ h w) (hs:zD ρ s s') (hx:zD ρ x x') :
  ∃ v' w' ρ',(Builtin.append_ #[sT,xT] r #[s',x']).run P w = .ok v' w'/\Step P ρ h w ρ' h' w'/\zD ρ' v v':=by
 unfold Yi at he
 split at he
 case h_2=>cases he
 rename_i elem xd n h1 h2 hn
 split at he
 case h_2=>cases he
 rename_i i z hi hz
 split at he
 case h_2=>cases he
 rename_i new hnew
 cases hc:(!(QQ xd) && Nat.blt 0 i.bytes && Nat.beq z.cells.size i.size && new.all xE && Nat.beq new.length (n * i.size)) with
 | false=>rw [hc] at he;cases he
 | true=>
   rw [hc] at he
   simp only [MV] at he
   simp only [MG,MU,Ni] at hc
   obtain ⟨⟨⟨⟨h3,hb⟩,hzs⟩,hco⟩,hnl⟩:=hc
   have hb:0 < i.bytes:=by simpa [No] using hb
   have hzs:=MQ hzs
   have hnl:=MQ hnl
   have hlen:∀ w,(Builtin.lenOf x').run P w = .ok n w:=fun w=>Kk hn hx w
   have hnx:∀ b l cap,x = .slice b l cap->n<=l:=by intro b l cap e;subst e;simp only [ZQ,My] at hn;omega
   obtain ⟨new',hnew',vnew⟩:=XC hnew hr hx hnx
   have hnil:n=0->(Builtin.firstCells i.size 0 x').run P w = .ok ([]:List Value).toArray w:=by
    intro e
    subst e
    have:new' = []:=by have:=vnew.1;rw [hnl,OM] at this;exact NQ this.symm
    rw [this] at hnew';exact hnew'
   have hr1:Rel P ρ h { w with drawn:=w.drawn + 1 }:=hr.grow (fun k _=>rfl)
   obtain ⟨new1,hnew1,vnew1⟩:=XC (w:={ w with drawn:=w.drawn + 1 }) hnew hr1 hx hnx
   unfold YS at he
   split at he
   ·
    cases hs
    cases hz0:Nat.beq n 0 with
    | true=>
      obtain rfl:=MQ hz0
      rw [hz0] at he
      simp only [MV,My,MC] at he
      obtain ⟨rfl,rfl⟩:=he
      exact ⟨_,w,ρ,Zo h1 h2 h3 hi hlen (MI 0) (hnil rfl),.refl hr,.sliceNil 0⟩
    | false=>
      rw [hz0] at he
      have hn0:0 < n:=by rcases Ot n with e | e; · subst e;simp at hz0
                         ·exact e
      cases hlim:Nat.ble (n * i.bytes) (2 ^ 48) with
      | false=>rw [hlim] at he;cases he
      | true=>
        rw [hlim] at he
        simp only [MV,M7,My,MC] at he
        obtain ⟨rfl,rfl⟩:=he
        have hlim:=M3 hlim
        obtain ⟨cap',w',pl,e1,e2,e3,e4,e5,e6,st⟩:=run_append_grow (r:=r) (base:=none) (len:=0) (cap:=0) (old:=[]) (old':=[]) hr h1 h2 h3 hi hz hb hzs hlen (by omega)
         (by rw [UQ _ (by omega)];simpa using hlim) (by simp [Builtin.firstCells]) hnew1 (.nil ρ) vnew1 (by simp) hnl
        rw [MT] at e1 e2
        refine ⟨_,w',_,e1,st,?_⟩
        have:=zD.slice (ρ:=ρ.ext pl) (b:=h.next) (off:=0) (len:=n) (c:=1) (cap:=cap') (pl:=pl) (by show h.next < ρ.next + 1;rw [hr.next];exact NN _) (by rw [<- hr.next];exact ρ.uo _) e2
         (fun _=>⟨by rw [e4,e5];simpa using e6,fun k hk=>by omega⟩)
        rw [e3,e4] at this
        exact this
   ·rename_i b off len c
    cases hz0:Nat.beq n 0 with
    | true=>
      obtain rfl:=MQ hz0
      rw [hz0] at he
      simp only [MV,My,MC] at he
      obtain ⟨rfl,rfl⟩:=he
      cases hs with
      | slice hb' hm' hl' hc'=>exact ⟨_,w,ρ,Zo h1 h2 h3 hi hlen hl' (hnil rfl),.refl hr,.slice hb' hm' hl' hc'⟩
      | sliceOut hb' hc'=>exact ⟨_,w,ρ,Zo h1 h2 h3 hi hlen (MI 0) (hnil rfl),.refl hr,.sliceOut hb' hc'⟩
    | false=>
      rw [hz0] at he
      have hn0:0 < n:=by rcases Ot n with e | e; · subst e;simp at hz0
                         ·exact e
      simp only [M7] at he
      split at he
      case h_2=>cases he
      rename_i cs t hg
      cases hcc:(!(Nat.beq c 0) && Nat.beq t elem && Nat.ble h.ro b && Nat.ble (off + len * i.size) cs.length && (roomFor c (len + n) i.bytes && Nat.beq (off % i.size) 0)) with
      | false=>rw [hcc] at he;cases he
      | true=>
        rw [hcc] at he
        simp only [MV,My,MC] at he
        obtain ⟨rfl,rfl⟩:=he
        simp only [MG,MU] at hcc
        obtain ⟨⟨⟨⟨k1,k2⟩,k3⟩,k4⟩,k5,k6⟩:=hcc
        have k1:c ≠ 0:=by intro e;subst e;simp at k1
        obtain rfl:=MQ k2
        have k3:=M3 k3
        have k4:=M3 k4
        have hlim:∀ cap,cap < len + n->(c=2->cap=0)->Builtin.nextslicecap (len + n) cap * i.bytes<=2 ^ 48:=by
         intro cap hcap h2c
         unfold roomFor at k5
         by_cases e2:c=2
         ·subst e2
          rw [h2c rfl,UQ _ (by omega)]
          simp only [Oo,MV] at k5
          exact M3 k5
         ·rw [show Nat.beq c 2=false from Tr.beq_false e2] at k5
          simp only [M7] at k5
          have k5:=M3 k5
          have:=pR (len + n) cap hcap
          calc Builtin.nextslicecap (len + n) cap * i.bytes<=(2 * (len + n)) * i.bytes:=N3 _ this
           _=2 * ((len + n) * i.bytes):=Nat.mul_assoc _ _ _
           _<=2 * 2 ^ 47:=Nat.mul_le_mul_left _ k5
           _=2 ^ 48:=by decide
        have hdropr:=hr.drop b
        cases hs with
        | slice hb' hm' hl' hc'=>
          rename_i cap pl
          obtain ⟨c1,c2⟩:=hc' k1
          obtain ⟨sz1,_⟩:=uW hi
          have hpl:=hr.place hg hm'
          have hesz:pl.sr=i.size:=by obtain ⟨_,_,_,_,q,_⟩:=hpl;rw [q.1,sz1]
          by_cases hfit:len + n<=cap
          ·obtain ⟨w',e1,st⟩:=dk (r:=r) hr h1 h2 h3 hi hlen hfit hg hm' k3 hnew' vnew hnl hco (by rw [<- hesz];exact c1) k4 (MQ k6)
           refine ⟨_,w',_,e1,st,?_⟩
           have:=zD.slice (ρ:=ρ.ext ⟨pl.c,pl.base + off,pl.size,pl.sr⟩) (b:=h.next) (off:=0) (len:=len + n) (c:=uS c (len + n)) (cap:=cap) (pl:=⟨pl.c,pl.base + off,pl.size,pl.sr⟩)
            (by show h.next < ρ.next + 1;rw [hr.next];exact NN _) (by rw [<- hr.next];exact ρ.uo _) hfit
            (fun _=>⟨by simpa using c1,fun k hk=>c2 k (ZY hk).1⟩)
           simpa using this
          ·have hfull:(c=2->cap=0):=fun e=>c2 0 (by omega)
           obtain ⟨old',hold',vold⟩:=uV (hr1.place hg hm') off (len * i.size) k4
           obtain ⟨cap',w',pl',e1,e2,e3,e4,e5,e6,st⟩:=run_append_grow (r:=r) (base:=some ⟨pl.c,pl.base + off,none⟩) (len:=len) (cap:=cap) hdropr h1 h2 h3 hi hz hb hzs hlen (by omega)
            (hlim cap (by omega) hfull) (by simpa only [Builtin.firstCells] using hold') hnew1 vold vnew1 (by simp only [OB,On];omega) hnl
           refine ⟨_,w',_,e1,(Step.pV hr b).trans st,?_⟩
           have:=zD.slice (ρ:=ρ.ext pl') (b:=h.next) (off:=0) (len:=len + n) (c:=uS c (len + n)) (cap:=cap') (pl:=pl') (by show h.next < ρ.next + 1;rw [hr.next];exact NN _) (by rw [<- hr.next];exact ρ.uo _) e2
            (fun _=>⟨by rw [e4,e5];simpa using e6,fun k hk=>by
             have q:=ZY hk
             have:=c2 k q.1
             omega⟩)
           rw [e3,e4] at this
           exact this
        | sliceOut hb' hc'=>
          obtain ⟨cap',w',pl',e1,e2,e3,e4,e5,e6,st⟩:=run_append_grow (r:=r) (base:=some _) (len:=0) (cap:=0) (old:=(cs.drop off).take (0 * i.size)) (old':=[]) hdropr h1 h2 h3 hi hz hb hzs hlen (by omega)
           (hlim 0 (by omega) (fun _=>rfl)) (by simp only [Builtin.firstCells,OM];rfl) hnew1 (by simp [xp]) vnew1 (by simp) hnl
          refine ⟨_,w',_,e1,(Step.pV hr b).trans st,?_⟩
          have:=zD.slice (ρ:=ρ.ext pl') (b:=h.next) (off:=0) (len:=0 + n) (c:=uS c (0 + n)) (cap:=cap') (pl:=pl') (by show h.next < ρ.next + 1;rw [hr.next];exact NN _) (by rw [<- hr.next];exact ρ.uo _) e2
           (fun _=>⟨by rw [e4,e5];simpa using e6,fun k hk=>by
            have q:=ZY hk
            omega⟩)
          rw [e3,e4] at this
          exact this
   ·cases he
end
noncomputable section
variable {P:Program}
def WS (h:za) (b off:Nat) (new:List Value):Option za :=
 cond (Nat.beq new.length 0) (some h) (match h.get b with
  | some (.cells cs t)=>cond (Nat.ble h.ro b && Nat.ble (off + new.length) cs.length && new.all xE) (some (h.set b (some (.cells (ze cs off new) t)))) none
  | _=>none)
theorem cU {ρ:yP} {h h':za} {w:World} {b off:Nat} {pl:Place} {new new':List Value} (he:WS h b off new=some h') (hr:Rel P ρ h w) (hm:ρ.m b=some pl) (hv:xp ρ new new') :
  ∃ w',(storeCells ⟨pl.c,pl.base + off,none⟩ new').run P w = .ok () w'/\Step P ρ h w ρ h' w':=by
 unfold WS at he
 cases hz:Nat.beq new.length 0 with
 | true=>
   rw [hz] at he
   simp only [MV,My] at he
   subst he
   have:new = []:=NQ (MQ hz)
   subst this
   cases hv.wX
   exact ⟨w,rfl,.refl hr⟩
 | false=>
   rw [hz] at he
   simp only [M7] at he
   split at he
   case h_2=>cases he
   rename_i cs t hg
   cases hc:(Nat.ble h.ro b && Nat.ble (off + new.length) cs.length && new.all xE) with
   | false=>rw [hc] at he;cases he
   | true=>
     rw [hc] at he
     simp only [MV,My] at he
     subst he
     simp only [MG,Ni] at hc
     exact Wx (o:=off) hm new new' h w cs 0 hr hg (M3 hc.1.1) (by have:=M3 hc.1.2;omega) hv hc.2
def lZ (P:Program) (dT:TypeId) (d x:Value) (h:za):Option (Value × za) :=
 match zU P (underlying dT),d,ZQ x with
 | some (.slice elem),.slice base dl _,some m=>(match zU P (typeInfo elem) with
   | none=>none
   | some i=>(match wW h (Nat.min m dl) i.size x with
     | none=>none
     | some new=>(match base with
       | none=>some (goInt (Nat.min m dl),h)
       | some ⟨b,off,none⟩=>(WS h b off new).map fun h'=>(goInt (Nat.min m dl),h')
       | some _=>none)))
 | _,_,_=>none
theorem l5 {ρ:yP} {dT r:TypeId} {ts:Array TypeId} {d d' x x' v:Value} {h h':za} {w:World} (he:lZ P dT d x h=some (v,h')) (hr:Rel P ρ h w) (hd:zD ρ d d') (hx:zD ρ x x') (hts:ts[0]? = some dT) :
  ∃ v' w',(Builtin.copy_ ts r #[d',x']).run P w = .ok v' w'/\Step P ρ h w ρ h' w'/\zD ρ v v':=by
 unfold lZ at he
 split at he
 case h_2=>cases he
 rename_i elem base dl c m hu hm
 split at he
 case h_1=>cases he
 rename_i i hi
 obtain ⟨sz1,sz2⟩:=uW hi
 split at he
 case h_1=>cases he
 rename_i new hnew
 have hlen:=fun w=>Kk (P:=P) hm hx w
 obtain ⟨new',hnew',vnew⟩:=XC hnew hr hx (by intro b l cap e;subst e;simp only [ZQ,My] at hm;subst hm;exact Nat.min_le_left _ _)
 cases hd with
 | sliceNil=>
   simp only [My,MC] at he
   obtain ⟨rfl,rfl⟩:=he
   refine ⟨goInt (Nat.min m 0),w,?_,.refl hr,.int _ _⟩
   simp only [Builtin.copy_,hts]
   simp only [N8,MD,MH,ME,zg hu,Mz,hlen,sz2,hnew',MN]
 | slice hb hmm hl hc=>
   simp only [MR,MC] at he
   obtain ⟨h2,hsp,rfl,rfl⟩:=he
   obtain ⟨w',e,st⟩:=cU hsp hr hmm vnew
   refine ⟨_,w',?_,st,.int _ _⟩
   simp only [Builtin.copy_,hts]
   simp only [N8,MD,MH,ME,zg hu,Mz,hlen,sz2,hnew',e,MN]
   rfl
 | sliceOut hb hc=>
   simp only [MR,MC] at he
   obtain ⟨h2,hsp,rfl,rfl⟩:=he
   have hmin:Nat.min m 0=0:=Nat.min_zero m
   have hnil:new = []:=by
    rw [hmin] at hnew
    cases hx with
    | sliceNil=>simp only [wW,My] at hnew;exact hnew.symm
    | slice=>simp only [wW,OM,Oo,MV,My] at hnew;exact hnew.symm
    | sliceOut=>simp only [wW,OM,Oo,MV,My] at hnew;exact hnew.symm
    | string=>simp only [wW,My] at hnew;rw [<- hnew];simp
    | _=>cases hm
   subst hnil
   cases vnew.wX
   simp only [WS,M0,Oo,MV,My] at hsp
   subst hsp
   refine ⟨goInt (Nat.min m 0),w,?_,.refl hr,.int _ _⟩
   simp only [Builtin.copy_,hts]
   simp only [N8,MD,MH,ME,zg hu,Mz,hlen,sz2,hnew',MN,storeCells]
def JT (P:Program) (t:TypeId) (x:Value) (h:za):Option za:=none
theorem gJ {ρ:yP} {t r:TypeId} {x x':Value} {h h':za} {w:World} (he:JT P t x h=some h') (hr:Rel P ρ h w) (hx:zD ρ x x') :
  ∃ w',(Builtin.clear_ #[t] r #[x']).run P w = .ok undef w'/\Step P ρ h w ρ h' w':=by
 unfold JT at he
 cases he
def bytesOf:List Value->ByteArray->Option ByteArray
 | [],s=>some s
 | .int .u8 n :: l,s=>bytesOf l (s.push (UInt8.ofNat n.toNat))
 | _ :: _,_=>none
def FY (h:za) (x:Value):Option Value :=
 match x with
 | .slice none _ _=>some (.string .empty)
 | .slice (some ⟨b,off,none⟩) n _=>cond (Nat.beq n 0) (some (.string .empty)) (match h.get b with
   | some (.cells c _)=>cond (Nat.ble (off + n) c.length) ((bytesOf ((c.drop off).take n) .empty).map .string) none
   | _=>none)
 | _=>none
theorem Kq {ρ:yP}:∀ (l l':List Value) (s r:ByteArray),bytesOf l s=some r->xp ρ l l'->∀ w:World,
  (forIn l' s fun c s=>(match c with
   | .int .u8 n=>pure (ForInStep.yield (s.push (UInt8.ofNat n.toNat)))
   | _=>(do stuck "bytesToString: byte expected";pure (ForInStep.yield s)):Sem (ForInStep ByteArray))).run P w = .ok r w
 | [],l',s,r,h,hv,w=>by
   cases hv.wX
   simp only [bytesOf,My] at h
   subst h;rfl
 | x :: l,l',s,r,h,hv,w=>by
   obtain ⟨y,ys,rfl,h1,h2⟩:=hv.cons_inv
   unfold bytesOf at h
   split at h
   ·rename_i e;cases e
   ·rename_i e
    simp only [NF] at e
    obtain ⟨rfl,rfl⟩:=e
    cases h1
    rw [List.forIn_cons]
    simp only [ME,MN,Mz]
    exact Kq _ _ _ _ h h2 w
   ·cases h
theorem oG {ρ:yP} {h:za} {w:World} {x x' v:Value} (he:FY h x=some v) (hr:Rel P ρ h w) (hx:zD ρ x x'):(Conv.bytesToString x').run P w = .ok v w/\zD ρ v v:=by
 unfold FY at he
 split at he
 ·simp only [My] at he
  subst he
  cases hx
  exact ⟨rfl,.string _⟩
 ·rename_i b off n c
  cases hz:Nat.beq n 0 with
  | true=>
    rw [hz] at he
    obtain rfl:=MQ hz
    simp only [MV,My] at he
    subst he
    refine ⟨?_,.string _⟩
    cases hx <;> (simp only [Conv.bytesToString,loadCells,loadCellsFrom,ME,MN,Mz];rw [<- Array.forIn_toList];rfl)
  | false=>
    rw [hz] at he
    simp only [M7] at he
    split at he
    case h_2=>cases he
    rename_i cs t hg
    cases hle:Nat.ble (off + n) cs.length with
    | false=>rw [hle] at he;cases he
    | true=>
      rw [hle] at he
      simp only [MV,MR] at he
      obtain ⟨r,hb,rfl⟩:=he
      refine ⟨?_,.string _⟩
      cases hx with
      | slice hb' hm hl hc=>
        obtain ⟨ys,hys,hv⟩:=uV (hr.place hg hm) off n (M3 hle)
        simp only [Conv.bytesToString,ME,hys,Mz]
        rw [<- Array.forIn_toList]
        have:=Kq (P:=P) _ _ _ _ hb hv w
        rw [show ys.toArray.toList=ys from rfl]
        exact (congrArg (fun q:Result ByteArray=>q.andThen fun a w'=>Sem.run P (pure (Value.string a)) w') this)
      | sliceOut=>simp at hz
 ·cases he
end
end Go.Ai
