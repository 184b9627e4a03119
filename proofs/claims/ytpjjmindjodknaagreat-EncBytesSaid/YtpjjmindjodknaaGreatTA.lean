import Derived.Calls
import Derived.Below
import Derived.Laws.Sem
import Derived.Laws.Cells
import Derived.Laws.Entries
set_option linter.unusedVariables false
set_option linter.unusedSimpArgs false
set_option maxRecDepth 100000
namespace Go
theorem Nz:type_of% @Option.some.injEq:=@Option.some.injEq
theorem NA:type_of% @Go.Result.andThen_ok:=@Go.Result.andThen_ok
theorem NB:type_of% @Prod.mk.injEq:=@Prod.mk.injEq
theorem NC:type_of% @List.getElem?_eq_getElem:=@List.getElem?_eq_getElem
theorem ND:type_of% @Bool.and_eq_true:=@Bool.and_eq_true
theorem NF:type_of% @Go.Sem.run_bind:=@Go.Sem.run_bind
theorem NG:type_of% @Nat.le_refl:=@Nat.le_refl
theorem NH:type_of% @Nat.lt_of_lt_of_le:=@Nat.lt_of_lt_of_le
theorem NI:type_of% @Go.Sem.run_pure:=@Go.Sem.run_pure
theorem NJ:type_of% @if_neg:=@if_neg
theorem NK:type_of% @if_pos:=@if_pos
theorem NL:type_of% @Nat.eq_of_beq_eq_true:=@Nat.eq_of_beq_eq_true
theorem NM:type_of% @List.getElem?_eq_none:=@List.getElem?_eq_none
theorem NN:type_of% @Bool.not_eq_true':=@Bool.not_eq_true'
theorem NO:type_of% @Option.map_eq_some_iff:=@Option.map_eq_some_iff
theorem NP:type_of% @decide_eq_false_iff_not:=@decide_eq_false_iff_not
theorem NQ:type_of% @List.mem_of_getElem?:=@List.mem_of_getElem?
theorem NR:type_of% @cond_true:=@cond_true
theorem NS:type_of% @Array.getD_eq_getD_getElem?:=@Array.getD_eq_getD_getElem?
theorem NT:type_of% @List.mem_cons_self:=@List.mem_cons_self
theorem NU:type_of% @List.getElem?_map:=@List.getElem?_map
theorem NV:type_of% @List.getElem?_cons_zero:=@List.getElem?_cons_zero
theorem NW:type_of% @Nat.le_of_ble_eq_true:=@Nat.le_of_ble_eq_true
theorem NX:type_of% @List.length_map:=@List.length_map
theorem NY:type_of% @List.all_eq_true:=@List.all_eq_true
theorem NZ:type_of% @Nat.lt_or_ge:=@Nat.lt_or_ge
theorem N0:type_of% @Nat.lt_succ_self:=@Nat.lt_succ_self
theorem N1:type_of% @cond_false:=@cond_false
theorem N2:type_of% @List.contains_eq_mem:=@List.contains_eq_mem
theorem N3:type_of% @Array.getElem?_eq_none:=@Array.getElem?_eq_none
theorem N4:type_of% @Array.getElem?_eq_getElem:=@Array.getElem?_eq_getElem
theorem N5:type_of% @if_true:=@if_true
theorem N6:type_of% @List.filter_append:=@List.filter_append
theorem N7:type_of% @List.mem_singleton:=@List.mem_singleton
theorem N8:type_of% @decide_eq_true_eq:=@decide_eq_true_eq
theorem N9:type_of% @List.append_of_mem:=@List.append_of_mem
theorem Oa:type_of% @List.getElem?_cons_succ:=@List.getElem?_cons_succ
theorem Ob:type_of% @List.getElem?_take_of_lt:=@List.getElem?_take_of_lt
theorem Oc:type_of% @Nat.le_trans:=@Nat.le_trans
theorem Od:type_of% @List.getElem?_drop:=@List.getElem?_drop
theorem Oe:type_of% @Nat.zero_le:=@Nat.zero_le
theorem Of:type_of% @Nat.blt_eq:=@Nat.blt_eq
theorem Og:type_of% @Bool.or_eq_true:=@Bool.or_eq_true
theorem Oh:type_of% @Array.getElem?_setIfInBounds:=@Array.getElem?_setIfInBounds
theorem Oi:type_of% @List.getElem?_append_left:=@List.getElem?_append_left
theorem Oj:type_of% @of_decide_eq_true:=@of_decide_eq_true
theorem Ok:type_of% @List.length_take:=@List.length_take
theorem Ol:type_of% @decide_eq_true:=@decide_eq_true
theorem Om:type_of% @List.mem_append:=@List.mem_append
theorem On:type_of% @Bool.false_eq_true:=@Bool.false_eq_true
theorem Oo:type_of% @if_false:=@if_false
theorem Oq:type_of% @Array.mem_of_getElem?:=@Array.mem_of_getElem?
theorem Ot:type_of% @List.getElem?_append_right:=@List.getElem?_append_right
theorem Ou:type_of% @List.map_append:=@List.map_append
theorem Ov:type_of% @List.cons.injEq:=@List.cons.injEq
theorem Ow:type_of% @List.getElem?_eq_some_iff:=@List.getElem?_eq_some_iff
theorem Ox:type_of% @List.mem_cons:=@List.mem_cons
theorem Oy:type_of% @List.length_append:=@List.length_append
theorem Oz:type_of% @List.getD_eq_getElem?_getD:=@List.getD_eq_getElem?_getD
theorem OA:type_of% @List.take_add_one:=@List.take_add_one
theorem OB:type_of% @Int.toNat_natCast:=@Int.toNat_natCast
theorem OC:type_of% @decide_eq_false:=@decide_eq_false
theorem OD:type_of% @List.mem_cons_of_mem:=@List.mem_cons_of_mem
theorem OE:type_of% @List.take_length:=@List.take_length
theorem OF:type_of% @List.map_cons:=@List.map_cons
theorem OG:type_of% @Option.map_some:=@Option.map_some
theorem OH:type_of% @List.length_eq_zero_iff:=@List.length_eq_zero_iff
theorem OI:type_of% @Array.length_toList:=@Array.length_toList
theorem OJ:type_of% @List.mem_map:=@List.mem_map
theorem OK:type_of% @List.getElem?_set_self:=@List.getElem?_set_self
theorem OL:type_of% @Bool.or_eq_false_iff:=@Bool.or_eq_false_iff
theorem OM:type_of% @List.length_cons:=@List.length_cons
theorem ON:type_of% @List.mem_range:=@List.mem_range
theorem OO:type_of% @List.getElem?_toArray:=@List.getElem?_toArray
theorem OP:type_of% @Nat.le_succ:=@Nat.le_succ
theorem OQ:type_of% @List.eq_nil_of_length_eq_zero:=@List.eq_nil_of_length_eq_zero
theorem OR:type_of% @Option.bind_some:=@Option.bind_some
theorem OS:type_of% @Nat.le_succ_of_le:=@Nat.le_succ_of_le
theorem OT:type_of% @Nat.zero_add:=@Nat.zero_add
theorem OU:type_of% @List.filter_cons:=@List.filter_cons
theorem OV:type_of% @List.filter_congr:=@List.filter_congr
theorem OW:type_of% @Nat.add_assoc:=@Nat.add_assoc
theorem OX:type_of% @Bool.true_and:=@Bool.true_and
theorem OY:type_of% @List.getElem?_set_ne:=@List.getElem?_set_ne
theorem OZ:type_of% @Array.eq_empty_of_size_eq_zero:=@Array.eq_empty_of_size_eq_zero
theorem O0:type_of% @List.length_nil:=@List.length_nil
theorem O1:type_of% @Nat.lt_succ_of_lt:=@Nat.lt_succ_of_lt
theorem O2:type_of% @List.ext_getElem?:=@List.ext_getElem?
theorem O3:type_of% @Nat.mul_le_mul_right:=@Nat.mul_le_mul_right
theorem O4:type_of% @Array.toArray_toList:=@Array.toArray_toList
theorem O5:type_of% @List.append_assoc:=@List.append_assoc
theorem O6:type_of% @Int.toNat_of_nonneg:=@Int.toNat_of_nonneg
theorem O7:type_of% @List.drop_zero:=@List.drop_zero
theorem O8:type_of% @List.mem_filter:=@List.mem_filter
theorem O9:type_of% @List.take_append_drop:=@List.take_append_drop
theorem Pa:type_of% @Array.getElem?_replicate:=@Array.getElem?_replicate
theorem Pb:type_of% @List.filter_filter:=@List.filter_filter
theorem Pc:type_of% @Option.getD_some:=@Option.getD_some
theorem Pd:type_of% @Nat.mul_one:=@Nat.mul_one
theorem Pe:type_of% @List.all_cons:=@List.all_cons
theorem Pf:type_of% @Go.Steps.trans:=@Go.Steps.trans
theorem Ph:type_of% @List.flatten_cons:=@List.flatten_cons
theorem Pj:type_of% @List.append_nil:=@List.append_nil
theorem Pk:type_of% @List.nil_append:=@List.nil_append
theorem Pl:type_of% @List.getElem_of_mem:=@List.getElem_of_mem
theorem Pm:type_of% @Go.Checked.mixed:=@Go.Checked.mixed
theorem Pn:type_of% @Array.ext':=@Array.ext'
theorem Po:type_of% @Nat.ble_eq:=@Nat.ble_eq
theorem Pp:type_of% @beq_self_eq_true:=@beq_self_eq_true
theorem Pq:type_of% @Nat.beq_refl:=@Nat.beq_refl
theorem Pr:type_of% @Nat.eq_zero_or_pos:=@Nat.eq_zero_or_pos
theorem Ps:type_of% @Bool.not_false:=@Bool.not_false
theorem Pt:type_of% @Bool.eq_iff_iff:=@Bool.eq_iff_iff
theorem Pu:type_of% @List.length_set:=@List.length_set
theorem Pv:type_of% @List.take_succ_cons:=@List.take_succ_cons
theorem Pw:type_of% @List.drop_succ_cons:=@List.drop_succ_cons
theorem Px:type_of% @Nat.le_of_not_lt:=@Nat.le_of_not_lt
theorem Py:type_of% @Bool.not_eq_true:=@Bool.not_eq_true
theorem Pz:type_of% @List.length_drop:=@List.length_drop
theorem PA:type_of% @Go.Sem.run_ite:=@Go.Sem.run_ite
theorem PB:type_of% @List.filter_eq_nil_iff:=@List.filter_eq_nil_iff
theorem PC:type_of% @List.take_of_length_le:=@List.take_of_length_le
theorem PD:type_of% @Bool.false_ne_true:=@Bool.false_ne_true
theorem PE:type_of% @Option.some.inj:=@Option.some.inj
theorem PF:type_of% @Nat.beq_eq:=@Nat.beq_eq
theorem PG:type_of% @List.tail_drop:=@List.tail_drop
theorem PH:type_of% @List.getElem_mem:=@List.getElem_mem
theorem PI:type_of% @Nat.add_mul:=@Nat.add_mul
theorem PJ:type_of% @Nat.zero_mul:=@Nat.zero_mul
theorem PK:type_of% @List.map_nil:=@List.map_nil
theorem PL:type_of% @Bool.and_true:=@Bool.and_true
theorem PM:type_of% @and_true:=@and_true
end Go
namespace Go.Ai
noncomputable section
inductive Tr (α:Type) where
 | e
 | n (v:Option α) (l r:Tr α)
namespace Tr
variable {α:Type}
def get (t:Tr α) (k:Nat):Option α :=
 @Tr.rec α (fun _=>Nat->Option α) (fun _=>none)
  (fun v _ _ gl gr k => @Bool.rec (fun _=>Option α) (@Bool.rec (fun _=>Option α) (gr (Nat.sub (Nat.div k 2) 1)) (gl (Nat.div k 2)) (Nat.beq (Nat.mod k 2) 1)) v (Nat.beq k 0)) t k
def gB (f:Nat):Tr α->Nat->Option α->Tr α :=
 @Nat.rec (fun _=>Tr α->Nat->Option α->Tr α) (fun t _ _=>t)
  (fun _ ih t k x => @Tr.rec α (fun _=>Tr α)
   (@Bool.rec (fun _=>Tr α) (@Bool.rec (fun _=>Tr α) (.n none .e (ih .e (Nat.sub (Nat.div k 2) 1) x)) (.n none (ih .e (Nat.div k 2) x) .e) (Nat.beq (Nat.mod k 2) 1)) (.n x .e .e) (Nat.beq k 0))
   (fun v l r _ _ => @Bool.rec (fun _=>Tr α) (@Bool.rec (fun _=>Tr α) (.n v l (ih r (Nat.sub (Nat.div k 2) 1) x)) (.n v (ih l (Nat.div k 2) x) r) (Nat.beq (Nat.mod k 2) 1)) (.n x l r) (Nat.beq k 0)) t) f
def set (t:Tr α) (k:Nat) (x:Option α):Tr α:=gB (Nat.succ k) t k x
@[simp] theorem He (k:Nat):(Tr.e:Tr α).get k=none:=rfl
theorem beq_false {a b:Nat} (h:a ≠ b):Nat.beq a b=false:=by
 cases e:Nat.beq a b
 ·rfl
 ·exact absurd (NL e) h
theorem beq_true {a b:Nat} (h:a=b):Nat.beq a b=true:=by subst h;exact Pq a
theorem eS (v:Option α) (l r:Tr α) (k:Nat):(Tr.n v l r).get k=if k=0 then v else if k % 2=1 then l.get (k / 2) else r.get (k / 2 - 1):=by
 show @Bool.rec (fun _=>Option α) (@Bool.rec (fun _=>Option α) (r.get (k / 2 - 1)) (l.get (k / 2)) (Nat.beq (k % 2) 1)) v (Nat.beq k 0)=_
 by_cases h:k=0
 ·rw [beq_true h,NK h]
 ·rw [beq_false h,NJ h]
  by_cases h2:k % 2=1
  ·rw [beq_true h2,NK h2]
  ·rw [beq_false h2,NJ h2]
theorem Iv (f:Nat) (k:Nat) (x:Option α):gB (f + 1) .e k x=gB (f + 1) (.n none .e .e) k x:=rfl
theorem Iw (f:Nat) (v:Option α) (l r:Tr α) (k:Nat) (x:Option α) :
  gB (f + 1) (.n v l r) k x=if k=0 then .n x l r else if k % 2=1 then .n v (gB f l (k / 2) x) r else .n v l (gB f r (k / 2 - 1) x):=by
 show @Bool.rec (fun _=>Tr α) (@Bool.rec (fun _=>Tr α) (.n v l (gB f r (k / 2 - 1) x)) (.n v (gB f l (k / 2) x) r) (Nat.beq (k % 2) 1)) (.n x l r) (Nat.beq k 0)=_
 by_cases h:k=0
 ·rw [beq_true h,NK h]
 ·rw [beq_false h,NJ h]
  by_cases h2:k % 2=1
  ·rw [beq_true h2,NK h2]
  ·rw [beq_false h2,NJ h2]
theorem Ed (f:Nat):∀ (t:Tr α) (k j:Nat) (x:Option α),k < f->(gB f t k x).get j=if j=k then x else t.get j:=by
 induction f with
 | zero=>intro t k j x h;omega
 | succ f ih=>
   have node:∀ (v:Option α) (l r:Tr α) (k j:Nat) (x:Option α),k < f + 1->(gB (f + 1) (.n v l r) k x).get j=if j=k then x else (Tr.n v l r).get j:=by
    intro v l r k j x h
    rw [Iw]
    by_cases h0:k=0
    ·subst h0
     rw [NK rfl,eS,eS]
     by_cases hj:j=0
     ·simp [hj]
     ·simp [hj]
    ·rw [NJ h0]
     by_cases h1:k % 2=1
     ·rw [NK h1,eS,eS,ih _ _ _ _ (by omega)]
      by_cases hj:j=0
      ·subst hj;simp [Ne.symm h0]
      ·rw [NJ hj,NJ hj]
       by_cases hj2:j % 2=1
       ·rw [NK hj2,NK hj2]
        by_cases e:j=k
        ·subst e;simp
        ·rw [NJ e,NJ (by omega)]
       ·rw [NJ hj2,NJ hj2,NJ (by intro e;subst e;exact hj2 h1)]
     ·rw [NJ h1,eS,eS,ih _ _ _ _ (by omega)]
      by_cases hj:j=0
      ·subst hj;simp [Ne.symm h0]
      ·rw [NJ hj,NJ hj]
       by_cases hj2:j % 2=1
       ·rw [NK hj2,NK hj2,NJ (by intro e;subst e;exact h1 hj2)]
       ·rw [NJ hj2,NJ hj2]
        by_cases e:j=k
        ·subst e;simp
        ·rw [NJ e,NJ (by omega)]
   intro t k j x h
   cases t with
   | e=>
     rw [Iv,node _ _ _ _ _ _ h]
     by_cases e:j=k
     ·simp [e]
     ·simp only [NJ e,eS,He];split <;> (try split) <;> rfl
   | n v l r=>exact node v l r k j x h
theorem yj (t:Tr α) (k j:Nat) (x:Option α):(t.set k x).get j=if j=k then x else t.get j :=
 Ed (k + 1) t k j x (N0 k)
def ofList (t:Tr α) (i:Nat):List α->Tr α
 | []=>t
 | a :: l=>ofList (t.set i (some a)) (i + 1) l
theorem sw (l:List α):∀ (t:Tr α) (i j:Nat),(ofList t i l).get j=if i<=j/\j < i + l.length then l[j - i]? else t.get j:=by
 induction l with
 | nil=>intro t i j;simp [ofList];omega
 | cons a l ih=>
   intro t i j
   rw [ofList,ih,yj]
   by_cases h:j=i
   ·subst h
    rw [NJ (by omega),NK rfl,NK (by simp),Nat.sub_self];rfl
   ·by_cases h2:i + 1<=j/\j < i + 1 + l.length
    ·rw [NK h2,NK (by simp;omega)]
     have:j - i=(j - (i + 1)) + 1:=by omega
     rw [this];rfl
    ·rw [NJ h2,NJ h,NJ (by simp;omega)]
end Tr
structure Env where
 t:Tr Value
 size:Nat
def Env.get (s:Env) (i:Nat):Value := @Option.rec Value (fun _=>Value) undef (fun v=>v) (s.t.get i)
theorem Env.get_eq (s:Env) (i:Nat):s.get i=(s.t.get i).getD undef:=by
 unfold Env.get
 cases s.t.get i <;> rfl
def Env.set (s:Env) (i:Nat) (v:Value):Env := @Env.rec (fun _=>Env) (fun t n=>⟨t.set i (some v),n⟩) s
theorem Env.Mj (s:Env) (i:Nat) (v:Value):(s.set i v).t=s.t.set i (some v):=rfl
def Env.put (s:Env) (d:Option Nat) (v:Value):Option Env :=
 match d with
 | none=>some s
 | some d=>cond (Nat.blt d s.size) (some (s.set d v)) none
theorem Env.yj (s:Env) (i j:Nat) (v:Value):(s.set i v).get j=if j=i then v else s.get j:=by
 simp only [Env.get_eq,Env.Mj,Tr.yj];split <;> rfl
@[simp] theorem Env.size_set (s:Env) (i:Nat) (v:Value):(s.set i v).size=s.size:=rfl
def AS {α:Type} (n:Nat) (f:Nat->α):α := @Nat.rec (fun _=>α) (f 0) (fun m _=>f (Nat.succ m)) n
theorem sX {α:Type} (n:Nat) (f:Nat->α):AS n f=f n:=by cases n <;> rfl
def Env.enter (args:List Value) (n:Nat):Env:=AS (max args.length n) fun k=>{ t:=Tr.ofList .e 0 args,size:=k }
theorem Env.oZ (args:List Value) (n:Nat):Env.enter args n = { t:=Tr.ofList .e 0 args,size:=max args.length n }:=sX _ _
theorem Env.Ch (args:List Value) (n j:Nat):(Env.enter args n).get j=(args[j]?).getD undef:=by
 simp only [Env.get_eq,Env.oZ,Tr.sw,Tr.He]
 by_cases h:j < args.length
 ·rw [NK (by omega)];rfl
 ·rw [NJ (by omega),NM (by omega)]
structure UH where
 state:LoopState
 pending:Option Code
 s:Env
 params:Array Tmp
 assign:Code
 body:Code
inductive wi where
 | cells (c:List Value) (elem:TypeId)
 | map (es:List (Value × Value × Nat)) (clock:Nat)
 | iter (m:Option Nat) (since:Nat) (seen:List Nat) (last:Nat)
 | siter (s:ByteArray) (pos:Nat)
 | tab (c:List Value)
 | loop (l:UH)
structure za where
 t:Tr wi
 next:Nat
 ro:Nat
def za.get (h:za) (b:Nat):Option wi:=h.t.get b
def za.set (h:za) (b:Nat) (o:Option wi):za := @za.rec (fun _=>za) (fun t n r=>⟨t.set b o,n,r⟩) h
def za.push (h:za) (o:wi):za := @za.rec (fun _=>za) (fun t n r=>⟨t.set n (some o),Nat.succ n,r⟩) h
theorem za.yj (h:za) (b c:Nat) (o:Option wi):(h.set b o).get c=if c=b then o else h.get c:=Tr.yj _ _ _ _
theorem za.wT (h:za) (c:Nat) (o:wi):(h.push o).get c=if c=h.next then some o else h.get c:=Tr.yj _ _ _ _
@[simp] theorem za.L6 (h:za) (b:Nat) (o:Option wi):(h.set b o).next=h.next:=rfl
@[simp] theorem za.M4 (h:za) (b:Nat) (o:Option wi):(h.set b o).ro=h.ro:=rfl
@[simp] theorem za.Uu (h:za) (o:wi):(h.push o).next=h.next + 1:=rfl
@[simp] theorem za.Mx (h:za) (o:wi):(h.push o).ro=h.ro:=rfl
def za.lock (h:za):za := @za.rec (fun _=>za) (fun t n _=>⟨t,n,n⟩) h
structure Place where
 c:Nat
 base:Nat
 size:Nat
 Ag:Nat
structure yY where
 next:Nat
 m:Nat->Option Place
def IG (pl:Place) (off cap:Nat) (c:Nat):Prop:=c ≠ 0->off + cap * pl.Ag<=pl.size /\ ∀ k,c=k + 2->cap=k
def bot:Value := .complex .f32 0 0
def mL:Value->Bool
 | .bool _ | .agg _ | .tuple _=>false
 | _=>true
inductive zD (ρ:yY):Value->Value->Prop
 | mL {v:Value} (h:mL v=true):zD ρ bot v
 | bool (b:Bool):zD ρ (.bool b) (.bool b)
 | int (k:IntKind) (n:Int):zD ρ (.int k n) (.int k n)
 | float (k:FloatKind) (n:Nat):zD ρ (.float k n) (.float k n)
 | string (s:ByteArray):zD ρ (.string s) (.string s)
 | ptrNil:zD ρ (.pointer none) (.pointer none)
 | ptr {b off:Nat} {pl:Place} (hb:b < ρ.next) (hm:ρ.m b=some pl):zD ρ (.pointer (some ⟨b,off,none⟩)) (.pointer (some ⟨pl.c,pl.base + off,none⟩))
 | jV {g off:Nat}:zD ρ (.pointer (some ⟨g,off,some 0⟩)) (.pointer (some ⟨g,off,none⟩))
 | sliceNil (c:Nat):zD ρ (.slice none 0 c) (.slice none 0 0)
 | slice {b off len c cap:Nat} {pl:Place} (hb:b < ρ.next) (hm:ρ.m b=some pl) (hl:len<=cap) (hc:IG pl (pl.base + off) cap c) :
   zD ρ (.slice (some ⟨b,off,none⟩) len c) (.slice (some ⟨pl.c,pl.base + off,none⟩) len cap)
 | sliceOut {b off c:Nat} {a:Addr} (hb:b < ρ.next) (hc:c<=2):zD ρ (.slice (some ⟨b,off,none⟩) 0 c) (.slice (some a) 0 0)
 | nilFunc:zD ρ .nilFunc .nilFunc
 | nilIface:zD ρ .nilIface .nilIface
 | mapNil:zD ρ (.map none) (.map none)
 | map {b:Nat} {pl:Place} (hb:b < ρ.next) (hm:ρ.m b=some pl):zD ρ (.map (some b)) (.map (some pl.c))
 | yield {b:Nat} {pl:Place} (hb:b < ρ.next) (hm:ρ.m b=some pl):zD ρ (.func (.yield b) #[] #[]) (.func (.yield pl.c) #[] #[])
 | iface {t:TypeId} {x y:Value} (h:zD ρ x y):zD ρ (.iface t x) (.iface t y)
 | func {f:FuncId} {a c a' c':Array Value} (ha:a.size=a'.size) (hc:c.size=c'.size)
   (h:∀ (i:Nat) x y,a[i]? = some x->a'[i]? = some y->zD ρ x y) (h':∀ (i:Nat) x y,c[i]? = some x->c'[i]? = some y->zD ρ x y):zD ρ (.func (.func f) a c) (.func (.func f) a' c')
 | agg {a a':Array Value} (ha:a.size=a'.size) (h:∀ (i:Nat) x y,a[i]? = some x->a'[i]? = some y->zD ρ x y):zD ρ (.agg a) (.agg a')
 | tuple {a a':Array Value} (ha:a.size=a'.size) (h:∀ (i:Nat) x y,a[i]? = some x->a'[i]? = some y->zD ρ x y):zD ρ (.tuple a) (.tuple a')
def yY.le (ρ ρ':yY):Prop:=ρ.next<=ρ'.next /\ ∀ b,b < ρ.next->ρ'.m b=ρ.m b
theorem yY.le_refl (ρ:yY):ρ.le ρ:=⟨NG _,fun _ _=>rfl⟩
theorem yY.le_trans {a b c:yY} (h:a.le b) (k:b.le c):a.le c:=⟨Oc h.1 k.1,fun x hx=>(k.2 x (NH hx h.1)).trans (h.2 x hx)⟩
theorem zD.mono {ρ ρ':yY} (hle:ρ.le ρ') {v v':Value} (h:zD ρ v v'):zD ρ' v v':=by
 induction h with
 | mL h=>exact .mL h
 | bool b=>exact .bool b
 | int k n=>exact .int k n
 | float k n=>exact .float k n
 | string s=>exact .string s
 | ptrNil=>exact .ptrNil
 | ptr hb hm=>exact .ptr (NH hb hle.1) ((hle.2 _ hb).trans hm)
 | jV=>exact .jV
 | sliceNil c=>exact .sliceNil c
 | slice hb hm hl hc=>exact .slice (NH hb hle.1) ((hle.2 _ hb).trans hm) hl hc
 | sliceOut hb hc=>exact .sliceOut (NH hb hle.1) hc
 | nilFunc=>exact .nilFunc
 | nilIface=>exact .nilIface
 | mapNil=>exact .mapNil
 | map hb hm=>exact .map (NH hb hle.1) ((hle.2 _ hb).trans hm)
 | yield hb hm=>exact .yield (NH hb hle.1) ((hle.2 _ hb).trans hm)
 | iface _ ih=>exact .iface ih
 | func ha hc _ _ ih ih'=>exact .func ha hc ih ih'
 | agg ha _ ih=>exact .agg ha ih
 | tuple ha _ ih=>exact .tuple ha ih
def xD (ρ:yY) (xs ys:List Value):Prop:=xs.length=ys.length /\ ∀ (i:Nat) x y,xs[i]? = some x->ys[i]? = some y->zD ρ x y
theorem xD.nil (ρ:yY):xD ρ [] []:=⟨rfl,fun i x y h=>by simp at h⟩
theorem xD.cons {ρ:yY} {x y:Value} {xs ys:List Value} (h:zD ρ x y) (hs:xD ρ xs ys):xD ρ (x :: xs) (y :: ys) :=
 ⟨by simp [hs.1],fun i a b ha hb=>by
  cases i with
  | zero=>simp at ha hb;subst ha hb;exact h
  | succ i=>exact hs.2 i a b (by simpa using ha) (by simpa using hb)⟩
theorem xD.cons_inv {ρ:yY} {x:Value} {xs ys:List Value} (h:xD ρ (x :: xs) ys):∃ y ys',ys=y :: ys'/\zD ρ x y/\xD ρ xs ys':=by
 cases ys with
 | nil=>simp [xD] at h
 | cons y ys=>exact ⟨y,ys,rfl,h.2 0 x y rfl rfl,by simpa using h.1,fun i a b ha hb=>h.2 (i + 1) a b (by simpa using ha) (by simpa using hb)⟩
theorem xD.vR {ρ:yY} {ys:List Value} (h:xD ρ [] ys):ys = []:=by
 have:=h.1;simp at this;exact OQ this.symm
theorem xD.mono {ρ ρ':yY} (hle:ρ.le ρ') {xs ys:List Value} (h:xD ρ xs ys):xD ρ' xs ys:=⟨h.1,fun i x y hx hy=>(h.2 i x y hx hy).mono hle⟩
theorem xD.append {ρ:yY} {a b c d:List Value} (h:xD ρ a b) (k:xD ρ c d):xD ρ (a ++ c) (b ++ d):=by
 refine ⟨by simp [h.1,k.1],fun i x y hx hy => ?_⟩
 by_cases hi:i < a.length
 ·rw [Oi hi] at hx
  rw [Oi (by rw [<- h.1];exact hi)] at hy
  exact h.2 i x y hx hy
 ·rw [Ot (by omega)] at hx
  rw [Ot (by rw [<- h.1];omega),<- h.1] at hy
  exact k.2 _ x y hx hy
theorem xD.get {ρ:yY} {xs ys:List Value} (h:xD ρ xs ys) {i:Nat} {x:Value} (hx:xs[i]? = some x):∃ y,ys[i]? = some y/\zD ρ x y:=by
 have hi:i < xs.length:=by
  rcases NZ i xs.length with h | h
  ·exact h
  ·rw [NM h] at hx;cases hx
 have hj:i < ys.length:=h.1 ▸ hi
 exact ⟨ys[i],NC hj,h.2 i x _ hx (NC hj)⟩
def plain:Value->Bool
 | .bool _ | .int _ _ | .float _ _ | .string _ | .pointer none | .nilFunc | .nilIface | .map none=>true
 | .slice none n c=>Nat.beq n 0 && Nat.beq c 0
 | .func (.func _) a c=>Nat.beq a.size 0 && Nat.beq c.size 0
 | .tuple a=>Nat.beq a.size 0
 | _=>false
theorem Xw {a:Array Value} (h:Nat.beq a.size 0=true):a = #[]:=OZ (NL h)
theorem zD.jj (ρ:yY) {v:Value} (h:plain v=true):zD ρ v v:=by
 cases v with
 | bool b=>exact .bool _
 | int k n=>exact .int _ _
 | float k n=>exact .float _ _
 | string s=>exact .string _
 | nilFunc=>exact .nilFunc
 | nilIface=>exact .nilIface
 | pointer a=>cases a <;> first | exact .ptrNil | cases h
 | map a=>cases a <;> first | exact .mapNil | cases h
 | slice a n c=>
   cases a with
   | some a=>cases h
   | none=>
     simp only [plain,ND] at h
     obtain rfl:=NL h.1
     obtain rfl:=NL h.2
     exact .sliceNil _
 | func f a c=>
   cases f with
   | func f=>
     simp only [plain,ND] at h
     obtain rfl:=Xw h.1
     obtain rfl:=Xw h.2
     exact .func rfl rfl (fun i x y hx=>by simp at hx) (fun i x y hx=>by simp at hx)
   | _=>cases h
 | tuple a=>
   obtain rfl:=Xw h
   exact .tuple rfl (fun i x y hx=>by simp at hx)
 | _=>cases h
def xp:Value->Bool
 | .agg _ | .tuple _=>false
 | _=>true
theorem eA {ρ:yY} {v v':Value} (h:zD ρ v v'):xp v'=xp v:=by
 cases h with
 | mL h=>cases v' <;> first | rfl | cases h
 | _=>rfl
def y4 (P:Program) (ρ:yY) (wr:Bool) (c:List Value) (elem:TypeId) (pl:Place) (w:World):Prop :=
 ∃ cs fz,w.heap[pl.c]? = some (.cells cs elem fz)/\cs.size=pl.size/\(pl.Ag=P.cellsOf elem/\pl.base % pl.Ag=0)/\pl.base + c.length<=cs.size /\
   (wr=true->∀ i,i < pl.size->¬(fz.1<=i/\i < fz.2)) /\ ∀ i x,c[i]? = some x->∃ y,cs[pl.base + i]? = some y/\zD ρ x y
structure vd (ρ:yY) (s:Env) (tm:Array Value):Prop where
 size:s.size=tm.size
 get:∀ i,zD ρ (s.get i) (tm.getD i undef)
theorem vd.mono {ρ ρ':yY} (hle:ρ.le ρ') {s:Env} {tm:Array Value} (h:vd ρ s tm):vd ρ' s tm:=⟨h.size,fun i=>(h.get i).mono hle⟩
def IH (ρ:yY) (es:List (Value × Value × Nat)) (clock:Nat) (pl:Place) (w:World):Prop :=
 ∃ ms,w.heap[pl.c]? = some (.map ms clock)/\ms.size=es.length /\ ∀ (i:Nat) x m,es[i]? = some x->ms[i]? = some m->zD ρ x.1 m.key/\zD ρ x.2.1 m.val/\m.born=x.2.2
def Hq (ρ:yY) (m:Option Nat) (since:Nat) (seen:List Nat) (last:Nat) (pl:Place) (w:World):Prop :=
 ∃ m',w.heap[pl.c]? = some (.mapIter m' since seen.toArray last)/\pl.base=0/\zD ρ (.map m) (.map m')
def Hr (ρ:yY) (l:UH) (pl:Place) (w:World):Prop :=
 ∃ tm d fn,w.heap[pl.c]? = some (.loop { state:=l.state,pending:=l.pending,fn:=fn,tmps:=tm,params:=l.params,assign:=l.assign,body:=l.body,defers:=d })/\vd ρ l.s tm
def vo (P:Program) (ρ:yY) (wr:Bool) (o:wi) (pl:Place) (w:World):Prop :=
 match o with
 | .cells c t=>y4 P ρ wr c t pl w
 | .map es q=>IH ρ es q pl w
 | .iter m since seen last=>Hq ρ m since seen last pl w
 | .siter s pos=>w.heap[pl.c]? = some (.stringIter s pos)/\pl.base=0
 | .tab c => ∃ t,y4 P ρ false c t { pl with Ag:=P.cellsOf t } w
 | .loop l=>Hr ρ l pl w
structure Rel (P:Program) (ρ:yY) (h:za) (w:World):Prop where
 next:ρ.next=h.next
 ro:h.ro<=h.next
 Vn:∀ b o,h.get b=some o->b < h.next
 ok:∀ b o,h.get b=some o->∃ pl,ρ.m b=some pl/\vo P ρ (decide (h.ro<=b)) o pl w
 inj:∀ b1 b2 o1 o2 p1 p2,h.get b1=some o1->h.get b2=some o2->ρ.m b1=some p1->ρ.m b2=some p2->p1.c=p2.c->b1=b2
 JO:P.globals.size<=h.ro
 jV:∀ b pl,b < P.globals.size->ρ.m b=some pl->pl.c=b/\pl.base=0
def Q2 (ρ:yY) (h:za) (c:Nat):Prop := ∃ b o pl,h.get b=some o/\h.ro<=b/\ρ.m b=some pl/\pl.c=c
structure Step (P:Program) (ρ:yY) (h:za) (w:World) (ρ':yY) (h':za) (w':World):Prop where
 le:ρ.le ρ'
 rel:Rel P ρ' h' w'
 ro:h'.ro=h.ro
 os:w'.os=w.os
 tape:w'.tape=w.tape
 output:w'.output=w.output
 size:w.heap.size<=w'.heap.size
 frame:∀ c,c < w.heap.size->¬ Q2 ρ h c->w'.heap[c]? = w.heap[c]?
 bt:∀ c,c < w.heap.size->Q2 ρ' h' c->Q2 ρ h c
theorem Step.refl {P:Program} {ρ:yY} {h:za} {w:World} (hr:Rel P ρ h w):Step P ρ h w ρ h w :=
 ⟨yY.le_refl _,hr,rfl,rfl,rfl,rfl,NG _,fun _ _ _=>rfl,fun _ _ h=>h⟩
theorem Step.trans {P:Program} {ρ ρ' ρ'':yY} {h h' h'':za} {w w' w'':World} (a:Step P ρ h w ρ' h' w') (b:Step P ρ' h' w' ρ'' h'' w'') :
  Step P ρ h w ρ'' h'' w'' :=
 ⟨yY.le_trans a.le b.le,b.rel,b.ro.trans a.ro,b.os.trans a.os,b.tape.trans a.tape,b.output.trans a.output,Oc a.size b.size,
  fun c hc hn=>(b.frame c (NH hc a.size) (fun hm=>hn (a.bt c hc hm))).trans (a.frame c hc hn),
  fun c hc hm=>a.bt c hc (b.bt c (NH hc a.size) hm)⟩
def uw (tm:Array Value) (d:Option Nat) (v:Value):Array Value :=
 match d with
 | some d=>tm.setIfInBounds d v
 | none=>tm
theorem vd.put {ρ:yY} {s s':Env} {tm:Array Value} {d:Option Nat} {v v':Value} (h:vd ρ s tm) (hv:zD ρ v v') (hp:s.put d v=some s') :
  vd ρ s' (uw tm d v'):=by
 cases d with
 | none=>simp only [Env.put,Nz] at hp;subst hp;exact h
 | some d=>
   simp only [Env.put] at hp
   cases hb:Nat.blt d s.size with
   | false=>rw [hb] at hp;cases hp
   | true=>
     rw [hb] at hp
     simp only [NR,Nz] at hp
     subst hp
     have hd:d < s.size:=by simpa [Of] using hb
     refine ⟨by simp [uw,h.size],fun i => ?_⟩
     rw [Env.yj]
     simp only [uw]
     by_cases e:i=d
     ·subst e
      rw [NK rfl]
      have:(tm.setIfInBounds i v').getD i undef=v':=by
       simp [NS,<- h.size,hd]
      rw [this];exact hv
     ·rw [NJ e]
      have:(tm.setIfInBounds d v').getD i undef=tm.getD i undef:=by
       simp [NS,Ne.symm e]
      rw [this];exact h.get i
end
end Go.Ai
namespace Go.Ai
noncomputable section
variable {P:Program}
theorem Rel.place {ρ:yY} {h:za} {w:World} (hr:Rel P ρ h w) {b:Nat} {c:List Value} {t:TypeId} {pl:Place} (hg:h.get b=some (.cells c t)) (hm:ρ.m b=some pl) :
  y4 P ρ (decide (h.ro<=b)) c t pl w:=by
 obtain ⟨pl',hm',hc⟩:=hr.ok b _ hg
 rw [hm] at hm'
 cases hm'
 exact hc
theorem Rel.cells {ρ:yY} {h:za} {w:World} (hr:Rel P ρ h w) (b:Nat) (c:List Value) (t:TypeId) (hg:h.get b=some (.cells c t)):∃ pl,ρ.m b=some pl/\y4 P ρ (decide (h.ro<=b)) c t pl w:=hr.ok b _ hg
theorem Rel.EG {ρ:yY} {h:za} {w:World} (hr:Rel P ρ h w) {b:Nat} {o:wi} {pl:Place} (hg:h.get b=some o) (hm:ρ.m b=some pl):vo P ρ (decide (h.ro<=b)) o pl w:=by
 obtain ⟨pl',hm',hc⟩:=hr.ok b _ hg
 rw [hm] at hm'
 cases hm'
 exact hc
theorem y4.cell {ρ:yY} {wr:Bool} {c:List Value} {t:TypeId} {pl:Place} {w:World} (hc:y4 P ρ wr c t pl w) {i:Nat} {x:Value} (hx:c[i]? = some x) :
  ∃ y,w.cell? ⟨pl.c,pl.base + i,none⟩=some y/\zD ρ x y:=by
 obtain ⟨cs,fz,hb,_,_,_,_,hv⟩:=hc
 obtain ⟨y,hy,hxy⟩:=hv i x hx
 exact ⟨y,by simp [World.cell?,hb,hy],hxy⟩
theorem y4.Fe {ρ:yY} {c:List Value} {t:TypeId} {pl:Place} {w:World} (hc:y4 P ρ true c t pl w) {i:Nat} (hi:i < pl.size) :
  w.frozen? ⟨pl.c,i,none⟩=false:=by
 obtain ⟨cs,fz,hb,_,_,_,hf,_⟩:=hc
 have:=hf rfl i hi
 obtain ⟨lo,hi'⟩:=fz
 simp [World.frozen?,hb] at this ⊢
 exact this
theorem y4.other {ρ:yY} {wr:Bool} {c:List Value} {t:TypeId} {pl:Place} {w w':World} (hc:y4 P ρ wr c t pl w) (hb:w'.heap[pl.c]? = w.heap[pl.c]?):y4 P ρ wr c t pl w':=by
 obtain ⟨cs,fz,h1,h2⟩:=hc
 exact ⟨cs,fz,hb.trans h1,h2⟩
theorem y4.mono {ρ ρ':yY} (hle:ρ.le ρ') {wr:Bool} {c:List Value} {t:TypeId} {pl:Place} {w:World} (hc:y4 P ρ wr c t pl w):y4 P ρ' wr c t pl w:=by
 obtain ⟨cs,fz,h1,h2,h3,h4,h5,h6⟩:=hc
 exact ⟨cs,fz,h1,h2,h3,h4,h5,fun i x hx=>by obtain ⟨y,hy,hv⟩:=h6 i x hx;exact ⟨y,hy,hv.mono hle⟩⟩
theorem y4.lt {ρ:yY} {wr:Bool} {c:List Value} {t:TypeId} {pl:Place} {w:World} (hc:y4 P ρ wr c t pl w):pl.c < w.heap.size:=by
 obtain ⟨cs,fz,h1,_⟩:=hc
 rcases NZ pl.c w.heap.size with h | h
 ·exact h
 ·rw [N3 h] at h1;cases h1
theorem y4.CO {ρ:yY} {c:List Value} {t:TypeId} {pl:Place} {w:World} {wr wr':Bool} (hw:wr'=true->wr=true) (hc:y4 P ρ wr c t pl w):y4 P ρ wr' c t pl w:=by
 obtain ⟨cs,fz,h1,h2,h3,h4,h5,h6⟩:=hc
 exact ⟨cs,fz,h1,h2,h3,h4,fun e=>h5 (hw e),h6⟩
theorem vo.other {ρ:yY} {wr:Bool} {o:wi} {pl:Place} {w w':World} (hc:vo P ρ wr o pl w) (hb:w'.heap[pl.c]? = w.heap[pl.c]?):vo P ρ wr o pl w':=by
 cases o with
 | cells c t=>exact y4.other hc hb
 | map es q=>obtain ⟨ms,h1,h2⟩:=hc;exact ⟨ms,hb.trans h1,h2⟩
 | iter m a b c=>obtain ⟨m',h1,h2⟩:=hc;exact ⟨m',hb.trans h1,h2⟩
 | siter s pos=>exact ⟨hb.trans hc.1,hc.2⟩
 | tab c=>obtain ⟨t,h1⟩:=hc;exact ⟨t,y4.other h1 hb⟩
 | loop l=>obtain ⟨tm,d,fn,h1,h2⟩:=hc;exact ⟨tm,d,fn,hb.trans h1,h2⟩
theorem vo.mono {ρ ρ':yY} (hle:ρ.le ρ') {wr:Bool} {o:wi} {pl:Place} {w:World} (hc:vo P ρ wr o pl w):vo P ρ' wr o pl w:=by
 cases o with
 | cells c t=>exact y4.mono hle hc
 | map es q=>obtain ⟨ms,h1,h2,h3⟩:=hc;exact ⟨ms,h1,h2,fun i x m hx hm=>⟨(h3 i x m hx hm).1.mono hle,(h3 i x m hx hm).2.1.mono hle,(h3 i x m hx hm).2.2⟩⟩
 | iter m a b c=>obtain ⟨m',h1,h0,h2⟩:=hc;exact ⟨m',h1,h0,h2.mono hle⟩
 | tab c=>obtain ⟨t,h1⟩:=hc;exact ⟨t,y4.mono hle h1⟩
 | siter s pos=>exact hc
 | loop l=>obtain ⟨tm,d,fn,h1,h2⟩:=hc;exact ⟨tm,d,fn,h1,h2.mono hle⟩
theorem Zn {w:World} {r:Nat} {o:Obj} (h:w.heap[r]? = some o):r < w.heap.size:=by
 rcases NZ r w.heap.size with hl | hl
 ·exact hl
 ·rw [N3 hl] at h;cases h
theorem vo.lt {ρ:yY} {wr:Bool} {o:wi} {pl:Place} {w:World} (hc:vo P ρ wr o pl w):pl.c < w.heap.size:=by
 cases o with
 | cells c t=>exact y4.lt hc
 | map es q=>obtain ⟨ms,h1,_⟩:=hc;exact Zn h1
 | iter m a b c=>obtain ⟨m',h1,_⟩:=hc;exact Zn h1
 | siter s pos=>exact Zn hc.1
 | tab c=>obtain ⟨t,h1⟩:=hc;exact h1.lt
 | loop l=>obtain ⟨tm,d,fn,h1,_⟩:=hc;exact Zn h1
theorem vo.CO {ρ:yY} {o:wi} {pl:Place} {w:World} {wr wr':Bool} (hw:wr'=true->wr=true) (hc:vo P ρ wr o pl w):vo P ρ wr' o pl w:=by
 cases o with
 | cells c t=>exact y4.CO hw hc
 | map es q=>exact hc
 | tab c=>exact hc
 | iter m a b c=>exact hc
 | siter s pos=>exact hc
 | loop l=>exact hc
theorem Rel.drop {ρ:yY} {h:za} {w:World} (hr:Rel P ρ h w) (b:Nat):Rel P ρ (h.set b none) w:=by
 have hsub:∀ x o,(h.set b none).get x=some o->h.get x=some o:=by
  intro x o hx
  rw [za.yj] at hx
  split at hx
  ·cases hx
  ·exact hx
 exact ⟨hr.next,hr.ro,fun x o hx=>hr.Vn x o (hsub x o hx),fun x o hx=>hr.ok x o (hsub x _ hx),
  fun b1 b2 o1 o2 p1 p2 h1 h2=>hr.inj b1 b2 o1 o2 p1 p2 (hsub _ _ h1) (hsub _ _ h2),hr.JO,hr.jV⟩
theorem Step.sL {ρ:yY} {h:za} {w w':World} (hr:Rel P ρ h w) {b:Nat} {ob ob':wi} {pl:Place} (hg:h.get b=some ob) (hm:ρ.m b=some pl) (hro:h.ro<=b)
  (hok:vo P ρ true ob' pl w') (hos:w'.os=w.os) (htape:w'.tape=w.tape) (hout:w'.output=w.output) (hsz:w'.heap.size=w.heap.size)
  (hfr:∀ k,k ≠ pl.c->w'.heap[k]? = w.heap[k]?):Step P ρ h w ρ (h.set b (some ob')) w':=by
 have hold:∀ x o,(h.set b (some ob')).get x=some o->∃ o',h.get x=some o':=by
  intro x o hx
  rw [za.yj] at hx
  split at hx
  ·rename_i e;subst e;exact ⟨_,hg⟩
  ·exact ⟨o,hx⟩
 refine ⟨yY.le_refl _,⟨hr.next,hr.ro,?_,?_,?_,hr.JO,hr.jV⟩,rfl,hos,htape,hout,by omega,?_,?_⟩
 ·intro x o hx
  obtain ⟨o',ho'⟩:=hold x o hx
  exact hr.Vn x o' ho'
 ·intro x ox hx
  rw [za.yj] at hx
  split at hx
  ·rename_i e;subst e;cases hx;exact ⟨pl,hm,hok.CO (fun _=>rfl)⟩
  ·rename_i e
   obtain ⟨p,hp,hc⟩:=hr.ok x ox hx
   refine ⟨p,hp,hc.other (hfr _ ?_)⟩
   intro e2
   exact e (hr.inj x b _ _ p pl hx hg hp hm e2)
 ·intro b1 b2 o1 o2 p1 p2 h1 h2
  obtain ⟨o1',h1'⟩:=hold _ _ h1
  obtain ⟨o2',h2'⟩:=hold _ _ h2
  exact hr.inj b1 b2 o1' o2' p1 p2 h1' h2'
 ·intro k hk hn
  refine hfr k ?_
  intro e
  exact hn ⟨b,_,pl,hg,hro,hm,e.symm⟩
 ·rintro k hk ⟨x,o,p,hx,hrx,hp,hpc⟩
  obtain ⟨o',ho'⟩:=hold x o hx
  exact ⟨x,o',p,ho',hrx,hp,hpc⟩
theorem Step.write {ρ:yY} {h:za} {w w':World} (hr:Rel P ρ h w) {b:Nat} {c c':List Value} {t:TypeId} {pl:Place} (hg:h.get b=some (.cells c t)) (hm:ρ.m b=some pl) (hro:h.ro<=b)
  (hok:y4 P ρ true c' t pl w') (hos:w'.os=w.os) (htape:w'.tape=w.tape) (hout:w'.output=w.output) (hsz:w'.heap.size=w.heap.size)
  (hfr:∀ k,k ≠ pl.c->w'.heap[k]? = w.heap[k]?):Step P ρ h w ρ (h.set b (some (.cells c' t))) w' :=
 Step.sL hr hg hm hro (ob' := .cells c' t) hok hos htape hout hsz hfr
theorem size_setCell (w:World) (a:Addr) (v:Value):(w.setCell a v).heap.size=w.heap.size:=by simp [World.setCell]
theorem Vp (w:World) (a:Addr) (v:Value) (k:Nat) (h:k ≠ a.block):(w.setCell a v).heap[k]? = w.heap[k]?:=RowKit.Below.heap_setCell w a v k h
theorem y4.setCell {ρ:yY} {wr:Bool} {c:List Value} {t:TypeId} {pl:Place} {w:World} (hc:y4 P ρ wr c t pl w) {i:Nat} {v v':Value} (hi:i < c.length) (hv:zD ρ v v') :
  y4 P ρ wr (c.set i v) t pl (w.setCell ⟨pl.c,pl.base + i,none⟩ v'):=by
 obtain ⟨cs,fz,h1,h2,h3,h4,h5,h6⟩:=hc
 refine ⟨cs.setIfInBounds (pl.base + i) v',fz,?_,by simpa using h2,h3,by simpa using h4,h5,?_⟩
 ·simp [World.setCell,Array.getElem?_modify,h1]
 ·intro j x hx
  by_cases e:j=i
  ·subst e
   rw [OK hi] at hx
   cases hx
   exact ⟨v',by rw [Oh,NK rfl,NK (by omega)],hv⟩
  ·rw [OY (fun h=>e h.symm)] at hx
   obtain ⟨y,hy,hxy⟩:=h6 j x hx
   exact ⟨y,by rw [Oh,NJ (by omega)];exact hy,hxy⟩
theorem fH {ρ:yY} {h:za} {w:World} (hr:Rel P ρ h w) {b:Nat} {c:List Value} {t:TypeId} {pl:Place} (hg:h.get b=some (.cells c t)) (hm:ρ.m b=some pl) (hro:h.ro<=b)
  {i:Nat} (hi:i < c.length) {v v':Value} (hv:zD ρ v v') (hcell:xp v=true) :
  (store ⟨pl.c,pl.base + i,none⟩ v').run P w = .ok () (w.setCell ⟨pl.c,pl.base + i,none⟩ v') /\
   Step P ρ h w ρ (h.set b (some (.cells (c.set i v) t))) (w.setCell ⟨pl.c,pl.base + i,none⟩ v'):=by
 have hc:=hr.place hg hm
 rw [show decide (h.ro<=b)=true by simpa using hro] at hc
 obtain ⟨y,hy,_⟩:=hc.cell (i:=i) (NC hi)
 have hsz:pl.base + i < pl.size:=by obtain ⟨cs,fz,_,h2,_,h4,_⟩:=hc;omega
 have hone:v'.oneCell'=true:=by have:=eA hv;rw [hcell] at this;cases v' <;> simp_all [xp,Value.oneCell']
 refine ⟨?_,Step.write hr hg hm hro (hc.setCell hi hv) rfl rfl rfl (size_setCell _ _ _) (fun k hk=>Vp _ _ _ _ hk)⟩
 rw [run_store _ _ _ _ _ hone,hy]
 simp [hc.Fe hsz]
def zt (c:List Value) (i:Nat):List Value->List Value
 | []=>c
 | v :: vs=>zt (c.set i v) (i + 1) vs
theorem Xc (vs:List Value):∀ (c:List Value) (i:Nat),(zt c i vs).length=c.length:=by
 induction vs with
 | nil=>intro c i;rfl
 | cons v vs ih=>intro c i;simp [zt,ih]
theorem za.set_set (h:za) (b:Nat) (x y:Option wi) (k:Nat):((h.set b x).set b y).get k=(h.set b y).get k:=by
 simp only [za.yj];split <;> rfl
structure II (h h':za):Prop where
 next:h'.next=h.next
 ro:h'.ro=h.ro
 get:∀ b,h'.get b=h.get b
theorem Rel.same {ρ:yY} {h h':za} {w:World} (hr:Rel P ρ h w) (e:II h h'):Rel P ρ h' w :=
 ⟨hr.next.trans e.next.symm,by rw [e.ro,e.next];exact hr.ro,fun b o hb=>by rw [e.next];exact hr.Vn b o ((e.get b) ▸ hb),
  fun b o hb=>by rw [e.ro];exact hr.ok b o ((e.get b) ▸ hb),
  fun b1 b2 o1 o2 p1 p2 h1 h2=>hr.inj b1 b2 o1 o2 p1 p2 ((e.get b1) ▸ h1) ((e.get b2) ▸ h2),by rw [e.ro];exact hr.JO,hr.jV⟩
theorem Step.same {ρ ρ':yY} {h h' h'':za} {w w':World} (s:Step P ρ h w ρ' h' w') (e:II h' h''):Step P ρ h w ρ' h'' w' :=
 ⟨s.le,s.rel.same e,e.ro.trans s.ro,s.os,s.tape,s.output,s.size,s.frame,fun c hc hm=>s.bt c hc (by
  obtain ⟨b,o,pl,hb,hro,hp⟩:=hm
  exact ⟨b,o,pl,by rw [<- e.get];exact hb,by rw [<- e.ro];exact hro,hp⟩)⟩
theorem kE (c o i:Nat):(Addr.mk c o none).add i=⟨c,o + i,none⟩:=by
 unfold Addr.add
 split
 ·rename_i h;subst h;rfl
 ·rfl
theorem V3 {ρ:yY} {t:TypeId} {pl:Place} {b:Nat} {o:Nat} (hm:ρ.m b=some pl):∀ (vs vs':List Value) (h:za) (w:World) (c:List Value) (j:Nat),Rel P ρ h w->h.get b=some (.cells c t)->h.ro<=b ->
  o + j + vs.length<=c.length->xD ρ vs vs'->(∀ x ∈ vs,xp x=true) ->
  ∃ w',(storeCells ⟨pl.c,pl.base + o,none⟩ vs' j).run P w = .ok () w'/\Step P ρ h w ρ (h.set b (some (.cells (zt c (o + j) vs) t))) w':=by
 intro vs
 induction vs with
 | nil=>
   intro vs' h w c j hr hg hro hl hv hcell
   cases hv.vR
   refine ⟨w,rfl,(Step.refl hr).same ⟨rfl,rfl,fun x => ?_⟩⟩
   rw [za.yj];split
   ·rename_i e;subst e;exact hg.symm
   ·rfl
 | cons v vs ih=>
   intro vs' h w c j hr hg hro hl hv hcell
   obtain ⟨v',vs'',rfl,hv1,hv2⟩:=hv.cons_inv
   simp only [OM] at hl
   obtain ⟨e1,s1⟩:=fH hr hg hm hro (i:=o + j) (by omega) hv1 (hcell v (by simp))
   obtain ⟨w',e2,s2⟩:=ih vs'' _ _ (c.set (o + j) v) (j + 1) s1.rel (by rw [za.yj,NK rfl]) hro (by simp;omega) hv2 (fun x hx=>hcell x (by simp [hx]))
   refine ⟨w',?_,(s1.trans s2).same ⟨rfl,rfl,fun x => ?_⟩⟩
   ·simp only [storeCells,kE,NF,OW] at e1 ⊢
    rw [e1];exact e2
   ·rw [za.set_set];rfl
def yY.ext (ρ:yY) (pl:Place):yY:={ next:=ρ.next + 1,m:=fun b=>if b=ρ.next then some pl else ρ.m b }
theorem yY.JR (ρ:yY) (pl:Place):ρ.le (ρ.ext pl):=⟨OP _,fun _ hb=>NJ (Nat.ne_of_lt hb)⟩
theorem yY.qg (ρ:yY) (pl:Place):(ρ.ext pl).m ρ.next=some pl:=NK rfl
theorem Rel.Uv {ρ:yY} {h:za} {w:World} (hr:Rel P ρ h w) {ob:wi} {pl:Place} (hc:vo P (ρ.ext pl) true ob pl w)
  (hfresh:∀ b o p,h.get b=some o->ρ.m b=some p->p.c ≠ pl.c):Rel P (ρ.ext pl) (h.push ob) w:=by
 have hle:=ρ.JR pl
 have hcase:∀ x o,(h.push ob).get x=some o->(x=h.next/\o=ob)\/(x < h.next/\h.get x=some o):=by
  intro x o hx
  rw [za.wT] at hx
  split at hx
  ·rename_i e;cases hx;exact .inl ⟨e,rfl⟩
  ·exact .inr ⟨hr.Vn x o hx,hx⟩
 have hold:∀ x,x < h.next->(ρ.ext pl).m x=ρ.m x:=fun x hx=>hle.2 x (by rw [hr.next];exact hx)
 have hnew:(ρ.ext pl).m h.next=some pl:=by rw [<- hr.next];exact ρ.qg pl
 refine ⟨by show ρ.next + 1=h.next + 1;rw [hr.next],Oc hr.ro (OP _),?_,?_,?_,hr.JO,fun b p hb hm=>hr.jV b p hb (by rw [<- hold b (NH hb (Oc hr.JO hr.ro))];exact hm)⟩
 ·intro x o hx
  rcases hcase x o hx with ⟨e,_⟩ | ⟨hlt,_⟩
  ·subst e;exact N0 _
  ·exact O1 hlt
 ·intro x ox hx
  rcases hcase x _ hx with ⟨e,eo⟩ | ⟨hlt,hx'⟩
  ·cases eo;subst e
   exact ⟨pl,hnew,hc.CO (fun _=>rfl)⟩
  ·obtain ⟨p,hp,hcx⟩:=hr.ok x ox hx'
   exact ⟨p,(hold x hlt).trans hp,hcx.mono hle⟩
 ·intro b1 b2 o1 o2 p1 p2 h1 h2 m1 m2 e
  rcases hcase b1 o1 h1 with ⟨e1,_⟩ | ⟨l1,g1⟩ <;> rcases hcase b2 o2 h2 with ⟨e2,_⟩ | ⟨l2,g2⟩
  ·omega
  ·subst e1
   rw [hnew] at m1;cases m1
   rw [hold _ l2] at m2
   exact absurd e.symm (hfresh b2 o2 p2 g2 m2)
  ·subst e2
   rw [hnew] at m2;cases m2
   rw [hold _ l1] at m1
   exact absurd e (hfresh b1 o1 p1 g1 m1)
  ·rw [hold _ l1] at m1;rw [hold _ l2] at m2
   exact hr.inj b1 b2 o1 o2 p1 p2 g1 g2 m1 m2 e
theorem Rel.push {ρ:yY} {h:za} {w:World} (hr:Rel P ρ h w) {c:List Value} {t:TypeId} {pl:Place} (hc:y4 P (ρ.ext pl) true c t pl w)
  (hfresh:∀ b o p,h.get b=some o->ρ.m b=some p->p.c ≠ pl.c):Rel P (ρ.ext pl) (h.push (.cells c t)) w:=hr.Uv (ob := .cells c t) hc hfresh
theorem Rel.grow {ρ:yY} {h:za} {w w':World} (hr:Rel P ρ h w) (hold:∀ k,k < w.heap.size->w'.heap[k]? = w.heap[k]?):Rel P ρ h w' :=
 ⟨hr.next,hr.ro,hr.Vn,fun b o hb=>by obtain ⟨pl,hp,hc⟩:=hr.ok b o hb;exact ⟨pl,hp,hc.other (hold _ hc.lt)⟩,hr.inj,hr.JO,hr.jV⟩
theorem Step.Uv {ρ:yY} {h:za} {w w':World} (hr:Rel P ρ h w) {ob:wi} {pl:Place} {wo:Obj} (hpl:pl.c=w.heap.size)
  (hnew:w'.heap=w.heap.push wo) (hok:vo P (ρ.ext pl) true ob pl w')
  (hos:w'.os=w.os) (htape:w'.tape=w.tape) (hout:w'.output=w.output) :
  Step P ρ h w (ρ.ext pl) (h.push ob) w':=by
 have hold:∀ k,k < w.heap.size->w'.heap[k]? = w.heap[k]?:=by
  intro k hk;rw [hnew,Array.getElem?_push,NJ (by omega)]
 have hle:=ρ.JR pl
 have hr':=hr.grow hold
 refine ⟨hle,hr'.Uv hok ?_,rfl,hos,htape,hout,by rw [hnew];simp,fun k hk _=>hold k hk,?_⟩
 ·intro b o p hg hm e
  obtain ⟨p',hp',hcx⟩:=hr.ok b o hg
  rw [hm] at hp';cases hp'
  have:=hcx.lt
  omega
 ·rintro k hk ⟨b,o,p,hg,hro,hm,e⟩
  rw [za.wT] at hg
  split at hg
  ·rename_i eb
   subst eb
   rw [<- hr.next,yY.qg] at hm
   cases hm
   omega
  ·have hlt:=hr.Vn b o hg
   refine ⟨b,o,p,hg,hro,?_,e⟩
   rw [<- hm]
   exact (hle.2 b (by rw [hr.next];exact hlt)).symm
theorem Step.push {ρ:yY} {h:za} {w w':World} (hr:Rel P ρ h w) {c:List Value} {t:TypeId} {cs:Array Value} {fz:Nat × Nat}
  (hnew:w'.heap=w.heap.push (.cells cs t fz)) (hfz:∀ i,i < cs.size->¬(fz.1<=i/\i < fz.2)) (hlen:c.length<=cs.size) (hv:∀ (i:Nat) x,c[i]? = some x->∃ y,cs[i]? = some y/\zD ρ x y)
  (hos:w'.os=w.os) (htape:w'.tape=w.tape) (hout:w'.output=w.output) :
  Step P ρ h w (ρ.ext ⟨w.heap.size,0,cs.size,P.cellsOf t⟩) (h.push (.cells c t)) w':=by
 refine Step.Uv hr (ob := .cells c t) rfl hnew ⟨cs,fz,by rw [hnew];simp,rfl,⟨rfl,Nat.zero_mod _⟩,by simpa using hlen,fun _=>hfz,?_⟩ hos htape hout
 intro i x hx
 obtain ⟨y,hy,hxy⟩:=hv i x hx
 exact ⟨y,by simpa using hy,hxy.mono (ρ.JR _)⟩
theorem QU {ρ:yY} {h:za} {w:World} (hr:Rel P ρ h w) {c:List Value} {t:TypeId} {cs:Array Value} (hlen:c.length<=cs.size) (hv:∀ (i:Nat) x,c[i]? = some x->∃ y,cs[i]? = some y/\zD ρ x y) :
  (newRow t cs).run P w = .ok ⟨w.heap.size,0,none⟩ { w with heap:=w.heap.push (.cells cs t) } /\
   Step P ρ h w (ρ.ext ⟨w.heap.size,0,cs.size,P.cellsOf t⟩) (h.push (.cells c t)) { w with heap:=w.heap.push (.cells cs t) } :=
 ⟨rfl,Step.push hr rfl (fun i _ hi=>by simp at hi) hlen hv rfl rfl rfl⟩
theorem zD.new {ρ:yY} {h:za} {w:World} (hr:Rel P ρ h w) (pl:Place) (hb:pl.base=0):zD (ρ.ext pl) (.pointer (some ⟨h.next,0,none⟩)) (.pointer (some ⟨pl.c,0,none⟩)):=by
 have:=zD.ptr (ρ:=ρ.ext pl) (b:=h.next) (off:=0) (pl:=pl) (by show h.next < ρ.next + 1;rw [hr.next];exact N0 _) (by rw [<- hr.next];exact ρ.qg pl)
 rw [hb] at this
 exact this
theorem qM {ρ:yY} {wr:Bool} {c:List Value} {t:TypeId} {pl:Place} {w:World} (hc:y4 P ρ wr c t pl w) (o n:Nat) (h:o + n<=c.length) :
  ∃ ys:List Value,(loadCells ⟨pl.c,pl.base + o,none⟩ n).run P w = .ok ys.toArray w/\xD ρ ((c.drop o).take n) ys:=by
 obtain ⟨cs,fz,h1,h2,h3,h4,h5,h6⟩:=hc
 refine ⟨((cs.toList.drop (pl.base + o)).take n),?_,?_,?_⟩
 ·have hlen:((cs.toList.drop (pl.base + o)).take n).length=n:=by simp;omega
  have:=run_loadCells_list (P:=P) w ⟨pl.c,pl.base + o,none⟩ ((cs.toList.drop (pl.base + o)).take n) (fun j v hj=>by
   have hjn:j < n:=by
    rcases NZ j n with h | h
    ·exact h
    ·rw [NM (by omega)] at hj;cases hj
   rw [Ob hjn,Od] at hj
   rw [kE]
   simp [World.cell?,h1]
   simpa using hj)
  rw [hlen] at this
  exact this
 ·simp;omega
 ·intro i x y hx hy
  have hi:i < n:=by
   rcases NZ i n with h | h
   ·exact h
   ·rw [NM (by simp;omega)] at hx;cases hx
  rw [Ob hi,Od] at hx hy
  obtain ⟨y',hy',hxy⟩:=h6 _ _ hx
  have:y=y':=by
   have e:pl.base + (o + i)=pl.base + o + i:=by omega
   rw [e] at hy'
   have hy2:cs[pl.base + o + i]? = some y:=by simpa using hy
   rw [hy2] at hy';cases hy';rfl
  rw [this];exact hxy
end
noncomputable section
def zT {α:Type} (P:Program):Sem α->Option α
 | .pure a=>some a
 | .program k=>zT P (k P)
 | _=>none
theorem zh {α:Type} {P:Program} {s:Sem α} {a:α} (h:zT P s=some a) (w:World):s.run P w = .ok a w:=by
 induction s with
 | pure b=>simp only [zT,Nz] at h;subst h;rfl
 | program k ih=>simp only [zT] at h;exact ih P h
 | _=>cases h
def flat:Value->Bool
 | .agg a=>a.toList.all plain
 | v=>plain v
theorem pU {ρ:yY} {v v':Value} (h:zD ρ v v') (hp:plain v=true):v'=v:=by
 cases h with
 | mL h=>cases hp
 | bool | int | float | string | ptrNil | nilFunc | nilIface | mapNil=>rfl
 | ptr | jV | slice | sliceOut | iface | agg | map | yield=>simp [plain] at hp
 | sliceNil c=>simp only [plain,ND] at hp;obtain rfl:=NL hp.2;rfl
 | func ha hc _ _=>
   simp only [plain,ND] at hp
   obtain rfl:=Xw hp.1
   obtain rfl:=Xw hp.2
   rw [OZ ha.symm,OZ hc.symm]
 | tuple ha _=>
   obtain rfl:=Xw hp
   rw [OZ ha.symm]
theorem eY {xs ys:List Value} (hl:xs.length=ys.length) (h:∀ (i:Nat) x y,xs[i]? = some x->ys[i]? = some y->y=x):ys=xs:=by
 apply O2
 intro i
 rcases NZ i xs.length with hi | hi
 ·rw [NC hi,NC (hl ▸ hi)]
  congr 1
  exact h i _ _ (NC hi) (NC (hl ▸ hi))
 ·rw [NM hi,NM (by omega)]
theorem qh {ρ:yY} {v v':Value} (h:zD ρ v v') (hp:flat v=true):v'=v:=by
 cases h with
 | agg ha hv=>
   rename_i a a'
   simp only [flat,NY] at hp
   congr 1
   apply Pn
   refine eY (by simpa using ha) (fun i x y hx hy => ?_)
   exact pU (hv i x y (by simpa using hx) (by simpa using hy)) (hp x (NQ hx))
 | _=>first | rfl | exact pU (ρ:=ρ) (by constructor <;> assumption) hp
theorem zD.of_flat (ρ:yY) {v:Value} (h:flat v=true):zD ρ v v:=by
 cases v with
 | agg a=>
   simp only [flat,NY] at h
   exact .agg rfl (fun i x y hx hy=>by
    rw [hx] at hy;cases hy
    exact .jj ρ (h x (NQ (by simpa using hx))))
 | _=>exact .jj ρ h
def qI (s:Env):Operand->Option Value
 | .tmp t=>some (s.get t)
 | .const v=>cond (flat v) (some v) none
 | .global g=>some (.pointer (some ⟨g,0,some 0⟩))
 | .func f=>some (.func (.func f) #[] #[])
theorem zO {ρ:yY} {s:Env} {a:Act} (hs:vd ρ s a.tmps) {x:Operand} {v:Value} (h:qI s x=some v):zD ρ v (a.eval x):=by
 cases x with
 | tmp t=>simp only [qI,Nz] at h;subst h;exact hs.get t
 | const c=>
   simp only [qI] at h
   cases hf:flat c with
   | false=>rw [hf] at h;cases h
   | true=>rw [hf] at h;simp only [NR,Nz] at h;subst h;exact .of_flat ρ hf
 | global g=>simp only [qI,Nz] at h;subst h;exact .jV
 | func f=>simp only [qI,Nz] at h;subst h;exact .jj ρ rfl
def X5 (s:Env):List Operand->Option (List Value)
 | []=>some []
 | x :: xs=>match qI s x with
   | none=>none
   | some v=>match X5 s xs with
     | none=>none
     | some vs=>some (v :: vs)
theorem kA {ρ:yY} {s:Env} {a:Act} (hs:vd ρ s a.tmps):∀ {xs:List Operand} {vs:List Value},X5 s xs=some vs->xD ρ vs (xs.map a.eval)
 | [],vs,h=>by simp only [X5,Nz] at h;subst h;exact .nil ρ
 | x :: xs,vs,h=>by
   simp only [X5] at h
   split at h
   ·cases h
   ·rename_i v hv
    split at h
    ·cases h
    ·rename_i vs' hvs
     simp only [Nz] at h
     subst h
     exact .cons (zO hs hv) (kA hs hvs)
theorem zD.cells {ρ:yY} {v v':Value} (h:zD ρ v v'):xD ρ v.cells.toList v'.cells.toList:=by
 cases h with
 | agg ha hv=>exact ⟨by simpa [Value.cells] using ha,fun i x y hx hy=>hv i x y (by simpa [Value.cells] using hx) (by simpa [Value.cells] using hy)⟩
 | mL h=>cases v' <;> first | exact .cons (.mL h) (.nil ρ) | cases h
 | _=>exact .cons (by constructor <;> assumption) (.nil ρ)
def apart (P:Program) (t:TypeId) (cs:List Value) (off:Nat):Option Value :=
 match zT P (isAgg t) with
 | none=>none
 | some true=>(match zT P (sizeOf t) with
   | none=>none
   | some n=>some (.agg ((cs.drop off).take n).toArray))
 | some false=>cs[off]?
theorem oI {P:Program} {ρ:yY} {t:TypeId} {cs:List Value} {cs':Array Value} {off:Nat} {v:Value} (h:apart P t cs off=some v) (hc:xD ρ cs cs'.toList) (w:World) :
  ∃ v',(part t cs' off).run P w = .ok v' w/\zD ρ v v':=by
 simp only [apart] at h
 split at h
 ·cases h
 ·rename_i hagg
  split at h
  ·cases h
  ·rename_i n hn
   simp only [Nz] at h
   subst h
   refine ⟨_,by simp only [part,NF,zh hagg,NA,N5,zh hn,NI];rfl,?_⟩
   refine .agg ?_ ?_
   ·simp only [List.size_toArray,Ok,Pz,Array.size_extract,hc.1,OI];omega
   ·intro i x y hx hy
    rw [OO] at hx
    rw [Array.getElem?_extract] at hy
    split at hy
    ·rename_i hi
     rw [Ob (by omega),Od] at hx
     exact hc.2 _ _ _ hx (by simpa using hy)
    ·cases hy
 ·rename_i hagg
  obtain ⟨y,hy,hxy⟩:=hc.get h
  refine ⟨y,?_,hxy⟩
  have hy':cs'[off]? = some y:=by simpa using hy
  simp only [part,NF,zh hagg,NA,On,Oo,hy',NI]
def zc (P:Program) (t:TypeId) (a:Value) (h:za):Option Value :=
 match a with
 | .pointer (some ⟨b,off,none⟩)=>(match h.get b with
   | none=>none
   | some (.cells c _)=>(match zT P (isAgg t) with
     | none=>none
     | some true=>(match zT P (sizeOf t) with
       | none=>none
       | some n=>cond (Nat.ble (off + n) c.length) (some (.agg ((c.drop off).take n).toArray)) none)
     | some false=>c[off]?)
   | some _=>none)
 | .pointer (some ⟨b,off,some 0⟩)=>cond (Nat.blt b P.globals.size) (match h.get b with
   | none=>none
   | some (.tab c)=>(match zT P (isAgg t) with
     | none=>none
     | some true=>(match zT P (sizeOf t) with
       | none=>none
       | some n=>cond (Nat.ble (off + n) c.length) (some (.agg ((c.drop off).take n).toArray)) none)
     | some false=>c[off]?)
   | some _=>none) none
 | _=>none
theorem aR {P:Program} {ρ:yY} {t:TypeId} {a a':Value} {h:za} {v:Value} {w:World} (he:zc P t a h=some v) (hr:Rel P ρ h w) (ha:zD ρ a a') :
  ∃ v',(Instr.loadAt t a').run P w = .ok v' w/\zD ρ v v':=by
 unfold zc at he
 split at he
 ·rename_i b off
  cases ha with
  | ptr hb hm=>
    rename_i pl
    split at he
    ·cases he
    ·rename_i c t' hg
     have hc:=hr.place hg hm
     split at he
     ·cases he
     ·rename_i hagg
      split at he
      ·cases he
      ·rename_i n hn
       cases hle:Nat.ble (off + n) c.length with
       | false=>rw [hle] at he;cases he
       | true=>
         rw [hle] at he
         simp only [NR,Nz] at he
         subst he
         obtain ⟨ys,hys,hv⟩:=qM hc off n (NW hle)
         refine ⟨.agg ys.toArray,?_,.agg (by simpa using hv.1) (fun i x y hx hy=>hv.2 i x y (by simpa using hx) (by simpa using hy))⟩
         simp only [Instr.loadAt,Instr.sureAddr,loadVar,NF,NI,NA,zh hagg,N5,zh hn,hys]
     ·rename_i hagg
      obtain ⟨y,hy,hxy⟩:=hc.cell he
      refine ⟨y,?_,hxy⟩
      simp only [Instr.loadAt,Instr.sureAddr,loadVar,NF,NI,NA,zh hagg,On,Oo,run_load,hy]
    ·cases he
 ·rename_i b off
  cases ha with
  | jV=>
    cases hbl:Nat.blt b P.globals.size with
    | false=>rw [hbl] at he;cases he
    | true=>
      rw [hbl] at he
      simp only [NR] at he
      have hbl:b < P.globals.size:=by simpa [Of] using hbl
      split at he
      ·cases he
      ·rename_i c hg
       obtain ⟨pl,hm,t',hc⟩:=hr.ok b _ hg
       obtain ⟨q1,q2⟩:=hr.jV b pl hbl hm
       split at he
       ·cases he
       ·rename_i hagg
        split at he
        ·cases he
        ·rename_i n hn
         cases hle:Nat.ble (off + n) c.length with
         | false=>rw [hle] at he;cases he
         | true=>
           rw [hle] at he
           simp only [NR,Nz] at he
           subst he
           obtain ⟨ys,hys,hv⟩:=qM hc off n (NW hle)
           simp only [q1,q2,OT] at hys
           refine ⟨.agg ys.toArray,?_,.agg (by simpa using hv.1) (fun i x y hx hy=>hv.2 i x y (by simpa using hx) (by simpa using hy))⟩
           simp only [Instr.loadAt,Instr.sureAddr,loadVar,NF,NI,NA,zh hagg,N5,zh hn,hys]
       ·rename_i hagg
        obtain ⟨y,hy,hxy⟩:=hc.cell he
        simp only [q1,q2,OT] at hy
        refine ⟨y,?_,hxy⟩
        simp only [Instr.loadAt,Instr.sureAddr,loadVar,NF,NI,NA,zh hagg,On,Oo,run_load,hy]
      ·cases he
 ·cases he
def zZ (P:Program) (t:TypeId) (a v:Value) (h:za):Option za :=
 match a with
 | .pointer (some ⟨b,off,none⟩)=>(match h.get b with
   | none=>none
   | some (.cells c t')=>(match zT P (sizeOf t) with
     | none=>none
     | some n=>cond (Nat.beq v.cells.size n && Nat.ble (off + n) c.length && Nat.ble h.ro b && v.cells.toList.all xp) (some (h.set b (some (.cells (zt c off v.cells.toList) t')))) none)
   | some _=>none)
 | _=>none
theorem lX {P:Program} {ρ:yY} {t:TypeId} {a a' v v':Value} {h h':za} {w:World} (he:zZ P t a v h=some h') (hr:Rel P ρ h w) (ha:zD ρ a a') (hv:zD ρ v v') :
  ∃ w',(Instr.storeAt t a' v').run P w = .ok () w'/\Step P ρ h w ρ h' w':=by
 unfold zZ at he
 split at he
 ·rename_i b off
  cases ha with
  | ptr hb hm=>
    rename_i pl
    split at he
    ·cases he
    ·rename_i c t' hg
     split at he
     ·cases he
     ·rename_i n hn
      cases hc:(Nat.beq v.cells.size n && Nat.ble (off + n) c.length && Nat.ble h.ro b && v.cells.toList.all xp) with
      | false=>rw [hc] at he;cases he
      | true=>
        rw [hc] at he
        simp only [NR,Nz] at he
        subst he
        simp only [ND,NY] at hc
        obtain ⟨⟨⟨h1,h2⟩,h3⟩,h4⟩:=hc
        have h1:=NL h1
        have h2:=NW h2
        have h3:=NW h3
        have hcells:=hv.cells
        have hsz:v'.cells.size=n:=by have:=hcells.1;simp only [OI] at this;omega
        obtain ⟨w',e,st⟩:=V3 (o:=off) hm v.cells.toList v'.cells.toList h w c 0 hr hg h3 (by simp only [OI];omega) hcells h4
        refine ⟨w',?_,st⟩
        simp only [Instr.storeAt,Instr.sureAddr,storeVar,NF,NI,NA,zh hn,PA,hsz]
        simp only [ne_eq,not_true,Oo]
        exact e
    ·cases he
 ·cases he
def zb (P:Program) (s:TypeId) (a:Value) (i:Nat):Option Value :=
 match a with
 | .pointer (some ⟨b,off,none⟩)=>(match zT P (underlying s) with
   | some (.struct fields)=>(match fields[i]? with
     | none=>none
     | some f=>(match zT P (sizeOf f.type) with
       | none=>none
       | some n=>cond (Nat.beq n 0) none (some (.pointer (some ⟨b,off + f.offset,none⟩)))))
   | _=>none)
 | .pointer (some ⟨b,off,some 0⟩)=>(match zT P (underlying s) with
   | some (.struct fields)=>(match fields[i]? with
     | none=>none
     | some f=>(match zT P (sizeOf f.type) with
       | none=>none
       | some n=>cond (Nat.beq n 0) none (some (.pointer (some ⟨b,off + f.offset,some 0⟩)))))
   | _=>none)
 | _=>none
theorem lQ {P:Program} {ρ:yY} {s:TypeId} {a a' v:Value} {i:Nat} (he:zb P s a i=some v) (ha:zD ρ a a') (w:World) :
  ∃ v',(Instr.fieldAt s a' i).run P w = .ok v' w/\zD ρ v v':=by
 unfold zb at he
 split at he
 ·rename_i b off
  cases ha with
  | ptr hb hm=>
    rename_i pl
    split at he
    ·rename_i fields hu
     split at he
     ·cases he
     ·rename_i f hf
      split at he
      ·cases he
      ·rename_i n hn
       cases hz:Nat.beq n 0 with
       | true=>rw [hz] at he;cases he
       | false=>
         rw [hz] at he
         simp only [N1,Nz] at he
         subst he
         have hne:n ≠ 0:=by intro e;subst e;simp at hz
         refine ⟨.pointer (some ⟨pl.c,pl.base + (off + f.offset),none⟩),?_,.ptr hb hm⟩
         simp only [Instr.fieldAt,Instr.sureAddr,fieldPlace,NF,NI,NA,zh hu,hf,zh hn,PA,NJ hne,kE,OW]
    ·cases he
 ·rename_i b off
  cases ha with
  | jV=>
    split at he
    ·rename_i fields hu
     split at he
     ·cases he
     ·rename_i f hf
      split at he
      ·cases he
      ·rename_i n hn
       cases hz:Nat.beq n 0 with
       | true=>rw [hz] at he;cases he
       | false=>
         rw [hz] at he
         simp only [N1,Nz] at he
         subst he
         have hne:n ≠ 0:=by intro e;subst e;simp at hz
         refine ⟨.pointer (some ⟨b,off + f.offset,none⟩),?_,.jV⟩
         simp only [Instr.fieldAt,Instr.sureAddr,fieldPlace,NF,NI,NA,zh hu,hf,zh hn,PA,NJ hne,kE]
    ·cases he
 ·cases he
def zI (P:Program) (t:TypeId) (x ix:Value):Option Value :=
 match ix with
 | .int _ i=>(match zT P (underlying t),x with
   | some (.array len elem),.pointer (some ⟨b,off,none⟩)=>(match zT P (sizeOf elem) with
     | none=>none
     | some n=>cond (decide (0<=i) && decide (i < len)) (some (.pointer (some ⟨b,off + i.toNat * n,none⟩))) none)
   | some (.array len elem),.pointer (some ⟨b,off,some 0⟩)=>(match zT P (sizeOf elem) with
     | none=>none
     | some n=>cond (decide (0<=i) && decide (i < len)) (some (.pointer (some ⟨b,off + i.toNat * n,some 0⟩))) none)
   | some (.slice elem),.slice (some ⟨b,off,none⟩) len _=>(match zT P (sizeOf elem) with
     | none=>none
     | some n=>cond (decide (0<=i) && decide (i < len)) (some (.pointer (some ⟨b,off + i.toNat * n,none⟩))) none)
   | _,_=>none)
 | _=>none
theorem lR {P:Program} {ρ:yY} {t:TypeId} {x x' ix ix' v:Value} (he:zI P t x ix=some v) (hx:zD ρ x x') (hi:zD ρ ix ix') (w:World) :
  ∃ v',(Instr.indexAt t x' ix').run P w = .ok v' w/\zD ρ v v':=by
 unfold zI at he
 split at he
 ·rename_i k i
  cases hi
  split at he
  ·rename_i hu
   cases hx with
   | ptr hb hm=>
     split at he
     ·cases he
     ·rename_i n hn
      cases hc:(decide (0<=i) && decide (i < _)) with
      | false=>rw [hc] at he;cases he
      | true=>
        rw [hc] at he
        simp only [NR,Nz] at he
        subst he
        simp only [ND,N8] at hc
        refine ⟨_,?_,.ptr hb hm⟩
        simp only [Instr.indexAt,Instr.sureAddr,asIntOf,NF,NI,NA,zh hu,zh hn,PA,NK hc,kE,OW]
  ·rename_i hu
   cases hx with
   | jV=>
     split at he
     ·cases he
     ·rename_i n hn
      cases hc:(decide (0<=i) && decide (i < _)) with
      | false=>rw [hc] at he;cases he
      | true=>
        rw [hc] at he
        simp only [NR,Nz] at he
        subst he
        simp only [ND,N8] at hc
        refine ⟨_,?_,.jV⟩
        simp only [Instr.indexAt,Instr.sureAddr,asIntOf,NF,NI,NA,zh hu,zh hn,PA,NK hc,kE]
  ·rename_i hu
   cases hx with
   | slice hb hm hl hcap=>
     split at he
     ·cases he
     ·rename_i n hn
      cases hc:(decide (0<=i) && decide (i < _)) with
      | false=>rw [hc] at he;cases he
      | true=>
        rw [hc] at he
        simp only [NR,Nz] at he
        subst he
        simp only [ND,N8] at hc
        refine ⟨_,?_,.ptr hb hm⟩
        simp only [Instr.indexAt,asIntOf,NF,NI,NA,zh hu,zh hn,PA,NK hc,kE,OW]
   | sliceOut hb hc=>
     split at he
     ·cases he
     ·rename_i n hn
      rw [show (decide (0<=i) && decide (i < ((0:Nat):Int)))=false by simp] at he
      cases he
  ·cases he
 ·cases he
end
noncomputable section
variable {P:Program}
def fl (x:Option Value):Option Value :=
 match x with
 | none=>none
 | some v=>cond (flat v) (some v) none
theorem Xx {x:Option Value} {v:Value} (h:fl x=some v):x=some v/\flat v=true:=by
 unfold fl at h
 split at h
 ·cases h
 ·rename_i u
  cases hf:flat u with
  | false=>rw [hf] at h;cases h
  | true=>rw [hf] at h;simp only [NR,Nz] at h;subst h;exact ⟨rfl,hf⟩
def isNil (P:Program) (t:TypeId) (a b:Value):Option Bool :=
 match zT P (underlying t),a,b with
 | some (.pointer _),.pointer (some _),.pointer none | some (.pointer _),.pointer none,.pointer (some _)=>some false
 | some (.slice _),.slice (some _) _ _,.slice none _ _ | some (.slice _),.slice none _ _,.slice (some _) _ _=>some false
 | some (.func _ _ _),.func _ _ _,.nilFunc | some (.func _ _ _),.nilFunc,.func _ _ _=>some false
 | some (.interface _),.iface _ _,.nilIface | some (.interface _),.nilIface,.iface _ _=>some false
 | _,_,_=>none
def IM (P:Program) (op:BinOp) (t:TypeId) (a b:Value):Option Value :=
 match op with
 | .eql=>(isNil P t a b).map .bool
 | .neq=>(isNil P t a b).map fun x => .bool (!x)
 | _=>none
theorem XA {ρ:yY} {t:TypeId} {a b a' b':Value} {r:Bool} (h:isNil P t a b=some r) (ha:zD ρ a a') (hb:zD ρ b b') (w:World) :
  (∀ d,(Op.equalIn (d + 1) t a' b').run P w = .ok r w)/\(∀ op x y,(eqGuard op t x y a' b').run P w = .ok () w)/\(∀ op,op = .eql\/op = .neq->binOp op t a' b'=if op = .eql then (do pure (.bool (<- Op.equal t a' b'))) else (do pure (.bool (!(<- Op.equal t a' b'))))):=by
 unfold isNil at h
 split at h <;> first
  | cases h;done
  | (simp only [Nz] at h
     subst h
     rename_i hu
     cases ha <;> cases hb <;>
     (refine ⟨fun d => ?_,fun op x y => ?_,fun op yz => ?_⟩
      ·simp [Op.equalIn,zh hu]
      ·cases op <;> simp [eqGuard]
      ·rcases yz with rfl | rfl <;> rfl))
theorem Ck {ρ:yY} {t:TypeId} {a b a' b':Value} {r:Bool} (h:isNil P t a b=some r) (ha:zD ρ a a') (hb:zD ρ b b') (w:World) :
  (binOp .eql t a' b').run P w = .ok (.bool r) w:=by
 obtain ⟨h1,_,h3⟩:=XA h ha hb w
 rw [h3 .eql (.inl rfl),NK rfl]
 have h1:(Op.equal t a' b').run P w = .ok r w:=h1 9999
 simp only [NF,h1,NA,NI]
theorem Cm {ρ:yY} {t:TypeId} {a b a' b':Value} {r:Bool} (h:isNil P t a b=some r) (ha:zD ρ a a') (hb:zD ρ b b') (w:World) :
  (binOp .neq t a' b').run P w = .ok (.bool (!r)) w:=by
 obtain ⟨h1,_,h3⟩:=XA h ha hb w
 rw [h3 .neq (.inr rfl),NJ (by simp)]
 have h1:(Op.equal t a' b').run P w = .ok r w:=h1 9999
 simp only [NF,h1,NA,NI]
def Dr (P:Program) (op:BinOp) (t:TypeId) (x y:Operand) (a b:Value):Option Value :=
 cond (flat a && flat b) (fl (zT P (do eqGuard op t x y a b;binOp op t a b))) (IM P op t a b)
theorem rR {ρ:yY} {op:BinOp} {t:TypeId} {x y:Operand} {a b a' b' v:Value} (h:Dr P op t x y a b=some v) (ha:zD ρ a a') (hb:zD ρ b b') (w:World) :
  ∃ v',(do eqGuard op t x y a' b';binOp op t a' b':Sem Value).run P w = .ok v' w/\zD ρ v v':=by
 unfold Dr at h
 cases hf:(flat a && flat b) with
 | true=>
   rw [hf] at h
   simp only [ND] at hf
   obtain rfl:=qh ha hf.1
   obtain rfl:=qh hb hf.2
   obtain ⟨h1,h2⟩:=Xx h
   exact ⟨v,zh h1 w,.of_flat ρ h2⟩
 | false=>
   rw [hf] at h
   simp only [N1] at h
   unfold IM at h
   split at h
   ·simp only [NO] at h
    obtain ⟨r,hr,rfl⟩:=h
    obtain ⟨_,h2,_⟩:=XA hr ha hb w
    have h3:=Ck hr ha hb w
    exact ⟨.bool r,by simp only [NF,h2,NA,h3],.bool r⟩
   ·simp only [NO] at h
    obtain ⟨r,hr,rfl⟩:=h
    obtain ⟨_,h2,_⟩:=XA hr ha hb w
    have h4:=Cm hr ha hb w
    exact ⟨.bool (!r),by simp only [NF,h2,NA,h4],.bool (!r)⟩
   ·cases h
def bN (ρ:yY) (ps ps':List (Nat × Value)):Prop:=xD ρ (ps.map (·.2)) (ps'.map (·.2))/\ps.map (·.1)=ps'.map (·.1)
theorem CN {ρ:yY} {xs ys:List Value} (h:xD ρ xs ys) (i:Nat) {x y:Value} (hv:zD ρ x y):xD ρ (xs.set i x) (ys.set i y):=by
 refine ⟨by simp [h.1],fun j a b ha hb => ?_⟩
 by_cases e:i=j
 ·subst e
  rcases NZ i xs.length with hi | hi
  ·rw [OK hi] at ha
   rw [OK (h.1 ▸ hi)] at hb
   cases ha;cases hb;exact hv
  ·rw [NM (by simpa using hi)] at ha;cases ha
 ·rw [OY e] at ha hb
  exact h.2 j a b ha hb
theorem eP {ρ:yY} (off:Nat):∀ (l l':List (Value × Nat)) (c c':Array Value),xD ρ (l.map (·.1)) (l'.map (·.1))->l.map (·.2)=l'.map (·.2)->xD ρ c.toList c'.toList ->
  xD ρ (l.foldl (fun cs x=>cs.setIfInBounds (off + x.2) x.1) c).toList (l'.foldl (fun cs x=>cs.setIfInBounds (off + x.2) x.1) c').toList
 | [],l',c,c',hl,hn,hc=>by
   cases l' with
   | nil=>exact hc
   | cons x l'=>simp at hn
 | x :: l,l',c,c',hl,hn,hc=>by
   cases l' with
   | nil=>simp at hn
   | cons y l'=>
     simp only [OF,Ov] at hl hn
     obtain ⟨y',ys',e,hv,hr⟩:=hl.cons_inv
     simp only [Ov] at e
     obtain ⟨e1,e2⟩:=e
     subst e1 e2
     simp only [List.foldl_cons]
     refine eP off l l' _ _ hr hn.2 ?_
     rw [Array.toList_setIfInBounds,Array.toList_setIfInBounds,hn.1]
     exact CN hc _ hv
theorem KZ {ρ:yY} {place:Nat->Option (Nat × Nat)}:∀ (ps ps':List (Nat × Value)) (c c':Array Value) (r:Array Value),bN ρ ps ps'->xD ρ c.toList c'.toList->Instr.fill place c ps=some r ->
  ∃ r',Instr.fill place c' ps'=some r'/\xD ρ r.toList r'.toList
 | [],ps',c,c',r,hp,hc,he=>by
   have:ps' = []:=by have:=hp.2;simp at this;cases ps' <;> simp_all
   subst this
   simp only [Instr.fill,Nz] at he
   subst he
   exact ⟨c',rfl,hc⟩
 | (i,v) :: ps,ps',c,c',r,hp,hc,he=>by
   cases ps' with
   | nil=>have:=hp.2;simp at this
   | cons p ps'=>
     obtain ⟨i',v'⟩:=p
     obtain ⟨h1,h2⟩:=hp
     simp only [OF,Ov] at h1 h2
     obtain ⟨rfl,h2⟩:=h2
     obtain ⟨y,ys,e,hv,hr⟩:=h1.cons_inv
     simp only [Ov] at e
     obtain ⟨e1,e2⟩:=e
     subst e1 e2
     simp only [Instr.fill] at he ⊢
     cases hpl:place i with
     | none=>rw [hpl] at he;cases he
     | some x=>
       obtain ⟨off,size⟩:=x
       rw [hpl] at he
       simp only at he ⊢
       have hcells:=hv.cells
       have e1:v'.cells.size=v.cells.size:=by simpa using hcells.1.symm
       have e2:c'.size=c.size:=by simpa using hc.1.symm
       split at he
       ·cases he
       ·rename_i hcond
        rw [NJ (by rw [e1,e2];exact hcond)]
        refine KZ ps ps' _ _ r ⟨hr,h2⟩ ?_ he
        rw [<- Array.foldl_toList,<- Array.foldl_toList]
        refine eP off _ _ c c' ?_ ?_ hc
        ·simp only [Array.toList_zipIdx]
         have q:∀ (l:List Value) k,(l.zipIdx k).map (·.1)=l:=fun l k=>by simp
         rw [q,q];exact hcells
        ·simp only [Array.toList_zipIdx]
         have q:∀ (l:List Value) k,(l.zipIdx k).map (·.2)=List.range' k l.length:=fun l k=>by simp
         rw [q,q,hcells.1]
def YY (s:Env):List (Nat × Operand)->Option (List (Nat × Value))
 | []=>some []
 | (i,x) :: ps=>match qI s x with
   | none=>none
   | some v=>match YY s ps with
     | none=>none
     | some vs=>some ((i,v) :: vs)
theorem WO {ρ:yY} {s:Env} {a:Act} (hs:vd ρ s a.tmps):∀ {ps:List (Nat × Operand)} {vs:List (Nat × Value)},YY s ps=some vs->bN ρ vs (ps.map fun x=>(x.1,a.eval x.2))
 | [],vs,h=>by simp only [YY,Nz] at h;subst h;exact ⟨.nil ρ,rfl⟩
 | (i,x) :: ps,vs,h=>by
   simp only [YY] at h
   split at h
   ·cases h
   ·rename_i v hv
    split at h
    ·cases h
    ·rename_i vs' hvs
     simp only [Nz] at h
     subst h
     have:=WO hs hvs
     exact ⟨.cons (zO hs hv) this.1,by simp [this.2]⟩
def vK (P:Program) (t:TypeId):Option Value:=fl (zT P (zeroValue t))
theorem jh {ρ:yY} {t:TypeId} {z:Value} (h:vK P t=some z) (w:World):(zeroValue t).run P w = .ok z w/\zD ρ z z:=by
 obtain ⟨h1,h2⟩:=Xx h
 exact ⟨zh h1 w,.of_flat ρ h2⟩
def FK (P:Program) (fields:Array Field):Option (Array (Nat × Nat)):=zT P (fields.mapM fun f=>do pure (f.offset,<- sizeOf f.type))
def jD (P:Program) (t:TypeId) (parts:List (Nat × Value)):Option Value :=
 match vK P t with
 | none=>none
 | some z=>match zT P (underlying t) with
   | some (.struct fields)=>(match FK P fields with
     | none=>none
     | some J1=>(Instr.fill (J1[·]?) z.cells parts).map .agg)
   | some (.array _ elem)=>(match zT P (sizeOf elem) with
     | none=>none
     | some n=>(Instr.fill (fun i=>some (i * n,n)) z.cells parts).map .agg)
   | _=>none
theorem lF {ρ:yY} {t:TypeId} {parts parts':List (Nat × Value)} {v:Value} (h:jD P t parts=some v) (hp:bN ρ parts parts') (w:World) :
  ∃ v',(Instr.build t parts'.toArray).run P w = .ok v' w/\zD ρ v v':=by
 unfold jD at h
 split at h
 ·cases h
 ·rename_i z hz
  obtain ⟨e0,hz⟩:=jh (ρ:=ρ) hz w
  split at h
  ·rename_i fields hu
   split at h
   ·cases h
   ·rename_i J1 hpl
    simp only [NO] at h
    obtain ⟨r,hr,rfl⟩:=h
    obtain ⟨r',hr',hv⟩:=KZ _ _ _ _ _ hp hz.cells hr
    refine ⟨.agg r',?_,.agg (by simpa using hv.1) (fun i x y hx hy=>hv.2 i x y (by simpa using hx) (by simpa using hy))⟩
    simp only [Instr.build,NF,e0,NA,zh hu,zh hpl,hr',NI]
  ·rename_i n elem hu
   split at h
   ·cases h
   ·rename_i n hn
    simp only [NO] at h
    obtain ⟨r,hr,rfl⟩:=h
    obtain ⟨r',hr',hv⟩:=KZ _ _ _ _ _ hp hz.cells hr
    refine ⟨.agg r',?_,.agg (by simpa using hv.1) (fun i x y hx hy=>hv.2 i x y (by simpa using hx) (by simpa using hy))⟩
    simp only [Instr.build,NF,e0,NA,zh hu,zh hn,hr',NI]
  ·cases h
def gx (h:za) (c:List Value) (t:TypeId):Value × za:=(.pointer (some ⟨h.next,0,none⟩),h.push (.cells c t))
theorem Je {ρ:yY} {h:za} {w:World} (hr:Rel P ρ h w) {v v':Value} (hv:zD ρ v v') (t:TypeId) :
  ∃ a' w' ρ',(newVar t v').run P w = .ok a' w'/\Step P ρ h w ρ' (gx h v.cells.toList t).2 w'/\zD ρ' (gx h v.cells.toList t).1 (.pointer (some a')):=by
 have hc:=hv.cells
 obtain ⟨e,st⟩:=QU (t:=t) hr (c:=v.cells.toList) (cs:=v'.cells) (by rw [hc.1,OI];exact NG _) (fun i x hx=>by
  obtain ⟨y,hy,hxy⟩:=hc.get hx
  exact ⟨y,by simpa using hy,hxy⟩)
 exact ⟨_,_,_,e,st,.new hr _ rfl⟩
def jH (z:List Value) (n:Nat):List Value:=(List.range n).map fun i=>(z[i % z.length]?).getD default
theorem ld (z:Array Value) (n:Nat):((Array.range n).map fun i=>z[i % z.size]!)=(jH z.toList n).toArray:=by
 apply Pn
 simp only [Array.toList_map,Array.toList_range,jH]
 apply List.map_congr_left
 intro i _
 simp [getElem!_def]
 cases z[i % z.size]? <;> rfl
theorem fP {ρ:yY} {z:Value} (h:zD ρ z z) (hd:z.cells.size ≠ 0) (n:Nat):xD ρ (jH z.cells.toList n) (jH z.cells.toList n):=by
 refine ⟨rfl,fun i x y hx hy => ?_⟩
 rw [hx] at hy
 cases hy
 simp only [jH,NU,NO] at hx
 obtain ⟨k,_,hk⟩:=hx
 have hlt:k % z.cells.toList.length < z.cells.toList.length:=Nat.mod_lt _ (by simp;omega)
 rw [NC hlt] at hk
 simp only [Pc] at hk
 have:=h.cells.2 _ _ _ (NC hlt) (NC hlt)
 rw [hk] at this
 exact this
def Yg (P:Program) (t:TypeId) (len cap:Value) (h:za):Option (Value × za) :=
 match len,cap,zT P (underlying t) with
 | .int _ l,.int _ c,some (.slice elem)=>(match zT P (typeInfo elem) with
   | none=>none
   | some i=>(match vK P elem with
     | none=>none
     | some z=>cond (decide (IntKind.i64.wrap l=l) && decide (IntKind.i64.wrap c=c) && decide (0<=l) && decide (l<=c) && decide (i.bytes * c<=2 ^ 48) && Nat.beq z.cells.size i.size && Nat.blt 0 i.size)
       (some (.slice (some ⟨h.next,0,none⟩) l.toNat (c.toNat + 2),h.push (.cells (jH z.cells.toList (c.toNat * i.size)) elem))) none))
 | _,_,_=>none
theorem qN {t:TypeId} {i:TypeInfo} (h:zT P (typeInfo t)=some i):P.cellsOf t=i.size /\ ∀ w,(sizeOf t).run P w = .ok i.size w:=by
 have h0:=h
 constructor
 ·simp only [typeInfo,program,Sem.bind,bind,zT] at h
  cases hp:P.info? t with
  | none=>rw [hp] at h;cases h
  | some j=>rw [hp] at h;simp only [pure,zT,Nz] at h;subst h;simp [Program.cellsOf,hp]
 ·intro w
  simp only [sizeOf,NF,zh h0,NA,NI]
theorem oE {ρ:yY} {t:TypeId} {l l' c c' v:Value} {h h':za} {w:World} (he:Yg P t l c h=some (v,h')) (hr:Rel P ρ h w) (hl:zD ρ l l') (hc:zD ρ c c') :
  ∃ v' w' ρ',(Instr.makeSlice t l' c').run P w = .ok v' w'/\Step P ρ h w ρ' h' w'/\zD ρ' v v':=by
 unfold Yg at he
 split at he
 ·rename_i kl l kc c elem hu
  cases hl;cases hc
  split at he
  ·cases he
  ·rename_i i hi
   split at he
   ·cases he
   ·rename_i z hz
    cases hcond:(decide (IntKind.i64.wrap l=l) && decide (IntKind.i64.wrap c=c) && decide (0<=l) && decide (l<=c) && decide (i.bytes * c<=2 ^ 48) && Nat.beq z.cells.size i.size && Nat.blt 0 i.size) with
    | false=>rw [hcond] at he;cases he
    | true=>
      rw [hcond] at he
      simp only [NR,Nz,NB] at he
      obtain ⟨rfl,rfl⟩:=he
      simp only [ND,N8] at hcond
      obtain ⟨⟨⟨⟨⟨⟨w1,w2⟩,p1⟩,p2⟩,p3⟩,zs⟩,sp⟩:=hcond
      have zs:=NL zs
      have sp:0 < i.size:=by simpa [Of] using sp
      obtain ⟨e0,hz'⟩:=jh (ρ:=ρ) hz w
      obtain ⟨sz1,sz2⟩:=qN hi
      obtain ⟨e,st⟩:=QU (t:=elem) hr (c:=jH z.cells.toList (c.toNat * i.size)) (cs:=(Array.range (c.toNat * i.size)).map fun k=>z.cells[k % z.cells.size]!)
       (by simp [jH]) (fun k x hx=>by
        rw [ld]
        obtain ⟨y,hy,hxy⟩:=(fP hz' (by omega) (c.toNat * i.size)).get hx
        exact ⟨y,by simpa using hy,hxy⟩)
      refine ⟨.slice (some ⟨w.heap.size,0,none⟩) l.toNat c.toNat,_,_,?_,st,?_⟩
      ·have b1:¬ ((i.bytes:Int) * c > 2 ^ 48):=by omega
       have b2:¬ (c < 0):=by omega
       have b3:¬ (l < 0):=by omega
       have b4:¬ (l > c):=by omega
       simp only [Instr.makeSlice,asInt,asIntOf,NF,NI,NA,zh hu,zh hi,w1,w2]
       rw [NJ (by simp [b2,b3,b4];omega)]
       simp only [NF,run_askRoom,NA,sz2]
       by_cases hn:c.toNat * i.size=0
       ·rw [NK hn]
        have e1:((Array.range (c.toNat * i.size)).map fun k=>(#[]:Array Value)[k % (#[]:Array Value).size]!)=((Array.range (c.toNat * i.size)).map fun k=>z.cells[k % z.cells.size]!):=by rw [hn];simp
        simp only [NF,NI,NA]
        rw [e1,e]
        simp only [NA]
       ·rw [NJ hn]
        simp only [NF,e0,NI,NA,e]
      ·refine zD.slice (ρ:=ρ.ext _) (b:=h.next) (off:=0) (pl:=⟨w.heap.size,0,_,_⟩) (by show h.next < ρ.next + 1;rw [hr.next];exact N0 _) (by rw [<- hr.next];exact ρ.qg _) (by omega) ?_
       intro _
       refine ⟨by simp [sz1],fun k hk=>by omega⟩
 ·cases he
end
noncomputable section
variable {P:Program}
def QG:Nat->Nat->Nat
 | 0,_=>0
 | 1,_=>1
 | k + 2,l=>(k - l) + 2
def kK (x:Option Value) (d:Nat) (most:Nat):Option Nat :=
 match x with
 | none=>some d
 | some (.int _ i)=>cond (decide (0<=i) && decide (i<=most)) (some i.toNat) none
 | some _=>none
def wide (P:Program) (h:za) (b n:Nat):Bool :=
 match h.get b with
 | some (.cells _ t)=>Nat.beq (P.cellsOf t) n
 | _=>false
def ee (P:Program) (t:TypeId) (x:Value) (lo hi:Option Value) (h:za):Option Value :=
 match zT P (underlying t),x with
 | some (.slice elem),.slice base len c=>(match zT P (sizeOf elem) with
   | none=>none
   | some n=>(match kK hi len len with
     | none=>none
     | some hh=>(match kK lo 0 hh with
       | none=>none
       | some l=>(match base with
         | none=>cond (Nat.beq len 0) (some (.slice none 0 0)) none
         | some ⟨b,off,none⟩=>some (.slice (some ⟨b,off + l * n,none⟩) (hh - l) (cond (wide P h b n) (QG c l) 0))
         | some _=>none))))
 | some (.array k elem),.pointer (some ⟨b,off,none⟩)=>(match zT P (sizeOf elem) with
   | none=>none
   | some n=>(match kK hi k k with
     | none=>none
     | some hh=>(match kK lo 0 hh with
       | none=>none
       | some l=>some (.slice (some ⟨b,off + (if k=l then 0 else l * n),none⟩) (hh - l) 0))))
 | _,_=>none
theorem Ul {x:Option Value} {d most r:Nat} (h:kK x d most=some r) (hd:d<=most):r<=most:=by
 unfold kK at h
 split at h
 ·simp only [Nz] at h;omega
 ·rename_i k i
  cases hc:(decide (0<=i) && decide (i<=(most:Int))) with
  | false=>rw [hc] at h;cases h
  | true=>
    rw [hc] at h
    simp only [NR,Nz] at h
    simp only [ND,N8] at hc
    omega
 ·cases h
theorem dP {ρ:yY} {x x':Option Value} {d most r:Nat} (h:kK x d most=some r) (hx:∀ v,x=some v->∃ v',x'=some v'/\zD ρ v v') (hn:x=none->x'=none) {y:Nat} (hy:most<=y) (code:BoundsCode) (w:World) :
  (match x' with | some v=>Instr.sliceBound v y code | none=>(pure d:Sem Nat)).run P w = .ok r w:=by
 unfold kK at h
 split at h
 ·rw [hn rfl]
  simp only [Nz] at h
  subst h;rfl
 ·rename_i k i
  obtain ⟨v',rfl,hv⟩:=hx _ rfl
  cases hv
  cases hc:(decide (0<=i) && decide (i<=(most:Int))) with
  | false=>rw [hc] at h;cases h
  | true=>
    rw [hc] at h
    simp only [NR,Nz] at h
    simp only [ND,N8] at hc
    subst h
    simp only [Instr.sliceBound,asIntOf,NF,NI,NA,PA]
    rw [NK (by omega)]
 ·cases h
def A5 (ρ:yY) (x x':Option Value):Prop:=(∀ v,x=some v->∃ v',x'=some v'/\zD ρ v v')/\(x=none->x'=none)
theorem WU {ρ:yY} {lo lo' hi hi':Option Value} {len cap hh l:Nat} (hhi:kK hi len len=some hh) (hlo:kK lo 0 hh=some l) (rl:A5 ρ lo lo') (rh:A5 ρ hi hi') (hl:len<=cap) (b:Bool) (w:World) :
  (Instr.sliceBounds b len cap lo' hi' none).run P w = .ok (l,hh,cap) w:=by
 have h1:=dP (P:=P) hhi rh.1 rh.2 hl (if b then .sliceAcap else .sliceAlen) w
 have h2:=dP (P:=P) hlo rl.1 rl.2 (NG hh) (.sliceB) w
 unfold Instr.sliceBounds
 cases hi' with
 | none=>
   have e1:len=hh:=by simpa using h1
   subst e1
   cases lo' with
   | none=>have e2:0=l:=by simpa using h2
           subst e2;rfl
   | some v=>
     simp only at h2
     simp only [NF,NI,NA,Option.isSome_none,On,Oo,h2]
 | some u=>
   simp only at h1
   cases lo' with
   | none=>have e2:0=l:=by simpa using h2
           subst e2
           simp only [NF,NI,NA,h1]
   | some v=>
     simp only at h2
     simp only [NF,NI,NA,Option.isSome_none,On,Oo,h1,h2]
theorem lW {ρ:yY} {t:TypeId} {x x' v:Value} {lo lo' hi hi':Option Value} {h:za} {w:World} (he:ee P t x lo hi h=some v) (hr:Rel P ρ h w) (hx:zD ρ x x') (rl:A5 ρ lo lo') (rh:A5 ρ hi hi') :
  ∃ v',(Instr.sliceAt t x' lo' hi' none).run P w = .ok v' w/\zD ρ v v':=by
 unfold ee at he
 split at he
 ·rename_i elem base len c hu
  split at he
  ·cases he
  ·rename_i n hn
   split at he
   ·cases he
   ·rename_i hh hhi
    split at he
    ·cases he
    ·rename_i l hlo
     have h1:=Ul hhi (NG _)
     have h2:=Ul hlo (Oe _)
     cases hx with
     | sliceNil=>
       simp only [Pq,NR,Nz] at he
       subst he
       have:hh=0:=by omega
       subst this
       have:l=0:=by omega
       subst this
       refine ⟨.slice none 0 0,?_,.sliceNil 0⟩
       have hb:=WU (P:=P) hhi hlo rl rh (NG 0) true w
       simp only [Instr.sliceAt,Instr.slice,NF,zh hu,NA,hb,zh hn,NI,N5,Nat.sub_self]
     | slice hb hm hl hc=>
       rename_i b off cap pl
       simp only [Nz] at he
       subst he
       have hbd:=WU (P:=P) hhi hlo rl rh hl true w
       have hrun:(Instr.sliceAt t (.slice (some ⟨pl.c,pl.base + off,none⟩) len cap) lo' hi' none).run P w = .ok (.slice (if cap=l then some ⟨pl.c,pl.base + off,none⟩ else some ⟨pl.c,pl.base + off + l * n,none⟩) (hh - l) (cap - l)) w:=by
        simp only [Instr.sliceAt,Instr.slice,NF,zh hu,NA,hbd,zh hn,NI,OG,kE]
       by_cases hcl:cap=l
       ·refine ⟨_,hrun,?_⟩
        rw [NK hcl]
        have e1:hh - l=0:=by omega
        have e2:cap - l=0:=by omega
        rw [e1,e2]
        refine .sliceOut hb ?_
        cases hw:wide P h b n with
        | false=>exact Oe _
        | true=>
          simp only [NR]
          unfold QG
          split
          ·omega
          ·omega
          ·rename_i k
           have:=(hc (by omega)).2 k rfl
           omega
       ·refine ⟨_,hrun,?_⟩
        rw [NJ hcl,OW]
        refine .slice hb hm (by omega) ?_
        cases hw:wide P h b n with
        | false=>intro hne;exact absurd rfl hne
        | true=>
          simp only [NR]
          intro hne
          have hc0:c ≠ 0:=by intro e;subst e;exact hne rfl
          obtain ⟨c1,c2⟩:=hc hc0
          unfold wide at hw
          split at hw
          ·rename_i cs tb hg
           have hw:=NL hw
           obtain ⟨cs',fz,_,_,hesz,_⟩:=hr.place hg hm
           rw [hesz.1,hw] at c1 ⊢
           refine ⟨?_,?_⟩
           ·have:l * n + (cap - l) * n=cap * n:=by rw [<- PI];congr 1;omega
            omega
           ·intro k hk
            unfold QG at hk
            split at hk
            ·omega
            ·omega
            ·have:=c2 _ rfl
             omega
          ·cases hw
     | sliceOut hb hc=>
       rename_i b off a
       simp only [Nz] at he
       subst he
       have:hh=0:=by omega
       subst this
       have:l=0:=by omega
       subst this
       refine ⟨.slice (some a) 0 0,?_,.sliceOut hb ?_⟩
       ·have hbd:=WU (P:=P) hhi hlo rl rh (NG 0) true w
        simp only [Instr.sliceAt,Instr.slice,NF,zh hu,NA,hbd,zh hn,NI,N5,Nat.sub_self]
       ·cases wide P h b n with
        | false=>exact Oe _
        | true=>simp only [NR];unfold QG;split <;> omega
 ·rename_i k elem b off hu
  cases hx with
  | ptr hb hm=>
    rename_i pl
    split at he
    ·cases he
    ·rename_i n hn
     split at he
     ·cases he
     ·rename_i hh hhi
      split at he
      ·cases he
      ·rename_i l hlo
       simp only [Nz] at he
       subst he
       have h1:=Ul hhi (NG _)
       have h2:=Ul hlo (Oe _)
       have hbd:=WU (P:=P) hhi hlo rl rh (NG k) false w
       refine ⟨_,by simp only [Instr.sliceAt,Instr.sureAddr,NF,zh hu,NI,NA,hbd,zh hn];rfl,?_⟩
       have:(if k=l then (Addr.mk pl.c (pl.base + off) none) else (Addr.mk pl.c (pl.base + off) none).add (l * n))=⟨pl.c,pl.base + (off + (if k=l then 0 else l * n)),none⟩:=by
        split
        ·rfl
        ·rw [kE,OW]
       rw [this]
       exact .slice hb hm (by omega) (fun hne=>absurd rfl hne)
 ·cases he
def BR (P:Program) (t:TypeId) (x:Value):Option Value :=
 match zT P (underlying t),x with
 | some (.slice _),.slice _ n _=>some (goInt n)
 | some .string,.string s=>some (goInt s.size)
 | some (.array n _),_=>some (goInt n)
 | _,_=>none
theorem rV {ρ:yY} {t:TypeId} {x x' v:Value} (he:BR P t x=some v) (hx:zD ρ x x') (r:TypeId) (w:World):(Builtin.len_ #[t] r #[x']).run P w = .ok v w/\zD ρ v v:=by
 unfold BR at he
 split at he
 ·rename_i hu
  simp only [Nz] at he
  subst he
  refine ⟨?_,.int _ _⟩
  cases hx <;> simp [Builtin.len_,zh hu]
 ·rename_i hu
  simp only [Nz] at he
  subst he
  refine ⟨?_,.int _ _⟩
  cases hx;simp [Builtin.len_,zh hu]
 ·rename_i hu
  simp only [Nz] at he
  subst he
  refine ⟨?_,.int _ _⟩
  simp [Builtin.len_,zh hu]
 ·cases he
end
noncomputable section
variable {P:Program}
def wZ (h:za) (n size:Nat):Value->Option (List Value)
 | .slice (some ⟨b,off,none⟩) _ _=>cond (Nat.beq (n * size) 0) (some []) (match h.get b with
   | some (.cells c _)=>cond (Nat.ble (off + n * size) c.length) (some ((c.drop off).take (n * size))) none
   | _=>none)
 | .slice none _ _=>some []
 | .string s=>some ((s.extract 0 n).data.toList.map fun b => .int .u8 b.toNat)
 | _=>none
def jK:Value->Option Nat
 | .slice _ n _=>some n
 | .string s=>some s.size
 | _=>none
theorem aP {ρ:yY} {x x':Value} {n:Nat} (h:jK x=some n) (hx:zD ρ x x') (w:World):(Builtin.lenOf x').run P w = .ok n w:=by
 cases hx with
 | mL _=>cases h
 | _=>simp only [jK,Nz,reduceCtorEq] at h <;> subst h <;> rfl
theorem W0 {ρ:yY} {h:za} {w:World} {n size:Nat} {x x':Value} {c:List Value} (he:wZ h n size x=some c) (hr:Rel P ρ h w) (hx:zD ρ x x') (hn:∀ b l cap,x = .slice b l cap->n<=l) :
  ∃ c':List Value,(Builtin.firstCells size n x').run P w = .ok c'.toArray w/\xD ρ c c':=by
 have hzero:n * size=0->∀ a:Addr,(loadCells a (n * size)).run P w = .ok ([]:List Value).toArray w:=by
  intro e a;rw [e];rfl
 cases hx with
 | sliceNil c0=>
   simp only [wZ,Nz] at he
   subst he
   exact ⟨[],rfl,.nil ρ⟩
 | slice hb hm hl hc=>
   rename_i b off len c0 cap pl
   simp only [wZ] at he
   cases hz:Nat.beq (n * size) 0 with
   | true=>
     rw [hz] at he
     simp only [NR,Nz] at he
     subst he
     exact ⟨[],by simp only [Builtin.firstCells];exact hzero (NL hz) _,.nil ρ⟩
   | false=>
     rw [hz] at he
     simp only [N1] at he
     split at he
     ·rename_i cs t hg
      cases hle:Nat.ble (off + n * size) cs.length with
      | false=>rw [hle] at he;cases he
      | true=>
        rw [hle] at he
        simp only [NR,Nz] at he
        subst he
        obtain ⟨ys,hys,hv⟩:=qM (hr.place hg hm) off (n * size) (NW hle)
        exact ⟨ys,by simpa only [Builtin.firstCells] using hys,hv⟩
     ·cases he
 | sliceOut hb hc=>
   rename_i b off c0 a
   have:=hn _ _ _ rfl
   have hz:n * size=0:=by have:n=0:=by omega
                          subst this;simp
   simp only [wZ,hz,Pq,NR,Nz] at he
   subst he
   exact ⟨[],by simp only [Builtin.firstCells];exact hzero hz _,.nil ρ⟩
 | string s=>
   simp only [wZ,Nz] at he
   subst he
   refine ⟨_,?_,⟨rfl,fun i x y hx hy => ?_⟩⟩
   ·simp only [Builtin.firstCells,NI]
    congr 1
    apply Pn
    simp
   ·rw [hx] at hy;cases hy
    simp only [NU,NO] at hx
    obtain ⟨b,_,rfl⟩:=hx
    exact .int _ _
 | _=>cases he
def JQ:TypeDesc->Bool
 | .int _=>true
 | _=>false
theorem iJ (need:Nat) (hn:255<=need):∀ (r c:Nat),c<=2 * need->Builtin.growBy need r c<=2 * need
 | 0,c,h=>h
 | r + 1,c,h=>by
   unfold Builtin.growBy
   split
   ·exact h
   ·exact iJ need hn r _ (by omega)
theorem sF (need cap:Nat) (h:cap < need):Builtin.nextslicecap need cap<=2 * need:=by
 unfold Builtin.nextslicecap
 split
 ·omega
 ·split
  ·omega
  ·exact iJ need (by omega) 4 cap (by omega)
theorem Jf (need:Nat) (h:0 < need):Builtin.nextslicecap need 0=need:=by
 unfold Builtin.nextslicecap;rw [NK (by omega)]
theorem run_append_grow {ρ:yY} {h:za} {w:World} (hr:Rel P ρ h w) {sT xT elem:TypeId} {r:TypeId} {xd:TypeDesc} {i:TypeInfo} {z:Value} {base:Option Addr} {len cap n:Nat} {x':Value} {old old' new new':List Value}
  (h1:zT P (underlying sT)=some (.slice elem)) (h2:zT P (underlying xT)=some xd) (h3:JQ xd=false) (hi:zT P (typeInfo elem)=some i) (hz:vK P elem=some z)
  (hb:0 < i.bytes) (hzs:z.cells.size=i.size)
  (hlen:∀ w,(Builtin.lenOf x').run P w = .ok n w) (hgrow:cap < len + n) (hlim:Builtin.nextslicecap (len + n) cap * i.bytes<=2 ^ 48)
  (hold:(Builtin.firstCells i.size len (.slice base len cap)).run P { w with drawn:=w.drawn + 1 } = .ok old'.toArray { w with drawn:=w.drawn + 1 }) (hnew:(Builtin.firstCells i.size n x').run P { w with drawn:=w.drawn + 1 } = .ok new'.toArray { w with drawn:=w.drawn + 1 })
  (vold:xD ρ old old') (vnew:xD ρ new new') (hol:old.length=len * i.size) (hnl:new.length=n * i.size) :
  ∃ cap' w' pl,(Builtin.append_ #[sT,xT] r #[.slice base len cap,x']).run P w = .ok (.slice (some ⟨w.heap.size,0,none⟩) (len + n) cap') w'/\len + n<=cap'/\pl.c=w.heap.size/\pl.base=0/\pl.Ag=i.size/\cap' * i.size<=pl.size /\
    Step P ρ h w (ρ.ext pl) (h.push (.cells (old ++ new) elem)) w':=by
 obtain ⟨sz1,sz2⟩:=qN hi
 obtain ⟨z1,_⟩:=jh (ρ:=ρ) hz w
 have z1:∀ w,(zeroValue elem).run P w = .ok z w:=fun w=>(jh (ρ:=ρ) hz w).1
 let q:Question := .appendCap (len + n) cap elem
 let newCap:=q.cut (w.tape w.drawn q)
 let w1:World:={ w with drawn:=w.drawn + 1 }
 have hge:len + n<=newCap:=by show len + n<=(len + n) + _ % _;omega
 let cs:Array Value:=old'.toArray ++ new'.toArray ++ Builtin.zeroCells z.cells (newCap - (len + n))
 have hr1:Rel P ρ h w1:=hr.grow (fun k _=>rfl)
 have hcs:cs.size=newCap * i.size:=by
  simp only [cs,Builtin.zeroCells,Array.size_append,List.size_toArray,Array.size_map,Array.size_range,<- vold.1,<- vnew.1,hol,hnl,hzs]
  rw [<- PI,<- PI];congr 1;omega
 have st:=Step.push (t:=elem) hr1 (c:=old ++ new) (cs:=cs) (fz:=(0,0)) (w':={ w1 with heap:=w1.heap.push (.cells cs elem) }) rfl (fun i _ hi=>by simp at hi)
  (by simp only [cs,Array.size_append,Oy,List.size_toArray,vold.1,vnew.1];omega)
  (fun k x hx=>by
   obtain ⟨y,hy,hxy⟩:=(vold.append vnew).get hx
   refine ⟨y,?_,hxy⟩
   have hlt:k < (old' ++ new').length:=by
    rcases NZ k (old' ++ new').length with h | h
    ·exact h
    ·rw [NM h] at hy;cases hy
   have:cs=(old' ++ new').toArray ++ Builtin.zeroCells z.cells (newCap - (len + n)):=by
    have e:old'.toArray ++ new'.toArray=(old' ++ new').toArray:=by simp
    simp only [cs];rw [e]
   rw [this,Array.getElem?_append_left (by simpa using hlt)]
   simpa using hy) rfl rfl rfl
 refine ⟨newCap,_,⟨w.heap.size,0,cs.size,P.cellsOf elem⟩,?_,hge,rfl,rfl,sz1,by rw [hcs];exact NG _,⟨st.le,st.rel,st.ro,st.os,st.tape,st.output,st.size,st.frame,st.bt⟩⟩
 have e1:¬ (len + n<=cap):=by omega
 simp only [Builtin.append_]
 simp only [OO,NV,Oa,NF,zh h1,NA,sz2,zh h2,NI]
 rw [NJ (by cases xd <;> first | exact PD | cases h3)]
 simp only [NF,hlen,NA]
 rw [NJ e1]
 simp only [NF,zh hi,NA]
 rw [NJ (by
  rintro ⟨_,h | h⟩
  ·revert h;cases xd <;> first | exact PD | cases h3
  ·omega)]
 simp only [NF,zh hi,NA]
 rw [NJ (by omega)]
 have hq:(choose (.appendCap (len + n) cap elem)).run P w = .ok newCap w1:=by rw [run_choose];rfl
 simp only [NF,hq,NA,zh hi,run_askRoom]
 rw [show w1 = { w with drawn:=w.drawn + 1 } from rfl,hold]
 simp only [NA]
 rw [NK (by cases xd <;> first | rfl | cases h3)]
 rw [hnew]
 simp only [NA,z1,NI]
 rfl
theorem gz {ρ:yY} {h:za} {w:World} (hr:Rel P ρ h w) {sT xT elem:TypeId} {r:TypeId} {xd:TypeDesc} {i:TypeInfo} {b off len cap n:Nat} {cs:List Value} {pl:Place} {x':Value} {new new':List Value}
  (h1:zT P (underlying sT)=some (.slice elem)) (h2:zT P (underlying xT)=some xd) (h3:JQ xd=false) (hi:zT P (typeInfo elem)=some i)
  (hlen:∀ w,(Builtin.lenOf x').run P w = .ok n w) (hfits:len + n<=cap) (hg:h.get b=some (.cells cs elem)) (hm:ρ.m b=some pl) (hro:h.ro<=b)
  (hnew:(Builtin.firstCells i.size n x').run P w = .ok new'.toArray w) (vnew:xD ρ new new') (hnl:new.length=n * i.size) (hcell:∀ x ∈ new,xp x=true)
  (hroom:pl.base + off + cap * i.size<=pl.size) (hhave:off + len * i.size<=cs.length) (hoff:off % i.size=0) :
  ∃ w',(Builtin.append_ #[sT,xT] r #[.slice (some ⟨pl.c,pl.base + off,none⟩) len cap,x']).run P w = .ok (.slice (some ⟨pl.c,pl.base + off,none⟩) (len + n) cap) w' /\
    Step P ρ h w (ρ.ext ⟨pl.c,pl.base + off,pl.size,pl.Ag⟩) ((h.set b none).push (.cells (((cs.drop off).take (len * i.size)) ++ new) elem)) w':=by
 obtain ⟨sz1,sz2⟩:=qN hi
 obtain ⟨cs',fz,g1,g2,g3,g4,g5,g6⟩:=hr.place hg hm
 have key:∀ (vs vs':List Value) (w0:World) (cc:Array Value) (j:Nat),w0.heap[pl.c]? = some (.cells cc elem fz)->cc.size=pl.size->pl.base + off + len * i.size + j + vs.length<=pl.size->xD ρ vs vs'->(∀ x ∈ vs,xp x=true) ->
   ∃ w',(storeCells ⟨pl.c,pl.base + off + len * i.size,none⟩ vs' j).run P w0 = .ok () w'/\(∃ dd:Array Value,w'.heap[pl.c]? = some (.cells dd elem fz)/\dd.size=cc.size /\
     (∀ k,(k < pl.base + off + len * i.size + j)->dd[k]? = cc[k]?)/\(∀ k y,vs'[k]? = some y->dd[pl.base + off + len * i.size + j + k]? = some y)) /\
     (∀ k,k ≠ pl.c->w'.heap[k]? = w0.heap[k]?)/\w'.os=w0.os/\w'.tape=w0.tape/\w'.output=w0.output/\w'.heap.size=w0.heap.size:=by
  intro vs
  induction vs with
  | nil=>
    intro vs' w0 cc j hb hsz _ hv _
    cases hv.vR
    exact ⟨w0,rfl,⟨cc,hb,rfl,fun _ _=>rfl,fun k y hy=>by simp at hy⟩,fun _ _=>rfl,rfl,rfl,rfl,rfl⟩
  | cons v vs ih=>
    intro vs' w0 cc j hb hsz hle hv hco
    obtain ⟨v',vs'',rfl,hv1,hv2⟩:=hv.cons_inv
    simp only [OM] at hle
    let p:=pl.base + off + len * i.size + j
    have hp:p < pl.size:=by show pl.base + off + len * i.size + j < pl.size;omega
    have hone:v'.oneCell'=true:=by have:=eA hv1;rw [hco v (by simp)] at this;cases v' <;> simp_all [xp,Value.oneCell']
    have hcell0:w0.cell? ⟨pl.c,p,none⟩=some cc[p]!:=by
     simp only [World.cell?,hb]
     simp [getElem!_def,N4 (show p < cc.size by omega)]
    have hfr:w0.frozen? ⟨pl.c,p,none⟩=false:=by
     have:=g5 (by simpa using hro) p hp
     obtain ⟨lo,hi'⟩:=fz
     simp [World.frozen?,hb] at this ⊢
     exact this
    have e1:(store ⟨pl.c,p,none⟩ v').run P w0 = .ok () (w0.setCell ⟨pl.c,p,none⟩ v'):=by
     rw [run_store _ _ _ _ _ hone,hcell0];simp [hfr]
    have hb1:(w0.setCell ⟨pl.c,p,none⟩ v').heap[pl.c]? = some (.cells (cc.setIfInBounds p v') elem fz):=by simp [World.setCell,Array.getElem?_modify,hb]
    obtain ⟨w',e2,⟨dd,d1,d2,d3,d4⟩,d5,d6,d7,d8,d9⟩:=ih vs'' _ (cc.setIfInBounds p v') (j + 1) hb1 (by simpa using hsz) (by omega) hv2 (fun x hx=>hco x (by simp [hx]))
    refine ⟨w',?_,⟨dd,d1,by simpa using d2,fun k hk => ?_,fun k y hy => ?_⟩,fun k hk=>(d5 k hk).trans (Vp _ _ _ _ hk),d6,d7,d8,d9.trans (size_setCell _ _ _)⟩
    ·simp only [storeCells,kE,NF]
     rw [show (⟨pl.c,pl.base + off + len * i.size + j,none⟩:Addr)=⟨pl.c,p,none⟩ from rfl,e1]
     exact e2
    ·rw [d3 k (by omega),Oh,NJ (by show p ≠ k;omega)]
    ·cases k with
     | zero=>
       simp only [NV,Nz] at hy
       subst hy
       rw [Nat.add_zero,d3 _ (by omega),Oh,NK rfl,NK (by omega)]
     | succ k=>
       have:=d4 k y (by simpa using hy)
       rw [show pl.base + off + len * i.size + j + (k + 1)=pl.base + off + len * i.size + (j + 1) + k by omega]
       exact this
 have hfit:pl.base + off + len * i.size + 0 + new.length<=pl.size:=by
  have:len * i.size + n * i.size<=cap * i.size:=by rw [<- PI];exact O3 _ hfits
  omega
 obtain ⟨w',e,⟨dd,d1,d2,d3,d4⟩,d5,d6,d7,d8,d9⟩:=key new new' w cs' 0 g1 g2 hfit vnew hcell
 refine ⟨w',?_,?_⟩
 ·simp only [Builtin.append_]
  simp only [OO,NV,Oa,NF,zh h1,NA,sz2,zh h2,NI]
  rw [NJ (by cases xd <;> first | exact PD | cases h3)]
  simp only [NF,hlen,NA]
  rw [NK hfits]
  rw [NK (by cases xd <;> first | rfl | cases h3)]
  simp only [NF,hnew,NA,kE,e,NI]
 ·have hr0:=hr.drop b
  have hle:=ρ.JR ⟨pl.c,pl.base + off,pl.size,pl.Ag⟩
  have hr1:Rel P ρ (h.set b none) w':=⟨hr0.next,hr0.ro,hr0.Vn,fun x ox hx=>by
    obtain ⟨p,hp,hc⟩:=hr0.ok x ox hx
    refine ⟨p,hp,hc.other (d5 _ ?_)⟩
    intro ec
    rw [za.yj] at hx
    split at hx
    ·cases hx
    ·rename_i ne
     exact ne (hr.inj x b _ _ p pl hx hg hp hm ec),hr0.inj,hr0.JO,hr0.jV⟩
  refine ⟨hle,hr1.push ⟨dd,fz,d1,d2.trans g2,⟨g3.1,by
   show (pl.base + off) % pl.Ag=0
   rw [Nat.add_mod,g3.2,g3.1,sz1,hoff];simp⟩,?_,fun _=>g5 (by simpa using hro),?_⟩ ?_,rfl,d6,d7,d8,by omega,fun k hk hn=>d5 k (fun ec=>hn ⟨b,_,pl,hg,hro,hm,ec.symm⟩),?_⟩
  ·simp only [Oy,Ok,Pz,hnl] at hfit ⊢
   have:len * i.size + n * i.size<=cap * i.size:=by rw [<- PI];exact O3 _ hfits
   show pl.base + off + (min (len * i.size) (cs.length - off) + n * i.size)<=dd.size
   omega
  ·intro k x hx
   rcases NZ k (len * i.size) with hk | hk
   ·have hk':k < ((cs.drop off).take (len * i.size)).length:=by simp only [Ok,Pz];omega
    rw [Oi hk',Ob hk,Od] at hx
    obtain ⟨y,hy,hxy⟩:=g6 _ _ hx
    exact ⟨y,by rw [show (pl.base + off:Nat) + k=pl.base + (off + k) by omega,d3 _ (by omega)];exact hy,hxy.mono hle⟩
   ·have hl0:((cs.drop off).take (len * i.size)).length=len * i.size:=by simp only [Ok,Pz];omega
    rw [Ot (by omega),hl0] at hx
    obtain ⟨y,hy,hxy⟩:=vnew.get hx
    refine ⟨y,?_,hxy.mono hle⟩
    have:=d4 _ _ hy
    rw [show (pl.base + off:Nat) + k=pl.base + off + len * i.size + 0 + (k - len * i.size) by omega]
    exact this
  ·intro x o p hx hp ec
   rw [za.yj] at hx
   split at hx
   ·cases hx
   ·rename_i ne
    exact ne (hr.inj x b _ _ p pl hx hg hp hm ec)
  ·rintro k hk ⟨x,o,p,hx,hrx,hp,hpc⟩
   rw [za.wT] at hx
   split at hx
   ·rename_i ex
    subst ex
    rw [show (h.set b none).next=ρ.next from hr.next.symm,yY.qg] at hp
    cases hp
    exact ⟨b,_,pl,hg,hro,hm,hpc⟩
   ·have hlt:=hr0.Vn x o hx
    have hp':ρ.m x=some p:=by rw [<- hp];exact (hle.2 x (by rw [hr0.next];exact hlt)).symm
    rw [za.yj] at hx
    split at hx
    ·cases hx
    ·exact ⟨x,o,p,hx,hrx,hp',hpc⟩
end
noncomputable section
variable {P:Program}
def vP (c need:Nat):Nat :=
 match c with
 | k + 2=>cond (Nat.ble need k) (k + 2) 1
 | _=>1
theorem Y4 {c need k:Nat} (h:vP c need=k + 2):c=k + 2/\need<=k:=by
 unfold vP at h
 split at h
 ·rename_i q
  cases hq:Nat.ble need q with
  | true=>rw [hq] at h;simp only [NR] at h;exact ⟨h,by have:=NW hq;omega⟩
  | false=>rw [hq] at h;simp only [N1] at h;omega
 ·omega
def roomFor (c need bytes:Nat):Bool:=Nat.ble (need * bytes) (cond (Nat.beq c 2) (2 ^ 48) (2 ^ 47))
def X3 (h:za) (elem:TypeId) (i:TypeInfo) (n:Nat) (new:List Value) (s:Value):Option (Value × za) :=
 match s with
 | .slice none 0 0=>cond (Nat.beq n 0) (some (.slice none 0 0,h)) (cond (Nat.ble (n * i.bytes) (2 ^ 48)) (some (.slice (some ⟨h.next,0,none⟩) n 1,h.push (.cells new elem))) none)
 | .slice (some ⟨b,off,none⟩) len c=>cond (Nat.beq n 0) (some (s,h)) (match h.get b with
   | some (.cells cs t)=>cond (!(Nat.beq c 0) && Nat.beq t elem && Nat.ble h.ro b && Nat.ble (off + len * i.size) cs.length && (roomFor c (len + n) i.bytes && Nat.beq (off % i.size) 0))
     (some (.slice (some ⟨h.next,0,none⟩) (len + n) (vP c (len + n)),(h.set b none).push (.cells (((cs.drop off).take (len * i.size)) ++ new) elem))) none
   | _=>none)
 | _=>none
def Xu (P:Program) (sT xT:TypeId) (s x:Value) (h:za):Option (Value × za) :=
 match zT P (underlying sT),zT P (underlying xT),jK x with
 | some (.slice elem),some xd,some n=>(match zT P (typeInfo elem),vK P elem with
   | some i,some z=>(match wZ h n i.size x with
     | some new=>cond (!(JQ xd) && Nat.blt 0 i.bytes && Nat.beq z.cells.size i.size && new.all xp && Nat.beq new.length (n * i.size)) (X3 h elem i n new s) none
     | none=>none)
   | _,_=>none)
 | _,_,_=>none
theorem Step.sH {ρ:yY} {h:za} {w:World} (hr:Rel P ρ h w) (b:Nat):Step P ρ h w ρ (h.set b none) w :=
 ⟨yY.le_refl _,hr.drop b,rfl,rfl,rfl,rfl,NG _,fun _ _ _=>rfl,fun c _ hm=>by
  obtain ⟨x,o,pl,hx,h1,h2,h3⟩:=hm
  rw [za.yj] at hx
  split at hx
  ·cases hx
  ·exact ⟨x,o,pl,hx,h1,h2,h3⟩⟩
theorem Yq {sT xT elem:TypeId} {r:TypeId} {xd:TypeDesc} {i:TypeInfo} {len cap:Nat} {base:Option Addr} {x':Value} {w:World}
  (h1:zT P (underlying sT)=some (.slice elem)) (h2:zT P (underlying xT)=some xd) (h3:JQ xd=false) (hi:zT P (typeInfo elem)=some i)
  (hlen:∀ w,(Builtin.lenOf x').run P w = .ok 0 w) (hl:len<=cap) (hnew:(Builtin.firstCells i.size 0 x').run P w = .ok ([]:List Value).toArray w) :
  (Builtin.append_ #[sT,xT] r #[.slice base len cap,x']).run P w = .ok (.slice base len cap) w:=by
 obtain ⟨sz1,sz2⟩:=qN hi
 simp only [Builtin.append_]
 simp only [OO,NV,Oa,NF,zh h1,NA,sz2,zh h2,NI]
 rw [NJ (by cases xd <;> first | exact PD | cases h3)]
 simp only [NF,hlen,NA]
 rw [NK (by omega)]
 rw [NK (by cases xd <;> first | rfl | cases h3)]
 simp only [NF,hnew,NA,Nat.add_zero]
 cases base with
 | none=>simp only [NI]
 | some a=>simp only [storeCells,NI,NA,NF]
set_option maxHeartbeats 1000000 in
theorem fW {ρ:yY} {sT xT r:TypeId} {s s' x x' v:Value} {h h':za} {w:World} (he:Xu P sT xT s x h=some (v,h')) (hr:Rel P ρ h w) (hs:zD ρ s s') (hx:zD ρ x x') :
  ∃ v' w' ρ',(Builtin.append_ #[sT,xT] r #[s',x']).run P w = .ok v' w'/\Step P ρ h w ρ' h' w'/\zD ρ' v v':=by
 unfold Xu at he
 split at he
 case h_2=>cases he
 rename_i elem xd n h1 h2 hn
 split at he
 case h_2=>cases he
 rename_i i z hi hz
 split at he
 case h_2=>cases he
 rename_i new hnew
 cases hc:(!(JQ xd) && Nat.blt 0 i.bytes && Nat.beq z.cells.size i.size && new.all xp && Nat.beq new.length (n * i.size)) with
 | false=>rw [hc] at he;cases he
 | true=>
   rw [hc] at he
   simp only [NR] at he
   simp only [ND,NN,NY] at hc
   obtain ⟨⟨⟨⟨h3,hb⟩,hzs⟩,hco⟩,hnl⟩:=hc
   have hb:0 < i.bytes:=by simpa [Of] using hb
   have hzs:=NL hzs
   have hnl:=NL hnl
   have hlen:∀ w,(Builtin.lenOf x').run P w = .ok n w:=fun w=>aP hn hx w
   have hnx:∀ b l cap,x = .slice b l cap->n<=l:=by intro b l cap e;subst e;simp only [jK,Nz] at hn;omega
   obtain ⟨new',hnew',vnew⟩:=W0 hnew hr hx hnx
   have hnil:n=0->(Builtin.firstCells i.size 0 x').run P w = .ok ([]:List Value).toArray w:=by
    intro e
    subst e
    have:new' = []:=by have:=vnew.1;rw [hnl,PJ] at this;exact OQ this.symm
    rw [this] at hnew';exact hnew'
   have hr1:Rel P ρ h { w with drawn:=w.drawn + 1 }:=hr.grow (fun k _=>rfl)
   obtain ⟨new1,hnew1,vnew1⟩:=W0 (w:={ w with drawn:=w.drawn + 1 }) hnew hr1 hx hnx
   unfold X3 at he
   split at he
   ·
    cases hs
    cases hz0:Nat.beq n 0 with
    | true=>
      obtain rfl:=NL hz0
      rw [hz0] at he
      simp only [NR,Nz,NB] at he
      obtain ⟨rfl,rfl⟩:=he
      exact ⟨_,w,ρ,Yq h1 h2 h3 hi hlen (NG 0) (hnil rfl),.refl hr,.sliceNil 0⟩
    | false=>
      rw [hz0] at he
      have hn0:0 < n:=by rcases Pr n with e | e; · subst e;simp at hz0
                         ·exact e
      cases hlim:Nat.ble (n * i.bytes) (2 ^ 48) with
      | false=>rw [hlim] at he;cases he
      | true=>
        rw [hlim] at he
        simp only [NR,N1,Nz,NB] at he
        obtain ⟨rfl,rfl⟩:=he
        have hlim:=NW hlim
        obtain ⟨cap',w',pl,e1,e2,e3,e4,e5,e6,st⟩:=run_append_grow (r:=r) (base:=none) (len:=0) (cap:=0) (old:=[]) (old':=[]) hr h1 h2 h3 hi hz hb hzs hlen (by omega)
         (by rw [Jf _ (by omega)];simpa using hlim) (by simp [Builtin.firstCells]) hnew1 (.nil ρ) vnew1 (by simp) hnl
        rw [OT] at e1 e2
        refine ⟨_,w',_,e1,st,?_⟩
        have:=zD.slice (ρ:=ρ.ext pl) (b:=h.next) (off:=0) (len:=n) (c:=1) (cap:=cap') (pl:=pl) (by show h.next < ρ.next + 1;rw [hr.next];exact N0 _) (by rw [<- hr.next];exact ρ.qg _) e2
         (fun _=>⟨by rw [e4,e5];simpa using e6,fun k hk=>by omega⟩)
        rw [e3,e4] at this
        exact this
   ·rename_i b off len c
    cases hz0:Nat.beq n 0 with
    | true=>
      obtain rfl:=NL hz0
      rw [hz0] at he
      simp only [NR,Nz,NB] at he
      obtain ⟨rfl,rfl⟩:=he
      cases hs with
      | slice hb' hm' hl' hc'=>exact ⟨_,w,ρ,Yq h1 h2 h3 hi hlen hl' (hnil rfl),.refl hr,.slice hb' hm' hl' hc'⟩
      | sliceOut hb' hc'=>exact ⟨_,w,ρ,Yq h1 h2 h3 hi hlen (NG 0) (hnil rfl),.refl hr,.sliceOut hb' hc'⟩
    | false=>
      rw [hz0] at he
      have hn0:0 < n:=by rcases Pr n with e | e; · subst e;simp at hz0
                         ·exact e
      simp only [N1] at he
      split at he
      case h_2=>cases he
      rename_i cs t hg
      cases hcc:(!(Nat.beq c 0) && Nat.beq t elem && Nat.ble h.ro b && Nat.ble (off + len * i.size) cs.length && (roomFor c (len + n) i.bytes && Nat.beq (off % i.size) 0)) with
      | false=>rw [hcc] at he;cases he
      | true=>
        rw [hcc] at he
        simp only [NR,Nz,NB] at he
        obtain ⟨rfl,rfl⟩:=he
        simp only [ND,NN] at hcc
        obtain ⟨⟨⟨⟨k1,k2⟩,k3⟩,k4⟩,k5,k6⟩:=hcc
        have k1:c ≠ 0:=by intro e;subst e;simp at k1
        obtain rfl:=NL k2
        have k3:=NW k3
        have k4:=NW k4
        have hlim:∀ cap,cap < len + n->(c=2->cap=0)->Builtin.nextslicecap (len + n) cap * i.bytes<=2 ^ 48:=by
         intro cap hcap h2c
         unfold roomFor at k5
         by_cases e2:c=2
         ·subst e2
          rw [h2c rfl,Jf _ (by omega)]
          simp only [Pq,NR] at k5
          exact NW k5
         ·rw [show Nat.beq c 2=false from Tr.beq_false e2] at k5
          simp only [N1] at k5
          have k5:=NW k5
          have:=sF (len + n) cap hcap
          calc Builtin.nextslicecap (len + n) cap * i.bytes<=(2 * (len + n)) * i.bytes:=O3 _ this
           _=2 * ((len + n) * i.bytes):=Nat.mul_assoc _ _ _
           _<=2 * 2 ^ 47:=Nat.mul_le_mul_left _ k5
           _=2 ^ 48:=by decide
        have hdropr:=hr.drop b
        cases hs with
        | slice hb' hm' hl' hc'=>
          rename_i cap pl
          obtain ⟨c1,c2⟩:=hc' k1
          obtain ⟨sz1,_⟩:=qN hi
          have hpl:=hr.place hg hm'
          have hesz:pl.Ag=i.size:=by obtain ⟨_,_,_,_,q,_⟩:=hpl;rw [q.1,sz1]
          by_cases hfit:len + n<=cap
          ·obtain ⟨w',e1,st⟩:=gz (r:=r) hr h1 h2 h3 hi hlen hfit hg hm' k3 hnew' vnew hnl hco (by rw [<- hesz];exact c1) k4 (NL k6)
           refine ⟨_,w',_,e1,st,?_⟩
           have:=zD.slice (ρ:=ρ.ext ⟨pl.c,pl.base + off,pl.size,pl.Ag⟩) (b:=h.next) (off:=0) (len:=len + n) (c:=vP c (len + n)) (cap:=cap) (pl:=⟨pl.c,pl.base + off,pl.size,pl.Ag⟩)
            (by show h.next < ρ.next + 1;rw [hr.next];exact N0 _) (by rw [<- hr.next];exact ρ.qg _) hfit
            (fun _=>⟨by simpa using c1,fun k hk=>c2 k (Y4 hk).1⟩)
           simpa using this
          ·have hfull:(c=2->cap=0):=fun e=>c2 0 (by omega)
           obtain ⟨old',hold',vold⟩:=qM (hr1.place hg hm') off (len * i.size) k4
           obtain ⟨cap',w',pl',e1,e2,e3,e4,e5,e6,st⟩:=run_append_grow (r:=r) (base:=some ⟨pl.c,pl.base + off,none⟩) (len:=len) (cap:=cap) hdropr h1 h2 h3 hi hz hb hzs hlen (by omega)
            (hlim cap (by omega) hfull) (by simpa only [Builtin.firstCells] using hold') hnew1 vold vnew1 (by simp only [Ok,Pz];omega) hnl
           refine ⟨_,w',_,e1,(Step.sH hr b).trans st,?_⟩
           have:=zD.slice (ρ:=ρ.ext pl') (b:=h.next) (off:=0) (len:=len + n) (c:=vP c (len + n)) (cap:=cap') (pl:=pl') (by show h.next < ρ.next + 1;rw [hr.next];exact N0 _) (by rw [<- hr.next];exact ρ.qg _) e2
            (fun _=>⟨by rw [e4,e5];simpa using e6,fun k hk=>by
             have q:=Y4 hk
             have:=c2 k q.1
             omega⟩)
           rw [e3,e4] at this
           exact this
        | sliceOut hb' hc'=>
          obtain ⟨cap',w',pl',e1,e2,e3,e4,e5,e6,st⟩:=run_append_grow (r:=r) (base:=some _) (len:=0) (cap:=0) (old:=(cs.drop off).take (0 * i.size)) (old':=[]) hdropr h1 h2 h3 hi hz hb hzs hlen (by omega)
           (hlim 0 (by omega) (fun _=>rfl)) (by simp only [Builtin.firstCells,PJ];rfl) hnew1 (by simp [xD]) vnew1 (by simp) hnl
          refine ⟨_,w',_,e1,(Step.sH hr b).trans st,?_⟩
          have:=zD.slice (ρ:=ρ.ext pl') (b:=h.next) (off:=0) (len:=0 + n) (c:=vP c (0 + n)) (cap:=cap') (pl:=pl') (by show h.next < ρ.next + 1;rw [hr.next];exact N0 _) (by rw [<- hr.next];exact ρ.qg _) e2
           (fun _=>⟨by rw [e4,e5];simpa using e6,fun k hk=>by
            have q:=Y4 hk
            omega⟩)
          rw [e3,e4] at this
          exact this
   ·cases he
end
end Go.Ai
