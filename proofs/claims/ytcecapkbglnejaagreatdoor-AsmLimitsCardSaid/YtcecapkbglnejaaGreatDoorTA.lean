/- A part of the proof. -/
import Derived.Calls
import Derived.Below
import Derived.Laws.Sem
import Derived.Laws.Cells
import Derived.Laws.Entries
set_option linter.unusedVariables false
set_option linter.unusedSimpArgs false
set_option maxRecDepth 100000
namespace Go
theorem Se:type_of% @Option.some.injEq:=@Option.some.injEq
theorem Sf:type_of% @if_true:=@if_true
theorem Sg:type_of% @Go.Result.andThen_ok:=@Go.Result.andThen_ok
theorem Sh:type_of% @Prod.mk.injEq:=@Prod.mk.injEq
theorem Si:type_of% @List.getElem?_cons_zero:=@List.getElem?_cons_zero
theorem Sj:type_of% @Go.Sem.run_bind:=@Go.Sem.run_bind
theorem Sk:type_of% @List.getElem?_eq_getElem:=@List.getElem?_eq_getElem
theorem Sl:type_of% @if_neg:=@if_neg
theorem Sm:type_of% @Bool.and_eq_true:=@Bool.and_eq_true
theorem Sn:type_of% @if_pos:=@if_pos
theorem So:type_of% @List.getElem?_cons_succ:=@List.getElem?_cons_succ
theorem Sp:type_of% @Nat.le_refl:=@Nat.le_refl
theorem Sq:type_of% @Nat.lt_of_lt_of_le:=@Nat.lt_of_lt_of_le
theorem Sr:type_of% @List.getElem?_eq_none:=@List.getElem?_eq_none
theorem Ss:type_of% @Go.Sem.run_pure:=@Go.Sem.run_pure
theorem Su:type_of% @not_false_eq_true:=@not_false_eq_true
theorem Sv:type_of% @Nat.eq_of_beq_eq_true:=@Nat.eq_of_beq_eq_true
theorem Sw:type_of% @Option.map_eq_some_iff:=@Option.map_eq_some_iff
theorem Sx:type_of% @if_false:=@if_false
theorem Sy:type_of% @Nat.zero_add:=@Nat.zero_add
theorem Sz:type_of% @Bool.not_eq_true':=@Bool.not_eq_true'
theorem SA:type_of% @cond_true:=@cond_true
theorem SB:type_of% @Array.getD_eq_getD_getElem?:=@Array.getD_eq_getD_getElem?
theorem SC:type_of% @Nat.lt_or_ge:=@Nat.lt_or_ge
theorem SD:type_of% @List.length_cons:=@List.length_cons
theorem SE:type_of% @or_false:=@or_false
theorem SF:type_of% @List.length_nil:=@List.length_nil
theorem SG:type_of% @List.toList_toArray:=@List.toList_toArray
theorem SH:type_of% @Nat.le_of_ble_eq_true:=@Nat.le_of_ble_eq_true
theorem SI:type_of% @List.getElem?_map:=@List.getElem?_map
theorem SJ:type_of% @Int.toNat_natCast:=@Int.toNat_natCast
theorem SK:type_of% @cond_false:=@cond_false
theorem SL:type_of% @decide_eq_false_iff_not:=@decide_eq_false_iff_not
theorem SM:type_of% @List.contains_eq_mem:=@List.contains_eq_mem
theorem SN:type_of% @Array.getElem?_eq_none:=@Array.getElem?_eq_none
theorem SO:type_of% @Array.getElem?_eq_getElem:=@Array.getElem?_eq_getElem
theorem SP:type_of% @or_true:=@or_true
theorem SQ:type_of% @or_self:=@or_self
theorem SS:type_of% @Option.bind_some:=@Option.bind_some
theorem SU:type_of% @List.getD_eq_getElem?_getD:=@List.getD_eq_getElem?_getD
theorem SV:type_of% @List.all_eq_true:=@List.all_eq_true
theorem SW:type_of% @List.filter_append:=@List.filter_append
theorem SX:type_of% @List.length_map:=@List.length_map
theorem SY:type_of% @List.take_succ_cons:=@List.take_succ_cons
theorem SZ:type_of% @decide_eq_true_eq:=@decide_eq_true_eq
theorem S3:type_of% @List.append_of_mem:=@List.append_of_mem
theorem S4:type_of% @Nat.le_trans:=@Nat.le_trans
theorem S5:type_of% @List.getElem?_drop:=@List.getElem?_drop
theorem S6:type_of% @Nat.blt_eq:=@Nat.blt_eq
theorem S7:type_of% @List.mem_of_getElem?:=@List.mem_of_getElem?
theorem S8:type_of% @List.set_cons_succ:=@List.set_cons_succ
theorem S9:type_of% @Bool.not_false:=@Bool.not_false
theorem Ta:type_of% @List.mem_append:=@List.mem_append
theorem Tb:type_of% @Bool.or_eq_true:=@Bool.or_eq_true
theorem Tc:type_of% @Array.getElem?_setIfInBounds:=@Array.getElem?_setIfInBounds
theorem Td:type_of% @List.getElem?_take_of_lt:=@List.getElem?_take_of_lt
theorem Te:type_of% @List.set_cons_zero:=@List.set_cons_zero
theorem Tf:type_of% @List.all_cons:=@List.all_cons
theorem Tg:type_of% @Option.bind_none:=@Option.bind_none
theorem Th:type_of% @Nat.zero_le:=@Nat.zero_le
theorem Ti:type_of% @Bool.false_eq_true:=@Bool.false_eq_true
theorem Tj:type_of% @List.getElem?_set_self:=@List.getElem?_set_self
theorem Tk:type_of% @and_true:=@and_true
theorem Tl:type_of% @List.getElem?_append_left:=@List.getElem?_append_left
theorem Tm:type_of% @Bool.and_true:=@Bool.and_true
theorem Tn:type_of% @List.cons.injEq:=@List.cons.injEq
theorem To:type_of% @of_decide_eq_true:=@of_decide_eq_true
theorem Tp:type_of% @Array.mem_of_getElem?:=@Array.mem_of_getElem?
theorem Tq:type_of% @List.mem_cons:=@List.mem_cons
theorem Ts:type_of% @Bool.not_true:=@Bool.not_true
theorem Tt:type_of% @List.take_nil:=@List.take_nil
theorem Tu:type_of% @List.getElem?_append_right:=@List.getElem?_append_right
theorem Tv:type_of% @Nat.lt_succ_self:=@Nat.lt_succ_self
theorem Tw:type_of% @List.all_nil:=@List.all_nil
theorem Tx:type_of% @List.drop_zero:=@List.drop_zero
theorem Ty:type_of% @List.eq_nil_of_length_eq_zero:=@List.eq_nil_of_length_eq_zero
theorem Tz:type_of% @Array.length_toList:=@Array.length_toList
theorem TA:type_of% @List.getElem?_set_ne:=@List.getElem?_set_ne
theorem TB:type_of% @List.prefix_refl:=@List.prefix_refl
theorem TD:type_of% @List.length_set:=@List.length_set
theorem TE:type_of% @List.mem_range:=@List.mem_range
theorem TF:type_of% @List.filter_cons:=@List.filter_cons
theorem TG:type_of% @Option.map_some:=@Option.map_some
theorem TH:type_of% @List.mem_map:=@List.mem_map
theorem TI:type_of% @List.mem_singleton:=@List.mem_singleton
theorem TJ:type_of% @List.filter_congr:=@List.filter_congr
theorem TK:type_of% @List.ext_getElem?:=@List.ext_getElem?
theorem TL:type_of% @Int.tmod_eq_emod_of_nonneg:=@Int.tmod_eq_emod_of_nonneg
theorem TM:type_of% @Nat.mul_le_mul_right:=@Nat.mul_le_mul_right
theorem TN:type_of% @Nat.mul_one:=@Nat.mul_one
theorem TP:type_of% @Array.eq_empty_of_size_eq_zero:=@Array.eq_empty_of_size_eq_zero
theorem TQ:type_of% @List.map_cons:=@List.map_cons
theorem TR:type_of% @Nat.le_succ:=@Nat.le_succ
theorem TS:type_of% @List.getElem?_toArray:=@List.getElem?_toArray
theorem TT:type_of% @Array.toArray_toList:=@Array.toArray_toList
theorem TU:type_of% @Bool.true_and:=@Bool.true_and
theorem TV:type_of% @List.mem_filter:=@List.mem_filter
theorem TW:type_of% @Array.getElem?_replicate:=@Array.getElem?_replicate
theorem TX:type_of% @List.filter_filter:=@List.filter_filter
theorem TZ:type_of% @Go.Value.slice.injEq:=@Go.Value.slice.injEq
theorem T0:type_of% @List.dropLast_concat:=@List.dropLast_concat
theorem T1:type_of% @List.length_eq_zero_iff:=@List.length_eq_zero_iff
theorem T2:type_of% @Option.bind_eq_some_iff:=@Option.bind_eq_some_iff
theorem T3:type_of% @Go.Steps.trans:=@Go.Steps.trans
theorem T4:type_of% @List.drop_succ_cons:=@List.drop_succ_cons
theorem T5:type_of% @Int.le_refl:=@Int.le_refl
theorem T6:type_of% @Option.getD_some:=@Option.getD_some
theorem T7:type_of% @Array.ext':=@Array.ext'
theorem T8:type_of% @beq_self_eq_true:=@beq_self_eq_true
theorem T9:type_of% @List.length_drop:=@List.length_drop
theorem aaa:type_of% @Nat.beq_refl:=@Nat.beq_refl
theorem aab:type_of% @true_and:=@true_and
theorem aac:type_of% @Nat.eq_zero_or_pos:=@Nat.eq_zero_or_pos
theorem aad:type_of% @Bool.or_eq_false_iff:=@Bool.or_eq_false_iff
theorem aae:type_of% @List.map_append:=@List.map_append
theorem aaf:type_of% @Nat.ble_eq:=@Nat.ble_eq
theorem aag:type_of% @Nat.add_zero:=@Nat.add_zero
theorem aah:type_of% @Nat.add_assoc:=@Nat.add_assoc
theorem aai:type_of% @Nat.le_of_not_lt:=@Nat.le_of_not_lt
theorem aaj:type_of% @Bool.not_eq_true:=@Bool.not_eq_true
theorem aak:type_of% @List.length_take:=@List.length_take
theorem aal:type_of% @Go.Addr.mk.injEq:=@Go.Addr.mk.injEq
theorem aam:type_of% @Go.Sem.run_ite:=@Go.Sem.run_ite
theorem aan:type_of% @List.filter_eq_nil_iff:=@List.filter_eq_nil_iff
theorem aao:type_of% @List.length_append:=@List.length_append
theorem aap:type_of% @Bool.false_ne_true:=@Bool.false_ne_true
theorem aaq:type_of% @Option.some.inj:=@Option.some.inj
theorem aar:type_of% @Nat.beq_eq:=@Nat.beq_eq
theorem aas:type_of% @Nat.lt_succ_of_lt:=@Nat.lt_succ_of_lt
theorem aat:type_of% @List.tail_drop:=@List.tail_drop
theorem aau:type_of% @Go.Checked.mixed:=@Go.Checked.mixed
theorem aav:type_of% @List.take_length:=@List.take_length
theorem aaw:type_of% @Nat.add_mul:=@Nat.add_mul
theorem aax:type_of% @Nat.zero_mul:=@Nat.zero_mul
end Go
namespace Go.Ai
noncomputable section
inductive Tr (α:Type) where
 | e
 | n (v:Option α) (l r:Tr α)
namespace Tr
variable {α:Type}
def get (t:Tr α) (k:Nat):Option α :=
 @Tr.rec α (fun _=>Nat->Option α) (fun _=>none)
  (fun v _ _ gl gr k => @Bool.rec (fun _=>Option α) (@Bool.rec (fun _=>Option α) (gr (Nat.sub (Nat.div k 2) 1)) (gl (Nat.div k 2)) (Nat.beq (Nat.mod k 2) 1)) v (Nat.beq k 0)) t k
def lI (f:Nat):Tr α->Nat->Option α->Tr α :=
 @Nat.rec (fun _=>Tr α->Nat->Option α->Tr α) (fun t _ _=>t)
  (fun _ ih t k x => @Tr.rec α (fun _=>Tr α)
   (@Bool.rec (fun _=>Tr α) (@Bool.rec (fun _=>Tr α) (.n none .e (ih .e (Nat.sub (Nat.div k 2) 1) x)) (.n none (ih .e (Nat.div k 2) x) .e) (Nat.beq (Nat.mod k 2) 1)) (.n x .e .e) (Nat.beq k 0))
   (fun v l r _ _ => @Bool.rec (fun _=>Tr α) (@Bool.rec (fun _=>Tr α) (.n v l (ih r (Nat.sub (Nat.div k 2) 1) x)) (.n v (ih l (Nat.div k 2) x) r) (Nat.beq (Nat.mod k 2) 1)) (.n x l r) (Nat.beq k 0)) t) f
def set (t:Tr α) (k:Nat) (x:Option α):Tr α:=lI (Nat.succ k) t k x
@[simp] theorem L5 (k:Nat):(Tr.e:Tr α).get k=none:=rfl
theorem beq_false {a b:Nat} (h:a ≠ b):Nat.beq a b=false:=by
 cases e:Nat.beq a b
 ·rfl
 ·exact absurd (Sv e) h
theorem beq_true {a b:Nat} (h:a=b):Nat.beq a b=true:=by subst h;exact aaa a
theorem ie (v:Option α) (l r:Tr α) (k:Nat):(Tr.n v l r).get k=if k=0 then v else if k % 2=1 then l.get (k / 2) else r.get (k / 2 - 1):=by
 show @Bool.rec (fun _=>Option α) (@Bool.rec (fun _=>Option α) (r.get (k / 2 - 1)) (l.get (k / 2)) (Nat.beq (k % 2) 1)) v (Nat.beq k 0)=_
 by_cases h:k=0
 ·rw [beq_true h,Sn h]
 ·rw [beq_false h,Sl h]
  by_cases h2:k % 2=1
  ·rw [beq_true h2,Sn h2]
  ·rw [beq_false h2,Sl h2]
theorem ND (f:Nat) (k:Nat) (x:Option α):lI (f + 1) .e k x=lI (f + 1) (.n none .e .e) k x:=rfl
theorem NF (f:Nat) (v:Option α) (l r:Tr α) (k:Nat) (x:Option α) :
  lI (f + 1) (.n v l r) k x=if k=0 then .n x l r else if k % 2=1 then .n v (lI f l (k / 2) x) r else .n v l (lI f r (k / 2 - 1) x):=by
 show @Bool.rec (fun _=>Tr α) (@Bool.rec (fun _=>Tr α) (.n v l (lI f r (k / 2 - 1) x)) (.n v (lI f l (k / 2) x) r) (Nat.beq (k % 2) 1)) (.n x l r) (Nat.beq k 0)=_
 by_cases h:k=0
 ·rw [beq_true h,Sn h]
 ·rw [beq_false h,Sl h]
  by_cases h2:k % 2=1
  ·rw [beq_true h2,Sn h2]
  ·rw [beq_false h2,Sl h2]
theorem Hc (f:Nat):∀ (t:Tr α) (k j:Nat) (x:Option α),k < f->(lI f t k x).get j=if j=k then x else t.get j:=by
 induction f with
 | zero=>intro t k j x h;omega
 | succ f ih=>
   have node:∀ (v:Option α) (l r:Tr α) (k j:Nat) (x:Option α),k < f + 1->(lI (f + 1) (.n v l r) k x).get j=if j=k then x else (Tr.n v l r).get j:=by
    intro v l r k j x h
    rw [NF]
    by_cases h0:k=0
    ·subst h0
     rw [Sn rfl,ie,ie]
     by_cases hj:j=0
     ·simp [hj]
     ·simp [hj]
    ·rw [Sl h0]
     by_cases h1:k % 2=1
     ·rw [Sn h1,ie,ie,ih _ _ _ _ (by omega)]
      by_cases hj:j=0
      ·subst hj;simp [Ne.symm h0]
      ·rw [Sl hj,Sl hj]
       by_cases hj2:j % 2=1
       ·rw [Sn hj2,Sn hj2]
        by_cases e:j=k
        ·subst e;simp
        ·rw [Sl e,Sl (by omega)]
       ·rw [Sl hj2,Sl hj2,Sl (by intro e;subst e;exact hj2 h1)]
     ·rw [Sl h1,ie,ie,ih _ _ _ _ (by omega)]
      by_cases hj:j=0
      ·subst hj;simp [Ne.symm h0]
      ·rw [Sl hj,Sl hj]
       by_cases hj2:j % 2=1
       ·rw [Sn hj2,Sn hj2,Sl (by intro e;subst e;exact h1 hj2)]
       ·rw [Sl hj2,Sl hj2]
        by_cases e:j=k
        ·subst e;simp
        ·rw [Sl e,Sl (by omega)]
   intro t k j x h
   cases t with
   | e=>
     rw [ND,node _ _ _ _ _ _ h]
     by_cases e:j=k
     ·simp [e]
     ·simp only [Sl e,ie,L5];split <;> (try split) <;> rfl
   | n v l r=>exact node v l r k j x h
theorem yD (t:Tr α) (k j:Nat) (x:Option α):(t.set k x).get j=if j=k then x else t.get j :=
 Hc (k + 1) t k j x (Tv k)
def ofList (t:Tr α) (i:Nat):List α->Tr α
 | []=>t
 | a :: l=>ofList (t.set i (some a)) (i + 1) l
theorem BW (l:List α):∀ (t:Tr α) (i j:Nat),(ofList t i l).get j=if i<=j/\j < i + l.length then l[j - i]? else t.get j:=by
 induction l with
 | nil=>intro t i j;simp [ofList];omega
 | cons a l ih=>
   intro t i j
   rw [ofList,ih,yD]
   by_cases h:j=i
   ·subst h
    rw [Sl (by omega),Sn rfl,Sn (by simp),Nat.sub_self];rfl
   ·by_cases h2:i + 1<=j/\j < i + 1 + l.length
    ·rw [Sn h2,Sn (by simp;omega)]
     have:j - i=(j - (i + 1)) + 1:=by omega
     rw [this];rfl
    ·rw [Sl h2,Sl h,Sl (by simp;omega)]
end Tr
structure Env where
 t:Tr Value
 size:Nat
def Env.get (s:Env) (i:Nat):Value := @Option.rec Value (fun _=>Value) undef (fun v=>v) (s.t.get i)
theorem Env.get_eq (s:Env) (i:Nat):s.get i=(s.t.get i).getD undef:=by
 unfold Env.get
 cases s.t.get i <;> rfl
def Env.set (s:Env) (i:Nat) (v:Value):Env := @Env.rec (fun _=>Env) (fun t n=>⟨t.set i (some v),n⟩) s
theorem Env.PD (s:Env) (i:Nat) (v:Value):(s.set i v).t=s.t.set i (some v):=rfl
def Env.put (s:Env) (d:Option Nat) (v:Value):Option Env :=
 match d with
 | none=>some s
 | some d=>cond (Nat.blt d s.size) (some (s.set d v)) none
theorem Env.yD (s:Env) (i j:Nat) (v:Value):(s.set i v).get j=if j=i then v else s.get j:=by
 simp only [Env.get_eq,Env.PD,Tr.yD];split <;> rfl
@[simp] theorem Env.size_set (s:Env) (i:Nat) (v:Value):(s.set i v).size=s.size:=rfl
def Dv {α:Type} (n:Nat) (f:Nat->α):α := @Nat.rec (fun _=>α) (f 0) (fun m _=>f (Nat.succ m)) n
theorem Cs {α:Type} (n:Nat) (f:Nat->α):Dv n f=f n:=by cases n <;> rfl
def Env.enter (args:List Value) (n:Nat):Env:=Dv (max args.length n) fun k=>{ t:=Tr.ofList .e 0 args,size:=k }
theorem Env.td (args:List Value) (n:Nat):Env.enter args n = { t:=Tr.ofList .e 0 args,size:=max args.length n }:=Cs _ _
theorem Env.EJ (args:List Value) (n j:Nat):(Env.enter args n).get j=(args[j]?).getD undef:=by
 simp only [Env.get_eq,Env.td,Tr.BW,Tr.L5]
 by_cases h:j < args.length
 ·rw [Sn (by omega)];rfl
 ·rw [Sl (by omega),Sr (by omega)]
structure Kj where
 state:LoopState
 pending:Option Code
 s:Env
 params:Array Tmp
 assign:Code
 body:Code
inductive vi where
 | cells (c:List Value) (elem:TypeId)
 | map (es:List (Value × Value × Nat)) (clock:Nat)
 | iter (m:Option Nat) (since:Nat) (seen:List Nat) (last:Nat)
 | siter (s:ByteArray) (pos:Nat)
 | tab (c:List Value)
 | loop (l:Kj)
structure za where
 t:Tr vi
 next:Nat
 ro:Nat
def za.get (h:za) (b:Nat):Option vi:=h.t.get b
def za.set (h:za) (b:Nat) (o:Option vi):za := @za.rec (fun _=>za) (fun t n r=>⟨t.set b o,n,r⟩) h
def za.push (h:za) (o:vi):za := @za.rec (fun _=>za) (fun t n r=>⟨t.set n (some o),Nat.succ n,r⟩) h
theorem za.yD (h:za) (b c:Nat) (o:Option vi):(h.set b o).get c=if c=b then o else h.get c:=Tr.yD _ _ _ _
theorem za.uA (h:za) (c:Nat) (o:vi):(h.push o).get c=if c=h.next then some o else h.get c:=Tr.yD _ _ _ _
@[simp] theorem za.O0 (h:za) (b:Nat) (o:Option vi):(h.set b o).next=h.next:=rfl
@[simp] theorem za.RG (h:za) (b:Nat) (o:Option vi):(h.set b o).ro=h.ro:=rfl
@[simp] theorem za.Q8 (h:za) (o:vi):(h.push o).next=h.next + 1:=rfl
@[simp] theorem za.PR (h:za) (o:vi):(h.push o).ro=h.ro:=rfl
def za.lock (h:za):za := @za.rec (fun _=>za) (fun t n _=>⟨t,n,n⟩) h
structure Place where
 c:Nat
 base:Nat
 size:Nat
 C7:Nat
structure xn where
 next:Nat
 m:Nat->Option Place
def NY (pl:Place) (off cap:Nat) (c:Nat):Prop:=c ≠ 0->off + cap * pl.C7<=pl.size /\ ∀ k,c=k + 2->cap=k
def bot:Value := .complex .f32 0 0
def pZ:Value->Bool
 | .bool _ | .agg _ | .tuple _=>false
 | _=>true
inductive zI (ρ:xn):Value->Value->Prop
 | pZ {v:Value} (h:pZ v=true):zI ρ bot v
 | bool (b:Bool):zI ρ (.bool b) (.bool b)
 | int (k:IntKind) (n:Int):zI ρ (.int k n) (.int k n)
 | float (k:FloatKind) (n:Nat):zI ρ (.float k n) (.float k n)
 | string (s:ByteArray):zI ρ (.string s) (.string s)
 | ptrNil:zI ρ (.pointer none) (.pointer none)
 | ptr {b off:Nat} {pl:Place} (hb:b < ρ.next) (hm:ρ.m b=some pl):zI ρ (.pointer (some ⟨b,off,none⟩)) (.pointer (some ⟨pl.c,pl.base + off,none⟩))
 | Z7 {g off:Nat}:zI ρ (.pointer (some ⟨g,off,some 0⟩)) (.pointer (some ⟨g,off,none⟩))
 | sliceNil (c:Nat):zI ρ (.slice none 0 c) (.slice none 0 0)
 | slice {b off len c cap:Nat} {pl:Place} (hb:b < ρ.next) (hm:ρ.m b=some pl) (hl:len<=cap) (hc:NY pl (pl.base + off) cap c) :
   zI ρ (.slice (some ⟨b,off,none⟩) len c) (.slice (some ⟨pl.c,pl.base + off,none⟩) len cap)
 | sliceOut {b off c:Nat} {a:Addr} (hb:b < ρ.next) (hc:c<=2):zI ρ (.slice (some ⟨b,off,none⟩) 0 c) (.slice (some a) 0 0)
 | nilFunc:zI ρ .nilFunc .nilFunc
 | nilIface:zI ρ .nilIface .nilIface
 | mapNil:zI ρ (.map none) (.map none)
 | map {b:Nat} {pl:Place} (hb:b < ρ.next) (hm:ρ.m b=some pl):zI ρ (.map (some b)) (.map (some pl.c))
 | yield {b:Nat} {pl:Place} (hb:b < ρ.next) (hm:ρ.m b=some pl):zI ρ (.func (.yield b) #[] #[]) (.func (.yield pl.c) #[] #[])
 | iface {t:TypeId} {x y:Value} (h:zI ρ x y):zI ρ (.iface t x) (.iface t y)
 | func {f:FuncId} {a c a' c':Array Value} (ha:a.size=a'.size) (hc:c.size=c'.size)
   (h:∀ (i:Nat) x y,a[i]? = some x->a'[i]? = some y->zI ρ x y) (h':∀ (i:Nat) x y,c[i]? = some x->c'[i]? = some y->zI ρ x y):zI ρ (.func (.func f) a c) (.func (.func f) a' c')
 | agg {a a':Array Value} (ha:a.size=a'.size) (h:∀ (i:Nat) x y,a[i]? = some x->a'[i]? = some y->zI ρ x y):zI ρ (.agg a) (.agg a')
 | tuple {a a':Array Value} (ha:a.size=a'.size) (h:∀ (i:Nat) x y,a[i]? = some x->a'[i]? = some y->zI ρ x y):zI ρ (.tuple a) (.tuple a')
def xn.le (ρ ρ':xn):Prop:=ρ.next<=ρ'.next /\ ∀ b,b < ρ.next->ρ'.m b=ρ.m b
theorem xn.le_refl (ρ:xn):ρ.le ρ:=⟨Sp _,fun _ _=>rfl⟩
theorem xn.le_trans {a b c:xn} (h:a.le b) (k:b.le c):a.le c:=⟨S4 h.1 k.1,fun x hx=>(k.2 x (Sq hx h.1)).trans (h.2 x hx)⟩
theorem zI.mono {ρ ρ':xn} (hle:ρ.le ρ') {v v':Value} (h:zI ρ v v'):zI ρ' v v':=by
 induction h with
 | pZ h=>exact .pZ h
 | bool b=>exact .bool b
 | int k n=>exact .int k n
 | float k n=>exact .float k n
 | string s=>exact .string s
 | ptrNil=>exact .ptrNil
 | ptr hb hm=>exact .ptr (Sq hb hle.1) ((hle.2 _ hb).trans hm)
 | Z7=>exact .Z7
 | sliceNil c=>exact .sliceNil c
 | slice hb hm hl hc=>exact .slice (Sq hb hle.1) ((hle.2 _ hb).trans hm) hl hc
 | sliceOut hb hc=>exact .sliceOut (Sq hb hle.1) hc
 | nilFunc=>exact .nilFunc
 | nilIface=>exact .nilIface
 | mapNil=>exact .mapNil
 | map hb hm=>exact .map (Sq hb hle.1) ((hle.2 _ hb).trans hm)
 | yield hb hm=>exact .yield (Sq hb hle.1) ((hle.2 _ hb).trans hm)
 | iface _ ih=>exact .iface ih
 | func ha hc _ _ ih ih'=>exact .func ha hc ih ih'
 | agg ha _ ih=>exact .agg ha ih
 | tuple ha _ ih=>exact .tuple ha ih
def wz (ρ:xn) (xs ys:List Value):Prop:=xs.length=ys.length /\ ∀ (i:Nat) x y,xs[i]? = some x->ys[i]? = some y->zI ρ x y
theorem wz.nil (ρ:xn):wz ρ [] []:=⟨rfl,fun i x y h=>by simp at h⟩
theorem wz.cons {ρ:xn} {x y:Value} {xs ys:List Value} (h:zI ρ x y) (hs:wz ρ xs ys):wz ρ (x :: xs) (y :: ys) :=
 ⟨by simp [hs.1],fun i a b ha hb=>by
  cases i with
  | zero=>simp at ha hb;subst ha hb;exact h
  | succ i=>exact hs.2 i a b (by simpa using ha) (by simpa using hb)⟩
theorem wz.cons_inv {ρ:xn} {x:Value} {xs ys:List Value} (h:wz ρ (x :: xs) ys):∃ y ys',ys=y :: ys'/\zI ρ x y/\wz ρ xs ys':=by
 cases ys with
 | nil=>simp [wz] at h
 | cons y ys=>exact ⟨y,ys,rfl,h.2 0 x y rfl rfl,by simpa using h.1,fun i a b ha hb=>h.2 (i + 1) a b (by simpa using ha) (by simpa using hb)⟩
theorem wz.uL {ρ:xn} {ys:List Value} (h:wz ρ [] ys):ys = []:=by
 have:=h.1;simp at this;exact Ty this.symm
theorem wz.mono {ρ ρ':xn} (hle:ρ.le ρ') {xs ys:List Value} (h:wz ρ xs ys):wz ρ' xs ys:=⟨h.1,fun i x y hx hy=>(h.2 i x y hx hy).mono hle⟩
theorem wz.append {ρ:xn} {a b c d:List Value} (h:wz ρ a b) (k:wz ρ c d):wz ρ (a ++ c) (b ++ d):=by
 refine ⟨by simp [h.1,k.1],fun i x y hx hy => ?_⟩
 by_cases hi:i < a.length
 ·rw [Tl hi] at hx
  rw [Tl (by rw [<- h.1];exact hi)] at hy
  exact h.2 i x y hx hy
 ·rw [Tu (by omega)] at hx
  rw [Tu (by rw [<- h.1];omega),<- h.1] at hy
  exact k.2 _ x y hx hy
theorem wz.get {ρ:xn} {xs ys:List Value} (h:wz ρ xs ys) {i:Nat} {x:Value} (hx:xs[i]? = some x):∃ y,ys[i]? = some y/\zI ρ x y:=by
 have hi:i < xs.length:=by
  rcases SC i xs.length with h | h
  ·exact h
  ·rw [Sr h] at hx;cases hx
 have hj:i < ys.length:=h.1 ▸ hi
 exact ⟨ys[i],Sk hj,h.2 i x _ hx (Sk hj)⟩
def plain:Value->Bool
 | .bool _ | .int _ _ | .float _ _ | .string _ | .pointer none | .nilFunc | .nilIface | .map none=>true
 | .slice none n c=>Nat.beq n 0 && Nat.beq c 0
 | .func (.func _) a c=>Nat.beq a.size 0 && Nat.beq c.size 0
 | .tuple a=>Nat.beq a.size 0
 | _=>false
theorem W5 {a:Array Value} (h:Nat.beq a.size 0=true):a = #[]:=TP (Sv h)
theorem zI.Zw (ρ:xn) {v:Value} (h:plain v=true):zI ρ v v:=by
 cases v with
 | bool b=>exact .bool _
 | int k n=>exact .int _ _
 | float k n=>exact .float _ _
 | string s=>exact .string _
 | nilFunc=>exact .nilFunc
 | nilIface=>exact .nilIface
 | pointer a=>cases a <;> first | exact .ptrNil | cases h
 | map a=>cases a <;> first | exact .mapNil | cases h
 | slice a n c=>
   cases a with
   | some a=>cases h
   | none=>
     simp only [plain,Sm] at h
     obtain rfl:=Sv h.1
     obtain rfl:=Sv h.2
     exact .sliceNil _
 | func f a c=>
   cases f with
   | func f=>
     simp only [plain,Sm] at h
     obtain rfl:=W5 h.1
     obtain rfl:=W5 h.2
     exact .func rfl rfl (fun i x y hx=>by simp at hx) (fun i x y hx=>by simp at hx)
   | _=>cases h
 | tuple a=>
   obtain rfl:=W5 h
   exact .tuple rfl (fun i x y hx=>by simp at hx)
 | _=>cases h
def wZ:Value->Bool
 | .agg _ | .tuple _=>false
 | _=>true
theorem gH {ρ:xn} {v v':Value} (h:zI ρ v v'):wZ v'=wZ v:=by
 cases h with
 | pZ h=>cases v' <;> first | rfl | cases h
 | _=>rfl
def xr (P:Program) (ρ:xn) (wr:Bool) (c:List Value) (elem:TypeId) (pl:Place) (w:World):Prop :=
 ∃ cs fz,w.heap[pl.c]? = some (.cells cs elem fz)/\cs.size=pl.size/\(pl.C7=P.cellsOf elem/\pl.base % pl.C7=0)/\pl.base + c.length<=cs.size /\
   (wr=true->∀ i,i < pl.size->¬(fz.1<=i/\i < fz.2)) /\ ∀ i x,c[i]? = some x->∃ y,cs[pl.base + i]? = some y/\zI ρ x y
structure vN (ρ:xn) (s:Env) (tm:Array Value):Prop where
 size:s.size=tm.size
 get:∀ i,zI ρ (s.get i) (tm.getD i undef)
theorem vN.mono {ρ ρ':xn} (hle:ρ.le ρ') {s:Env} {tm:Array Value} (h:vN ρ s tm):vN ρ' s tm:=⟨h.size,fun i=>(h.get i).mono hle⟩
def N1 (ρ:xn) (es:List (Value × Value × Nat)) (clock:Nat) (pl:Place) (w:World):Prop :=
 ∃ ms,w.heap[pl.c]? = some (.map ms clock)/\ms.size=es.length /\ ∀ (i:Nat) x m,es[i]? = some x->ms[i]? = some m->zI ρ x.1 m.key/\zI ρ x.2.1 m.val/\m.born=x.2.2
def Mn (ρ:xn) (m:Option Nat) (since:Nat) (seen:List Nat) (last:Nat) (pl:Place) (w:World):Prop :=
 ∃ m',w.heap[pl.c]? = some (.mapIter m' since seen.toArray last)/\pl.base=0/\zI ρ (.map m) (.map m')
def Mo (ρ:xn) (l:Kj) (pl:Place) (w:World):Prop :=
 ∃ tm d fn,w.heap[pl.c]? = some (.loop { state:=l.state,pending:=l.pending,fn:=fn,tmps:=tm,params:=l.params,assign:=l.assign,body:=l.body,defers:=d })/\vN ρ l.s tm
def vX (P:Program) (ρ:xn) (wr:Bool) (o:vi) (pl:Place) (w:World):Prop :=
 match o with
 | .cells c t=>xr P ρ wr c t pl w
 | .map es q=>N1 ρ es q pl w
 | .iter m since seen last=>Mn ρ m since seen last pl w
 | .siter s pos=>w.heap[pl.c]? = some (.stringIter s pos)/\pl.base=0
 | .tab c => ∃ t,xr P ρ false c t { pl with C7:=P.cellsOf t } w
 | .loop l=>Mo ρ l pl w
structure Rel (P:Program) (ρ:xn) (h:za) (w:World):Prop where
 next:ρ.next=h.next
 ro:h.ro<=h.next
 UL:∀ b o,h.get b=some o->b < h.next
 ok:∀ b o,h.get b=some o->∃ pl,ρ.m b=some pl/\vX P ρ (decide (h.ro<=b)) o pl w
 inj:∀ b1 b2 o1 o2 p1 p2,h.get b1=some o1->h.get b2=some o2->ρ.m b1=some p1->ρ.m b2=some p2->p1.c=p2.c->b1=b2
 cN:P.globals.size<=h.ro
 Z7:∀ b pl,b < P.globals.size->ρ.m b=some pl->pl.c=b/\pl.base=0
def Ju (ρ:xn) (h:za) (c:Nat):Prop := ∃ b o pl,h.get b=some o/\h.ro<=b/\ρ.m b=some pl/\pl.c=c
structure Step (P:Program) (ρ:xn) (h:za) (w:World) (ρ':xn) (h':za) (w':World):Prop where
 le:ρ.le ρ'
 rel:Rel P ρ' h' w'
 ro:h'.ro=h.ro
 os:w'.os=w.os
 tape:w'.tape=w.tape
 output:w'.output=w.output
 size:w.heap.size<=w'.heap.size
 frame:∀ c,c < w.heap.size->¬ Ju ρ h c->w'.heap[c]? = w.heap[c]?
 dY:∀ c,c < w.heap.size->Ju ρ' h' c->Ju ρ h c
theorem Step.refl {P:Program} {ρ:xn} {h:za} {w:World} (hr:Rel P ρ h w):Step P ρ h w ρ h w :=
 ⟨xn.le_refl _,hr,rfl,rfl,rfl,rfl,Sp _,fun _ _ _=>rfl,fun _ _ h=>h⟩
theorem Step.trans {P:Program} {ρ ρ' ρ'':xn} {h h' h'':za} {w w' w'':World} (a:Step P ρ h w ρ' h' w') (b:Step P ρ' h' w' ρ'' h'' w'') :
  Step P ρ h w ρ'' h'' w'' :=
 ⟨xn.le_trans a.le b.le,b.rel,b.ro.trans a.ro,b.os.trans a.os,b.tape.trans a.tape,b.output.trans a.output,S4 a.size b.size,
  fun c hc hn=>(b.frame c (Sq hc a.size) (fun hm=>hn (a.dY c hc hm))).trans (a.frame c hc hn),
  fun c hc hm=>a.dY c hc (b.dY c (Sq hc a.size) hm)⟩
def ql (tm:Array Value) (d:Option Nat) (v:Value):Array Value :=
 match d with
 | some d=>tm.setIfInBounds d v
 | none=>tm
theorem vN.put {ρ:xn} {s s':Env} {tm:Array Value} {d:Option Nat} {v v':Value} (h:vN ρ s tm) (hv:zI ρ v v') (hp:s.put d v=some s') :
  vN ρ s' (ql tm d v'):=by
 cases d with
 | none=>simp only [Env.put,Se] at hp;subst hp;exact h
 | some d=>
   simp only [Env.put] at hp
   cases hb:Nat.blt d s.size with
   | false=>rw [hb] at hp;cases hp
   | true=>
     rw [hb] at hp
     simp only [SA,Se] at hp
     subst hp
     have hd:d < s.size:=by simpa [S6] using hb
     refine ⟨by simp [ql,h.size],fun i => ?_⟩
     rw [Env.yD]
     simp only [ql]
     by_cases e:i=d
     ·subst e
      rw [Sn rfl]
      have:(tm.setIfInBounds i v').getD i undef=v':=by
       simp [SB,<- h.size,hd]
      rw [this];exact hv
     ·rw [Sl e]
      have:(tm.setIfInBounds d v').getD i undef=tm.getD i undef:=by
       simp [SB,Ne.symm e]
      rw [this];exact h.get i
end
end Go.Ai
namespace Go.Ai
noncomputable section
variable {P:Program}
theorem Rel.place {ρ:xn} {h:za} {w:World} (hr:Rel P ρ h w) {b:Nat} {c:List Value} {t:TypeId} {pl:Place} (hg:h.get b=some (.cells c t)) (hm:ρ.m b=some pl) :
  xr P ρ (decide (h.ro<=b)) c t pl w:=by
 obtain ⟨pl',hm',hc⟩:=hr.ok b _ hg
 rw [hm] at hm'
 cases hm'
 exact hc
theorem Rel.cells {ρ:xn} {h:za} {w:World} (hr:Rel P ρ h w) (b:Nat) (c:List Value) (t:TypeId) (hg:h.get b=some (.cells c t)):∃ pl,ρ.m b=some pl/\xr P ρ (decide (h.ro<=b)) c t pl w:=hr.ok b _ hg
theorem Rel.HA {ρ:xn} {h:za} {w:World} (hr:Rel P ρ h w) {b:Nat} {o:vi} {pl:Place} (hg:h.get b=some o) (hm:ρ.m b=some pl):vX P ρ (decide (h.ro<=b)) o pl w:=by
 obtain ⟨pl',hm',hc⟩:=hr.ok b _ hg
 rw [hm] at hm'
 cases hm'
 exact hc
theorem xr.cell {ρ:xn} {wr:Bool} {c:List Value} {t:TypeId} {pl:Place} {w:World} (hc:xr P ρ wr c t pl w) {i:Nat} {x:Value} (hx:c[i]? = some x) :
  ∃ y,w.cell? ⟨pl.c,pl.base + i,none⟩=some y/\zI ρ x y:=by
 obtain ⟨cs,fz,hb,_,_,_,_,hv⟩:=hc
 obtain ⟨y,hy,hxy⟩:=hv i x hx
 exact ⟨y,by simp [World.cell?,hb,hy],hxy⟩
theorem xr.H6 {ρ:xn} {c:List Value} {t:TypeId} {pl:Place} {w:World} (hc:xr P ρ true c t pl w) {i:Nat} (hi:i < pl.size) :
  w.frozen? ⟨pl.c,i,none⟩=false:=by
 obtain ⟨cs,fz,hb,_,_,_,hf,_⟩:=hc
 have:=hf rfl i hi
 obtain ⟨lo,hi'⟩:=fz
 simp [World.frozen?,hb] at this ⊢
 exact this
theorem xr.other {ρ:xn} {wr:Bool} {c:List Value} {t:TypeId} {pl:Place} {w w':World} (hc:xr P ρ wr c t pl w) (hb:w'.heap[pl.c]? = w.heap[pl.c]?):xr P ρ wr c t pl w':=by
 obtain ⟨cs,fz,h1,h2⟩:=hc
 exact ⟨cs,fz,hb.trans h1,h2⟩
theorem xr.mono {ρ ρ':xn} (hle:ρ.le ρ') {wr:Bool} {c:List Value} {t:TypeId} {pl:Place} {w:World} (hc:xr P ρ wr c t pl w):xr P ρ' wr c t pl w:=by
 obtain ⟨cs,fz,h1,h2,h3,h4,h5,h6⟩:=hc
 exact ⟨cs,fz,h1,h2,h3,h4,h5,fun i x hx=>by obtain ⟨y,hy,hv⟩:=h6 i x hx;exact ⟨y,hy,hv.mono hle⟩⟩
theorem xr.lt {ρ:xn} {wr:Bool} {c:List Value} {t:TypeId} {pl:Place} {w:World} (hc:xr P ρ wr c t pl w):pl.c < w.heap.size:=by
 obtain ⟨cs,fz,h1,_⟩:=hc
 rcases SC pl.c w.heap.size with h | h
 ·exact h
 ·rw [SN h] at h1;cases h1
theorem xr.Fk {ρ:xn} {c:List Value} {t:TypeId} {pl:Place} {w:World} {wr wr':Bool} (hw:wr'=true->wr=true) (hc:xr P ρ wr c t pl w):xr P ρ wr' c t pl w:=by
 obtain ⟨cs,fz,h1,h2,h3,h4,h5,h6⟩:=hc
 exact ⟨cs,fz,h1,h2,h3,h4,fun e=>h5 (hw e),h6⟩
theorem vX.other {ρ:xn} {wr:Bool} {o:vi} {pl:Place} {w w':World} (hc:vX P ρ wr o pl w) (hb:w'.heap[pl.c]? = w.heap[pl.c]?):vX P ρ wr o pl w':=by
 cases o with
 | cells c t=>exact xr.other hc hb
 | map es q=>obtain ⟨ms,h1,h2⟩:=hc;exact ⟨ms,hb.trans h1,h2⟩
 | iter m a b c=>obtain ⟨m',h1,h2⟩:=hc;exact ⟨m',hb.trans h1,h2⟩
 | siter s pos=>exact ⟨hb.trans hc.1,hc.2⟩
 | tab c=>obtain ⟨t,h1⟩:=hc;exact ⟨t,xr.other h1 hb⟩
 | loop l=>obtain ⟨tm,d,fn,h1,h2⟩:=hc;exact ⟨tm,d,fn,hb.trans h1,h2⟩
theorem vX.mono {ρ ρ':xn} (hle:ρ.le ρ') {wr:Bool} {o:vi} {pl:Place} {w:World} (hc:vX P ρ wr o pl w):vX P ρ' wr o pl w:=by
 cases o with
 | cells c t=>exact xr.mono hle hc
 | map es q=>obtain ⟨ms,h1,h2,h3⟩:=hc;exact ⟨ms,h1,h2,fun i x m hx hm=>⟨(h3 i x m hx hm).1.mono hle,(h3 i x m hx hm).2.1.mono hle,(h3 i x m hx hm).2.2⟩⟩
 | iter m a b c=>obtain ⟨m',h1,h0,h2⟩:=hc;exact ⟨m',h1,h0,h2.mono hle⟩
 | tab c=>obtain ⟨t,h1⟩:=hc;exact ⟨t,xr.mono hle h1⟩
 | siter s pos=>exact hc
 | loop l=>obtain ⟨tm,d,fn,h1,h2⟩:=hc;exact ⟨tm,d,fn,h1,h2.mono hle⟩
theorem Yy {w:World} {r:Nat} {o:Obj} (h:w.heap[r]? = some o):r < w.heap.size:=by
 rcases SC r w.heap.size with hl | hl
 ·exact hl
 ·rw [SN hl] at h;cases h
theorem vX.lt {ρ:xn} {wr:Bool} {o:vi} {pl:Place} {w:World} (hc:vX P ρ wr o pl w):pl.c < w.heap.size:=by
 cases o with
 | cells c t=>exact xr.lt hc
 | map es q=>obtain ⟨ms,h1,_⟩:=hc;exact Yy h1
 | iter m a b c=>obtain ⟨m',h1,_⟩:=hc;exact Yy h1
 | siter s pos=>exact Yy hc.1
 | tab c=>obtain ⟨t,h1⟩:=hc;exact h1.lt
 | loop l=>obtain ⟨tm,d,fn,h1,_⟩:=hc;exact Yy h1
theorem vX.Fk {ρ:xn} {o:vi} {pl:Place} {w:World} {wr wr':Bool} (hw:wr'=true->wr=true) (hc:vX P ρ wr o pl w):vX P ρ wr' o pl w:=by
 cases o with
 | cells c t=>exact xr.Fk hw hc
 | map es q=>exact hc
 | tab c=>exact hc
 | iter m a b c=>exact hc
 | siter s pos=>exact hc
 | loop l=>exact hc
theorem Rel.drop {ρ:xn} {h:za} {w:World} (hr:Rel P ρ h w) (b:Nat):Rel P ρ (h.set b none) w:=by
 have hsub:∀ x o,(h.set b none).get x=some o->h.get x=some o:=by
  intro x o hx
  rw [za.yD] at hx
  split at hx
  ·cases hx
  ·exact hx
 exact ⟨hr.next,hr.ro,fun x o hx=>hr.UL x o (hsub x o hx),fun x o hx=>hr.ok x o (hsub x _ hx),
  fun b1 b2 o1 o2 p1 p2 h1 h2=>hr.inj b1 b2 o1 o2 p1 p2 (hsub _ _ h1) (hsub _ _ h2),hr.cN,hr.Z7⟩
theorem Step.Ci {ρ:xn} {h:za} {w w':World} (hr:Rel P ρ h w) {b:Nat} {ob ob':vi} {pl:Place} (hg:h.get b=some ob) (hm:ρ.m b=some pl) (hro:h.ro<=b)
  (hok:vX P ρ true ob' pl w') (hos:w'.os=w.os) (htape:w'.tape=w.tape) (hout:w'.output=w.output) (hsz:w'.heap.size=w.heap.size)
  (hfr:∀ k,k ≠ pl.c->w'.heap[k]? = w.heap[k]?):Step P ρ h w ρ (h.set b (some ob')) w':=by
 have hold:∀ x o,(h.set b (some ob')).get x=some o->∃ o',h.get x=some o':=by
  intro x o hx
  rw [za.yD] at hx
  split at hx
  ·rename_i e;subst e;exact ⟨_,hg⟩
  ·exact ⟨o,hx⟩
 refine ⟨xn.le_refl _,⟨hr.next,hr.ro,?_,?_,?_,hr.cN,hr.Z7⟩,rfl,hos,htape,hout,by omega,?_,?_⟩
 ·intro x o hx
  obtain ⟨o',ho'⟩:=hold x o hx
  exact hr.UL x o' ho'
 ·intro x ox hx
  rw [za.yD] at hx
  split at hx
  ·rename_i e;subst e;cases hx;exact ⟨pl,hm,hok.Fk (fun _=>rfl)⟩
  ·rename_i e
   obtain ⟨p,hp,hc⟩:=hr.ok x ox hx
   refine ⟨p,hp,hc.other (hfr _ ?_)⟩
   intro e2
   exact e (hr.inj x b _ _ p pl hx hg hp hm e2)
 ·intro b1 b2 o1 o2 p1 p2 h1 h2
  obtain ⟨o1',h1'⟩:=hold _ _ h1
  obtain ⟨o2',h2'⟩:=hold _ _ h2
  exact hr.inj b1 b2 o1' o2' p1 p2 h1' h2'
 ·intro k hk hn
  refine hfr k ?_
  intro e
  exact hn ⟨b,_,pl,hg,hro,hm,e.symm⟩
 ·rintro k hk ⟨x,o,p,hx,hrx,hp,hpc⟩
  obtain ⟨o',ho'⟩:=hold x o hx
  exact ⟨x,o',p,ho',hrx,hp,hpc⟩
theorem Step.write {ρ:xn} {h:za} {w w':World} (hr:Rel P ρ h w) {b:Nat} {c c':List Value} {t:TypeId} {pl:Place} (hg:h.get b=some (.cells c t)) (hm:ρ.m b=some pl) (hro:h.ro<=b)
  (hok:xr P ρ true c' t pl w') (hos:w'.os=w.os) (htape:w'.tape=w.tape) (hout:w'.output=w.output) (hsz:w'.heap.size=w.heap.size)
  (hfr:∀ k,k ≠ pl.c->w'.heap[k]? = w.heap[k]?):Step P ρ h w ρ (h.set b (some (.cells c' t))) w' :=
 Step.Ci hr hg hm hro (ob' := .cells c' t) hok hos htape hout hsz hfr
theorem size_setCell (w:World) (a:Addr) (v:Value):(w.setCell a v).heap.size=w.heap.size:=by simp [World.setCell]
theorem UN (w:World) (a:Addr) (v:Value) (k:Nat) (h:k ≠ a.block):(w.setCell a v).heap[k]? = w.heap[k]?:=RowKit.Below.heap_setCell w a v k h
theorem xr.setCell {ρ:xn} {wr:Bool} {c:List Value} {t:TypeId} {pl:Place} {w:World} (hc:xr P ρ wr c t pl w) {i:Nat} {v v':Value} (hi:i < c.length) (hv:zI ρ v v') :
  xr P ρ wr (c.set i v) t pl (w.setCell ⟨pl.c,pl.base + i,none⟩ v'):=by
 obtain ⟨cs,fz,h1,h2,h3,h4,h5,h6⟩:=hc
 refine ⟨cs.setIfInBounds (pl.base + i) v',fz,?_,by simpa using h2,h3,by simpa using h4,h5,?_⟩
 ·simp [World.setCell,Array.getElem?_modify,h1]
 ·intro j x hx
  by_cases e:j=i
  ·subst e
   rw [Tj hi] at hx
   cases hx
   exact ⟨v',by rw [Tc,Sn rfl,Sn (by omega)],hv⟩
  ·rw [TA (fun h=>e h.symm)] at hx
   obtain ⟨y,hy,hxy⟩:=h6 j x hx
   exact ⟨y,by rw [Tc,Sl (by omega)];exact hy,hxy⟩
theorem iW {ρ:xn} {h:za} {w:World} (hr:Rel P ρ h w) {b:Nat} {c:List Value} {t:TypeId} {pl:Place} (hg:h.get b=some (.cells c t)) (hm:ρ.m b=some pl) (hro:h.ro<=b)
  {i:Nat} (hi:i < c.length) {v v':Value} (hv:zI ρ v v') (hcell:wZ v=true) :
  (store ⟨pl.c,pl.base + i,none⟩ v').run P w = .ok () (w.setCell ⟨pl.c,pl.base + i,none⟩ v') /\
   Step P ρ h w ρ (h.set b (some (.cells (c.set i v) t))) (w.setCell ⟨pl.c,pl.base + i,none⟩ v'):=by
 have hc:=hr.place hg hm
 rw [show decide (h.ro<=b)=true by simpa using hro] at hc
 obtain ⟨y,hy,_⟩:=hc.cell (i:=i) (Sk hi)
 have hsz:pl.base + i < pl.size:=by obtain ⟨cs,fz,_,h2,_,h4,_⟩:=hc;omega
 have hone:v'.oneCell'=true:=by have:=gH hv;rw [hcell] at this;cases v' <;> simp_all [wZ,Value.oneCell']
 refine ⟨?_,Step.write hr hg hm hro (hc.setCell hi hv) rfl rfl rfl (size_setCell _ _ _) (fun k hk=>UN _ _ _ _ hk)⟩
 rw [run_store _ _ _ _ _ hone,hy]
 simp [hc.H6 hsz]
def zf (c:List Value) (i:Nat):List Value->List Value
 | []=>c
 | v :: vs=>zf (c.set i v) (i + 1) vs
theorem jk (vs:List Value):∀ (c:List Value) (i:Nat),(zf c i vs).length=c.length:=by
 induction vs with
 | nil=>intro c i;rfl
 | cons v vs ih=>intro c i;simp [zf,ih]
theorem za.set_set (h:za) (b:Nat) (x y:Option vi) (k:Nat):((h.set b x).set b y).get k=(h.set b y).get k:=by
 simp only [za.yD];split <;> rfl
structure N2 (h h':za):Prop where
 next:h'.next=h.next
 ro:h'.ro=h.ro
 get:∀ b,h'.get b=h.get b
theorem Rel.same {ρ:xn} {h h':za} {w:World} (hr:Rel P ρ h w) (e:N2 h h'):Rel P ρ h' w :=
 ⟨hr.next.trans e.next.symm,by rw [e.ro,e.next];exact hr.ro,fun b o hb=>by rw [e.next];exact hr.UL b o ((e.get b) ▸ hb),
  fun b o hb=>by rw [e.ro];exact hr.ok b o ((e.get b) ▸ hb),
  fun b1 b2 o1 o2 p1 p2 h1 h2=>hr.inj b1 b2 o1 o2 p1 p2 ((e.get b1) ▸ h1) ((e.get b2) ▸ h2),by rw [e.ro];exact hr.cN,hr.Z7⟩
theorem Step.same {ρ ρ':xn} {h h' h'':za} {w w':World} (s:Step P ρ h w ρ' h' w') (e:N2 h' h''):Step P ρ h w ρ' h'' w' :=
 ⟨s.le,s.rel.same e,e.ro.trans s.ro,s.os,s.tape,s.output,s.size,s.frame,fun c hc hm=>s.dY c hc (by
  obtain ⟨b,o,pl,hb,hro,hp⟩:=hm
  exact ⟨b,o,pl,by rw [<- e.get];exact hb,by rw [<- e.ro];exact hro,hp⟩)⟩
theorem jY (c o i:Nat):(Addr.mk c o none).add i=⟨c,o + i,none⟩:=by
 unfold Addr.add
 split
 ·rename_i h;subst h;rfl
 ·rfl
theorem Qw {ρ:xn} {t:TypeId} {pl:Place} {b:Nat} {o:Nat} (hm:ρ.m b=some pl):∀ (vs vs':List Value) (h:za) (w:World) (c:List Value) (j:Nat),Rel P ρ h w->h.get b=some (.cells c t)->h.ro<=b ->
  o + j + vs.length<=c.length->wz ρ vs vs'->(∀ x ∈ vs,wZ x=true) ->
  ∃ w',(storeCells ⟨pl.c,pl.base + o,none⟩ vs' j).run P w = .ok () w'/\Step P ρ h w ρ (h.set b (some (.cells (zf c (o + j) vs) t))) w':=by
 intro vs
 induction vs with
 | nil=>
   intro vs' h w c j hr hg hro hl hv hcell
   cases hv.uL
   refine ⟨w,rfl,(Step.refl hr).same ⟨rfl,rfl,fun x => ?_⟩⟩
   rw [za.yD];split
   ·rename_i e;subst e;exact hg.symm
   ·rfl
 | cons v vs ih=>
   intro vs' h w c j hr hg hro hl hv hcell
   obtain ⟨v',vs'',rfl,hv1,hv2⟩:=hv.cons_inv
   simp only [SD] at hl
   obtain ⟨e1,s1⟩:=iW hr hg hm hro (i:=o + j) (by omega) hv1 (hcell v (by simp))
   obtain ⟨w',e2,s2⟩:=ih vs'' _ _ (c.set (o + j) v) (j + 1) s1.rel (by rw [za.yD,Sn rfl]) hro (by simp;omega) hv2 (fun x hx=>hcell x (by simp [hx]))
   refine ⟨w',?_,(s1.trans s2).same ⟨rfl,rfl,fun x => ?_⟩⟩
   ·simp only [storeCells,jY,Sj,aah] at e1 ⊢
    rw [e1];exact e2
   ·rw [za.set_set];rfl
def xn.ext (ρ:xn) (pl:Place):xn:={ next:=ρ.next + 1,m:=fun b=>if b=ρ.next then some pl else ρ.m b }
theorem xn.cQ (ρ:xn) (pl:Place):ρ.le (ρ.ext pl):=⟨TR _,fun _ hb=>Sl (Nat.ne_of_lt hb)⟩
theorem xn.kD (ρ:xn) (pl:Place):(ρ.ext pl).m ρ.next=some pl:=Sn rfl
theorem Rel.Kb {ρ:xn} {h:za} {w:World} (hr:Rel P ρ h w) {ob:vi} {pl:Place} (hc:vX P (ρ.ext pl) true ob pl w)
  (hfresh:∀ b o p,h.get b=some o->ρ.m b=some p->p.c ≠ pl.c):Rel P (ρ.ext pl) (h.push ob) w:=by
 have hle:=ρ.cQ pl
 have hcase:∀ x o,(h.push ob).get x=some o->(x=h.next/\o=ob)\/(x < h.next/\h.get x=some o):=by
  intro x o hx
  rw [za.uA] at hx
  split at hx
  ·rename_i e;cases hx;exact .inl ⟨e,rfl⟩
  ·exact .inr ⟨hr.UL x o hx,hx⟩
 have hold:∀ x,x < h.next->(ρ.ext pl).m x=ρ.m x:=fun x hx=>hle.2 x (by rw [hr.next];exact hx)
 have hnew:(ρ.ext pl).m h.next=some pl:=by rw [<- hr.next];exact ρ.kD pl
 refine ⟨by show ρ.next + 1=h.next + 1;rw [hr.next],S4 hr.ro (TR _),?_,?_,?_,hr.cN,fun b p hb hm=>hr.Z7 b p hb (by rw [<- hold b (Sq hb (S4 hr.cN hr.ro))];exact hm)⟩
 ·intro x o hx
  rcases hcase x o hx with ⟨e,_⟩ | ⟨hlt,_⟩
  ·subst e;exact Tv _
  ·exact aas hlt
 ·intro x ox hx
  rcases hcase x _ hx with ⟨e,eo⟩ | ⟨hlt,hx'⟩
  ·cases eo;subst e
   exact ⟨pl,hnew,hc.Fk (fun _=>rfl)⟩
  ·obtain ⟨p,hp,hcx⟩:=hr.ok x ox hx'
   exact ⟨p,(hold x hlt).trans hp,hcx.mono hle⟩
 ·intro b1 b2 o1 o2 p1 p2 h1 h2 m1 m2 e
  rcases hcase b1 o1 h1 with ⟨e1,_⟩ | ⟨l1,g1⟩ <;> rcases hcase b2 o2 h2 with ⟨e2,_⟩ | ⟨l2,g2⟩
  ·omega
  ·subst e1
   rw [hnew] at m1;cases m1
   rw [hold _ l2] at m2
   exact absurd e.symm (hfresh b2 o2 p2 g2 m2)
  ·subst e2
   rw [hnew] at m2;cases m2
   rw [hold _ l1] at m1
   exact absurd e (hfresh b1 o1 p1 g1 m1)
  ·rw [hold _ l1] at m1;rw [hold _ l2] at m2
   exact hr.inj b1 b2 o1 o2 p1 p2 g1 g2 m1 m2 e
theorem Rel.push {ρ:xn} {h:za} {w:World} (hr:Rel P ρ h w) {c:List Value} {t:TypeId} {pl:Place} (hc:xr P (ρ.ext pl) true c t pl w)
  (hfresh:∀ b o p,h.get b=some o->ρ.m b=some p->p.c ≠ pl.c):Rel P (ρ.ext pl) (h.push (.cells c t)) w:=hr.Kb (ob := .cells c t) hc hfresh
theorem Rel.grow {ρ:xn} {h:za} {w w':World} (hr:Rel P ρ h w) (hold:∀ k,k < w.heap.size->w'.heap[k]? = w.heap[k]?):Rel P ρ h w' :=
 ⟨hr.next,hr.ro,hr.UL,fun b o hb=>by obtain ⟨pl,hp,hc⟩:=hr.ok b o hb;exact ⟨pl,hp,hc.other (hold _ hc.lt)⟩,hr.inj,hr.cN,hr.Z7⟩
theorem Step.Kb {ρ:xn} {h:za} {w w':World} (hr:Rel P ρ h w) {ob:vi} {pl:Place} {wo:Obj} (hpl:pl.c=w.heap.size)
  (hnew:w'.heap=w.heap.push wo) (hok:vX P (ρ.ext pl) true ob pl w')
  (hos:w'.os=w.os) (htape:w'.tape=w.tape) (hout:w'.output=w.output) :
  Step P ρ h w (ρ.ext pl) (h.push ob) w':=by
 have hold:∀ k,k < w.heap.size->w'.heap[k]? = w.heap[k]?:=by
  intro k hk;rw [hnew,Array.getElem?_push,Sl (by omega)]
 have hle:=ρ.cQ pl
 have hr':=hr.grow hold
 refine ⟨hle,hr'.Kb hok ?_,rfl,hos,htape,hout,by rw [hnew];simp,fun k hk _=>hold k hk,?_⟩
 ·intro b o p hg hm e
  obtain ⟨p',hp',hcx⟩:=hr.ok b o hg
  rw [hm] at hp';cases hp'
  have:=hcx.lt
  omega
 ·rintro k hk ⟨b,o,p,hg,hro,hm,e⟩
  rw [za.uA] at hg
  split at hg
  ·rename_i eb
   subst eb
   rw [<- hr.next,xn.kD] at hm
   cases hm
   omega
  ·have hlt:=hr.UL b o hg
   refine ⟨b,o,p,hg,hro,?_,e⟩
   rw [<- hm]
   exact (hle.2 b (by rw [hr.next];exact hlt)).symm
theorem Step.push {ρ:xn} {h:za} {w w':World} (hr:Rel P ρ h w) {c:List Value} {t:TypeId} {cs:Array Value} {fz:Nat × Nat}
  (hnew:w'.heap=w.heap.push (.cells cs t fz)) (hfz:∀ i,i < cs.size->¬(fz.1<=i/\i < fz.2)) (hlen:c.length<=cs.size) (hv:∀ (i:Nat) x,c[i]? = some x->∃ y,cs[i]? = some y/\zI ρ x y)
  (hos:w'.os=w.os) (htape:w'.tape=w.tape) (hout:w'.output=w.output) :
  Step P ρ h w (ρ.ext ⟨w.heap.size,0,cs.size,P.cellsOf t⟩) (h.push (.cells c t)) w':=by
 refine Step.Kb hr (ob := .cells c t) rfl hnew ⟨cs,fz,by rw [hnew];simp,rfl,⟨rfl,Nat.zero_mod _⟩,by simpa using hlen,fun _=>hfz,?_⟩ hos htape hout
 intro i x hx
 obtain ⟨y,hy,hxy⟩:=hv i x hx
 exact ⟨y,by simpa using hy,hxy.mono (ρ.cQ _)⟩
theorem Jn {ρ:xn} {h:za} {w:World} (hr:Rel P ρ h w) {c:List Value} {t:TypeId} {cs:Array Value} (hlen:c.length<=cs.size) (hv:∀ (i:Nat) x,c[i]? = some x->∃ y,cs[i]? = some y/\zI ρ x y) :
  (newRow t cs).run P w = .ok ⟨w.heap.size,0,none⟩ { w with heap:=w.heap.push (.cells cs t) } /\
   Step P ρ h w (ρ.ext ⟨w.heap.size,0,cs.size,P.cellsOf t⟩) (h.push (.cells c t)) { w with heap:=w.heap.push (.cells cs t) } :=
 ⟨rfl,Step.push hr rfl (fun i _ hi=>by simp at hi) hlen hv rfl rfl rfl⟩
theorem zI.new {ρ:xn} {h:za} {w:World} (hr:Rel P ρ h w) (pl:Place) (hb:pl.base=0):zI (ρ.ext pl) (.pointer (some ⟨h.next,0,none⟩)) (.pointer (some ⟨pl.c,0,none⟩)):=by
 have:=zI.ptr (ρ:=ρ.ext pl) (b:=h.next) (off:=0) (pl:=pl) (by show h.next < ρ.next + 1;rw [hr.next];exact Tv _) (by rw [<- hr.next];exact ρ.kD pl)
 rw [hb] at this
 exact this
theorem jl {ρ:xn} {wr:Bool} {c:List Value} {t:TypeId} {pl:Place} {w:World} (hc:xr P ρ wr c t pl w) (o n:Nat) (h:o + n<=c.length) :
  ∃ ys:List Value,(loadCells ⟨pl.c,pl.base + o,none⟩ n).run P w = .ok ys.toArray w/\wz ρ ((c.drop o).take n) ys:=by
 obtain ⟨cs,fz,h1,h2,h3,h4,h5,h6⟩:=hc
 refine ⟨((cs.toList.drop (pl.base + o)).take n),?_,?_,?_⟩
 ·have hlen:((cs.toList.drop (pl.base + o)).take n).length=n:=by simp;omega
  have:=run_loadCells_list (P:=P) w ⟨pl.c,pl.base + o,none⟩ ((cs.toList.drop (pl.base + o)).take n) (fun j v hj=>by
   have hjn:j < n:=by
    rcases SC j n with h | h
    ·exact h
    ·rw [Sr (by omega)] at hj;cases hj
   rw [Td hjn,S5] at hj
   rw [jY]
   simp [World.cell?,h1]
   simpa using hj)
  rw [hlen] at this
  exact this
 ·simp;omega
 ·intro i x y hx hy
  have hi:i < n:=by
   rcases SC i n with h | h
   ·exact h
   ·rw [Sr (by simp;omega)] at hx;cases hx
  rw [Td hi,S5] at hx hy
  obtain ⟨y',hy',hxy⟩:=h6 _ _ hx
  have:y=y':=by
   have e:pl.base + (o + i)=pl.base + o + i:=by omega
   rw [e] at hy'
   have hy2:cs[pl.base + o + i]? = some y:=by simpa using hy
   rw [hy2] at hy';cases hy';rfl
  rw [this];exact hxy
end
noncomputable section
def z9 {α:Type} (P:Program):Sem α->Option α
 | .pure a=>some a
 | .program k=>z9 P (k P)
 | _=>none
theorem zj {α:Type} {P:Program} {s:Sem α} {a:α} (h:z9 P s=some a) (w:World):s.run P w = .ok a w:=by
 induction s with
 | pure b=>simp only [z9,Se] at h;subst h;rfl
 | program k ih=>simp only [z9] at h;exact ih P h
 | _=>cases h
def flat:Value->Bool
 | .agg a=>a.toList.all plain
 | v=>plain v
theorem t8 {ρ:xn} {v v':Value} (h:zI ρ v v') (hp:plain v=true):v'=v:=by
 cases h with
 | pZ h=>cases hp
 | bool | int | float | string | ptrNil | nilFunc | nilIface | mapNil=>rfl
 | ptr | Z7 | slice | sliceOut | iface | agg | map | yield=>simp [plain] at hp
 | sliceNil c=>simp only [plain,Sm] at hp;obtain rfl:=Sv hp.2;rfl
 | func ha hc _ _=>
   simp only [plain,Sm] at hp
   obtain rfl:=W5 hp.1
   obtain rfl:=W5 hp.2
   rw [TP ha.symm,TP hc.symm]
 | tuple ha _=>
   obtain rfl:=W5 hp
   rw [TP ha.symm]
theorem iA {xs ys:List Value} (hl:xs.length=ys.length) (h:∀ (i:Nat) x y,xs[i]? = some x->ys[i]? = some y->y=x):ys=xs:=by
 apply TK
 intro i
 rcases SC i xs.length with hi | hi
 ·rw [Sk hi,Sk (hl ▸ hi)]
  congr 1
  exact h i _ _ (Sk hi) (Sk (hl ▸ hi))
 ·rw [Sr hi,Sr (by omega)]
theorem kF {ρ:xn} {v v':Value} (h:zI ρ v v') (hp:flat v=true):v'=v:=by
 cases h with
 | agg ha hv=>
   rename_i a a'
   simp only [flat,SV] at hp
   congr 1
   apply T7
   refine iA (by simpa using ha) (fun i x y hx hy => ?_)
   exact t8 (hv i x y (by simpa using hx) (by simpa using hy)) (hp x (S7 hx))
 | _=>first | rfl | exact t8 (ρ:=ρ) (by constructor <;> assumption) hp
theorem zI.of_flat (ρ:xn) {v:Value} (h:flat v=true):zI ρ v v:=by
 cases v with
 | agg a=>
   simp only [flat,SV] at h
   exact .agg rfl (fun i x y hx hy=>by
    rw [hx] at hy;cases hy
    exact .Zw ρ (h x (S7 (by simpa using hx))))
 | _=>exact .Zw ρ h
def jb (s:Env):Operand->Option Value
 | .tmp t=>some (s.get t)
 | .const v=>cond (flat v) (some v) none
 | .global g=>some (.pointer (some ⟨g,0,some 0⟩))
 | .func f=>some (.func (.func f) #[] #[])
theorem zV {ρ:xn} {s:Env} {a:Act} (hs:vN ρ s a.tmps) {x:Operand} {v:Value} (h:jb s x=some v):zI ρ v (a.eval x):=by
 cases x with
 | tmp t=>simp only [jb,Se] at h;subst h;exact hs.get t
 | const c=>
   simp only [jb] at h
   cases hf:flat c with
   | false=>rw [hf] at h;cases h
   | true=>rw [hf] at h;simp only [SA,Se] at h;subst h;exact .of_flat ρ hf
 | global g=>simp only [jb,Se] at h;subst h;exact .Z7
 | func f=>simp only [jb,Se] at h;subst h;exact .Zw ρ rfl
def VC (s:Env):List Operand->Option (List Value)
 | []=>some []
 | x :: xs=>match jb s x with
   | none=>none
   | some v=>match VC s xs with
     | none=>none
     | some vs=>some (v :: vs)
theorem jS {ρ:xn} {s:Env} {a:Act} (hs:vN ρ s a.tmps):∀ {xs:List Operand} {vs:List Value},VC s xs=some vs->wz ρ vs (xs.map a.eval)
 | [],vs,h=>by simp only [VC,Se] at h;subst h;exact .nil ρ
 | x :: xs,vs,h=>by
   simp only [VC] at h
   split at h
   ·cases h
   ·rename_i v hv
    split at h
    ·cases h
    ·rename_i vs' hvs
     simp only [Se] at h
     subst h
     exact .cons (zV hs hv) (jS hs hvs)
theorem zI.cells {ρ:xn} {v v':Value} (h:zI ρ v v'):wz ρ v.cells.toList v'.cells.toList:=by
 cases h with
 | agg ha hv=>exact ⟨by simpa [Value.cells] using ha,fun i x y hx hy=>hv i x y (by simpa [Value.cells] using hx) (by simpa [Value.cells] using hy)⟩
 | pZ h=>cases v' <;> first | exact .cons (.pZ h) (.nil ρ) | cases h
 | _=>exact .cons (by constructor <;> assumption) (.nil ρ)
def apart (P:Program) (t:TypeId) (cs:List Value) (off:Nat):Option Value :=
 match z9 P (isAgg t) with
 | none=>none
 | some true=>(match z9 P (sizeOf t) with
   | none=>none
   | some n=>some (.agg ((cs.drop off).take n).toArray))
 | some false=>cs[off]?
theorem sJ {P:Program} {ρ:xn} {t:TypeId} {cs:List Value} {cs':Array Value} {off:Nat} {v:Value} (h:apart P t cs off=some v) (hc:wz ρ cs cs'.toList) (w:World) :
  ∃ v',(part t cs' off).run P w = .ok v' w/\zI ρ v v':=by
 simp only [apart] at h
 split at h
 ·cases h
 ·rename_i hagg
  split at h
  ·cases h
  ·rename_i n hn
   simp only [Se] at h
   subst h
   refine ⟨_,by simp only [part,Sj,zj hagg,Sg,Sf,zj hn,Ss];rfl,?_⟩
   refine .agg ?_ ?_
   ·simp only [List.size_toArray,aak,T9,Array.size_extract,hc.1,Tz];omega
   ·intro i x y hx hy
    rw [TS] at hx
    rw [Array.getElem?_extract] at hy
    split at hy
    ·rename_i hi
     rw [Td (by omega),S5] at hx
     exact hc.2 _ _ _ hx (by simpa using hy)
    ·cases hy
 ·rename_i hagg
  obtain ⟨y,hy,hxy⟩:=hc.get h
  refine ⟨y,?_,hxy⟩
  have hy':cs'[off]? = some y:=by simpa using hy
  simp only [part,Sj,zj hagg,Sg,Ti,Sx,hy',Ss]
def zd (P:Program) (t:TypeId) (a:Value) (h:za):Option Value :=
 match a with
 | .pointer (some ⟨b,off,none⟩)=>(match h.get b with
   | none=>none
   | some (.cells c _)=>(match z9 P (isAgg t) with
     | none=>none
     | some true=>(match z9 P (sizeOf t) with
       | none=>none
       | some n=>cond (Nat.ble (off + n) c.length) (some (.agg ((c.drop off).take n).toArray)) none)
     | some false=>c[off]?)
   | some _=>none)
 | .pointer (some ⟨b,off,some 0⟩)=>cond (Nat.blt b P.globals.size) (match h.get b with
   | none=>none
   | some (.tab c)=>(match z9 P (isAgg t) with
     | none=>none
     | some true=>(match z9 P (sizeOf t) with
       | none=>none
       | some n=>cond (Nat.ble (off + n) c.length) (some (.agg ((c.drop off).take n).toArray)) none)
     | some false=>c[off]?)
   | some _=>none) none
 | _=>none
theorem dD {P:Program} {ρ:xn} {t:TypeId} {a a':Value} {h:za} {v:Value} {w:World} (he:zd P t a h=some v) (hr:Rel P ρ h w) (ha:zI ρ a a') :
  ∃ v',(Instr.loadAt t a').run P w = .ok v' w/\zI ρ v v':=by
 unfold zd at he
 split at he
 ·rename_i b off
  cases ha with
  | ptr hb hm=>
    rename_i pl
    split at he
    ·cases he
    ·rename_i c t' hg
     have hc:=hr.place hg hm
     split at he
     ·cases he
     ·rename_i hagg
      split at he
      ·cases he
      ·rename_i n hn
       cases hle:Nat.ble (off + n) c.length with
       | false=>rw [hle] at he;cases he
       | true=>
         rw [hle] at he
         simp only [SA,Se] at he
         subst he
         obtain ⟨ys,hys,hv⟩:=jl hc off n (SH hle)
         refine ⟨.agg ys.toArray,?_,.agg (by simpa using hv.1) (fun i x y hx hy=>hv.2 i x y (by simpa using hx) (by simpa using hy))⟩
         simp only [Instr.loadAt,Instr.sureAddr,loadVar,Sj,Ss,Sg,zj hagg,Sf,zj hn,hys]
     ·rename_i hagg
      obtain ⟨y,hy,hxy⟩:=hc.cell he
      refine ⟨y,?_,hxy⟩
      simp only [Instr.loadAt,Instr.sureAddr,loadVar,Sj,Ss,Sg,zj hagg,Ti,Sx,run_load,hy]
    ·cases he
 ·rename_i b off
  cases ha with
  | Z7=>
    cases hbl:Nat.blt b P.globals.size with
    | false=>rw [hbl] at he;cases he
    | true=>
      rw [hbl] at he
      simp only [SA] at he
      have hbl:b < P.globals.size:=by simpa [S6] using hbl
      split at he
      ·cases he
      ·rename_i c hg
       obtain ⟨pl,hm,t',hc⟩:=hr.ok b _ hg
       obtain ⟨q1,q2⟩:=hr.Z7 b pl hbl hm
       split at he
       ·cases he
       ·rename_i hagg
        split at he
        ·cases he
        ·rename_i n hn
         cases hle:Nat.ble (off + n) c.length with
         | false=>rw [hle] at he;cases he
         | true=>
           rw [hle] at he
           simp only [SA,Se] at he
           subst he
           obtain ⟨ys,hys,hv⟩:=jl hc off n (SH hle)
           simp only [q1,q2,Sy] at hys
           refine ⟨.agg ys.toArray,?_,.agg (by simpa using hv.1) (fun i x y hx hy=>hv.2 i x y (by simpa using hx) (by simpa using hy))⟩
           simp only [Instr.loadAt,Instr.sureAddr,loadVar,Sj,Ss,Sg,zj hagg,Sf,zj hn,hys]
       ·rename_i hagg
        obtain ⟨y,hy,hxy⟩:=hc.cell he
        simp only [q1,q2,Sy] at hy
        refine ⟨y,?_,hxy⟩
        simp only [Instr.loadAt,Instr.sureAddr,loadVar,Sj,Ss,Sg,zj hagg,Ti,Sx,run_load,hy]
      ·cases he
 ·cases he
def zl (P:Program) (t:TypeId) (a v:Value) (h:za):Option za :=
 match a with
 | .pointer (some ⟨b,off,none⟩)=>(match h.get b with
   | none=>none
   | some (.cells c t')=>(match z9 P (sizeOf t) with
     | none=>none
     | some n=>cond (Nat.beq v.cells.size n && Nat.ble (off + n) c.length && Nat.ble h.ro b && v.cells.toList.all wZ) (some (h.set b (some (.cells (zf c off v.cells.toList) t')))) none)
   | some _=>none)
 | _=>none
theorem oV {P:Program} {ρ:xn} {t:TypeId} {a a' v v':Value} {h h':za} {w:World} (he:zl P t a v h=some h') (hr:Rel P ρ h w) (ha:zI ρ a a') (hv:zI ρ v v') :
  ∃ w',(Instr.storeAt t a' v').run P w = .ok () w'/\Step P ρ h w ρ h' w':=by
 unfold zl at he
 split at he
 ·rename_i b off
  cases ha with
  | ptr hb hm=>
    rename_i pl
    split at he
    ·cases he
    ·rename_i c t' hg
     split at he
     ·cases he
     ·rename_i n hn
      cases hc:(Nat.beq v.cells.size n && Nat.ble (off + n) c.length && Nat.ble h.ro b && v.cells.toList.all wZ) with
      | false=>rw [hc] at he;cases he
      | true=>
        rw [hc] at he
        simp only [SA,Se] at he
        subst he
        simp only [Sm,SV] at hc
        obtain ⟨⟨⟨h1,h2⟩,h3⟩,h4⟩:=hc
        have h1:=Sv h1
        have h2:=SH h2
        have h3:=SH h3
        have hcells:=hv.cells
        have hsz:v'.cells.size=n:=by have:=hcells.1;simp only [Tz] at this;omega
        obtain ⟨w',e,st⟩:=Qw (o:=off) hm v.cells.toList v'.cells.toList h w c 0 hr hg h3 (by simp only [Tz];omega) hcells h4
        refine ⟨w',?_,st⟩
        simp only [Instr.storeAt,Instr.sureAddr,storeVar,Sj,Ss,Sg,zj hn,aam,hsz]
        simp only [ne_eq,not_true,Sx]
        exact e
    ·cases he
 ·cases he
def zb (P:Program) (s:TypeId) (a:Value) (i:Nat):Option Value :=
 match a with
 | .pointer (some ⟨b,off,none⟩)=>(match z9 P (underlying s) with
   | some (.struct fields)=>(match fields[i]? with
     | none=>none
     | some f=>(match z9 P (sizeOf f.type) with
       | none=>none
       | some n=>cond (Nat.beq n 0) none (some (.pointer (some ⟨b,off + f.offset,none⟩)))))
   | _=>none)
 | .pointer (some ⟨b,off,some 0⟩)=>(match z9 P (underlying s) with
   | some (.struct fields)=>(match fields[i]? with
     | none=>none
     | some f=>(match z9 P (sizeOf f.type) with
       | none=>none
       | some n=>cond (Nat.beq n 0) none (some (.pointer (some ⟨b,off + f.offset,some 0⟩)))))
   | _=>none)
 | _=>none
theorem oO {P:Program} {ρ:xn} {s:TypeId} {a a' v:Value} {i:Nat} (he:zb P s a i=some v) (ha:zI ρ a a') (w:World) :
  ∃ v',(Instr.fieldAt s a' i).run P w = .ok v' w/\zI ρ v v':=by
 unfold zb at he
 split at he
 ·rename_i b off
  cases ha with
  | ptr hb hm=>
    rename_i pl
    split at he
    ·rename_i fields hu
     split at he
     ·cases he
     ·rename_i f hf
      split at he
      ·cases he
      ·rename_i n hn
       cases hz:Nat.beq n 0 with
       | true=>rw [hz] at he;cases he
       | false=>
         rw [hz] at he
         simp only [SK,Se] at he
         subst he
         have hne:n ≠ 0:=by intro e;subst e;simp at hz
         refine ⟨.pointer (some ⟨pl.c,pl.base + (off + f.offset),none⟩),?_,.ptr hb hm⟩
         simp only [Instr.fieldAt,Instr.sureAddr,fieldPlace,Sj,Ss,Sg,zj hu,hf,zj hn,aam,Sl hne,jY,aah]
    ·cases he
 ·rename_i b off
  cases ha with
  | Z7=>
    split at he
    ·rename_i fields hu
     split at he
     ·cases he
     ·rename_i f hf
      split at he
      ·cases he
      ·rename_i n hn
       cases hz:Nat.beq n 0 with
       | true=>rw [hz] at he;cases he
       | false=>
         rw [hz] at he
         simp only [SK,Se] at he
         subst he
         have hne:n ≠ 0:=by intro e;subst e;simp at hz
         refine ⟨.pointer (some ⟨b,off + f.offset,none⟩),?_,.Z7⟩
         simp only [Instr.fieldAt,Instr.sureAddr,fieldPlace,Sj,Ss,Sg,zj hu,hf,zj hn,aam,Sl hne,jY]
    ·cases he
 ·cases he
def zA (P:Program) (t:TypeId) (x ix:Value):Option Value :=
 match ix with
 | .int _ i=>(match z9 P (underlying t),x with
   | some (.array len elem),.pointer (some ⟨b,off,none⟩)=>(match z9 P (sizeOf elem) with
     | none=>none
     | some n=>cond (decide (0<=i) && decide (i < len)) (some (.pointer (some ⟨b,off + i.toNat * n,none⟩))) none)
   | some (.array len elem),.pointer (some ⟨b,off,some 0⟩)=>(match z9 P (sizeOf elem) with
     | none=>none
     | some n=>cond (decide (0<=i) && decide (i < len)) (some (.pointer (some ⟨b,off + i.toNat * n,some 0⟩))) none)
   | some (.slice elem),.slice (some ⟨b,off,none⟩) len _=>(match z9 P (sizeOf elem) with
     | none=>none
     | some n=>cond (decide (0<=i) && decide (i < len)) (some (.pointer (some ⟨b,off + i.toNat * n,none⟩))) none)
   | _,_=>none)
 | _=>none
theorem oP {P:Program} {ρ:xn} {t:TypeId} {x x' ix ix' v:Value} (he:zA P t x ix=some v) (hx:zI ρ x x') (hi:zI ρ ix ix') (w:World) :
  ∃ v',(Instr.indexAt t x' ix').run P w = .ok v' w/\zI ρ v v':=by
 unfold zA at he
 split at he
 ·rename_i k i
  cases hi
  split at he
  ·rename_i hu
   cases hx with
   | ptr hb hm=>
     split at he
     ·cases he
     ·rename_i n hn
      cases hc:(decide (0<=i) && decide (i < _)) with
      | false=>rw [hc] at he;cases he
      | true=>
        rw [hc] at he
        simp only [SA,Se] at he
        subst he
        simp only [Sm,SZ] at hc
        refine ⟨_,?_,.ptr hb hm⟩
        simp only [Instr.indexAt,Instr.sureAddr,asIntOf,Sj,Ss,Sg,zj hu,zj hn,aam,Sn hc,jY,aah]
  ·rename_i hu
   cases hx with
   | Z7=>
     split at he
     ·cases he
     ·rename_i n hn
      cases hc:(decide (0<=i) && decide (i < _)) with
      | false=>rw [hc] at he;cases he
      | true=>
        rw [hc] at he
        simp only [SA,Se] at he
        subst he
        simp only [Sm,SZ] at hc
        refine ⟨_,?_,.Z7⟩
        simp only [Instr.indexAt,Instr.sureAddr,asIntOf,Sj,Ss,Sg,zj hu,zj hn,aam,Sn hc,jY]
  ·rename_i hu
   cases hx with
   | slice hb hm hl hcap=>
     split at he
     ·cases he
     ·rename_i n hn
      cases hc:(decide (0<=i) && decide (i < _)) with
      | false=>rw [hc] at he;cases he
      | true=>
        rw [hc] at he
        simp only [SA,Se] at he
        subst he
        simp only [Sm,SZ] at hc
        refine ⟨_,?_,.ptr hb hm⟩
        simp only [Instr.indexAt,asIntOf,Sj,Ss,Sg,zj hu,zj hn,aam,Sn hc,jY,aah]
   | sliceOut hb hc=>
     split at he
     ·cases he
     ·rename_i n hn
      rw [show (decide (0<=i) && decide (i < ((0:Nat):Int)))=false by simp] at he
      cases he
  ·cases he
 ·cases he
end
noncomputable section
variable {P:Program}
def fl (x:Option Value):Option Value :=
 match x with
 | none=>none
 | some v=>cond (flat v) (some v) none
theorem W7 {x:Option Value} {v:Value} (h:fl x=some v):x=some v/\flat v=true:=by
 unfold fl at h
 split at h
 ·cases h
 ·rename_i u
  cases hf:flat u with
  | false=>rw [hf] at h;cases h
  | true=>rw [hf] at h;simp only [SA,Se] at h;subst h;exact ⟨rfl,hf⟩
def isNil (P:Program) (t:TypeId) (a b:Value):Option Bool :=
 match z9 P (underlying t),a,b with
 | some (.pointer _),.pointer (some _),.pointer none | some (.pointer _),.pointer none,.pointer (some _)=>some false
 | some (.slice _),.slice (some _) _ _,.slice none _ _ | some (.slice _),.slice none _ _,.slice (some _) _ _=>some false
 | some (.func _ _ _),.func _ _ _,.nilFunc | some (.func _ _ _),.nilFunc,.func _ _ _=>some false
 | some (.interface _),.iface _ _,.nilIface | some (.interface _),.nilIface,.iface _ _=>some false
 | _,_,_=>none
def Mu (P:Program) (op:BinOp) (t:TypeId) (a b:Value):Option Value :=
 match op with
 | .eql=>(isNil P t a b).map .bool
 | .neq=>(isNil P t a b).map fun x => .bool (!x)
 | _=>none
theorem Vc {ρ:xn} {t:TypeId} {a b a' b':Value} {r:Bool} (h:isNil P t a b=some r) (ha:zI ρ a a') (hb:zI ρ b b') (w:World) :
  (∀ d,(Op.equalIn (d + 1) t a' b').run P w = .ok r w)/\(∀ op x y,(eqGuard op t x y a' b').run P w = .ok () w)/\(∀ op,op = .eql\/op = .neq->binOp op t a' b'=if op = .eql then (do pure (.bool (<- Op.equal t a' b'))) else (do pure (.bool (!(<- Op.equal t a' b'))))):=by
 unfold isNil at h
 split at h <;> first
  | cases h;done
  | (simp only [Se] at h
     subst h
     rename_i hu
     cases ha <;> cases hb <;>
     (refine ⟨fun d => ?_,fun op x y => ?_,fun op yU => ?_⟩
      ·simp [Op.equalIn,zj hu]
      ·cases op <;> simp [eqGuard]
      ·rcases yU with rfl | rfl <;> rfl))
theorem EL {ρ:xn} {t:TypeId} {a b a' b':Value} {r:Bool} (h:isNil P t a b=some r) (ha:zI ρ a a') (hb:zI ρ b b') (w:World) :
  (binOp .eql t a' b').run P w = .ok (.bool r) w:=by
 obtain ⟨h1,_,h3⟩:=Vc h ha hb w
 rw [h3 .eql (.inl rfl),Sn rfl]
 have h1:(Op.equal t a' b').run P w = .ok r w:=h1 9999
 simp only [Sj,h1,Sg,Ss]
theorem EM {ρ:xn} {t:TypeId} {a b a' b':Value} {r:Bool} (h:isNil P t a b=some r) (ha:zI ρ a a') (hb:zI ρ b b') (w:World) :
  (binOp .neq t a' b').run P w = .ok (.bool (!r)) w:=by
 obtain ⟨h1,_,h3⟩:=Vc h ha hb w
 rw [h3 .neq (.inr rfl),Sl (by simp)]
 have h1:(Op.equal t a' b').run P w = .ok r w:=h1 9999
 simp only [Sj,h1,Sg,Ss]
def Ea (P:Program) (op:BinOp) (t:TypeId) (x y:Operand) (a b:Value):Option Value :=
 cond (flat a && flat b) (fl (z9 P (do eqGuard op t x y a b;binOp op t a b))) (Mu P op t a b)
theorem Bo {ρ:xn} {op:BinOp} {t:TypeId} {x y:Operand} {a b a' b' v:Value} (h:Ea P op t x y a b=some v) (ha:zI ρ a a') (hb:zI ρ b b') (w:World) :
  ∃ v',(do eqGuard op t x y a' b';binOp op t a' b':Sem Value).run P w = .ok v' w/\zI ρ v v':=by
 unfold Ea at h
 cases hf:(flat a && flat b) with
 | true=>
   rw [hf] at h
   simp only [Sm] at hf
   obtain rfl:=kF ha hf.1
   obtain rfl:=kF hb hf.2
   obtain ⟨h1,h2⟩:=W7 h
   exact ⟨v,zj h1 w,.of_flat ρ h2⟩
 | false=>
   rw [hf] at h
   simp only [SK] at h
   unfold Mu at h
   split at h
   ·simp only [Sw] at h
    obtain ⟨r,hr,rfl⟩:=h
    obtain ⟨_,h2,_⟩:=Vc hr ha hb w
    have h3:=EL hr ha hb w
    exact ⟨.bool r,by simp only [Sj,h2,Sg,h3],.bool r⟩
   ·simp only [Sw] at h
    obtain ⟨r,hr,rfl⟩:=h
    obtain ⟨_,h2,_⟩:=Vc hr ha hb w
    have h4:=EM hr ha hb w
    exact ⟨.bool (!r),by simp only [Sj,h2,Sg,h4],.bool (!r)⟩
   ·cases h
def eM (ρ:xn) (ps ps':List (Nat × Value)):Prop:=wz ρ (ps.map (·.2)) (ps'.map (·.2))/\ps.map (·.1)=ps'.map (·.1)
theorem Fj {ρ:xn} {xs ys:List Value} (h:wz ρ xs ys) (i:Nat) {x y:Value} (hv:zI ρ x y):wz ρ (xs.set i x) (ys.set i y):=by
 refine ⟨by simp [h.1],fun j a b ha hb => ?_⟩
 by_cases e:i=j
 ·subst e
  rcases SC i xs.length with hi | hi
  ·rw [Tj hi] at ha
   rw [Tj (h.1 ▸ hi)] at hb
   cases ha;cases hb;exact hv
  ·rw [Sr (by simpa using hi)] at ha;cases ha
 ·rw [TA e] at ha hb
  exact h.2 j a b ha hb
theorem g9 {ρ:xn} (off:Nat):∀ (l l':List (Value × Nat)) (c c':Array Value),wz ρ (l.map (·.1)) (l'.map (·.1))->l.map (·.2)=l'.map (·.2)->wz ρ c.toList c'.toList ->
  wz ρ (l.foldl (fun cs x=>cs.setIfInBounds (off + x.2) x.1) c).toList (l'.foldl (fun cs x=>cs.setIfInBounds (off + x.2) x.1) c').toList
 | [],l',c,c',hl,hn,hc=>by
   cases l' with
   | nil=>exact hc
   | cons x l'=>simp at hn
 | x :: l,l',c,c',hl,hn,hc=>by
   cases l' with
   | nil=>simp at hn
   | cons y l'=>
     simp only [TQ,Tn] at hl hn
     obtain ⟨y',ys',e,hv,hr⟩:=hl.cons_inv
     simp only [Tn] at e
     obtain ⟨e1,e2⟩:=e
     subst e1 e2
     simp only [List.foldl_cons]
     refine g9 off l l' _ _ hr hn.2 ?_
     rw [Array.toList_setIfInBounds,Array.toList_setIfInBounds,hn.1]
     exact Fj hc _ hv
theorem J2 {ρ:xn} {place:Nat->Option (Nat × Nat)}:∀ (ps ps':List (Nat × Value)) (c c':Array Value) (r:Array Value),eM ρ ps ps'->wz ρ c.toList c'.toList->Instr.fill place c ps=some r ->
  ∃ r',Instr.fill place c' ps'=some r'/\wz ρ r.toList r'.toList
 | [],ps',c,c',r,hp,hc,he=>by
   have:ps' = []:=by have:=hp.2;simp at this;cases ps' <;> simp_all
   subst this
   simp only [Instr.fill,Se] at he
   subst he
   exact ⟨c',rfl,hc⟩
 | (i,v) :: ps,ps',c,c',r,hp,hc,he=>by
   cases ps' with
   | nil=>have:=hp.2;simp at this
   | cons p ps'=>
     obtain ⟨i',v'⟩:=p
     obtain ⟨h1,h2⟩:=hp
     simp only [TQ,Tn] at h1 h2
     obtain ⟨rfl,h2⟩:=h2
     obtain ⟨y,ys,e,hv,hr⟩:=h1.cons_inv
     simp only [Tn] at e
     obtain ⟨e1,e2⟩:=e
     subst e1 e2
     simp only [Instr.fill] at he ⊢
     cases hpl:place i with
     | none=>rw [hpl] at he;cases he
     | some x=>
       obtain ⟨off,size⟩:=x
       rw [hpl] at he
       simp only at he ⊢
       have hcells:=hv.cells
       have e1:v'.cells.size=v.cells.size:=by simpa using hcells.1.symm
       have e2:c'.size=c.size:=by simpa using hc.1.symm
       split at he
       ·cases he
       ·rename_i hcond
        rw [Sl (by rw [e1,e2];exact hcond)]
        refine J2 ps ps' _ _ r ⟨hr,h2⟩ ?_ he
        rw [<- Array.foldl_toList,<- Array.foldl_toList]
        refine g9 off _ _ c c' ?_ ?_ hc
        ·simp only [Array.toList_zipIdx]
         have q:∀ (l:List Value) k,(l.zipIdx k).map (·.1)=l:=fun l k=>by simp
         rw [q,q];exact hcells
        ·simp only [Array.toList_zipIdx]
         have q:∀ (l:List Value) k,(l.zipIdx k).map (·.2)=List.range' k l.length:=fun l k=>by simp
         rw [q,q,hcells.1]
def Wv (s:Env):List (Nat × Operand)->Option (List (Nat × Value))
 | []=>some []
 | (i,x) :: ps=>match jb s x with
   | none=>none
   | some v=>match Wv s ps with
     | none=>none
     | some vs=>some ((i,v) :: vs)
theorem Ug {ρ:xn} {s:Env} {a:Act} (hs:vN ρ s a.tmps):∀ {ps:List (Nat × Operand)} {vs:List (Nat × Value)},Wv s ps=some vs->eM ρ vs (ps.map fun x=>(x.1,a.eval x.2))
 | [],vs,h=>by simp only [Wv,Se] at h;subst h;exact ⟨.nil ρ,rfl⟩
 | (i,x) :: ps,vs,h=>by
   simp only [Wv] at h
   split at h
   ·cases h
   ·rename_i v hv
    split at h
    ·cases h
    ·rename_i vs' hvs
     simp only [Se] at h
     subst h
     have:=Ug hs hvs
     exact ⟨.cons (zV hs hv) this.1,by simp [this.2]⟩
def wY (P:Program) (t:TypeId):Option Value:=fl (z9 P (zeroValue t))
theorem Zt {ρ:xn} {t:TypeId} {z:Value} (h:wY P t=some z) (w:World):(zeroValue t).run P w = .ok z w/\zI ρ z z:=by
 obtain ⟨h1,h2⟩:=W7 h
 exact ⟨zj h1 w,.of_flat ρ h2⟩
def IN (P:Program) (fields:Array Field):Option (Array (Nat × Nat)):=z9 P (fields.mapM fun f=>do pure (f.offset,<- sizeOf f.type))
def xo (P:Program) (t:TypeId) (parts:List (Nat × Value)):Option Value :=
 match wY P t with
 | none=>none
 | some z=>match z9 P (underlying t) with
   | some (.struct fields)=>(match IN P fields with
     | none=>none
     | some places=>(Instr.fill (places[·]?) z.cells parts).map .agg)
   | some (.array _ elem)=>(match z9 P (sizeOf elem) with
     | none=>none
     | some n=>(Instr.fill (fun i=>some (i * n,n)) z.cells parts).map .agg)
   | _=>none
theorem oE {ρ:xn} {t:TypeId} {parts parts':List (Nat × Value)} {v:Value} (h:xo P t parts=some v) (hp:eM ρ parts parts') (w:World) :
  ∃ v',(Instr.build t parts'.toArray).run P w = .ok v' w/\zI ρ v v':=by
 unfold xo at h
 split at h
 ·cases h
 ·rename_i z hz
  obtain ⟨e0,hz⟩:=Zt (ρ:=ρ) hz w
  split at h
  ·rename_i fields hu
   split at h
   ·cases h
   ·rename_i places hpl
    simp only [Sw] at h
    obtain ⟨r,hr,rfl⟩:=h
    obtain ⟨r',hr',hv⟩:=J2 _ _ _ _ _ hp hz.cells hr
    refine ⟨.agg r',?_,.agg (by simpa using hv.1) (fun i x y hx hy=>hv.2 i x y (by simpa using hx) (by simpa using hy))⟩
    simp only [Instr.build,Sj,e0,Sg,zj hu,zj hpl,hr',Ss]
  ·rename_i n elem hu
   split at h
   ·cases h
   ·rename_i n hn
    simp only [Sw] at h
    obtain ⟨r,hr,rfl⟩:=h
    obtain ⟨r',hr',hv⟩:=J2 _ _ _ _ _ hp hz.cells hr
    refine ⟨.agg r',?_,.agg (by simpa using hv.1) (fun i x y hx hy=>hv.2 i x y (by simpa using hx) (by simpa using hy))⟩
    simp only [Instr.build,Sj,e0,Sg,zj hu,zj hn,hr',Ss]
  ·cases h
def lG (h:za) (c:List Value) (t:TypeId):Value × za:=(.pointer (some ⟨h.next,0,none⟩),h.push (.cells c t))
theorem aG {ρ:xn} {h:za} {w:World} (hr:Rel P ρ h w) {v v':Value} (hv:zI ρ v v') (t:TypeId) :
  ∃ a' w' ρ',(newVar t v').run P w = .ok a' w'/\Step P ρ h w ρ' (lG h v.cells.toList t).2 w'/\zI ρ' (lG h v.cells.toList t).1 (.pointer (some a')):=by
 have hc:=hv.cells
 obtain ⟨e,st⟩:=Jn (t:=t) hr (c:=v.cells.toList) (cs:=v'.cells) (by rw [hc.1,Tz];exact Sp _) (fun i x hx=>by
  obtain ⟨y,hy,hxy⟩:=hc.get hx
  exact ⟨y,by simpa using hy,hxy⟩)
 exact ⟨_,_,_,e,st,.new hr _ rfl⟩
def ZV (z:List Value) (n:Nat):List Value:=(List.range n).map fun i=>(z[i % z.length]?).getD default
theorem nZ (z:Array Value) (n:Nat):((Array.range n).map fun i=>z[i % z.size]!)=(ZV z.toList n).toArray:=by
 apply T7
 simp only [Array.toList_map,Array.toList_range,ZV]
 apply List.map_congr_left
 intro i _
 simp [getElem!_def]
 cases z[i % z.size]? <;> rfl
theorem i7 {ρ:xn} {z:Value} (h:zI ρ z z) (hd:z.cells.size ≠ 0) (n:Nat):wz ρ (ZV z.cells.toList n) (ZV z.cells.toList n):=by
 refine ⟨rfl,fun i x y hx hy => ?_⟩
 rw [hx] at hy
 cases hy
 simp only [ZV,SI,Sw] at hx
 obtain ⟨k,_,hk⟩:=hx
 have hlt:k % z.cells.toList.length < z.cells.toList.length:=Nat.mod_lt _ (by simp;omega)
 rw [Sk hlt] at hk
 simp only [T6] at hk
 have:=h.cells.2 _ _ _ (Sk hlt) (Sk hlt)
 rw [hk] at this
 exact this
def W4 (P:Program) (t:TypeId) (len cap:Value) (h:za):Option (Value × za) :=
 match len,cap,z9 P (underlying t) with
 | .int _ l,.int _ c,some (.slice elem)=>(match z9 P (typeInfo elem) with
   | none=>none
   | some i=>(match wY P elem with
     | none=>none
     | some z=>cond (decide (IntKind.i64.wrap l=l) && decide (IntKind.i64.wrap c=c) && decide (0<=l) && decide (l<=c) && decide (i.bytes * c<=2 ^ 48) && Nat.beq z.cells.size i.size && Nat.blt 0 i.size)
       (some (.slice (some ⟨h.next,0,none⟩) l.toNat (c.toNat + 2),h.push (.cells (ZV z.cells.toList (c.toNat * i.size)) elem))) none))
 | _,_,_=>none
theorem jm {t:TypeId} {i:TypeInfo} (h:z9 P (typeInfo t)=some i):P.cellsOf t=i.size /\ ∀ w,(sizeOf t).run P w = .ok i.size w:=by
 have h0:=h
 constructor
 ·simp only [typeInfo,program,Sem.bind,bind,z9] at h
  cases hp:P.info? t with
  | none=>rw [hp] at h;cases h
  | some j=>rw [hp] at h;simp only [pure,z9,Se] at h;subst h;simp [Program.cellsOf,hp]
 ·intro w
  simp only [sizeOf,Sj,zj h0,Sg,Ss]
theorem sG {ρ:xn} {t:TypeId} {l l' c c' v:Value} {h h':za} {w:World} (he:W4 P t l c h=some (v,h')) (hr:Rel P ρ h w) (hl:zI ρ l l') (hc:zI ρ c c') :
  ∃ v' w' ρ',(Instr.makeSlice t l' c').run P w = .ok v' w'/\Step P ρ h w ρ' h' w'/\zI ρ' v v':=by
 unfold W4 at he
 split at he
 ·rename_i kl l kc c elem hu
  cases hl;cases hc
  split at he
  ·cases he
  ·rename_i i hi
   split at he
   ·cases he
   ·rename_i z hz
    cases hcond:(decide (IntKind.i64.wrap l=l) && decide (IntKind.i64.wrap c=c) && decide (0<=l) && decide (l<=c) && decide (i.bytes * c<=2 ^ 48) && Nat.beq z.cells.size i.size && Nat.blt 0 i.size) with
    | false=>rw [hcond] at he;cases he
    | true=>
      rw [hcond] at he
      simp only [SA,Se,Sh] at he
      obtain ⟨rfl,rfl⟩:=he
      simp only [Sm,SZ] at hcond
      obtain ⟨⟨⟨⟨⟨⟨w1,w2⟩,p1⟩,p2⟩,p3⟩,zs⟩,sp⟩:=hcond
      have zs:=Sv zs
      have sp:0 < i.size:=by simpa [S6] using sp
      obtain ⟨e0,hz'⟩:=Zt (ρ:=ρ) hz w
      obtain ⟨sz1,sz2⟩:=jm hi
      obtain ⟨e,st⟩:=Jn (t:=elem) hr (c:=ZV z.cells.toList (c.toNat * i.size)) (cs:=(Array.range (c.toNat * i.size)).map fun k=>z.cells[k % z.cells.size]!)
       (by simp [ZV]) (fun k x hx=>by
        rw [nZ]
        obtain ⟨y,hy,hxy⟩:=(i7 hz' (by omega) (c.toNat * i.size)).get hx
        exact ⟨y,by simpa using hy,hxy⟩)
      refine ⟨.slice (some ⟨w.heap.size,0,none⟩) l.toNat c.toNat,_,_,?_,st,?_⟩
      ·have b1:¬ ((i.bytes:Int) * c > 2 ^ 48):=by omega
       have b2:¬ (c < 0):=by omega
       have b3:¬ (l < 0):=by omega
       have b4:¬ (l > c):=by omega
       simp only [Instr.makeSlice,asInt,asIntOf,Sj,Ss,Sg,zj hu,zj hi,w1,w2]
       rw [Sl (by simp [b2,b3,b4];omega)]
       simp only [Sj,run_askRoom,Sg,sz2]
       by_cases hn:c.toNat * i.size=0
       ·rw [Sn hn]
        have e1:((Array.range (c.toNat * i.size)).map fun k=>(#[]:Array Value)[k % (#[]:Array Value).size]!)=((Array.range (c.toNat * i.size)).map fun k=>z.cells[k % z.cells.size]!):=by rw [hn];simp
        simp only [Sj,Ss,Sg]
        rw [e1,e]
        simp only [Sg]
       ·rw [Sl hn]
        simp only [Sj,e0,Ss,Sg,e]
      ·refine zI.slice (ρ:=ρ.ext _) (b:=h.next) (off:=0) (pl:=⟨w.heap.size,0,_,_⟩) (by show h.next < ρ.next + 1;rw [hr.next];exact Tv _) (by rw [<- hr.next];exact ρ.kD _) (by omega) ?_
       intro _
       refine ⟨by simp [sz1],fun k hk=>by omega⟩
 ·cases he
end
noncomputable section
variable {P:Program}
def K8:Nat->Nat->Nat
 | 0,_=>0
 | 1,_=>1
 | k + 2,l=>(k - l) + 2
def qz (x:Option Value) (d:Nat) (Jh:Nat):Option Nat :=
 match x with
 | none=>some d
 | some (.int _ i)=>cond (decide (0<=i) && decide (i<=Jh)) (some i.toNat) none
 | some _=>none
def wide (P:Program) (h:za) (b n:Nat):Bool :=
 match h.get b with
 | some (.cells _ t)=>Nat.beq (P.cellsOf t) n
 | _=>false
def cH (P:Program) (t:TypeId) (x:Value) (lo hi:Option Value) (h:za):Option Value :=
 match z9 P (underlying t),x with
 | some (.slice elem),.slice base len c=>(match z9 P (sizeOf elem) with
   | none=>none
   | some n=>(match qz hi len len with
     | none=>none
     | some hh=>(match qz lo 0 hh with
       | none=>none
       | some l=>(match base with
         | none=>cond (Nat.beq len 0) (some (.slice none 0 0)) none
         | some ⟨b,off,none⟩=>some (.slice (some ⟨b,off + l * n,none⟩) (hh - l) (cond (wide P h b n) (K8 c l) 0))
         | some _=>none))))
 | some (.array k elem),.pointer (some ⟨b,off,none⟩)=>(match z9 P (sizeOf elem) with
   | none=>none
   | some n=>(match qz hi k k with
     | none=>none
     | some hh=>(match qz lo 0 hh with
       | none=>none
       | some l=>some (.slice (some ⟨b,off + (if k=l then 0 else l * n),none⟩) (hh - l) 0))))
 | _,_=>none
theorem QY {x:Option Value} {d Jh r:Nat} (h:qz x d Jh=some r) (hd:d<=Jh):r<=Jh:=by
 unfold qz at h
 split at h
 ·simp only [Se] at h;omega
 ·rename_i k i
  cases hc:(decide (0<=i) && decide (i<=(Jh:Int))) with
  | false=>rw [hc] at h;cases h
  | true=>
    rw [hc] at h
    simp only [SA,Se] at h
    simp only [Sm,SZ] at hc
    omega
 ·cases h
theorem gj {ρ:xn} {x x':Option Value} {d Jh r:Nat} (h:qz x d Jh=some r) (hx:∀ v,x=some v->∃ v',x'=some v'/\zI ρ v v') (hn:x=none->x'=none) {y:Nat} (hy:Jh<=y) (code:BoundsCode) (w:World) :
  (match x' with | some v=>Instr.sliceBound v y code | none=>(pure d:Sem Nat)).run P w = .ok r w:=by
 unfold qz at h
 split at h
 ·rw [hn rfl]
  simp only [Se] at h
  subst h;rfl
 ·rename_i k i
  obtain ⟨v',rfl,hv⟩:=hx _ rfl
  cases hv
  cases hc:(decide (0<=i) && decide (i<=(Jh:Int))) with
  | false=>rw [hc] at h;cases h
  | true=>
    rw [hc] at h
    simp only [SA,Se] at h
    simp only [Sm,SZ] at hc
    subst h
    simp only [Instr.sliceBound,asIntOf,Sj,Ss,Sg,aam]
    rw [Sn (by omega)]
 ·cases h
def DD (ρ:xn) (x x':Option Value):Prop:=(∀ v,x=some v->∃ v',x'=some v'/\zI ρ v v')/\(x=none->x'=none)
theorem Um {ρ:xn} {lo lo' hi hi':Option Value} {len cap hh l:Nat} (hhi:qz hi len len=some hh) (hlo:qz lo 0 hh=some l) (rl:DD ρ lo lo') (rh:DD ρ hi hi') (hl:len<=cap) (b:Bool) (w:World) :
  (Instr.sliceBounds b len cap lo' hi' none).run P w = .ok (l,hh,cap) w:=by
 have h1:=gj (P:=P) hhi rh.1 rh.2 hl (if b then .sliceAcap else .sliceAlen) w
 have h2:=gj (P:=P) hlo rl.1 rl.2 (Sp hh) (.sliceB) w
 unfold Instr.sliceBounds
 cases hi' with
 | none=>
   have e1:len=hh:=by simpa using h1
   subst e1
   cases lo' with
   | none=>have e2:0=l:=by simpa using h2
           subst e2;rfl
   | some v=>
     simp only at h2
     simp only [Sj,Ss,Sg,Option.isSome_none,Ti,Sx,h2]
 | some u=>
   simp only at h1
   cases lo' with
   | none=>have e2:0=l:=by simpa using h2
           subst e2
           simp only [Sj,Ss,Sg,h1]
   | some v=>
     simp only at h2
     simp only [Sj,Ss,Sg,Option.isSome_none,Ti,Sx,h1,h2]
theorem oU {ρ:xn} {t:TypeId} {x x' v:Value} {lo lo' hi hi':Option Value} {h:za} {w:World} (he:cH P t x lo hi h=some v) (hr:Rel P ρ h w) (hx:zI ρ x x') (rl:DD ρ lo lo') (rh:DD ρ hi hi') :
  ∃ v',(Instr.sliceAt t x' lo' hi' none).run P w = .ok v' w/\zI ρ v v':=by
 unfold cH at he
 split at he
 ·rename_i elem base len c hu
  split at he
  ·cases he
  ·rename_i n hn
   split at he
   ·cases he
   ·rename_i hh hhi
    split at he
    ·cases he
    ·rename_i l hlo
     have h1:=QY hhi (Sp _)
     have h2:=QY hlo (Th _)
     cases hx with
     | sliceNil=>
       simp only [aaa,SA,Se] at he
       subst he
       have:hh=0:=by omega
       subst this
       have:l=0:=by omega
       subst this
       refine ⟨.slice none 0 0,?_,.sliceNil 0⟩
       have hb:=Um (P:=P) hhi hlo rl rh (Sp 0) true w
       simp only [Instr.sliceAt,Instr.slice,Sj,zj hu,Sg,hb,zj hn,Ss,Sf,Nat.sub_self]
     | slice hb hm hl hc=>
       rename_i b off cap pl
       simp only [Se] at he
       subst he
       have hbd:=Um (P:=P) hhi hlo rl rh hl true w
       have hrun:(Instr.sliceAt t (.slice (some ⟨pl.c,pl.base + off,none⟩) len cap) lo' hi' none).run P w = .ok (.slice (if cap=l then some ⟨pl.c,pl.base + off,none⟩ else some ⟨pl.c,pl.base + off + l * n,none⟩) (hh - l) (cap - l)) w:=by
        simp only [Instr.sliceAt,Instr.slice,Sj,zj hu,Sg,hbd,zj hn,Ss,TG,jY]
       by_cases hcl:cap=l
       ·refine ⟨_,hrun,?_⟩
        rw [Sn hcl]
        have e1:hh - l=0:=by omega
        have e2:cap - l=0:=by omega
        rw [e1,e2]
        refine .sliceOut hb ?_
        cases hw:wide P h b n with
        | false=>exact Th _
        | true=>
          simp only [SA]
          unfold K8
          split
          ·omega
          ·omega
          ·rename_i k
           have:=(hc (by omega)).2 k rfl
           omega
       ·refine ⟨_,hrun,?_⟩
        rw [Sl hcl,aah]
        refine .slice hb hm (by omega) ?_
        cases hw:wide P h b n with
        | false=>intro hne;exact absurd rfl hne
        | true=>
          simp only [SA]
          intro hne
          have hc0:c ≠ 0:=by intro e;subst e;exact hne rfl
          obtain ⟨c1,c2⟩:=hc hc0
          unfold wide at hw
          split at hw
          ·rename_i cs tb hg
           have hw:=Sv hw
           obtain ⟨cs',fz,_,_,hesz,_⟩:=hr.place hg hm
           rw [hesz.1,hw] at c1 ⊢
           refine ⟨?_,?_⟩
           ·have:l * n + (cap - l) * n=cap * n:=by rw [<- aaw];congr 1;omega
            omega
           ·intro k hk
            unfold K8 at hk
            split at hk
            ·omega
            ·omega
            ·have:=c2 _ rfl
             omega
          ·cases hw
     | sliceOut hb hc=>
       rename_i b off a
       simp only [Se] at he
       subst he
       have:hh=0:=by omega
       subst this
       have:l=0:=by omega
       subst this
       refine ⟨.slice (some a) 0 0,?_,.sliceOut hb ?_⟩
       ·have hbd:=Um (P:=P) hhi hlo rl rh (Sp 0) true w
        simp only [Instr.sliceAt,Instr.slice,Sj,zj hu,Sg,hbd,zj hn,Ss,Sf,Nat.sub_self]
       ·cases wide P h b n with
        | false=>exact Th _
        | true=>simp only [SA];unfold K8;split <;> omega
 ·rename_i k elem b off hu
  cases hx with
  | ptr hb hm=>
    rename_i pl
    split at he
    ·cases he
    ·rename_i n hn
     split at he
     ·cases he
     ·rename_i hh hhi
      split at he
      ·cases he
      ·rename_i l hlo
       simp only [Se] at he
       subst he
       have h1:=QY hhi (Sp _)
       have h2:=QY hlo (Th _)
       have hbd:=Um (P:=P) hhi hlo rl rh (Sp k) false w
       refine ⟨_,by simp only [Instr.sliceAt,Instr.sureAddr,Sj,zj hu,Ss,Sg,hbd,zj hn];rfl,?_⟩
       have:(if k=l then (Addr.mk pl.c (pl.base + off) none) else (Addr.mk pl.c (pl.base + off) none).add (l * n))=⟨pl.c,pl.base + (off + (if k=l then 0 else l * n)),none⟩:=by
        split
        ·rfl
        ·rw [jY,aah]
       rw [this]
       exact .slice hb hm (by omega) (fun hne=>absurd rfl hne)
 ·cases he
def Is (P:Program) (t:TypeId) (x:Value):Option Value :=
 match z9 P (underlying t),x with
 | some (.slice _),.slice _ n _=>some (goInt n)
 | some .string,.string s=>some (goInt s.size)
 | some (.array n _),_=>some (goInt n)
 | _,_=>none
theorem Bw {ρ:xn} {t:TypeId} {x x' v:Value} (he:Is P t x=some v) (hx:zI ρ x x') (r:TypeId) (w:World):(Builtin.len_ #[t] r #[x']).run P w = .ok v w/\zI ρ v v:=by
 unfold Is at he
 split at he
 ·rename_i hu
  simp only [Se] at he
  subst he
  refine ⟨?_,.int _ _⟩
  cases hx <;> simp [Builtin.len_,zj hu]
 ·rename_i hu
  simp only [Se] at he
  subst he
  refine ⟨?_,.int _ _⟩
  cases hx;simp [Builtin.len_,zj hu]
 ·rename_i hu
  simp only [Se] at he
  subst he
  refine ⟨?_,.int _ _⟩
  simp [Builtin.len_,zj hu]
 ·cases he
end
noncomputable section
variable {P:Program}
def uJ (h:za) (n size:Nat):Value->Option (List Value)
 | .slice (some ⟨b,off,none⟩) _ _=>cond (Nat.beq (n * size) 0) (some []) (match h.get b with
   | some (.cells c _)=>cond (Nat.ble (off + n * size) c.length) (some ((c.drop off).take (n * size))) none
   | _=>none)
 | .slice none _ _=>some []
 | .string s=>some ((s.extract 0 n).data.toList.map fun b => .int .u8 b.toNat)
 | _=>none
def Ws:Value->Option Nat
 | .slice _ n _=>some n
 | .string s=>some s.size
 | _=>none
theorem dz {ρ:xn} {x x':Value} {n:Nat} (h:Ws x=some n) (hx:zI ρ x x') (w:World):(Builtin.lenOf x').run P w = .ok n w:=by
 cases hx with
 | pZ _=>cases h
 | _=>simp only [Ws,Se,reduceCtorEq] at h <;> subst h <;> rfl
theorem Uq {ρ:xn} {h:za} {w:World} {n size:Nat} {x x':Value} {c:List Value} (he:uJ h n size x=some c) (hr:Rel P ρ h w) (hx:zI ρ x x') (hn:∀ b l cap,x = .slice b l cap->n<=l) :
  ∃ c':List Value,(Builtin.firstCells size n x').run P w = .ok c'.toArray w/\wz ρ c c':=by
 have hzero:n * size=0->∀ a:Addr,(loadCells a (n * size)).run P w = .ok ([]:List Value).toArray w:=by
  intro e a;rw [e];rfl
 cases hx with
 | sliceNil c0=>
   simp only [uJ,Se] at he
   subst he
   exact ⟨[],rfl,.nil ρ⟩
 | slice hb hm hl hc=>
   rename_i b off len c0 cap pl
   simp only [uJ] at he
   cases hz:Nat.beq (n * size) 0 with
   | true=>
     rw [hz] at he
     simp only [SA,Se] at he
     subst he
     exact ⟨[],by simp only [Builtin.firstCells];exact hzero (Sv hz) _,.nil ρ⟩
   | false=>
     rw [hz] at he
     simp only [SK] at he
     split at he
     ·rename_i cs t hg
      cases hle:Nat.ble (off + n * size) cs.length with
      | false=>rw [hle] at he;cases he
      | true=>
        rw [hle] at he
        simp only [SA,Se] at he
        subst he
        obtain ⟨ys,hys,hv⟩:=jl (hr.place hg hm) off (n * size) (SH hle)
        exact ⟨ys,by simpa only [Builtin.firstCells] using hys,hv⟩
     ·cases he
 | sliceOut hb hc=>
   rename_i b off c0 a
   have:=hn _ _ _ rfl
   have hz:n * size=0:=by have:n=0:=by omega
                          subst this;simp
   simp only [uJ,hz,aaa,SA,Se] at he
   subst he
   exact ⟨[],by simp only [Builtin.firstCells];exact hzero hz _,.nil ρ⟩
 | string s=>
   simp only [uJ,Se] at he
   subst he
   refine ⟨_,?_,⟨rfl,fun i x y hx hy => ?_⟩⟩
   ·simp only [Builtin.firstCells,Ss]
    congr 1
    apply T7
    simp
   ·rw [hx] at hy;cases hy
    simp only [SI,Sw] at hx
    obtain ⟨b,_,rfl⟩:=hx
    exact .int _ _
 | _=>cases he
def cP:TypeDesc->Bool
 | .int _=>true
 | _=>false
theorem nH (need:Nat) (hn:255<=need):∀ (r c:Nat),c<=2 * need->Builtin.growBy need r c<=2 * need
 | 0,c,h=>h
 | r + 1,c,h=>by
   unfold Builtin.growBy
   split
   ·exact h
   ·exact nH need hn r _ (by omega)
theorem Cc (need cap:Nat) (h:cap < need):Builtin.nextslicecap need cap<=2 * need:=by
 unfold Builtin.nextslicecap
 split
 ·omega
 ·split
  ·omega
  ·exact nH need (by omega) 4 cap (by omega)
theorem aH (need:Nat) (h:0 < need):Builtin.nextslicecap need 0=need:=by
 unfold Builtin.nextslicecap;rw [Sn (by omega)]
theorem run_append_grow {ρ:xn} {h:za} {w:World} (hr:Rel P ρ h w) {sT xT elem:TypeId} {r:TypeId} {xd:TypeDesc} {i:TypeInfo} {z:Value} {base:Option Addr} {len cap n:Nat} {x':Value} {old old' new new':List Value}
  (h1:z9 P (underlying sT)=some (.slice elem)) (h2:z9 P (underlying xT)=some xd) (h3:cP xd=false) (hi:z9 P (typeInfo elem)=some i) (hz:wY P elem=some z)
  (hb:0 < i.bytes) (hzs:z.cells.size=i.size)
  (hlen:∀ w,(Builtin.lenOf x').run P w = .ok n w) (hgrow:cap < len + n) (hlim:Builtin.nextslicecap (len + n) cap * i.bytes<=2 ^ 48)
  (hold:(Builtin.firstCells i.size len (.slice base len cap)).run P { w with drawn:=w.drawn + 1 } = .ok old'.toArray { w with drawn:=w.drawn + 1 }) (hnew:(Builtin.firstCells i.size n x').run P { w with drawn:=w.drawn + 1 } = .ok new'.toArray { w with drawn:=w.drawn + 1 })
  (vold:wz ρ old old') (vnew:wz ρ new new') (hol:old.length=len * i.size) (hnl:new.length=n * i.size) :
  ∃ cap' w' pl,(Builtin.append_ #[sT,xT] r #[.slice base len cap,x']).run P w = .ok (.slice (some ⟨w.heap.size,0,none⟩) (len + n) cap') w'/\len + n<=cap'/\pl.c=w.heap.size/\pl.base=0/\pl.C7=i.size/\cap' * i.size<=pl.size /\
    Step P ρ h w (ρ.ext pl) (h.push (.cells (old ++ new) elem)) w':=by
 obtain ⟨sz1,sz2⟩:=jm hi
 obtain ⟨z1,_⟩:=Zt (ρ:=ρ) hz w
 have z1:∀ w,(zeroValue elem).run P w = .ok z w:=fun w=>(Zt (ρ:=ρ) hz w).1
 let q:Question := .appendCap (len + n) cap elem
 let newCap:=q.cut (w.tape w.drawn q)
 let w1:World:={ w with drawn:=w.drawn + 1 }
 have hge:len + n<=newCap:=by show len + n<=(len + n) + _ % _;omega
 let cs:Array Value:=old'.toArray ++ new'.toArray ++ Builtin.zeroCells z.cells (newCap - (len + n))
 have hr1:Rel P ρ h w1:=hr.grow (fun k _=>rfl)
 have hcs:cs.size=newCap * i.size:=by
  simp only [cs,Builtin.zeroCells,Array.size_append,List.size_toArray,Array.size_map,Array.size_range,<- vold.1,<- vnew.1,hol,hnl,hzs]
  rw [<- aaw,<- aaw];congr 1;omega
 have st:=Step.push (t:=elem) hr1 (c:=old ++ new) (cs:=cs) (fz:=(0,0)) (w':={ w1 with heap:=w1.heap.push (.cells cs elem) }) rfl (fun i _ hi=>by simp at hi)
  (by simp only [cs,Array.size_append,aao,List.size_toArray,vold.1,vnew.1];omega)
  (fun k x hx=>by
   obtain ⟨y,hy,hxy⟩:=(vold.append vnew).get hx
   refine ⟨y,?_,hxy⟩
   have hlt:k < (old' ++ new').length:=by
    rcases SC k (old' ++ new').length with h | h
    ·exact h
    ·rw [Sr h] at hy;cases hy
   have:cs=(old' ++ new').toArray ++ Builtin.zeroCells z.cells (newCap - (len + n)):=by
    have e:old'.toArray ++ new'.toArray=(old' ++ new').toArray:=by simp
    simp only [cs];rw [e]
   rw [this,Array.getElem?_append_left (by simpa using hlt)]
   simpa using hy) rfl rfl rfl
 refine ⟨newCap,_,⟨w.heap.size,0,cs.size,P.cellsOf elem⟩,?_,hge,rfl,rfl,sz1,by rw [hcs];exact Sp _,⟨st.le,st.rel,st.ro,st.os,st.tape,st.output,st.size,st.frame,st.dY⟩⟩
 have e1:¬ (len + n<=cap):=by omega
 simp only [Builtin.append_]
 simp only [TS,Si,So,Sj,zj h1,Sg,sz2,zj h2,Ss]
 rw [Sl (by cases xd <;> first | exact aap | cases h3)]
 simp only [Sj,hlen,Sg]
 rw [Sl e1]
 simp only [Sj,zj hi,Sg]
 rw [Sl (by
  rintro ⟨_,h | h⟩
  ·revert h;cases xd <;> first | exact aap | cases h3
  ·omega)]
 simp only [Sj,zj hi,Sg]
 rw [Sl (by omega)]
 have hq:(choose (.appendCap (len + n) cap elem)).run P w = .ok newCap w1:=by rw [run_choose];rfl
 simp only [Sj,hq,Sg,zj hi,run_askRoom]
 rw [show w1 = { w with drawn:=w.drawn + 1 } from rfl,hold]
 simp only [Sg]
 rw [Sn (by cases xd <;> first | rfl | cases h3)]
 rw [hnew]
 simp only [Sg,z1,Ss]
 rfl
theorem lH {ρ:xn} {h:za} {w:World} (hr:Rel P ρ h w) {sT xT elem:TypeId} {r:TypeId} {xd:TypeDesc} {i:TypeInfo} {b off len cap n:Nat} {cs:List Value} {pl:Place} {x':Value} {new new':List Value}
  (h1:z9 P (underlying sT)=some (.slice elem)) (h2:z9 P (underlying xT)=some xd) (h3:cP xd=false) (hi:z9 P (typeInfo elem)=some i)
  (hlen:∀ w,(Builtin.lenOf x').run P w = .ok n w) (hfits:len + n<=cap) (hg:h.get b=some (.cells cs elem)) (hm:ρ.m b=some pl) (hro:h.ro<=b)
  (hnew:(Builtin.firstCells i.size n x').run P w = .ok new'.toArray w) (vnew:wz ρ new new') (hnl:new.length=n * i.size) (hcell:∀ x ∈ new,wZ x=true)
  (hroom:pl.base + off + cap * i.size<=pl.size) (hhave:off + len * i.size<=cs.length) (hoff:off % i.size=0) :
  ∃ w',(Builtin.append_ #[sT,xT] r #[.slice (some ⟨pl.c,pl.base + off,none⟩) len cap,x']).run P w = .ok (.slice (some ⟨pl.c,pl.base + off,none⟩) (len + n) cap) w' /\
    Step P ρ h w (ρ.ext ⟨pl.c,pl.base + off,pl.size,pl.C7⟩) ((h.set b none).push (.cells (((cs.drop off).take (len * i.size)) ++ new) elem)) w':=by
 obtain ⟨sz1,sz2⟩:=jm hi
 obtain ⟨cs',fz,g1,g2,g3,g4,g5,g6⟩:=hr.place hg hm
 have key:∀ (vs vs':List Value) (w0:World) (cc:Array Value) (j:Nat),w0.heap[pl.c]? = some (.cells cc elem fz)->cc.size=pl.size->pl.base + off + len * i.size + j + vs.length<=pl.size->wz ρ vs vs'->(∀ x ∈ vs,wZ x=true) ->
   ∃ w',(storeCells ⟨pl.c,pl.base + off + len * i.size,none⟩ vs' j).run P w0 = .ok () w'/\(∃ dd:Array Value,w'.heap[pl.c]? = some (.cells dd elem fz)/\dd.size=cc.size /\
     (∀ k,(k < pl.base + off + len * i.size + j)->dd[k]? = cc[k]?)/\(∀ k y,vs'[k]? = some y->dd[pl.base + off + len * i.size + j + k]? = some y)) /\
     (∀ k,k ≠ pl.c->w'.heap[k]? = w0.heap[k]?)/\w'.os=w0.os/\w'.tape=w0.tape/\w'.output=w0.output/\w'.heap.size=w0.heap.size:=by
  intro vs
  induction vs with
  | nil=>
    intro vs' w0 cc j hb hsz _ hv _
    cases hv.uL
    exact ⟨w0,rfl,⟨cc,hb,rfl,fun _ _=>rfl,fun k y hy=>by simp at hy⟩,fun _ _=>rfl,rfl,rfl,rfl,rfl⟩
  | cons v vs ih=>
    intro vs' w0 cc j hb hsz hle hv hco
    obtain ⟨v',vs'',rfl,hv1,hv2⟩:=hv.cons_inv
    simp only [SD] at hle
    let p:=pl.base + off + len * i.size + j
    have hp:p < pl.size:=by show pl.base + off + len * i.size + j < pl.size;omega
    have hone:v'.oneCell'=true:=by have:=gH hv1;rw [hco v (by simp)] at this;cases v' <;> simp_all [wZ,Value.oneCell']
    have hcell0:w0.cell? ⟨pl.c,p,none⟩=some cc[p]!:=by
     simp only [World.cell?,hb]
     simp [getElem!_def,SO (show p < cc.size by omega)]
    have hfr:w0.frozen? ⟨pl.c,p,none⟩=false:=by
     have:=g5 (by simpa using hro) p hp
     obtain ⟨lo,hi'⟩:=fz
     simp [World.frozen?,hb] at this ⊢
     exact this
    have e1:(store ⟨pl.c,p,none⟩ v').run P w0 = .ok () (w0.setCell ⟨pl.c,p,none⟩ v'):=by
     rw [run_store _ _ _ _ _ hone,hcell0];simp [hfr]
    have hb1:(w0.setCell ⟨pl.c,p,none⟩ v').heap[pl.c]? = some (.cells (cc.setIfInBounds p v') elem fz):=by simp [World.setCell,Array.getElem?_modify,hb]
    obtain ⟨w',e2,⟨dd,d1,d2,d3,d4⟩,d5,d6,d7,d8,d9⟩:=ih vs'' _ (cc.setIfInBounds p v') (j + 1) hb1 (by simpa using hsz) (by omega) hv2 (fun x hx=>hco x (by simp [hx]))
    refine ⟨w',?_,⟨dd,d1,by simpa using d2,fun k hk => ?_,fun k y hy => ?_⟩,fun k hk=>(d5 k hk).trans (UN _ _ _ _ hk),d6,d7,d8,d9.trans (size_setCell _ _ _)⟩
    ·simp only [storeCells,jY,Sj]
     rw [show (⟨pl.c,pl.base + off + len * i.size + j,none⟩:Addr)=⟨pl.c,p,none⟩ from rfl,e1]
     exact e2
    ·rw [d3 k (by omega),Tc,Sl (by show p ≠ k;omega)]
    ·cases k with
     | zero=>
       simp only [Si,Se] at hy
       subst hy
       rw [aag,d3 _ (by omega),Tc,Sn rfl,Sn (by omega)]
     | succ k=>
       have:=d4 k y (by simpa using hy)
       rw [show pl.base + off + len * i.size + j + (k + 1)=pl.base + off + len * i.size + (j + 1) + k by omega]
       exact this
 have hfit:pl.base + off + len * i.size + 0 + new.length<=pl.size:=by
  have:len * i.size + n * i.size<=cap * i.size:=by rw [<- aaw];exact TM _ hfits
  omega
 obtain ⟨w',e,⟨dd,d1,d2,d3,d4⟩,d5,d6,d7,d8,d9⟩:=key new new' w cs' 0 g1 g2 hfit vnew hcell
 refine ⟨w',?_,?_⟩
 ·simp only [Builtin.append_]
  simp only [TS,Si,So,Sj,zj h1,Sg,sz2,zj h2,Ss]
  rw [Sl (by cases xd <;> first | exact aap | cases h3)]
  simp only [Sj,hlen,Sg]
  rw [Sn hfits]
  rw [Sn (by cases xd <;> first | rfl | cases h3)]
  simp only [Sj,hnew,Sg,jY,e,Ss]
 ·have hr0:=hr.drop b
  have hle:=ρ.cQ ⟨pl.c,pl.base + off,pl.size,pl.C7⟩
  have hr1:Rel P ρ (h.set b none) w':=⟨hr0.next,hr0.ro,hr0.UL,fun x ox hx=>by
    obtain ⟨p,hp,hc⟩:=hr0.ok x ox hx
    refine ⟨p,hp,hc.other (d5 _ ?_)⟩
    intro ec
    rw [za.yD] at hx
    split at hx
    ·cases hx
    ·rename_i ne
     exact ne (hr.inj x b _ _ p pl hx hg hp hm ec),hr0.inj,hr0.cN,hr0.Z7⟩
  refine ⟨hle,hr1.push ⟨dd,fz,d1,d2.trans g2,⟨g3.1,by
   show (pl.base + off) % pl.C7=0
   rw [Nat.add_mod,g3.2,g3.1,sz1,hoff];simp⟩,?_,fun _=>g5 (by simpa using hro),?_⟩ ?_,rfl,d6,d7,d8,by omega,fun k hk hn=>d5 k (fun ec=>hn ⟨b,_,pl,hg,hro,hm,ec.symm⟩),?_⟩
  ·simp only [aao,aak,T9,hnl] at hfit ⊢
   have:len * i.size + n * i.size<=cap * i.size:=by rw [<- aaw];exact TM _ hfits
   show pl.base + off + (min (len * i.size) (cs.length - off) + n * i.size)<=dd.size
   omega
  ·intro k x hx
   rcases SC k (len * i.size) with hk | hk
   ·have hk':k < ((cs.drop off).take (len * i.size)).length:=by simp only [aak,T9];omega
    rw [Tl hk',Td hk,S5] at hx
    obtain ⟨y,hy,hxy⟩:=g6 _ _ hx
    exact ⟨y,by rw [show (pl.base + off:Nat) + k=pl.base + (off + k) by omega,d3 _ (by omega)];exact hy,hxy.mono hle⟩
   ·have hl0:((cs.drop off).take (len * i.size)).length=len * i.size:=by simp only [aak,T9];omega
    rw [Tu (by omega),hl0] at hx
    obtain ⟨y,hy,hxy⟩:=vnew.get hx
    refine ⟨y,?_,hxy.mono hle⟩
    have:=d4 _ _ hy
    rw [show (pl.base + off:Nat) + k=pl.base + off + len * i.size + 0 + (k - len * i.size) by omega]
    exact this
  ·intro x o p hx hp ec
   rw [za.yD] at hx
   split at hx
   ·cases hx
   ·rename_i ne
    exact ne (hr.inj x b _ _ p pl hx hg hp hm ec)
  ·rintro k hk ⟨x,o,p,hx,hrx,hp,hpc⟩
   rw [za.uA] at hx
   split at hx
   ·rename_i ex
    subst ex
    rw [show (h.set b none).next=ρ.next from hr.next.symm,xn.kD] at hp
    cases hp
    exact ⟨b,_,pl,hg,hro,hm,hpc⟩
   ·have hlt:=hr0.UL x o hx
    have hp':ρ.m x=some p:=by rw [<- hp];exact (hle.2 x (by rw [hr0.next];exact hlt)).symm
    rw [za.yD] at hx
    split at hx
    ·cases hx
    ·exact ⟨x,o,p,hx,hrx,hp',hpc⟩
end
noncomputable section
variable {P:Program}
def ji (c need:Nat):Nat :=
 match c with
 | k + 2=>cond (Nat.ble need k) (k + 2) 1
 | _=>1
theorem WA {c need k:Nat} (h:ji c need=k + 2):c=k + 2/\need<=k:=by
 unfold ji at h
 split at h
 ·rename_i q
  cases hq:Nat.ble need q with
  | true=>rw [hq] at h;simp only [SA] at h;exact ⟨h,by have:=SH hq;omega⟩
  | false=>rw [hq] at h;simp only [SK] at h;omega
 ·omega
def roomFor (c need bytes:Nat):Bool:=Nat.ble (need * bytes) (cond (Nat.beq c 2) (2 ^ 48) (2 ^ 47))
def VA (h:za) (elem:TypeId) (i:TypeInfo) (n:Nat) (new:List Value) (s:Value):Option (Value × za) :=
 match s with
 | .slice none 0 0=>cond (Nat.beq n 0) (some (.slice none 0 0,h)) (cond (Nat.ble (n * i.bytes) (2 ^ 48)) (some (.slice (some ⟨h.next,0,none⟩) n 1,h.push (.cells new elem))) none)
 | .slice (some ⟨b,off,none⟩) len c=>cond (Nat.beq n 0) (some (s,h)) (match h.get b with
   | some (.cells cs t)=>cond (!(Nat.beq c 0) && Nat.beq t elem && Nat.ble h.ro b && Nat.ble (off + len * i.size) cs.length && (roomFor c (len + n) i.bytes && Nat.beq (off % i.size) 0))
     (some (.slice (some ⟨h.next,0,none⟩) (len + n) (ji c (len + n)),(h.set b none).push (.cells (((cs.drop off).take (len * i.size)) ++ new) elem))) none
   | _=>none)
 | _=>none
def W1 (P:Program) (sT xT:TypeId) (s x:Value) (h:za):Option (Value × za) :=
 match z9 P (underlying sT),z9 P (underlying xT),Ws x with
 | some (.slice elem),some xd,some n=>(match z9 P (typeInfo elem),wY P elem with
   | some i,some z=>(match uJ h n i.size x with
     | some new=>cond (!(cP xd) && Nat.blt 0 i.bytes && Nat.beq z.cells.size i.size && new.all wZ && Nat.beq new.length (n * i.size)) (VA h elem i n new s) none
     | none=>none)
   | _,_=>none)
 | _,_,_=>none
theorem Step.Ce {ρ:xn} {h:za} {w:World} (hr:Rel P ρ h w) (b:Nat):Step P ρ h w ρ (h.set b none) w :=
 ⟨xn.le_refl _,hr.drop b,rfl,rfl,rfl,rfl,Sp _,fun _ _ _=>rfl,fun c _ hm=>by
  obtain ⟨x,o,pl,hx,h1,h2,h3⟩:=hm
  rw [za.yD] at hx
  split at hx
  ·cases hx
  ·exact ⟨x,o,pl,hx,h1,h2,h3⟩⟩
theorem XY {sT xT elem:TypeId} {r:TypeId} {xd:TypeDesc} {i:TypeInfo} {len cap:Nat} {base:Option Addr} {x':Value} {w:World}
  (h1:z9 P (underlying sT)=some (.slice elem)) (h2:z9 P (underlying xT)=some xd) (h3:cP xd=false) (hi:z9 P (typeInfo elem)=some i)
  (hlen:∀ w,(Builtin.lenOf x').run P w = .ok 0 w) (hl:len<=cap) (hnew:(Builtin.firstCells i.size 0 x').run P w = .ok ([]:List Value).toArray w) :
  (Builtin.append_ #[sT,xT] r #[.slice base len cap,x']).run P w = .ok (.slice base len cap) w:=by
 obtain ⟨sz1,sz2⟩:=jm hi
 simp only [Builtin.append_]
 simp only [TS,Si,So,Sj,zj h1,Sg,sz2,zj h2,Ss]
 rw [Sl (by cases xd <;> first | exact aap | cases h3)]
 simp only [Sj,hlen,Sg]
 rw [Sn (by omega)]
 rw [Sn (by cases xd <;> first | rfl | cases h3)]
 simp only [Sj,hnew,Sg,aag]
 cases base with
 | none=>simp only [Ss]
 | some a=>simp only [storeCells,Ss,Sg,Sj]
set_option maxHeartbeats 1000000 in
theorem lp {ρ:xn} {sT xT r:TypeId} {s s' x x' v:Value} {h h':za} {w:World} (he:W1 P sT xT s x h=some (v,h')) (hr:Rel P ρ h w) (hs:zI ρ s s') (hx:zI ρ x x') :
  ∃ v' w' ρ',(Builtin.append_ #[sT,xT] r #[s',x']).run P w = .ok v' w'/\Step P ρ h w ρ' h' w'/\zI ρ' v v':=by
 unfold W1 at he
 split at he
 case h_2=>cases he
 rename_i elem xd n h1 h2 hn
 split at he
 case h_2=>cases he
 rename_i i z hi hz
 split at he
 case h_2=>cases he
 rename_i new hnew
 cases hc:(!(cP xd) && Nat.blt 0 i.bytes && Nat.beq z.cells.size i.size && new.all wZ && Nat.beq new.length (n * i.size)) with
 | false=>rw [hc] at he;cases he
 | true=>
   rw [hc] at he
   simp only [SA] at he
   simp only [Sm,Sz,SV] at hc
   obtain ⟨⟨⟨⟨h3,hb⟩,hzs⟩,hco⟩,hnl⟩:=hc
   have hb:0 < i.bytes:=by simpa [S6] using hb
   have hzs:=Sv hzs
   have hnl:=Sv hnl
   have hlen:∀ w,(Builtin.lenOf x').run P w = .ok n w:=fun w=>dz hn hx w
   have hnx:∀ b l cap,x = .slice b l cap->n<=l:=by intro b l cap e;subst e;simp only [Ws,Se] at hn;omega
   obtain ⟨new',hnew',vnew⟩:=Uq hnew hr hx hnx
   have hnil:n=0->(Builtin.firstCells i.size 0 x').run P w = .ok ([]:List Value).toArray w:=by
    intro e
    subst e
    have:new' = []:=by have:=vnew.1;rw [hnl,aax] at this;exact Ty this.symm
    rw [this] at hnew';exact hnew'
   have hr1:Rel P ρ h { w with drawn:=w.drawn + 1 }:=hr.grow (fun k _=>rfl)
   obtain ⟨new1,hnew1,vnew1⟩:=Uq (w:={ w with drawn:=w.drawn + 1 }) hnew hr1 hx hnx
   unfold VA at he
   split at he
   ·
    cases hs
    cases hz0:Nat.beq n 0 with
    | true=>
      obtain rfl:=Sv hz0
      rw [hz0] at he
      simp only [SA,Se,Sh] at he
      obtain ⟨rfl,rfl⟩:=he
      exact ⟨_,w,ρ,XY h1 h2 h3 hi hlen (Sp 0) (hnil rfl),.refl hr,.sliceNil 0⟩
    | false=>
      rw [hz0] at he
      have hn0:0 < n:=by rcases aac n with e | e; · subst e;simp at hz0
                         ·exact e
      cases hlim:Nat.ble (n * i.bytes) (2 ^ 48) with
      | false=>rw [hlim] at he;cases he
      | true=>
        rw [hlim] at he
        simp only [SA,SK,Se,Sh] at he
        obtain ⟨rfl,rfl⟩:=he
        have hlim:=SH hlim
        obtain ⟨cap',w',pl,e1,e2,e3,e4,e5,e6,st⟩:=run_append_grow (r:=r) (base:=none) (len:=0) (cap:=0) (old:=[]) (old':=[]) hr h1 h2 h3 hi hz hb hzs hlen (by omega)
         (by rw [aH _ (by omega)];simpa using hlim) (by simp [Builtin.firstCells]) hnew1 (.nil ρ) vnew1 (by simp) hnl
        rw [Sy] at e1 e2
        refine ⟨_,w',_,e1,st,?_⟩
        have:=zI.slice (ρ:=ρ.ext pl) (b:=h.next) (off:=0) (len:=n) (c:=1) (cap:=cap') (pl:=pl) (by show h.next < ρ.next + 1;rw [hr.next];exact Tv _) (by rw [<- hr.next];exact ρ.kD _) e2
         (fun _=>⟨by rw [e4,e5];simpa using e6,fun k hk=>by omega⟩)
        rw [e3,e4] at this
        exact this
   ·rename_i b off len c
    cases hz0:Nat.beq n 0 with
    | true=>
      obtain rfl:=Sv hz0
      rw [hz0] at he
      simp only [SA,Se,Sh] at he
      obtain ⟨rfl,rfl⟩:=he
      cases hs with
      | slice hb' hm' hl' hc'=>exact ⟨_,w,ρ,XY h1 h2 h3 hi hlen hl' (hnil rfl),.refl hr,.slice hb' hm' hl' hc'⟩
      | sliceOut hb' hc'=>exact ⟨_,w,ρ,XY h1 h2 h3 hi hlen (Sp 0) (hnil rfl),.refl hr,.sliceOut hb' hc'⟩
    | false=>
      rw [hz0] at he
      have hn0:0 < n:=by rcases aac n with e | e; · subst e;simp at hz0
                         ·exact e
      simp only [SK] at he
      split at he
      case h_2=>cases he
      rename_i cs t hg
      cases hcc:(!(Nat.beq c 0) && Nat.beq t elem && Nat.ble h.ro b && Nat.ble (off + len * i.size) cs.length && (roomFor c (len + n) i.bytes && Nat.beq (off % i.size) 0)) with
      | false=>rw [hcc] at he;cases he
      | true=>
        rw [hcc] at he
        simp only [SA,Se,Sh] at he
        obtain ⟨rfl,rfl⟩:=he
        simp only [Sm,Sz] at hcc
        obtain ⟨⟨⟨⟨k1,k2⟩,k3⟩,k4⟩,k5,k6⟩:=hcc
        have k1:c ≠ 0:=by intro e;subst e;simp at k1
        obtain rfl:=Sv k2
        have k3:=SH k3
        have k4:=SH k4
        have hlim:∀ cap,cap < len + n->(c=2->cap=0)->Builtin.nextslicecap (len + n) cap * i.bytes<=2 ^ 48:=by
         intro cap hcap h2c
         unfold roomFor at k5
         by_cases e2:c=2
         ·subst e2
          rw [h2c rfl,aH _ (by omega)]
          simp only [aaa,SA] at k5
          exact SH k5
         ·rw [show Nat.beq c 2=false from Tr.beq_false e2] at k5
          simp only [SK] at k5
          have k5:=SH k5
          have:=Cc (len + n) cap hcap
          calc Builtin.nextslicecap (len + n) cap * i.bytes<=(2 * (len + n)) * i.bytes:=TM _ this
           _=2 * ((len + n) * i.bytes):=Nat.mul_assoc _ _ _
           _<=2 * 2 ^ 47:=Nat.mul_le_mul_left _ k5
           _=2 ^ 48:=by decide
        have hdropr:=hr.drop b
        cases hs with
        | slice hb' hm' hl' hc'=>
          rename_i cap pl
          obtain ⟨c1,c2⟩:=hc' k1
          obtain ⟨sz1,_⟩:=jm hi
          have hpl:=hr.place hg hm'
          have hesz:pl.C7=i.size:=by obtain ⟨_,_,_,_,q,_⟩:=hpl;rw [q.1,sz1]
          by_cases hfit:len + n<=cap
          ·obtain ⟨w',e1,st⟩:=lH (r:=r) hr h1 h2 h3 hi hlen hfit hg hm' k3 hnew' vnew hnl hco (by rw [<- hesz];exact c1) k4 (Sv k6)
           refine ⟨_,w',_,e1,st,?_⟩
           have:=zI.slice (ρ:=ρ.ext ⟨pl.c,pl.base + off,pl.size,pl.C7⟩) (b:=h.next) (off:=0) (len:=len + n) (c:=ji c (len + n)) (cap:=cap) (pl:=⟨pl.c,pl.base + off,pl.size,pl.C7⟩)
            (by show h.next < ρ.next + 1;rw [hr.next];exact Tv _) (by rw [<- hr.next];exact ρ.kD _) hfit
            (fun _=>⟨by simpa using c1,fun k hk=>c2 k (WA hk).1⟩)
           simpa using this
          ·have hfull:(c=2->cap=0):=fun e=>c2 0 (by omega)
           obtain ⟨old',hold',vold⟩:=jl (hr1.place hg hm') off (len * i.size) k4
           obtain ⟨cap',w',pl',e1,e2,e3,e4,e5,e6,st⟩:=run_append_grow (r:=r) (base:=some ⟨pl.c,pl.base + off,none⟩) (len:=len) (cap:=cap) hdropr h1 h2 h3 hi hz hb hzs hlen (by omega)
            (hlim cap (by omega) hfull) (by simpa only [Builtin.firstCells] using hold') hnew1 vold vnew1 (by simp only [aak,T9];omega) hnl
           refine ⟨_,w',_,e1,(Step.Ce hr b).trans st,?_⟩
           have:=zI.slice (ρ:=ρ.ext pl') (b:=h.next) (off:=0) (len:=len + n) (c:=ji c (len + n)) (cap:=cap') (pl:=pl') (by show h.next < ρ.next + 1;rw [hr.next];exact Tv _) (by rw [<- hr.next];exact ρ.kD _) e2
            (fun _=>⟨by rw [e4,e5];simpa using e6,fun k hk=>by
             have q:=WA hk
             have:=c2 k q.1
             omega⟩)
           rw [e3,e4] at this
           exact this
        | sliceOut hb' hc'=>
          obtain ⟨cap',w',pl',e1,e2,e3,e4,e5,e6,st⟩:=run_append_grow (r:=r) (base:=some _) (len:=0) (cap:=0) (old:=(cs.drop off).take (0 * i.size)) (old':=[]) hdropr h1 h2 h3 hi hz hb hzs hlen (by omega)
           (hlim 0 (by omega) (fun _=>rfl)) (by simp only [Builtin.firstCells,aax];rfl) hnew1 (by simp [wz]) vnew1 (by simp) hnl
          refine ⟨_,w',_,e1,(Step.Ce hr b).trans st,?_⟩
          have:=zI.slice (ρ:=ρ.ext pl') (b:=h.next) (off:=0) (len:=0 + n) (c:=ji c (0 + n)) (cap:=cap') (pl:=pl') (by show h.next < ρ.next + 1;rw [hr.next];exact Tv _) (by rw [<- hr.next];exact ρ.kD _) e2
           (fun _=>⟨by rw [e4,e5];simpa using e6,fun k hk=>by
            have q:=WA hk
            omega⟩)
          rw [e3,e4] at this
          exact this
   ·cases he
end
end Go.Ai
