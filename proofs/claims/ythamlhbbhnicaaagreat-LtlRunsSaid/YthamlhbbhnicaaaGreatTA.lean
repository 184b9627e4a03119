/- A part of the proof. -/
import Derived.Calls
import Derived.Below
import Derived.Laws.Sem
import Derived.Laws.Cells
import Derived.Laws.Entries
set_option linter.unusedVariables false
set_option linter.unusedSimpArgs false
set_option maxRecDepth 100000
namespace Go
abbrev pi(b:Nat):Value:=.pointer (some ⟨b,0,none⟩)
abbrev pm(z:Int):Value:=.int .i64 z
abbrev pp:Value:=.slice none 0 0
abbrev aaa:=Value
theorem aab:type_of% @Option.some.injEq:=@Option.some.injEq
theorem aac:type_of% @if_neg:=@if_neg
theorem aad:type_of% @if_true:=@if_true
theorem aae:type_of% @List.getElem?_eq_getElem:=@List.getElem?_eq_getElem
theorem aaf:type_of% @List.length_map:=@List.length_map
theorem aag:type_of% @Bool.and_eq_true:=@Bool.and_eq_true
theorem aah:type_of% @Go.Result.andThen_ok:=@Go.Result.andThen_ok
theorem aai:type_of% @if_pos:=@if_pos
theorem aaj:type_of% @Prod.mk.injEq:=@Prod.mk.injEq
theorem aak:type_of% @List.getElem?_cons_zero:=@List.getElem?_cons_zero
theorem aal:type_of% @List.getElem?_eq_none:=@List.getElem?_eq_none
theorem aam:type_of% @Nat.le_refl:=@Nat.le_refl
theorem aan:type_of% @Go.Sem.run_bind:=@Go.Sem.run_bind
theorem aao:type_of% @Nat.lt_of_lt_of_le:=@Nat.lt_of_lt_of_le
theorem aap:type_of% @List.getElem?_cons_succ:=@List.getElem?_cons_succ
theorem aaq:type_of% @List.getElem?_map:=@List.getElem?_map
theorem aar:type_of% @Nat.lt_or_ge:=@Nat.lt_or_ge
theorem aas:type_of% @not_false_eq_true:=@not_false_eq_true
theorem aat:type_of% @Option.map_eq_some_iff:=@Option.map_eq_some_iff
theorem aau:type_of% @List.mem_of_getElem?:=@List.mem_of_getElem?
theorem aav:type_of% @Nat.eq_of_beq_eq_true:=@Nat.eq_of_beq_eq_true
theorem aaw:type_of% @Go.Sem.run_pure:=@Go.Sem.run_pure
theorem aax:type_of% @Int.toNat_natCast:=@Int.toNat_natCast
theorem aay:type_of% @Nat.zero_add:=@Nat.zero_add
theorem aaz:type_of% @List.length_nil:=@List.length_nil
theorem aaA:type_of% @Bool.not_eq_true':=@Bool.not_eq_true'
theorem aaB:type_of% @List.getD_eq_getElem?_getD:=@List.getD_eq_getElem?_getD
theorem aaC:type_of% @cond_true:=@cond_true
theorem aaD:type_of% @List.all_eq_true:=@List.all_eq_true
theorem aaE:type_of% @List.length_cons:=@List.length_cons
theorem aaF:type_of% @List.toList_toArray:=@List.toList_toArray
theorem aaG:type_of% @Array.getD_eq_getD_getElem?:=@Array.getD_eq_getD_getElem?
theorem aaH:type_of% @Nat.lt_succ_self:=@Nat.lt_succ_self
theorem aaI:type_of% @Option.bind_some:=@Option.bind_some
theorem aaJ:type_of% @decide_eq_false_iff_not:=@decide_eq_false_iff_not
theorem aaK:type_of% @cond_false:=@cond_false
theorem aaL:type_of% @Nat.le_of_ble_eq_true:=@Nat.le_of_ble_eq_true
theorem aaM:type_of% @List.getElem?_set_self:=@List.getElem?_set_self
theorem aaN:type_of% @List.contains_eq_mem:=@List.contains_eq_mem
theorem aaO:type_of% @Array.getElem?_eq_none:=@Array.getElem?_eq_none
theorem aaP:type_of% @Array.getElem?_eq_getElem:=@Array.getElem?_eq_getElem
theorem aaQ:type_of% @List.mem_append:=@List.mem_append
theorem aaR:type_of% @decide_eq_true_eq:=@decide_eq_true_eq
theorem aaS:type_of% @Nat.le_trans:=@Nat.le_trans
theorem aaT:type_of% @List.filter_append:=@List.filter_append
theorem aaU:type_of% @List.take_succ_cons:=@List.take_succ_cons
theorem aaV:type_of% @List.mem_singleton:=@List.mem_singleton
theorem aaW:type_of% @List.length_set:=@List.length_set
theorem aaX:type_of% @List.getElem?_take_of_lt:=@List.getElem?_take_of_lt
theorem aaY:type_of% @List.dropLast_concat:=@List.dropLast_concat
theorem aaZ:type_of% @Bool.not_false:=@Bool.not_false
theorem aa0:type_of% @List.append_of_mem:=@List.append_of_mem
theorem aa1:type_of% @List.getElem?_drop:=@List.getElem?_drop
theorem aa2:type_of% @Bool.true_and:=@Bool.true_and
theorem aa3:type_of% @Array.mem_of_getElem?:=@Array.mem_of_getElem?
theorem aa4:type_of% @List.getElem?_set_ne:=@List.getElem?_set_ne
theorem aa5:type_of% @List.getElem?_append_right:=@List.getElem?_append_right
theorem aa6:type_of% @List.all_cons:=@List.all_cons
theorem aa7:type_of% @Nat.blt_eq:=@Nat.blt_eq
theorem aa8:type_of% @Option.isSome_none:=@Option.isSome_none
theorem aa9:type_of% @List.set_cons_succ:=@List.set_cons_succ
theorem aba:type_of% @Nat.zero_le:=@Nat.zero_le
theorem abb:type_of% @Bool.and_true:=@Bool.and_true
theorem abc:type_of% @List.ext_getElem?:=@List.ext_getElem?
theorem abd:type_of% @Go.Value.slice.injEq:=@Go.Value.slice.injEq
theorem abe:type_of% @if_false:=@if_false
theorem abf:type_of% @Bool.or_eq_true:=@Bool.or_eq_true
theorem abg:type_of% @and_true:=@and_true
theorem abh:type_of% @Option.isSome_some:=@Option.isSome_some
theorem abj:type_of% @List.getElem?_append_left:=@List.getElem?_append_left
theorem abk:type_of% @Nat.mul_one:=@Nat.mul_one
theorem abl:type_of% @List.set_cons_zero:=@List.set_cons_zero
theorem abm:type_of% @List.mem_map:=@List.mem_map
theorem abn:type_of% @Option.bind_none:=@Option.bind_none
theorem abo:type_of% @Bool.false_eq_true:=@Bool.false_eq_true
theorem abp:type_of% @List.map_append:=@List.map_append
theorem abq:type_of% @Bool.not_true:=@Bool.not_true
theorem abr:type_of% @Nat.le_succ:=@Nat.le_succ
theorem abt:type_of% @List.mem_cons:=@List.mem_cons
theorem abu:type_of% @Nat.le_succ_of_le:=@Nat.le_succ_of_le
theorem abv:type_of% @of_decide_eq_true:=@of_decide_eq_true
theorem abw:type_of% @Go.Addr.mk.injEq:=@Go.Addr.mk.injEq
theorem abx:type_of% @Int.tmod_eq_emod_of_nonneg:=@Int.tmod_eq_emod_of_nonneg
theorem aby:type_of% @Array.getElem?_setIfInBounds:=@Array.getElem?_setIfInBounds
theorem abz:type_of% @List.mem_range:=@List.mem_range
theorem abA:type_of% @List.drop_zero:=@List.drop_zero
theorem abB:type_of% @List.perm_append_comm:=@List.perm_append_comm
theorem abC:type_of% @List.all_nil:=@List.all_nil
theorem abD:type_of% @List.take_nil:=@List.take_nil
theorem abE:type_of% @List.cons.injEq:=@List.cons.injEq
theorem abF:type_of% @List.eq_nil_or_concat:=@List.eq_nil_or_concat
theorem abG:type_of% @Option.getD_some:=@Option.getD_some
theorem abH:type_of% @List.length_append:=@List.length_append
theorem abI:type_of% @List.getLast?_concat:=@List.getLast?_concat
theorem abJ:type_of% @List.eq_nil_of_length_eq_zero:=@List.eq_nil_of_length_eq_zero
theorem abK:type_of% @List.cons_append:=@List.cons_append
theorem abL:type_of% @List.length_eq_zero_iff:=@List.length_eq_zero_iff
theorem abM:type_of% @List.concat_eq_append:=@List.concat_eq_append
theorem abN:type_of% @List.length_replicate:=@List.length_replicate
theorem abO:type_of% @Option.some.inj:=@Option.some.inj
theorem abP:type_of% @Array.length_toList:=@Array.length_toList
theorem abQ:type_of% @true_and:=@true_and
theorem abR:type_of% @Nat.mul_le_mul_right:=@Nat.mul_le_mul_right
theorem abS:type_of% @List.filter_cons:=@List.filter_cons
theorem abT:type_of% @List.nil_append:=@List.nil_append
theorem abU:type_of% @beq_self_eq_true:=@beq_self_eq_true
theorem abV:type_of% @Option.map_some:=@Option.map_some
theorem abW:type_of% @Int.toNat_of_nonneg:=@Int.toNat_of_nonneg
theorem abX:type_of% @List.filter_congr:=@List.filter_congr
theorem abY:type_of% @Option.bind_eq_some_iff:=@Option.bind_eq_some_iff
theorem abZ:type_of% @List.getElem?_replicate:=@List.getElem?_replicate
theorem ab0:type_of% @List.getElem?_set:=@List.getElem?_set
theorem ab1:type_of% @List.take_add_one:=@List.take_add_one
theorem ab2:type_of% @Array.eq_empty_of_size_eq_zero:=@Array.eq_empty_of_size_eq_zero
theorem ab3:type_of% @Bool.and_false:=@Bool.and_false
theorem ab4:type_of% @List.getElem?_toArray:=@List.getElem?_toArray
theorem ab5:type_of% @List.map_set:=@List.map_set
theorem ab6:type_of% @List.append_nil:=@List.append_nil
theorem ab7:type_of% @List.map_cons:=@List.map_cons
theorem ab8:type_of% @Nat.eq_zero_or_pos:=@Nat.eq_zero_or_pos
theorem ab9:type_of% @Array.toArray_toList:=@Array.toArray_toList
theorem aca:type_of% @List.getElem?_append:=@List.getElem?_append
theorem acb:type_of% @Option.getD_none:=@Option.getD_none
theorem acd:type_of% @Int.fdiv_eq_ediv_of_nonneg:=@Int.fdiv_eq_ediv_of_nonneg
theorem ace:type_of% @List.take_of_length_le:=@List.take_of_length_le
theorem acf:type_of% @List.append_assoc:=@List.append_assoc
theorem acg:type_of% @Classical.not_not:=@Classical.not_not
theorem ach:type_of% @List.mem_filter:=@List.mem_filter
theorem aci:type_of% @Array.getElem?_replicate:=@Array.getElem?_replicate
theorem acj:type_of% @List.filter_filter:=@List.filter_filter
theorem ack:type_of% @List.take_length:=@List.take_length
theorem acm:type_of% @List.mem_cons_of_mem:=@List.mem_cons_of_mem
theorem acn:type_of% @Go.Steps.trans:=@Go.Steps.trans
theorem aco:type_of% @Bool.false_and:=@Bool.false_and
theorem acp:type_of% @Nat.ble_eq:=@Nat.ble_eq
theorem acq:type_of% @List.mem_map_of_mem:=@List.mem_map_of_mem
theorem acr:type_of% @List.drop_succ_cons:=@List.drop_succ_cons
theorem acs:type_of% @List.all_append:=@List.all_append
theorem acu:type_of% @Int.tdiv_eq_ediv_of_nonneg:=@Int.tdiv_eq_ediv_of_nonneg
theorem acv:type_of% @Array.ext':=@Array.ext'
theorem acw:type_of% @List.length_take:=@List.length_take
theorem acx:type_of% @List.prefix_refl:=@List.prefix_refl
theorem acy:type_of% @Nat.beq_refl:=@Nat.beq_refl
theorem acz:type_of% @Nat.add_assoc:=@Nat.add_assoc
theorem acA:type_of% @Nat.add_zero:=@Nat.add_zero
theorem acB:type_of% @List.mem_cons_self:=@List.mem_cons_self
theorem acC:type_of% @List.mem_or_eq_of_mem_set:=@List.mem_or_eq_of_mem_set
theorem acD:type_of% @Bool.or_eq_false_iff:=@Bool.or_eq_false_iff
theorem acE:type_of% @Nat.lt_succ_of_lt:=@Nat.lt_succ_of_lt
theorem acF:type_of% @Nat.succ_le_of_lt:=@Nat.succ_le_of_lt
theorem acG:type_of% @Nat.le_of_not_lt:=@Nat.le_of_not_lt
theorem acH:type_of% @Bool.not_eq_true:=@Bool.not_eq_true
theorem acI:type_of% @List.length_drop:=@List.length_drop
theorem acJ:type_of% @Go.Sem.run_ite:=@Go.Sem.run_ite
theorem acK:type_of% @List.take_zero:=@List.take_zero
theorem acL:type_of% @List.filter_eq_nil_iff:=@List.filter_eq_nil_iff
theorem acM:type_of% @Bool.false_ne_true:=@Bool.false_ne_true
theorem acN:type_of% @List.getElem?_take:=@List.getElem?_take
theorem acO:type_of% @Nat.sub_self:=@Nat.sub_self
theorem acP:type_of% @Nat.zero_mul:=@Nat.zero_mul
theorem acQ:type_of% @decide_false:=@decide_false
theorem acR:type_of% @Nat.succ_mul:=@Nat.succ_mul
theorem acS:type_of% @Nat.beq_eq:=@Nat.beq_eq
theorem acT:type_of% @Bool.false_or:=@Bool.false_or
theorem acU:type_of% @List.flatten_cons:=@List.flatten_cons
theorem acV:type_of% @List.tail_drop:=@List.tail_drop
theorem acW:type_of% @List.Perm.refl:=@List.Perm.refl
theorem acX:type_of% @BitVec.ofInt_add:=@BitVec.ofInt_add
theorem acY:type_of% @Go.Checked.mixed:=@Go.Checked.mixed
theorem acZ:type_of% @Nat.add_mul:=@Nat.add_mul
theorem ac0:type_of% @List.map_nil:=@List.map_nil
theorem ac1:type_of% @Bool.and_self:=@Bool.and_self
theorem ac2:type_of% @decide_true:=@decide_true
end Go
namespace Go.Ai
noncomputable section
inductive Tr (α:Type) where
 |e
 |n (v:Option α) (l r:Tr α)
namespace Tr
variable {α:Type}
def get(t:Tr α)(k:Nat):Option α :=
 @Tr.rec α (λ_=>Nat->Option α) (λ_=>none)
  (λv _ _ gl gr k=>@Bool.rec (λ_=>Option α) (@Bool.rec (λ_=>Option α) (gr (Nat.sub (Nat.div k 2) 1)) (gl (Nat.div k 2)) (Nat.beq (Nat.mod k 2) 1)) v (Nat.beq k 0)) t k
def EV(f:Nat):Tr α->Nat->Option α->Tr α :=
 @Nat.rec (λ_=>Tr α->Nat->Option α->Tr α) (λt _ _=>t)
  (λ_ ih t k x=>@Tr.rec α (λ_=>Tr α)
   (@Bool.rec (λ_=>Tr α) (@Bool.rec (λ_=>Tr α) (.n none .e (ih .e (Nat.sub (Nat.div k 2) 1) x)) (.n none (ih .e (Nat.div k 2) x) .e) (Nat.beq (Nat.mod k 2) 1)) (.n x .e .e) (Nat.beq k 0))
   (λv l r _ _=>@Bool.rec (λ_=>Tr α) (@Bool.rec (λ_=>Tr α) (.n v l (ih r (Nat.sub (Nat.div k 2) 1) x)) (.n v (ih l (Nat.div k 2) x) r) (Nat.beq (Nat.mod k 2) 1)) (.n x l r) (Nat.beq k 0)) t) f
def set(t:Tr α)(k:Nat)(x:Option α):Tr α:=EV (Nat.succ k) t k x
@[simp] theorem zfP (k:Nat):(Tr.e:Tr α).get k=none:=rfl
theorem beq_false{a b:Nat}(h:a≠b):Nat.beq a b=false:=by
 cases e:Nat.beq a b
 ·rfl
 ·exact absurd (aav e) h
theorem beq_true{a b:Nat}(h:a=b):Nat.beq a b=true:=by subst h;exact acy a
theorem Ds(v:Option α)(l r:Tr α)(k:Nat):(Tr.n v l r).get k=if k=0 then v else if k%2=1 then l.get (k/2) else r.get (k/2-1):=by
 show @Bool.rec (λ_=>Option α) (@Bool.rec (λ_=>Option α) (r.get (k/2-1)) (l.get (k/2)) (Nat.beq (k%2) 1)) v (Nat.beq k 0)=_;by_cases h:k=0
 ·rw[beq_true h,aai h]
 ·rw[beq_false h,aac h];by_cases h2:k%2=1
  ·rw[beq_true h2,aai h2]
  ·rw[beq_false h2,aac h2]
theorem zg9(f:Nat)(k:Nat)(x:Option α):EV (f+1) .e k x=EV (f+1) (.n none .e .e) k x:=rfl
theorem zha(f:Nat)(v:Option α)(l r:Tr α)(k:Nat)(x:Option α) :
  EV (f+1) (.n v l r) k x=if k=0 then .n x l r else if k%2=1 then .n v (EV f l (k/2) x) r else .n v l (EV f r (k/2-1) x):=by
 show @Bool.rec (λ_=>Tr α) (@Bool.rec (λ_=>Tr α) (.n v l (EV f r (k/2-1) x)) (.n v (EV f l (k/2) x) r) (Nat.beq (k%2) 1)) (.n x l r) (Nat.beq k 0)=_;by_cases h:k=0
 ·rw[beq_true h,aai h]
 ·rw[beq_false h,aac h];by_cases h2:k%2=1
  ·rw[beq_true h2,aai h2]
  ·rw[beq_false h2,aac h2]
theorem zcY(f:Nat):∀(t:Tr α) (k j:Nat) (x:Option α),k<f->(EV f t k x).get j=if j=k then x else t.get j:=by
 induction f with
 |zero=>intro t k j x h;omega
 |succ f ih=>
  have node:∀(v:Option α) (l r:Tr α) (k j:Nat) (x:Option α),k<f+1->(EV (f+1) (.n v l r) k x).get j=if j=k then x else (Tr.n v l r).get j:=by
   intro v l r k j x h;rw[zha];by_cases h0:k=0
   ·subst h0;rw[aai rfl,Ds,Ds];by_cases hj:j=0
    ·simp[hj]
    ·simp[hj]
   ·rw[aac h0];by_cases h1:k%2=1
    ·rw[aai h1,Ds,Ds,ih _ _ _ _ (by omega)];by_cases hj:j=0
     ·subst hj;simp[Ne.symm h0]
     ·rw[aac hj,aac hj];by_cases hj2:j%2=1
      ·rw[aai hj2,aai hj2];by_cases e:j=k
       ·subst e;simp
       ·rw[aac e,aac (by omega)]
      ·rw[aac hj2,aac hj2,aac (by intro e;subst e;exact hj2 h1)]
    ·rw[aac h1,Ds,Ds,ih _ _ _ _ (by omega)];by_cases hj:j=0
     ·subst hj;simp[Ne.symm h0]
     ·rw[aac hj,aac hj];by_cases hj2:j%2=1
      ·rw[aai hj2,aai hj2,aac (by intro e;subst e;exact h1 hj2)]
      ·rw[aac hj2,aac hj2];by_cases e:j=k
       ·subst e;simp
       ·rw[aac e,aac (by omega)]
  intro t k j x h;cases t with
  |e=>
   rw[zg9,node _ _ _ _ _ _ h];by_cases e:j=k
   ·simp[e]
   ·simp only[aac e,Ds,zfP];split <;> (try split) <;> rfl
  |n v l r=>exact node v l r k j x h
theorem yI(t:Tr α)(k j:Nat)(x:Option α):(t.set k x).get j=if j=k then x else t.get j :=
 zcY (k+1) t k j x (aaH k)
def ofList(t:Tr α)(i:Nat):List α->Tr α
 |[]=>t
 |a::l=>ofList (t.set i (some a)) (i+1) l
theorem OU(l:List α):∀(t:Tr α) (i j:Nat),(ofList t i l).get j=if i<=j/\j<i+l.length then l[j-i]? else t.get j:=by
 induction l with
 |nil=>intro t i j;simp[ofList];omega
 |cons a l ih=>
  intro t i j;rw[ofList,ih,yI];by_cases h:j=i
  ·subst h;rw[aac (by omega),aai rfl,aai (by simp),acO];rfl
  ·by_cases h2:i+1<=j/\j<i+1+l.length
   ·rw[aai h2,aai (by simp;omega)];have:j-i=(j-(i+1))+1:=by omega
    rw[this];rfl
   ·rw[aac h2,aac h,aac (by simp;omega)]
end Tr
structure Env where
 t:Tr Value
 size:Nat
def Env.get(s:Env)(i:Nat):Value := @Option.rec Value (λ_=>Value) undef (λv=>v) (s.t.get i)
theorem Env.get_eq(s:Env)(i:Nat):s.get i=(s.t.get i).getD undef:=by
 unfold Env.get;cases s.t.get i <;> rfl
def Env.set(s:Env)(i:Nat)(v:Value):Env := @Env.rec (λ_=>Env) (λt n=>⟨t.set i (some v),n⟩) s
theorem Env.ziA(s:Env)(i:Nat)(v:Value):(s.set i v).t=s.t.set i (some v):=rfl
def Env.put(s:Env)(d:Option Nat)(v:Value):Option Env :=
 match d with
 |none=>some s
 |some d=>cond (Nat.blt d s.size) (some (s.set d v)) none
theorem Env.yI(s:Env)(i j:Nat)(v:Value):(s.set i v).get j=if j=i then v else s.get j:=by
 simp only[Env.get_eq,Env.ziA,Tr.yI];split <;> rfl
@[simp] theorem Env.size_set (s:Env) (i:Nat) (v:Value):(s.set i v).size=s.size:=rfl
def Tb{α:Type}(n:Nat)(f:Nat->α):α := @Nat.rec (λ_=>α) (f 0) (λm _=>f (Nat.succ m)) n
theorem PA{α:Type}(n:Nat)(f:Nat->α):Tb n f=f n:=by cases n <;> rfl
def Env.enter(args:List Value)(n:Nat):Env:=Tb (max args.length n) λk=>{t:=Tr.ofList .e 0 args,size:=k}
theorem Env.Df(args:List Value)(n:Nat):Env.enter args n = {t:=Tr.ofList .e 0 args,size:=max args.length n}:=PA _ _
theorem Env.zan(args:List Value)(n j:Nat):(Env.enter args n).get j=(args[j]?).getD undef:=by
 simp only[Env.get_eq,Env.Df,Tr.OU,Tr.zfP];by_cases h:j<args.length
 ·rw[aai (by omega)];rfl
 ·rw[aac (by omega),aal (by omega)]
structure Yl where
 state:LoopState
 pending:Option Code
 s:Env
 params:Array Tmp
 assign:Code
 body:Code
inductive wA where
 |cells (c:List Value) (elem:TypeId)
 |map (es:List (Value×Value×Nat)) (clock:Nat)
 |iter (m:Option Nat) (since:Nat) (seen:List Nat) (last:Nat)
 |siter (s:ByteArray) (pos:Nat)
 |tab (c:List Value)
 |loop (l:Yl)
structure za where
 t:Tr wA
 next:Nat
 ro:Nat
def za.get(h:za)(b:Nat):Option wA:=h.t.get b
def za.set(h:za)(b:Nat)(o:Option wA):za := @za.rec (λ_=>za) (λt n r=>⟨t.set b o,n,r⟩) h
def za.push(h:za)(o:wA):za := @za.rec (λ_=>za) (λt n r=>⟨t.set n (some o),Nat.succ n,r⟩) h
theorem za.yI(h:za)(b c:Nat)(o:Option wA):(h.set b o).get c=if c=b then o else h.get c:=Tr.yI _ _ _ _
theorem za.vA(h:za)(c:Nat)(o:wA):(h.push o).get c=if c=h.next then some o else h.get c:=Tr.yI _ _ _ _
@[simp] theorem za.lV (h:za) (o:wA):(h.push o).next=h.next+1:=rfl
def za.lock(h:za):za := @za.rec (λ_=>za) (λt n _=>⟨t,n,n⟩) h
structure Place where
 c:Nat
 base:Nat
 size:Nat
 So:Nat
structure xt where
 next:Nat
 m:Nat->Option Place
def zhy(pl:Place)(off cap:Nat)(c:Nat):Prop:=c≠0->off+cap*pl.So<=pl.size /\ ∀k,c=k+2->cap=k
def bot:Value := .complex .f32 0 0
def Iv:Value->Bool
 | .bool _ | .agg _ | .tuple _=>false
 |_=>true
inductive zS (ρ:xt):Value->Value->Prop
 |Iv {v:Value} (h:Iv v=true):zS ρ bot v
 |bool (b:Bool):zS ρ (.bool b) (.bool b)
 |int (k:IntKind) (n:Int):zS ρ (.int k n) (.int k n)
 |float (k:FloatKind) (n:Nat):zS ρ (.float k n) (.float k n)
 |string (s:ByteArray):zS ρ (.string s) (.string s)
 |ptrNil:zS ρ (.pointer none) (.pointer none)
 |ptr {b off:Nat} {pl:Place} (hb:b<ρ.next) (hm:ρ.m b=some pl):zS ρ (.pointer (some ⟨b,off,none⟩)) (.pointer (some ⟨pl.c,pl.base+off,none⟩))
 |XR {g off:Nat}:zS ρ (.pointer (some ⟨g,off,some 0⟩)) (.pointer (some ⟨g,off,none⟩))
 |sliceNil (c:Nat):zS ρ (.slice none 0 c) (.slice none 0 0)
 |slice {b off len c cap:Nat} {pl:Place} (hb:b<ρ.next) (hm:ρ.m b=some pl) (hl:len<=cap) (hc:zhy pl (pl.base+off) cap c) :
   zS ρ (.slice (some ⟨b,off,none⟩) len c) (.slice (some ⟨pl.c,pl.base+off,none⟩) len cap)
 |sliceOut {b off c:Nat} {a:Addr} (hb:b<ρ.next) (hc:c<=2):zS ρ (.slice (some ⟨b,off,none⟩) 0 c) (.slice (some a) 0 0)
 |nilFunc:zS ρ .nilFunc .nilFunc
 |nilIface:zS ρ .nilIface .nilIface
 |mapNil:zS ρ (.map none) (.map none)
 |map {b:Nat} {pl:Place} (hb:b<ρ.next) (hm:ρ.m b=some pl):zS ρ (.map (some b)) (.map (some pl.c))
 |yield {b:Nat} {pl:Place} (hb:b<ρ.next) (hm:ρ.m b=some pl):zS ρ (.func (.yield b) #[] #[]) (.func (.yield pl.c) #[] #[])
 |iface {t:TypeId} {x y:Value} (h:zS ρ x y):zS ρ (.iface t x) (.iface t y)
 |func {f:FuncId} {a c a' c':Array Value} (ha:a.size=a'.size) (hc:c.size=c'.size)
   (h:∀(i:Nat) x y,a[i]? = some x->a'[i]? = some y->zS ρ x y) (h':∀(i:Nat) x y,c[i]? = some x->c'[i]? = some y->zS ρ x y):zS ρ (.func (.func f) a c) (.func (.func f) a' c')
 |agg {a a':Array Value} (ha:a.size=a'.size) (h:∀(i:Nat) x y,a[i]? = some x->a'[i]? = some y->zS ρ x y):zS ρ (.agg a) (.agg a')
 |tuple {a a':Array Value} (ha:a.size=a'.size) (h:∀(i:Nat) x y,a[i]? = some x->a'[i]? = some y->zS ρ x y):zS ρ (.tuple a) (.tuple a')
def xt.le(ρ ρ':xt):Prop:=ρ.next<=ρ'.next /\ ∀b,b<ρ.next->ρ'.m b=ρ.m b
theorem xt.le_refl(ρ:xt):ρ.le ρ:=⟨aam _,λ_ _=>rfl⟩
theorem xt.le_trans{a b c:xt}(h:a.le b)(k:b.le c):a.le c:=⟨aaS h.1 k.1,λx hx=>(k.2 x (aao hx h.1)).trans (h.2 x hx)⟩
theorem zS.mono{ρ ρ':xt}(hle:ρ.le ρ'){v v':Value}(h:zS ρ v v'):zS ρ' v v':=by
 induction h with
 |Iv h=>exact .Iv h
 |bool b=>exact .bool b
 |int k n=>exact .int k n
 |float k n=>exact .float k n
 |string s=>exact .string s
 |ptrNil=>exact .ptrNil
 |ptr hb hm=>exact .ptr (aao hb hle.1) ((hle.2 _ hb).trans hm)
 |XR=>exact .XR
 |sliceNil c=>exact .sliceNil c
 |slice hb hm hl hc=>exact .slice (aao hb hle.1) ((hle.2 _ hb).trans hm) hl hc
 |sliceOut hb hc=>exact .sliceOut (aao hb hle.1) hc
 |nilFunc=>exact .nilFunc
 |nilIface=>exact .nilIface
 |mapNil=>exact .mapNil
 |map hb hm=>exact .map (aao hb hle.1) ((hle.2 _ hb).trans hm)
 |yield hb hm=>exact .yield (aao hb hle.1) ((hle.2 _ hb).trans hm)
 |iface _ ih=>exact .iface ih
 |func ha hc _ _ ih ih'=>exact .func ha hc ih ih'
 |agg ha _ ih=>exact .agg ha ih
 |tuple ha _ ih=>exact .tuple ha ih
def xV(ρ:xt)(xs ys:List Value):Prop:=xs.length=ys.length /\ ∀(i:Nat) x y,xs[i]? = some x->ys[i]? = some y->zS ρ x y
theorem xV.nil(ρ:xt):xV ρ [] []:=⟨rfl,λi x y h=>by simp at h⟩
theorem xV.cons{ρ:xt}{x y:Value}{xs ys:List Value}(h:zS ρ x y)(hs:xV ρ xs ys):xV ρ (x::xs) (y::ys) :=
 ⟨by simp[hs.1],λi a b ha hb=>by
  cases i with
  |zero=>simp at ha hb;subst ha hb;exact h
  |succ i=>exact hs.2 i a b (by simpa using ha) (by simpa using hb)⟩
theorem xV.cons_inv{ρ:xt}{x:Value}{xs ys:List Value}(h:xV ρ (x::xs) ys):∃y ys',ys=y::ys'/\zS ρ x y/\xV ρ xs ys':=by
 cases ys with
 |nil=>simp[xV]at h
 |cons y ys=>exact⟨y,ys,rfl,h.2 0 x y rfl rfl,by simpa using h.1,λi a b ha hb=>h.2 (i+1) a b (by simpa using ha) (by simpa using hb)⟩
theorem xV.uW{ρ:xt}{ys:List Value}(h:xV ρ [] ys):ys=[]:=by
 have:=h.1;simp at this;exact abJ this.symm
theorem xV.mono{ρ ρ':xt}(hle:ρ.le ρ'){xs ys:List Value}(h:xV ρ xs ys):xV ρ' xs ys:=⟨h.1,λi x y hx hy=>(h.2 i x y hx hy).mono hle⟩
theorem xV.append{ρ:xt}{a b c d:List Value}(h:xV ρ a b)(k:xV ρ c d):xV ρ (a++c) (b++d):=by
 refine⟨by simp[h.1,k.1],λi x y hx hy=>?_⟩;by_cases hi:i<a.length
 ·rw[abj hi]at hx;rw[abj (by rw[<- h.1];exact hi)]at hy;exact h.2 i x y hx hy
 ·rw[aa5 (by omega)]at hx;rw[aa5 (by rw[<- h.1];omega),<- h.1]at hy;exact k.2 _ x y hx hy
theorem xV.get{ρ:xt}{xs ys:List Value}(h:xV ρ xs ys){i:Nat}{x:Value}(hx:xs[i]? = some x):∃y,ys[i]? = some y/\zS ρ x y:=by
 have hi:i<xs.length:=by
  rcases aar i xs.length with h|h
  ·exact h
  ·rw[aal h]at hx;cases hx
 have hj:i<ys.length:=h.1 ▸ hi;exact⟨ys[i],aae hj,h.2 i x _ hx (aae hj)⟩
def plain:Value->Bool
 | .bool _ | .int _ _ | .float _ _ | .string _ | .pointer none | .nilFunc | .nilIface | .map none=>true
 | .slice none n c=>Nat.beq n 0&&Nat.beq c 0
 | .func (.func _) a c=>Nat.beq a.size 0&&Nat.beq c.size 0
 | .tuple a=>Nat.beq a.size 0
 |_=>false
theorem KO{a:Array Value}(h:Nat.beq a.size 0=true):a = #[]:=ab2 (aav h)
theorem zS.YT(ρ:xt){v:Value}(h:plain v=true):zS ρ v v:=by
 cases v with
 |bool b=>exact .bool _
 |int k n=>exact .int _ _
 |float k n=>exact .float _ _
 |string s=>exact .string _
 |nilFunc=>exact .nilFunc
 |nilIface=>exact .nilIface
 |pointer a=>cases a <;> first|exact .ptrNil|cases h
 |map a=>cases a <;> first|exact .mapNil|cases h
 |slice a n c=>
  cases a with
  |some a=>cases h
  |none=>
   simp only[plain,aag]at h;obtain rfl:=aav h.1;obtain rfl:=aav h.2;exact .sliceNil _
 |func f a c=>
  cases f with
  |func f=>
   simp only[plain,aag]at h;obtain rfl:=KO h.1;obtain rfl:=KO h.2;exact .func rfl rfl (λi x y hx=>by simp at hx) (λi x y hx=>by simp at hx)
  |_=>cases h
 |tuple a=>
  obtain rfl:=KO h;exact .tuple rfl (λi x y hx=>by simp at hx)
 |_=>cases h
def yN:Value->Bool
 | .agg _ | .tuple _=>false
 |_=>true
theorem C7{ρ:xt}{v v':Value}(h:zS ρ v v'):yN v'=yN v:=by
 cases h with
 |Iv h=>cases v' <;> first|rfl|cases h
 |_=>rfl
def xA(P:Program)(ρ:xt)(wr:Bool)(c:List Value)(elem:TypeId)(pl:Place)(w:World):Prop :=
 ∃cs fz,w.heap[pl.c]? = some (.cells cs elem fz)/\cs.size=pl.size/\(pl.So=P.cellsOf elem/\pl.base%pl.So=0)/\pl.base+c.length<=cs.size /\
  (wr=true->∀i,i<pl.size->¬(fz.1<=i/\i<fz.2)) /\ ∀i x,c[i]? = some x->∃y,cs[pl.base+i]? = some y/\zS ρ x y
structure vE (ρ:xt) (s:Env) (tm:Array Value):Prop where
 size:s.size=tm.size
 get:∀i,zS ρ (s.get i) (tm.getD i undef)
theorem vE.mono{ρ ρ':xt}(hle:ρ.le ρ'){s:Env}{tm:Array Value}(h:vE ρ s tm):vE ρ' s tm:=⟨h.size,λi=>(h.get i).mono hle⟩
def zhD(ρ:xt)(es:List (Value×Value×Nat))(clock:Nat)(pl:Place)(w:World):Prop :=
 ∃ms,w.heap[pl.c]? = some (.map ms clock)/\ms.size=es.length /\ ∀(i:Nat) x m,es[i]? = some x->ms[i]? = some m->zS ρ x.1 m.key/\zS ρ x.2.1 m.val/\m.born=x.2.2
def zf5(ρ:xt)(m:Option Nat)(since:Nat)(seen:List Nat)(last:Nat)(pl:Place)(w:World):Prop :=
 ∃m',w.heap[pl.c]? = some (.mapIter m' since seen.toArray last)/\pl.base=0/\zS ρ (.map m) (.map m')
def zf7(ρ:xt)(l:Yl)(pl:Place)(w:World):Prop :=
 ∃tm d fn,w.heap[pl.c]? = some (.loop {state:=l.state,pending:=l.pending,fn:=fn,tmps:=tm,params:=l.params,assign:=l.assign,body:=l.body,defers:=d})/\vE ρ l.s tm
def vX(P:Program)(ρ:xt)(wr:Bool)(o:wA)(pl:Place)(w:World):Prop :=
 match o with
 | .cells c t=>xA P ρ wr c t pl w
 | .map es q=>zhD ρ es q pl w
 | .iter m since seen last=>zf5 ρ m since seen last pl w
 | .siter s pos=>w.heap[pl.c]? = some (.stringIter s pos)/\pl.base=0
 | .tab c=>∃t,xA P ρ false c t {pl with So:=P.cellsOf t} w
 | .loop l=>zf7 ρ l pl w
structure Rel (P:Program) (ρ:xt) (h:za) (w:World):Prop where
 next:ρ.next=h.next
 ro:h.ro<=h.next
 eU:∀b o,h.get b=some o->b<h.next
 ok:∀b o,h.get b=some o->∃pl,ρ.m b=some pl/\vX P ρ (decide (h.ro<=b)) o pl w
 inj:∀b1 b2 o1 o2 p1 p2,h.get b1=some o1->h.get b2=some o2->ρ.m b1=some p1->ρ.m b2=some p2->p1.c=p2.c->b1=b2
 tB:P.globals.size<=h.ro
 XR:∀b pl,b<P.globals.size->ρ.m b=some pl->pl.c=b/\pl.base=0
def ot(ρ:xt)(h:za)(c:Nat):Prop := ∃b o pl,h.get b=some o/\h.ro<=b/\ρ.m b=some pl/\pl.c=c
structure Step (P:Program) (ρ:xt) (h:za) (w:World) (ρ':xt) (h':za) (w':World):Prop where
 le:ρ.le ρ'
 rel:Rel P ρ' h' w'
 ro:h'.ro=h.ro
 os:w'.os=w.os
 tape:w'.tape=w.tape
 output:w'.output=w.output
 size:w.heap.size<=w'.heap.size
 frame:∀c,c<w.heap.size->¬ot ρ h c->w'.heap[c]? = w.heap[c]?
 A6:∀c,c<w.heap.size->ot ρ' h' c->ot ρ h c
theorem Step.refl{P:Program}{ρ:xt}{h:za}{w:World}(hr:Rel P ρ h w):Step P ρ h w ρ h w :=
 ⟨xt.le_refl _,hr,rfl,rfl,rfl,rfl,aam _,λ_ _ _=>rfl,λ_ _ h=>h⟩
theorem Step.trans{P:Program}{ρ ρ' ρ'':xt}{h h' h'':za}{w w' w'':World}(a:Step P ρ h w ρ' h' w')(b:Step P ρ' h' w' ρ'' h'' w'') :
  Step P ρ h w ρ'' h'' w'' :=
 ⟨xt.le_trans a.le b.le,b.rel,b.ro.trans a.ro,b.os.trans a.os,b.tape.trans a.tape,b.output.trans a.output,aaS a.size b.size,
  λc hc hn=>(b.frame c (aao hc a.size) (λhm=>hn (a.A6 c hc hm))).trans (a.frame c hc hn),
  λc hc hm=>a.A6 c hc (b.A6 c (aao hc a.size) hm)⟩
def qP(tm:Array Value)(d:Option Nat)(v:Value):Array Value :=
 match d with
 |some d=>tm.setIfInBounds d v
 |none=>tm
theorem vE.put{ρ:xt}{s s':Env}{tm:Array Value}{d:Option Nat}{v v':Value}(h:vE ρ s tm)(hv:zS ρ v v')(hp:s.put d v=some s') :
  vE ρ s' (qP tm d v'):=by
 cases d with
 |none=>simp only[Env.put,aab]at hp;subst hp;exact h
 |some d=>
  simp only[Env.put]at hp;cases hb:Nat.blt d s.size with
  |false=>rw[hb]at hp;cases hp
  |true=>
   rw[hb]at hp;simp only[aaC,aab]at hp;subst hp;have hd:d<s.size:=by simpa [aa7] using hb
   refine⟨by simp[qP,h.size],λi=>?_⟩;rw[Env.yI];simp only[qP];by_cases e:i=d
   ·subst e;rw[aai rfl]
    have:(tm.setIfInBounds i v').getD i undef=v':=by
     simp[aaG,<- h.size,hd]
    rw[this];exact hv
   ·rw[aac e]
    have:(tm.setIfInBounds d v').getD i undef=tm.getD i undef:=by
     simp[aaG,Ne.symm e]
    rw[this];exact h.get i
end
end Go.Ai
namespace Go.Ai
noncomputable section
variable {P:Program}
theorem Rel.place{ρ:xt}{h:za}{w:World}(hr:Rel P ρ h w){b:Nat}{c:List aaa}{t:TypeId}{pl:Place}(hg:h.get b=some (.cells c t))(hm:ρ.m b=some pl) :
  xA P ρ (decide (h.ro<=b)) c t pl w:=by
 obtain⟨pl',hm',hc⟩:=hr.ok b _ hg;rw[hm]at hm';cases hm';exact hc
theorem Rel.cells{ρ:xt}{h:za}{w:World}(hr:Rel P ρ h w)(b:Nat)(c:List aaa)(t:TypeId)(hg:h.get b=some (.cells c t)):∃pl,ρ.m b=some pl/\xA P ρ (decide (h.ro<=b)) c t pl w:=hr.ok b _ hg
theorem Rel.zds{ρ:xt}{h:za}{w:World}(hr:Rel P ρ h w){b:Nat}{o:wA}{pl:Place}(hg:h.get b=some o)(hm:ρ.m b=some pl):vX P ρ (decide (h.ro<=b)) o pl w:=by
 obtain⟨pl',hm',hc⟩:=hr.ok b _ hg;rw[hm]at hm';cases hm';exact hc
theorem xA.cell{ρ:xt}{wr:Bool}{c:List aaa}{t:TypeId}{pl:Place}{w:World}(hc:xA P ρ wr c t pl w){i:Nat}{x:aaa}(hx:c[i]? = some x) :
  ∃y,w.cell? ⟨pl.c,pl.base+i,none⟩=some y/\zS ρ x y:=by
 obtain⟨cs,fz,hb,_,_,_,_,hv⟩:=hc;obtain⟨y,hy,hxy⟩:=hv i x hx;exact⟨y,by simp[World.cell?,hb,hy],hxy⟩
theorem xA.zd1{ρ:xt}{c:List aaa}{t:TypeId}{pl:Place}{w:World}(hc:xA P ρ true c t pl w){i:Nat}(hi:i<pl.size) :
  w.frozen? ⟨pl.c,i,none⟩=false:=by
 obtain⟨cs,fz,hb,_,_,_,hf,_⟩:=hc;have:=hf rfl i hi;obtain⟨lo,hi'⟩:=fz;simp[World.frozen?,hb]at this ⊢;exact this
theorem xA.other{ρ:xt}{wr:Bool}{c:List aaa}{t:TypeId}{pl:Place}{w w':World}(hc:xA P ρ wr c t pl w)(hb:w'.heap[pl.c]? = w.heap[pl.c]?):xA P ρ wr c t pl w':=by
 obtain⟨cs,fz,h1,h2⟩:=hc;exact⟨cs,fz,hb.trans h1,h2⟩
theorem xA.mono{ρ ρ':xt}(hle:ρ.le ρ'){wr:Bool}{c:List aaa}{t:TypeId}{pl:Place}{w:World}(hc:xA P ρ wr c t pl w):xA P ρ' wr c t pl w:=by
 obtain⟨cs,fz,h1,h2,h3,h4,h5,h6⟩:=hc;exact⟨cs,fz,h1,h2,h3,h4,h5,λi x hx=>by obtain⟨y,hy,hv⟩:=h6 i x hx;exact⟨y,hy,hv.mono hle⟩⟩
theorem xA.lt{ρ:xt}{wr:Bool}{c:List aaa}{t:TypeId}{pl:Place}{w:World}(hc:xA P ρ wr c t pl w):pl.c<w.heap.size:=by
 obtain⟨cs,fz,h1,_⟩:=hc;rcases aar pl.c w.heap.size with h|h
 ·exact h
 ·rw[aaO h]at h1;cases h1
theorem xA.za2{ρ:xt}{c:List aaa}{t:TypeId}{pl:Place}{w:World}{wr wr':Bool}(hw:wr'=true->wr=true)(hc:xA P ρ wr c t pl w):xA P ρ wr' c t pl w:=by
 obtain⟨cs,fz,h1,h2,h3,h4,h5,h6⟩:=hc;exact⟨cs,fz,h1,h2,h3,h4,λe=>h5 (hw e),h6⟩
theorem vX.other{ρ:xt}{wr:Bool}{o:wA}{pl:Place}{w w':World}(hc:vX P ρ wr o pl w)(hb:w'.heap[pl.c]? = w.heap[pl.c]?):vX P ρ wr o pl w':=by
 cases o with
 |cells c t=>exact xA.other hc hb
 |map es q=>obtain⟨ms,h1,h2⟩:=hc;exact⟨ms,hb.trans h1,h2⟩
 |iter m a b c=>obtain⟨m',h1,h2⟩:=hc;exact⟨m',hb.trans h1,h2⟩
 |siter s pos=>exact⟨hb.trans hc.1,hc.2⟩
 |tab c=>obtain⟨t,h1⟩:=hc;exact⟨t,xA.other h1 hb⟩
 |loop l=>obtain⟨tm,d,fn,h1,h2⟩:=hc;exact⟨tm,d,fn,hb.trans h1,h2⟩
theorem vX.mono{ρ ρ':xt}(hle:ρ.le ρ'){wr:Bool}{o:wA}{pl:Place}{w:World}(hc:vX P ρ wr o pl w):vX P ρ' wr o pl w:=by
 cases o with
 |cells c t=>exact xA.mono hle hc
 |map es q=>obtain⟨ms,h1,h2,h3⟩:=hc;exact⟨ms,h1,h2,λi x m hx hm=>⟨(h3 i x m hx hm).1.mono hle,(h3 i x m hx hm).2.1.mono hle,(h3 i x m hx hm).2.2⟩⟩
 |iter m a b c=>obtain⟨m',h1,h0,h2⟩:=hc;exact⟨m',h1,h0,h2.mono hle⟩
 |tab c=>obtain⟨t,h1⟩:=hc;exact⟨t,xA.mono hle h1⟩
 |siter s pos=>exact hc
 |loop l=>obtain⟨tm,d,fn,h1,h2⟩:=hc;exact⟨tm,d,fn,h1,h2.mono hle⟩
theorem VO{w:World}{r:Nat}{o:Obj}(h:w.heap[r]? = some o):r<w.heap.size:=by
 rcases aar r w.heap.size with hl|hl
 ·exact hl
 ·rw[aaO hl]at h;cases h
theorem vX.lt{ρ:xt}{wr:Bool}{o:wA}{pl:Place}{w:World}(hc:vX P ρ wr o pl w):pl.c<w.heap.size:=by
 cases o with
 |cells c t=>exact xA.lt hc
 |map es q=>obtain⟨ms,h1,_⟩:=hc;exact VO h1
 |iter m a b c=>obtain⟨m',h1,_⟩:=hc;exact VO h1
 |siter s pos=>exact VO hc.1
 |tab c=>obtain⟨t,h1⟩:=hc;exact h1.lt
 |loop l=>obtain⟨tm,d,fn,h1,_⟩:=hc;exact VO h1
theorem vX.za2{ρ:xt}{o:wA}{pl:Place}{w:World}{wr wr':Bool}(hw:wr'=true->wr=true)(hc:vX P ρ wr o pl w):vX P ρ wr' o pl w:=by
 cases o with
 |cells c t=>exact xA.za2 hw hc
 |map es q=>exact hc
 |tab c=>exact hc
 |iter m a b c=>exact hc
 |siter s pos=>exact hc
 |loop l=>exact hc
theorem Rel.drop{ρ:xt}{h:za}{w:World}(hr:Rel P ρ h w)(b:Nat):Rel P ρ (h.set b none) w:=by
 have hsub:∀x o,(h.set b none).get x=some o->h.get x=some o:=by
  intro x o hx;rw[za.yI]at hx;split at hx
  ·cases hx
  ·exact hx
 exact⟨hr.next,hr.ro,λx o hx=>hr.eU x o (hsub x o hx),λx o hx=>hr.ok x o (hsub x _ hx),
  λb1 b2 o1 o2 p1 p2 h1 h2=>hr.inj b1 b2 o1 o2 p1 p2 (hsub _ _ h1) (hsub _ _ h2),hr.tB,hr.XR⟩
theorem Step.zdA{ρ:xt}{h:za}{w w':World}(hr:Rel P ρ h w){b:Nat}{ob ob':wA}{pl:Place}(hg:h.get b=some ob)(hm:ρ.m b=some pl)(hro:h.ro<=b)
  (hok:vX P ρ true ob' pl w') (hos:w'.os=w.os) (htape:w'.tape=w.tape) (hout:w'.output=w.output) (hsz:w'.heap.size=w.heap.size)
  (hfr:∀k,k≠pl.c->w'.heap[k]? = w.heap[k]?):Step P ρ h w ρ (h.set b (some ob')) w':=by
 have hold:∀x o,(h.set b (some ob')).get x=some o->∃o',h.get x=some o':=by
  intro x o hx;rw[za.yI]at hx;split at hx
  ·rename_i e;subst e;exact⟨_,hg⟩
  ·exact⟨o,hx⟩
 refine⟨xt.le_refl _,⟨hr.next,hr.ro,?_,?_,?_,hr.tB,hr.XR⟩,rfl,hos,htape,hout,by omega,?_,?_⟩
 ·intro x o hx;obtain⟨o',ho'⟩:=hold x o hx;exact hr.eU x o' ho'
 ·intro x ox hx;rw[za.yI]at hx;split at hx
  ·rename_i e;subst e;cases hx;exact⟨pl,hm,hok.za2 (λ_=>rfl)⟩
  ·rename_i e;obtain⟨p,hp,hc⟩:=hr.ok x ox hx;refine⟨p,hp,hc.other (hfr _ ?_)⟩;intro e2;exact e (hr.inj x b _ _ p pl hx hg hp hm e2)
 ·intro b1 b2 o1 o2 p1 p2 h1 h2;obtain⟨o1',h1'⟩:=hold _ _ h1;obtain⟨o2',h2'⟩:=hold _ _ h2;exact hr.inj b1 b2 o1' o2' p1 p2 h1' h2'
 ·intro k hk hn;refine hfr k ?_;intro e;exact hn ⟨b,_,pl,hg,hro,hm,e.symm⟩
 ·rintro k hk ⟨x,o,p,hx,hrx,hp,hpc⟩;obtain⟨o',ho'⟩:=hold x o hx;exact⟨x,o',p,ho',hrx,hp,hpc⟩
theorem Step.write{ρ:xt}{h:za}{w w':World}(hr:Rel P ρ h w){b:Nat}{c c':List aaa}{t:TypeId}{pl:Place}(hg:h.get b=some (.cells c t))(hm:ρ.m b=some pl)(hro:h.ro<=b)
  (hok:xA P ρ true c' t pl w') (hos:w'.os=w.os) (htape:w'.tape=w.tape) (hout:w'.output=w.output) (hsz:w'.heap.size=w.heap.size)
  (hfr:∀k,k≠pl.c->w'.heap[k]? = w.heap[k]?):Step P ρ h w ρ (h.set b (some (.cells c' t))) w' :=
 Step.zdA hr hg hm hro (ob' := .cells c' t) hok hos htape hout hsz hfr
theorem size_setCell(w:World)(a:Addr)(v:aaa):(w.setCell a v).heap.size=w.heap.size:=by simp[World.setCell]
theorem eX(w:World)(a:Addr)(v:aaa)(k:Nat)(h:k≠a.block):(w.setCell a v).heap[k]? = w.heap[k]?:=RowKit.Below.heap_setCell w a v k h
theorem xA.setCell{ρ:xt}{wr:Bool}{c:List aaa}{t:TypeId}{pl:Place}{w:World}(hc:xA P ρ wr c t pl w){i:Nat}{v v':aaa}(hi:i<c.length)(hv:zS ρ v v') :
  xA P ρ wr (c.set i v) t pl (w.setCell ⟨pl.c,pl.base+i,none⟩ v'):=by
 obtain⟨cs,fz,h1,h2,h3,h4,h5,h6⟩:=hc;refine⟨cs.setIfInBounds (pl.base+i) v',fz,?_,by simpa using h2,h3,by simpa using h4,h5,?_⟩
 ·simp[World.setCell,Array.getElem?_modify,h1]
 ·intro j x hx;by_cases e:j=i
  ·subst e;rw[aaM hi]at hx;cases hx;exact⟨v',by rw[aby,aai rfl,aai (by omega)],hv⟩
  ·rw[aa4 (λh=>e h.symm)]at hx;obtain⟨y,hy,hxy⟩:=h6 j x hx;exact⟨y,by rw[aby,aac (by omega)];exact hy,hxy⟩
theorem D7{ρ:xt}{h:za}{w:World}(hr:Rel P ρ h w){b:Nat}{c:List aaa}{t:TypeId}{pl:Place}(hg:h.get b=some (.cells c t))(hm:ρ.m b=some pl)(hro:h.ro<=b)
  {i:Nat} (hi:i<c.length) {v v':aaa} (hv:zS ρ v v') (hcell:yN v=true) :
  (store ⟨pl.c,pl.base+i,none⟩ v').run P w=.ok () (w.setCell ⟨pl.c,pl.base+i,none⟩ v') /\
   Step P ρ h w ρ (h.set b (some (.cells (c.set i v) t))) (w.setCell ⟨pl.c,pl.base+i,none⟩ v'):=by
 have hc:=hr.place hg hm;rw[show decide (h.ro<=b)=true by simpa using hro]at hc;obtain⟨y,hy,_⟩:=hc.cell (i:=i) (aae hi);have hsz:pl.base+i<pl.size:=by obtain⟨cs,fz,_,h2,_,h4,_⟩:=hc;omega
 have hone:v'.oneCell'=true:=by have:=C7 hv;rw[hcell]at this;cases v' <;> simp_all [yN,Value.oneCell']
 refine⟨?_,Step.write hr hg hm hro (hc.setCell hi hv) rfl rfl rfl (size_setCell _ _ _) (λk hk=>eX _ _ _ _ hk)⟩;rw[run_store _ _ _ _ _ hone,hy];simp[hc.zd1 hsz]
def zb(c:List aaa)(i:Nat):List aaa->List aaa
 |[]=>c
 |v::vs=>zb (c.set i v) (i+1) vs
theorem YR(vs:List aaa):∀(c:List aaa) (i:Nat),(zb c i vs).length=c.length:=by
 induction vs with
 |nil=>intro c i;rfl
 |cons v vs ih=>intro c i;simp[zb,ih]
theorem za.set_set(h:za)(b:Nat)(x y:Option wA)(k:Nat):((h.set b x).set b y).get k=(h.set b y).get k:=by
 simp only[za.yI];split <;> rfl
structure zhE (h h':za):Prop where
 next:h'.next=h.next
 ro:h'.ro=h.ro
 get:∀b,h'.get b=h.get b
theorem Rel.same{ρ:xt}{h h':za}{w:World}(hr:Rel P ρ h w)(e:zhE h h'):Rel P ρ h' w :=
 ⟨hr.next.trans e.next.symm,by rw[e.ro,e.next];exact hr.ro,λb o hb=>by rw[e.next];exact hr.eU b o ((e.get b) ▸ hb),
  λb o hb=>by rw[e.ro];exact hr.ok b o ((e.get b) ▸ hb),
  λb1 b2 o1 o2 p1 p2 h1 h2=>hr.inj b1 b2 o1 o2 p1 p2 ((e.get b1) ▸ h1) ((e.get b2) ▸ h2),by rw[e.ro];exact hr.tB,hr.XR⟩
theorem Step.same{ρ ρ':xt}{h h' h'':za}{w w':World}(s:Step P ρ h w ρ' h' w')(e:zhE h' h''):Step P ρ h w ρ' h'' w' :=
 ⟨s.le,s.rel.same e,e.ro.trans s.ro,s.os,s.tape,s.output,s.size,s.frame,λc hc hm=>s.A6 c hc (by
  obtain⟨b,o,pl,hb,hro,hp⟩:=hm;exact⟨b,o,pl,by rw[<- e.get];exact hb,by rw[<- e.ro];exact hro,hp⟩)⟩
theorem ZO(c o i:Nat):(Addr.mk c o none).add i=⟨c,o+i,none⟩:=by
 unfold Addr.add;split
 ·rename_i h;subst h;rfl
 ·rfl
theorem iT{ρ:xt}{t:TypeId}{pl:Place}{b:Nat}{o:Nat}(hm:ρ.m b=some pl):∀(vs vs':List aaa) (h:za) (w:World) (c:List aaa) (j:Nat),Rel P ρ h w->h.get b=some (.cells c t)->h.ro<=b ->
  o+j+vs.length<=c.length->xV ρ vs vs'->(∀x∈vs,yN x=true) ->
  ∃w',(storeCells ⟨pl.c,pl.base+o,none⟩ vs' j).run P w=.ok () w'/\Step P ρ h w ρ (h.set b (some (.cells (zb c (o+j) vs) t))) w':=by
 intro vs
 induction vs with
 |nil=>
  intro vs' h w c j hr hg hro hl hv hcell;cases hv.uW;refine⟨w,rfl,(Step.refl hr).same ⟨rfl,rfl,λx=>?_⟩⟩;rw[za.yI];split
  ·rename_i e;subst e;exact hg.symm
  ·rfl
 |cons v vs ih=>
  intro vs' h w c j hr hg hro hl hv hcell;obtain⟨v',vs'',rfl,hv1,hv2⟩:=hv.cons_inv;simp only[aaE]at hl;obtain⟨e1,s1⟩:=D7 hr hg hm hro (i:=o+j) (by omega) hv1 (hcell v (by simp));obtain⟨w',e2,s2⟩:=ih vs'' _ _ (c.set (o+j) v) (j+1) s1.rel (by rw[za.yI,aai rfl]) hro (by simp;omega) hv2 (λx hx=>hcell x (by simp[hx]));refine⟨w',?_,(s1.trans s2).same ⟨rfl,rfl,λx=>?_⟩⟩
  ·simp only[storeCells,ZO,aan,acz]at e1 ⊢;rw[e1];exact e2
  ·rw[za.set_set];rfl
def xt.ext(ρ:xt)(pl:Place):xt:={next:=ρ.next+1,m:=λb=>if b=ρ.next then some pl else ρ.m b}
theorem xt.tE(ρ:xt)(pl:Place):ρ.le (ρ.ext pl):=⟨abr _,λ_ hb=>aac (Nat.ne_of_lt hb)⟩
theorem xt.jC(ρ:xt)(pl:Place):(ρ.ext pl).m ρ.next=some pl:=aai rfl
theorem Rel.lW{ρ:xt}{h:za}{w:World}(hr:Rel P ρ h w){ob:wA}{pl:Place}(hc:vX P (ρ.ext pl) true ob pl w)
  (hfresh:∀b o p,h.get b=some o->ρ.m b=some p->p.c≠pl.c):Rel P (ρ.ext pl) (h.push ob) w:=by
 have hle:=ρ.tE pl
 have hcase:∀x o,(h.push ob).get x=some o->(x=h.next/\o=ob)\/(x<h.next/\h.get x=some o):=by
  intro x o hx;rw[za.vA]at hx;split at hx
  ·rename_i e;cases hx;exact .inl ⟨e,rfl⟩
  ·exact .inr ⟨hr.eU x o hx,hx⟩
 have hold:∀x,x<h.next->(ρ.ext pl).m x=ρ.m x:=λx hx=>hle.2 x (by rw[hr.next];exact hx);have hnew:(ρ.ext pl).m h.next=some pl:=by rw[<- hr.next];exact ρ.jC pl
 refine⟨by show ρ.next+1=h.next+1;rw[hr.next],aaS hr.ro (abr _),?_,?_,?_,hr.tB,λb p hb hm=>hr.XR b p hb (by rw[<- hold b (aao hb (aaS hr.tB hr.ro))];exact hm)⟩
 ·intro x o hx;rcases hcase x o hx with⟨e,_⟩|⟨hlt,_⟩
  ·subst e;exact aaH _
  ·exact acE hlt
 ·intro x ox hx;rcases hcase x _ hx with⟨e,eo⟩|⟨hlt,hx'⟩
  ·cases eo;subst e;exact⟨pl,hnew,hc.za2 (λ_=>rfl)⟩
  ·obtain⟨p,hp,hcx⟩:=hr.ok x ox hx';exact⟨p,(hold x hlt).trans hp,hcx.mono hle⟩
 ·intro b1 b2 o1 o2 p1 p2 h1 h2 m1 m2 e;rcases hcase b1 o1 h1 with⟨e1,_⟩|⟨l1,g1⟩ <;> rcases hcase b2 o2 h2 with⟨e2,_⟩|⟨l2,g2⟩
  ·omega
  ·subst e1;rw[hnew]at m1;cases m1;rw[hold _ l2]at m2;exact absurd e.symm (hfresh b2 o2 p2 g2 m2)
  ·subst e2;rw[hnew]at m2;cases m2;rw[hold _ l1]at m1;exact absurd e (hfresh b1 o1 p1 g1 m1)
  ·rw[hold _ l1]at m1;rw[hold _ l2]at m2;exact hr.inj b1 b2 o1 o2 p1 p2 g1 g2 m1 m2 e
theorem Rel.push{ρ:xt}{h:za}{w:World}(hr:Rel P ρ h w){c:List aaa}{t:TypeId}{pl:Place}(hc:xA P (ρ.ext pl) true c t pl w)
  (hfresh:∀b o p,h.get b=some o->ρ.m b=some p->p.c≠pl.c):Rel P (ρ.ext pl) (h.push (.cells c t)) w:=hr.lW (ob := .cells c t) hc hfresh
theorem Rel.grow{ρ:xt}{h:za}{w w':World}(hr:Rel P ρ h w)(hold:∀k,k<w.heap.size->w'.heap[k]? = w.heap[k]?):Rel P ρ h w' :=
 ⟨hr.next,hr.ro,hr.eU,λb o hb=>by obtain⟨pl,hp,hc⟩:=hr.ok b o hb;exact⟨pl,hp,hc.other (hold _ hc.lt)⟩,hr.inj,hr.tB,hr.XR⟩
theorem Step.lW{ρ:xt}{h:za}{w w':World}(hr:Rel P ρ h w){ob:wA}{pl:Place}{wo:Obj}(hpl:pl.c=w.heap.size)
  (hnew:w'.heap=w.heap.push wo) (hok:vX P (ρ.ext pl) true ob pl w')
  (hos:w'.os=w.os) (htape:w'.tape=w.tape) (hout:w'.output=w.output) :
  Step P ρ h w (ρ.ext pl) (h.push ob) w':=by
 have hold:∀k,k<w.heap.size->w'.heap[k]? = w.heap[k]?:=by
  intro k hk;rw[hnew,Array.getElem?_push,aac (by omega)]
 have hle:=ρ.tE pl;have hr':=hr.grow hold;refine⟨hle,hr'.lW hok ?_,rfl,hos,htape,hout,by rw[hnew];simp,λk hk _=>hold k hk,?_⟩
 ·intro b o p hg hm e;obtain⟨p',hp',hcx⟩:=hr.ok b o hg;rw[hm]at hp';cases hp';have:=hcx.lt;omega
 ·rintro k hk ⟨b,o,p,hg,hro,hm,e⟩;rw[za.vA]at hg;split at hg
  ·rename_i eb;subst eb;rw[<- hr.next,xt.jC]at hm;cases hm;omega
  ·have hlt:=hr.eU b o hg;refine⟨b,o,p,hg,hro,?_,e⟩;rw[<- hm];exact(hle.2 b (by rw[hr.next];exact hlt)).symm
theorem Step.push{ρ:xt}{h:za}{w w':World}(hr:Rel P ρ h w){c:List aaa}{t:TypeId}{cs:Array aaa}{fz:Nat×Nat}
  (hnew:w'.heap=w.heap.push (.cells cs t fz)) (hfz:∀i,i<cs.size->¬(fz.1<=i/\i<fz.2)) (hlen:c.length<=cs.size) (hv:∀(i:Nat) x,c[i]? = some x->∃y,cs[i]? = some y/\zS ρ x y)
  (hos:w'.os=w.os) (htape:w'.tape=w.tape) (hout:w'.output=w.output) :
  Step P ρ h w (ρ.ext ⟨w.heap.size,0,cs.size,P.cellsOf t⟩) (h.push (.cells c t)) w':=by
 refine Step.lW hr (ob := .cells c t) rfl hnew ⟨cs,fz,by rw[hnew];simp,rfl,⟨rfl,Nat.zero_mod _⟩,by simpa using hlen,λ_=>hfz,?_⟩ hos htape hout;intro i x hx;obtain⟨y,hy,hxy⟩:=hv i x hx;exact⟨y,by simpa using hy,hxy.mono (ρ.tE _)⟩
theorem nT{ρ:xt}{h:za}{w:World}(hr:Rel P ρ h w){c:List aaa}{t:TypeId}{cs:Array aaa}(hlen:c.length<=cs.size)(hv:∀(i:Nat) x,c[i]? = some x->∃y,cs[i]? = some y/\zS ρ x y) :
  (newRow t cs).run P w=.ok ⟨w.heap.size,0,none⟩ {w with heap:=w.heap.push (.cells cs t)} /\
   Step P ρ h w (ρ.ext ⟨w.heap.size,0,cs.size,P.cellsOf t⟩) (h.push (.cells c t)) {w with heap:=w.heap.push (.cells cs t)} :=
 ⟨rfl,Step.push hr rfl (λi _ hi=>by simp at hi) hlen hv rfl rfl rfl⟩
theorem zS.new{ρ:xt}{h:za}{w:World}(hr:Rel P ρ h w)(pl:Place)(hb:pl.base=0):zS (ρ.ext pl) (.pointer (some ⟨h.next,0,none⟩)) (.pointer (some ⟨pl.c,0,none⟩)):=by
 have:=zS.ptr (ρ:=ρ.ext pl) (b:=h.next) (off:=0) (pl:=pl) (by show h.next<ρ.next+1;rw[hr.next];exact aaH _) (by rw[<- hr.next];exact ρ.jC pl);rw[hb]at this;exact this
theorem Zr{ρ:xt}{wr:Bool}{c:List aaa}{t:TypeId}{pl:Place}{w:World}(hc:xA P ρ wr c t pl w)(o n:Nat)(h:o+n<=c.length) :
  ∃ys:List aaa,(loadCells ⟨pl.c,pl.base+o,none⟩ n).run P w=.ok ys.toArray w/\xV ρ ((c.drop o).take n) ys:=by
 obtain⟨cs,fz,h1,h2,h3,h4,h5,h6⟩:=hc;refine⟨((cs.toList.drop (pl.base+o)).take n),?_,?_,?_⟩
 ·have hlen:((cs.toList.drop (pl.base+o)).take n).length=n:=by simp;omega
  have:=run_loadCells_list (P:=P) w ⟨pl.c,pl.base+o,none⟩ ((cs.toList.drop (pl.base+o)).take n) (λj v hj=>by
   have hjn:j<n:=by
    rcases aar j n with h|h
    ·exact h
    ·rw[aal (by omega)]at hj;cases hj
   rw[aaX hjn,aa1]at hj;rw[ZO];simp[World.cell?,h1];simpa using hj)
  rw[hlen]at this;exact this
 ·simp;omega
 ·intro i x y hx hy
  have hi:i<n:=by
   rcases aar i n with h|h
   ·exact h
   ·rw[aal (by simp;omega)]at hx;cases hx
  rw[aaX hi,aa1]at hx hy;obtain⟨y',hy',hxy⟩:=h6 _ _ hx
  have:y=y':=by
   have e:pl.base+(o+i)=pl.base+o+i:=by omega
   rw[e]at hy';have hy2:cs[pl.base+o+i]? = some y:=by simpa using hy
   rw[hy2]at hy';cases hy';rfl
  rw[this];exact hxy
end
noncomputable section
def yQ{α:Type}(P:Program):Sem α->Option α
 | .pure a=>some a
 | .program k=>yQ P (k P)
 |_=>none
theorem zv{α:Type}{P:Program}{s:Sem α}{a:α}(h:yQ P s=some a)(w:World):s.run P w=.ok a w:=by
 induction s with
 |pure b=>simp only[yQ,aab]at h;subst h;rfl
 |program k ih=>simp only[yQ]at h;exact ih P h
 |_=>cases h
def flat:aaa->Bool
 | .agg a=>a.toList.all plain
 |v=>plain v
theorem Ni{ρ:xt}{v v':aaa}(h:zS ρ v v')(hp:plain v=true):v'=v:=by
 cases h with
 |Iv h=>cases hp
 |bool|int|float|string|ptrNil|nilFunc|nilIface|mapNil=>rfl
 |ptr|XR|slice|sliceOut|iface|agg|map|yield=>simp[plain]at hp
 |sliceNil c=>simp only[plain,aag]at hp;obtain rfl:=aav hp.2;rfl
 |func ha hc _ _=>
  simp only[plain,aag]at hp;obtain rfl:=KO hp.1;obtain rfl:=KO hp.2;rw[ab2 ha.symm,ab2 hc.symm]
 |tuple ha _=>
  obtain rfl:=KO hp;rw[ab2 ha.symm]
theorem DE{xs ys:List aaa}(hl:xs.length=ys.length)(h:∀(i:Nat) x y,xs[i]? = some x->ys[i]? = some y->y=x):ys=xs:=by
 apply abc;intro i;rcases aar i xs.length with hi|hi
 ·rw[aae hi,aae (hl ▸ hi)]
  congr 1
  exact h i _ _ (aae hi) (aae (hl ▸ hi))
 ·rw[aal hi,aal (by omega)]
theorem Yg{ρ:xt}{v v':aaa}(h:zS ρ v v')(hp:flat v=true):v'=v:=by
 cases h with
 |agg ha hv=>
  rename_i a a';simp only[flat,aaD]at hp
  congr 1
  apply acv;refine DE (by simpa using ha) (λi x y hx hy=>?_);exact Ni (hv i x y (by simpa using hx) (by simpa using hy)) (hp x (aau hx))
 |_=>first|rfl|exact Ni (ρ:=ρ) (by constructor <;> assumption) hp
theorem zS.of_flat(ρ:xt){v:aaa}(h:flat v=true):zS ρ v v:=by
 cases v with
 |agg a=>
  simp only[flat,aaD]at h
  exact .agg rfl (λi x y hx hy=>by
   rw[hx]at hy;cases hy;exact .YT ρ (h x (aau (by simpa using hx))))
 |_=>exact .YT ρ h
def j6(s:Env):Operand->Option aaa
 | .tmp t=>some (s.get t)
 | .const v=>cond (flat v) (some v) none
 | .global g=>some (.pointer (some ⟨g,0,some 0⟩))
 | .func f=>some (.func (.func f) #[] #[])
theorem yk{ρ:xt}{s:Env}{a:Act}(hs:vE ρ s a.tmps){x:Operand}{v:aaa}(h:j6 s x=some v):zS ρ v (a.eval x):=by
 cases x with
 |tmp t=>simp only[j6,aab]at h;subst h;exact hs.get t
 |const c=>
  simp only[j6]at h;cases hf:flat c with
  |false=>rw[hf]at h;cases h
  |true=>rw[hf]at h;simp only[aaC,aab]at h;subst h;exact .of_flat ρ hf
 |global g=>simp only[j6,aab]at h;subst h;exact .XR
 |func f=>simp only[j6,aab]at h;subst h;exact .YT ρ rfl
def aR(s:Env):List Operand->Option (List aaa)
 |[]=>some []
 |x::xs=>match j6 s x with
  |none=>none
  |some v=>match aR s xs with
   |none=>none
   |some vs=>some (v::vs)
theorem ZH{ρ:xt}{s:Env}{a:Act}(hs:vE ρ s a.tmps):∀{xs:List Operand} {vs:List aaa},aR s xs=some vs->xV ρ vs (xs.map a.eval)
 |[],vs,h=>by simp only[aR,aab]at h;subst h;exact .nil ρ
 |x::xs,vs,h=>by
  simp only[aR]at h;split at h
  ·cases h
  ·rename_i v hv;split at h
   ·cases h
   ·rename_i vs' hvs;simp only[aab]at h;subst h;exact .cons (yk hs hv) (ZH hs hvs)
theorem zS.cells{ρ:xt}{v v':aaa}(h:zS ρ v v'):xV ρ v.cells.toList v'.cells.toList:=by
 cases h with
 |agg ha hv=>exact⟨by simpa [Value.cells] using ha,λi x y hx hy=>hv i x y (by simpa [Value.cells] using hx) (by simpa [Value.cells] using hy)⟩
 |Iv h=>cases v' <;> first|exact .cons (.Iv h) (.nil ρ)|cases h
 |_=>exact .cons (by constructor <;> assumption) (.nil ρ)
def apart(P:Program)(t:TypeId)(cs:List aaa)(off:Nat):Option aaa :=
 match yQ P (isAgg t) with
 |none=>none
 |some true=>(match yQ P (sizeOf t) with
  |none=>none
  |some n=>some (.agg ((cs.drop off).take n).toArray))
 |some false=>cs[off]?
theorem Mc{P:Program}{ρ:xt}{t:TypeId}{cs:List aaa}{cs':Array aaa}{off:Nat}{v:aaa}(h:apart P t cs off=some v)(hc:xV ρ cs cs'.toList)(w:World) :
  ∃v',(part t cs' off).run P w=.ok v' w/\zS ρ v v':=by
 simp only[apart]at h;split at h
 ·cases h
 ·rename_i hagg;split at h
  ·cases h
  ·rename_i n hn;simp only[aab]at h;subst h;refine⟨_,by simp only[part,aan,zv hagg,aah,aad,zv hn,aaw];rfl,?_⟩;refine .agg ?_ ?_
   ·simp only[List.size_toArray,acw,acI,Array.size_extract,hc.1,abP];omega
   ·intro i x y hx hy;rw[ab4]at hx;rw[Array.getElem?_extract]at hy;split at hy
    ·rename_i hi;rw[aaX (by omega),aa1]at hx;exact hc.2 _ _ _ hx (by simpa using hy)
    ·cases hy
 ·rename_i hagg;obtain⟨y,hy,hxy⟩:=hc.get h;refine⟨y,?_,hxy⟩;have hy':cs'[off]? = some y:=by simpa using hy
  simp only[part,aan,zv hagg,aah,abo,abe,hy',aaw]
def zd(P:Program)(t:TypeId)(a:aaa)(h:za):Option aaa :=
 match a with
 | .pointer (some ⟨b,off,none⟩)=>(match h.get b with
   |none=>none
   |some (.cells c _)=>(match yQ P (isAgg t) with
    |none=>none
    |some true=>(match yQ P (sizeOf t) with
     |none=>none
     |some n=>cond (Nat.ble (off+n) c.length) (some (.agg ((c.drop off).take n).toArray)) none)
    |some false=>c[off]?)
   |some _=>none)
 | .pointer (some ⟨b,off,some 0⟩)=>cond (Nat.blt b P.globals.size) (match h.get b with
   |none=>none
   |some (.tab c)=>(match yQ P (isAgg t) with
    |none=>none
    |some true=>(match yQ P (sizeOf t) with
     |none=>none
     |some n=>cond (Nat.ble (off+n) c.length) (some (.agg ((c.drop off).take n).toArray)) none)
    |some false=>c[off]?)
   |some _=>none) none
 |_=>none
theorem Az{P:Program}{ρ:xt}{t:TypeId}{a a':aaa}{h:za}{v:aaa}{w:World}(he:zd P t a h=some v)(hr:Rel P ρ h w)(ha:zS ρ a a') :
  ∃v',(Instr.loadAt t a').run P w=.ok v' w/\zS ρ v v':=by
 unfold zd at he;split at he
 ·rename_i b off;cases ha with
  |ptr hb hm=>
   rename_i pl;split at he
   ·cases he
   ·rename_i c t' hg;have hc:=hr.place hg hm;split at he
    ·cases he
    ·rename_i hagg;split at he
     ·cases he
     ·rename_i n hn;cases hle:Nat.ble (off+n) c.length with
      |false=>rw[hle]at he;cases he
      |true=>
       rw[hle]at he;simp only[aaC,aab]at he;subst he;obtain⟨ys,hys,hv⟩:=Zr hc off n (aaL hle);refine⟨.agg ys.toArray,?_,.agg (by simpa using hv.1) (λi x y hx hy=>hv.2 i x y (by simpa using hx) (by simpa using hy))⟩;simp only[Instr.loadAt,Instr.sureAddr,loadVar,aan,aaw,aah,zv hagg,aad,zv hn,hys]
    ·rename_i hagg;obtain⟨y,hy,hxy⟩:=hc.cell he;refine⟨y,?_,hxy⟩;simp only[Instr.loadAt,Instr.sureAddr,loadVar,aan,aaw,aah,zv hagg,abo,abe,run_load,hy]
   ·cases he
 ·rename_i b off;cases ha with
  |XR=>
   cases hbl:Nat.blt b P.globals.size with
   |false=>rw[hbl]at he;cases he
   |true=>
    rw[hbl]at he;simp only[aaC]at he;have hbl:b<P.globals.size:=by simpa [aa7] using hbl
    split at he
    ·cases he
    ·rename_i c hg;obtain⟨pl,hm,t',hc⟩:=hr.ok b _ hg;obtain⟨q1,q2⟩:=hr.XR b pl hbl hm;split at he
     ·cases he
     ·rename_i hagg;split at he
      ·cases he
      ·rename_i n hn;cases hle:Nat.ble (off+n) c.length with
       |false=>rw[hle]at he;cases he
       |true=>
        rw[hle]at he;simp only[aaC,aab]at he;subst he;obtain⟨ys,hys,hv⟩:=Zr hc off n (aaL hle);simp only[q1,q2,aay]at hys;refine⟨.agg ys.toArray,?_,.agg (by simpa using hv.1) (λi x y hx hy=>hv.2 i x y (by simpa using hx) (by simpa using hy))⟩;simp only[Instr.loadAt,Instr.sureAddr,loadVar,aan,aaw,aah,zv hagg,aad,zv hn,hys]
     ·rename_i hagg;obtain⟨y,hy,hxy⟩:=hc.cell he;simp only[q1,q2,aay]at hy;refine⟨y,?_,hxy⟩;simp only[Instr.loadAt,Instr.sureAddr,loadVar,aan,aaw,aah,zv hagg,abo,abe,run_load,hy]
    ·cases he
 ·cases he
def xS(P:Program)(t:TypeId)(a v:aaa)(h:za):Option za :=
 match a with
 | .pointer (some ⟨b,off,none⟩)=>(match h.get b with
   |none=>none
   |some (.cells c t')=>(match yQ P (sizeOf t) with
    |none=>none
    |some n=>cond (Nat.beq v.cells.size n&&Nat.ble (off+n) c.length&&Nat.ble h.ro b&&v.cells.toList.all yN) (some (h.set b (some (.cells (zb c off v.cells.toList) t')))) none)
   |some _=>none)
 |_=>none
theorem Hx{P:Program}{ρ:xt}{t:TypeId}{a a' v v':aaa}{h h':za}{w:World}(he:xS P t a v h=some h')(hr:Rel P ρ h w)(ha:zS ρ a a')(hv:zS ρ v v') :
  ∃w',(Instr.storeAt t a' v').run P w=.ok () w'/\Step P ρ h w ρ h' w':=by
 unfold xS at he;split at he
 ·rename_i b off;cases ha with
  |ptr hb hm=>
   rename_i pl;split at he
   ·cases he
   ·rename_i c t' hg;split at he
    ·cases he
    ·rename_i n hn;cases hc:(Nat.beq v.cells.size n&&Nat.ble (off+n) c.length&&Nat.ble h.ro b&&v.cells.toList.all yN) with
     |false=>rw[hc]at he;cases he
     |true=>
      rw[hc]at he;simp only[aaC,aab]at he;subst he;simp only[aag,aaD]at hc;obtain⟨⟨⟨h1,h2⟩,h3⟩,h4⟩:=hc;have h1:=aav h1;have h2:=aaL h2;have h3:=aaL h3;have hcells:=hv.cells;have hsz:v'.cells.size=n:=by have:=hcells.1;simp only[abP]at this;omega
      obtain⟨w',e,st⟩:=iT (o:=off) hm v.cells.toList v'.cells.toList h w c 0 hr hg h3 (by simp only[abP];omega) hcells h4;refine⟨w',?_,st⟩;simp only[Instr.storeAt,Instr.sureAddr,storeVar,aan,aaw,aah,zv hn,acJ,hsz];simp only[ne_eq,not_true,abe];exact e
   ·cases he
 ·cases he
def zg(P:Program)(s:TypeId)(a:aaa)(i:Nat):Option aaa :=
 match a with
 | .pointer (some ⟨b,off,none⟩)=>(match yQ P (underlying s) with
   |some (.struct fields)=>(match fields[i]? with
    |none=>none
    |some f=>(match yQ P (sizeOf f.type) with
     |none=>none
     |some n=>cond (Nat.beq n 0) none (some (.pointer (some ⟨b,off+f.offset,none⟩)))))
   |_=>none)
 | .pointer (some ⟨b,off,some 0⟩)=>(match yQ P (underlying s) with
   |some (.struct fields)=>(match fields[i]? with
    |none=>none
    |some f=>(match yQ P (sizeOf f.type) with
     |none=>none
     |some n=>cond (Nat.beq n 0) none (some (.pointer (some ⟨b,off+f.offset,some 0⟩)))))
   |_=>none)
 |_=>none
theorem Hp{P:Program}{ρ:xt}{s:TypeId}{a a' v:aaa}{i:Nat}(he:zg P s a i=some v)(ha:zS ρ a a')(w:World) :
  ∃v',(Instr.fieldAt s a' i).run P w=.ok v' w/\zS ρ v v':=by
 unfold zg at he;split at he
 ·rename_i b off;cases ha with
  |ptr hb hm=>
   rename_i pl;split at he
   ·rename_i fields hu;split at he
    ·cases he
    ·rename_i f hf;split at he
     ·cases he
     ·rename_i n hn;cases hz:Nat.beq n 0 with
      |true=>rw[hz]at he;cases he
      |false=>
       rw[hz]at he;simp only[aaK,aab]at he;subst he;have hne:n≠0:=by intro e;subst e;simp at hz
       refine⟨.pointer (some ⟨pl.c,pl.base+(off+f.offset),none⟩),?_,.ptr hb hm⟩;simp only[Instr.fieldAt,Instr.sureAddr,fieldPlace,aan,aaw,aah,zv hu,hf,zv hn,acJ,aac hne,ZO,acz]
   ·cases he
 ·rename_i b off;cases ha with
  |XR=>
   split at he
   ·rename_i fields hu;split at he
    ·cases he
    ·rename_i f hf;split at he
     ·cases he
     ·rename_i n hn;cases hz:Nat.beq n 0 with
      |true=>rw[hz]at he;cases he
      |false=>
       rw[hz]at he;simp only[aaK,aab]at he;subst he;have hne:n≠0:=by intro e;subst e;simp at hz
       refine⟨.pointer (some ⟨b,off+f.offset,none⟩),?_,.XR⟩;simp only[Instr.fieldAt,Instr.sureAddr,fieldPlace,aan,aaw,aah,zv hu,hf,zv hn,acJ,aac hne,ZO]
   ·cases he
 ·cases he
def yh(P:Program)(t:TypeId)(x ix:aaa):Option aaa :=
 match ix with
 | .int _ i=>(match yQ P (underlying t),x with
   |some (.array len elem),.pointer (some ⟨b,off,none⟩)=>(match yQ P (sizeOf elem) with
    |none=>none
    |some n=>cond (decide (0<=i)&&decide (i<len)) (some (.pointer (some ⟨b,off+i.toNat*n,none⟩))) none)
   |some (.array len elem),.pointer (some ⟨b,off,some 0⟩)=>(match yQ P (sizeOf elem) with
    |none=>none
    |some n=>cond (decide (0<=i)&&decide (i<len)) (some (.pointer (some ⟨b,off+i.toNat*n,some 0⟩))) none)
   |some (.slice elem),.slice (some ⟨b,off,none⟩) len _=>(match yQ P (sizeOf elem) with
    |none=>none
    |some n=>cond (decide (0<=i)&&decide (i<len)) (some (.pointer (some ⟨b,off+i.toNat*n,none⟩))) none)
   |_,_=>none)
 |_=>none
theorem Hq{P:Program}{ρ:xt}{t:TypeId}{x x' ix ix' v:aaa}(he:yh P t x ix=some v)(hx:zS ρ x x')(hi:zS ρ ix ix')(w:World) :
  ∃v',(Instr.indexAt t x' ix').run P w=.ok v' w/\zS ρ v v':=by
 unfold yh at he;split at he
 ·rename_i k i;cases hi;split at he
  ·rename_i hu;cases hx with
   |ptr hb hm=>
    split at he
    ·cases he
    ·rename_i n hn;cases hc:(decide (0<=i)&&decide (i<_)) with
     |false=>rw[hc]at he;cases he
     |true=>
      rw[hc]at he;simp only[aaC,aab]at he;subst he;simp only[aag,aaR]at hc;refine⟨_,?_,.ptr hb hm⟩;simp only[Instr.indexAt,Instr.sureAddr,asIntOf,aan,aaw,aah,zv hu,zv hn,acJ,aai hc,ZO,acz]
  ·rename_i hu;cases hx with
   |XR=>
    split at he
    ·cases he
    ·rename_i n hn;cases hc:(decide (0<=i)&&decide (i<_)) with
     |false=>rw[hc]at he;cases he
     |true=>
      rw[hc]at he;simp only[aaC,aab]at he;subst he;simp only[aag,aaR]at hc;refine⟨_,?_,.XR⟩;simp only[Instr.indexAt,Instr.sureAddr,asIntOf,aan,aaw,aah,zv hu,zv hn,acJ,aai hc,ZO]
  ·rename_i hu;cases hx with
   |slice hb hm hl hcap=>
    split at he
    ·cases he
    ·rename_i n hn;cases hc:(decide (0<=i)&&decide (i<_)) with
     |false=>rw[hc]at he;cases he
     |true=>
      rw[hc]at he;simp only[aaC,aab]at he;subst he;simp only[aag,aaR]at hc;refine⟨_,?_,.ptr hb hm⟩;simp only[Instr.indexAt,asIntOf,aan,aaw,aah,zv hu,zv hn,acJ,aai hc,ZO,acz]
   |sliceOut hb hc=>
    split at he
    ·cases he
    ·rename_i n hn;rw[show(decide (0<=i)&&decide (i<((0:Nat):Int)))=false by simp]at he;cases he
  ·cases he
 ·cases he
end
noncomputable section
variable {P:Program}
def fl(x:Option aaa):Option aaa :=
 match x with
 |none=>none
 |some v=>cond (flat v) (some v) none
theorem KR{x:Option aaa}{v:aaa}(h:fl x=some v):x=some v/\flat v=true:=by
 unfold fl at h;split at h
 ·cases h
 ·rename_i u;cases hf:flat u with
  |false=>rw[hf]at h;cases h
  |true=>rw[hf]at h;simp only[aaC,aab]at h;subst h;exact⟨rfl,hf⟩
def isNil(P:Program)(t:TypeId)(a b:aaa):Option Bool :=
 match yQ P (underlying t),a,b with
 |some (.pointer _),.pointer (some _),.pointer none|some (.pointer _),.pointer none,.pointer (some _)=>some false
 |some (.slice _),.slice (some _) _ _,.slice none _ _|some (.slice _),.slice none _ _,.slice (some _) _ _=>some false
 |some (.func _ _ _),.func _ _ _,.nilFunc|some (.func _ _ _),.nilFunc,.func _ _ _=>some false
 |some (.interface _),.iface _ _,.nilIface|some (.interface _),.nilIface,.iface _ _=>some false
 |_,_,_=>none
def zgb(P:Program)(op:BinOp)(t:TypeId)(a b:aaa):Option aaa :=
 match op with
 | .eql=>(isNil P t a b).map .bool
 | .neq=>(isNil P t a b).map λx => .bool (!x)
 |_=>none
theorem KY{ρ:xt}{t:TypeId}{a b a' b':aaa}{r:Bool}(h:isNil P t a b=some r)(ha:zS ρ a a')(hb:zS ρ b b')(w:World) :
  (∀d,(Op.equalIn (d+1) t a' b').run P w=.ok r w)/\(∀op x y,(eqGuard op t x y a' b').run P w=.ok () w)/\(∀op,op=.eql\/op=.neq->binOp op t a' b'=if op=.eql then (do pure (.bool (<- Op.equal t a' b'))) else (do pure (.bool (!(<- Op.equal t a' b'))))):=by
 unfold isNil at h
 split at h <;> first
  |cases h;done
  |(simp only[aab]at h
    subst h;rename_i hu;cases ha <;> cases hb <;>
    (refine⟨λd=>?_,λop x y=>?_,λop xe=>?_⟩
     ·simp[Op.equalIn,zv hu]
     ·cases op <;> simp[eqGuard]
     ·rcases xe with rfl|rfl <;> rfl))
theorem zap{ρ:xt}{t:TypeId}{a b a' b':aaa}{r:Bool}(h:isNil P t a b=some r)(ha:zS ρ a a')(hb:zS ρ b b')(w:World) :
  (binOp .eql t a' b').run P w=.ok (.bool r) w:=by
 obtain⟨h1,_,h3⟩:=KY h ha hb w;rw[h3 .eql (.inl rfl),aai rfl];have h1:(Op.equal t a' b').run P w=.ok r w:=h1 9999;simp only[aan,h1,aah,aaw]
theorem zaq{ρ:xt}{t:TypeId}{a b a' b':aaa}{r:Bool}(h:isNil P t a b=some r)(ha:zS ρ a a')(hb:zS ρ b b')(w:World) :
  (binOp .neq t a' b').run P w=.ok (.bool (!r)) w:=by
 obtain⟨h1,_,h3⟩:=KY h ha hb w;rw[h3 .neq (.inr rfl),aac (by simp)];have h1:(Op.equal t a' b').run P w=.ok r w:=h1 9999;simp only[aan,h1,aah,aaw]
def TP(P:Program)(op:BinOp)(t:TypeId)(x y:Operand)(a b:aaa):Option aaa :=
 cond (flat a&&flat b) (fl (yQ P (do eqGuard op t x y a b;binOp op t a b))) (zgb P op t a b)
theorem Oh{ρ:xt}{op:BinOp}{t:TypeId}{x y:Operand}{a b a' b' v:aaa}(h:TP P op t x y a b=some v)(ha:zS ρ a a')(hb:zS ρ b b')(w:World) :
  ∃v',(do eqGuard op t x y a' b';binOp op t a' b':Sem aaa).run P w=.ok v' w/\zS ρ v v':=by
 unfold TP at h;cases hf:(flat a&&flat b) with
 |true=>
  rw[hf]at h;simp only[aag]at hf;obtain rfl:=Yg ha hf.1;obtain rfl:=Yg hb hf.2;obtain⟨h1,h2⟩:=KR h;exact⟨v,zv h1 w,.of_flat ρ h2⟩
 |false=>
  rw[hf]at h;simp only[aaK]at h;unfold zgb at h;split at h
  ·simp only[aat]at h;obtain⟨r,hr,rfl⟩:=h;obtain⟨_,h2,_⟩:=KY hr ha hb w;have h3:=zap hr ha hb w;exact⟨.bool r,by simp only[aan,h2,aah,h3],.bool r⟩
  ·simp only[aat]at h;obtain⟨r,hr,rfl⟩:=h;obtain⟨_,h2,_⟩:=KY hr ha hb w;have h4:=zaq hr ha hb w;exact⟨.bool (!r),by simp only[aan,h2,aah,h4],.bool (!r)⟩
  ·cases h
def Bi(ρ:xt)(ps ps':List (Nat×aaa)):Prop:=xV ρ (ps.map (·.2)) (ps'.map (·.2))/\ps.map (·.1)=ps'.map (·.1)
theorem za1{ρ:xt}{xs ys:List aaa}(h:xV ρ xs ys)(i:Nat){x y:aaa}(hv:zS ρ x y):xV ρ (xs.set i x) (ys.set i y):=by
 refine⟨by simp[h.1],λj a b ha hb=>?_⟩;by_cases e:i=j
 ·subst e;rcases aar i xs.length with hi|hi
  ·rw[aaM hi]at ha;rw[aaM (h.1 ▸ hi)]at hb;cases ha;cases hb;exact hv
  ·rw[aal (by simpa using hi)]at ha;cases ha
 ·rw[aa4 e]at ha hb;exact h.2 j a b ha hb
theorem Dp{ρ:xt}(off:Nat):∀(l l':List (aaa×Nat)) (c c':Array aaa),xV ρ (l.map (·.1)) (l'.map (·.1))->l.map (·.2)=l'.map (·.2)->xV ρ c.toList c'.toList ->
  xV ρ (l.foldl (λcs x=>cs.setIfInBounds (off+x.2) x.1) c).toList (l'.foldl (λcs x=>cs.setIfInBounds (off+x.2) x.1) c').toList
 |[],l',c,c',hl,hn,hc=>by
  cases l' with
  |nil=>exact hc
  |cons x l'=>simp at hn
 |x::l,l',c,c',hl,hn,hc=>by
  cases l' with
  |nil=>simp at hn
  |cons y l'=>
   simp only[ab7,abE]at hl hn;obtain⟨y',ys',e,hv,hr⟩:=hl.cons_inv;simp only[abE]at e;obtain⟨e1,e2⟩:=e;subst e1 e2;simp only[List.foldl_cons];refine Dp off l l' _ _ hr hn.2 ?_;rw[Array.toList_setIfInBounds,Array.toList_setIfInBounds,hn.1];exact za1 hc _ hv
theorem pY{ρ:xt}{place:Nat->Option (Nat×Nat)}:∀(ps ps':List (Nat×aaa)) (c c':Array aaa) (r:Array aaa),Bi ρ ps ps'->xV ρ c.toList c'.toList->Instr.fill place c ps=some r ->
  ∃r',Instr.fill place c' ps'=some r'/\xV ρ r.toList r'.toList
 |[],ps',c,c',r,hp,hc,he=>by
  have:ps'=[]:=by have:=hp.2;simp at this;cases ps' <;> simp_all
  subst this;simp only[Instr.fill,aab]at he;subst he;exact⟨c',rfl,hc⟩
 |(i,v)::ps,ps',c,c',r,hp,hc,he=>by
  cases ps' with
  |nil=>have:=hp.2;simp at this
  |cons p ps'=>
   obtain⟨i',v'⟩:=p;obtain⟨h1,h2⟩:=hp;simp only[ab7,abE]at h1 h2;obtain⟨rfl,h2⟩:=h2;obtain⟨y,ys,e,hv,hr⟩:=h1.cons_inv;simp only[abE]at e;obtain⟨e1,e2⟩:=e;subst e1 e2;simp only[Instr.fill]at he ⊢;cases hpl:place i with
   |none=>rw[hpl]at he;cases he
   |some x=>
    obtain⟨off,size⟩:=x;rw[hpl]at he;simp only at he ⊢;have hcells:=hv.cells;have e1:v'.cells.size=v.cells.size:=by simpa using hcells.1.symm
    have e2:c'.size=c.size:=(by simpa using hc.1.symm);split at he
    ·cases he
    ·rename_i hcond;rw[aac (by rw[e1,e2];exact hcond)];refine pY ps ps' _ _ r ⟨hr,h2⟩ ?_ he;rw[<- Array.foldl_toList,<- Array.foldl_toList];refine Dp off _ _ c c' ?_ ?_ hc
     ·simp only[Array.toList_zipIdx];have q:∀(l:List aaa) k,(l.zipIdx k).map (·.1)=l:=λl k=>by simp
      rw[q,q];exact hcells
     ·simp only[Array.toList_zipIdx];have q:∀(l:List aaa) k,(l.zipIdx k).map (·.2)=List.range' k l.length:=λl k=>by simp
      rw[q,q,hcells.1]
def QL(s:Env):List (Nat×Operand)->Option (List (Nat×aaa))
 |[]=>some []
 |(i,x)::ps=>match j6 s x with
  |none=>none
  |some v=>match QL s ps with
   |none=>none
   |some vs=>some ((i,v)::vs)
theorem dI{ρ:xt}{s:Env}{a:Act}(hs:vE ρ s a.tmps):∀{ps:List (Nat×Operand)} {vs:List (Nat×aaa)},QL s ps=some vs->Bi ρ vs (ps.map λx=>(x.1,a.eval x.2))
 |[],vs,h=>by simp only[QL,aab]at h;subst h;exact⟨.nil ρ,rfl⟩
 |(i,x)::ps,vs,h=>by
  simp only[QL]at h;split at h
  ·cases h
  ·rename_i v hv;split at h
   ·cases h
   ·rename_i vs' hvs;simp only[aab]at h;subst h;have:=dI hs hvs;exact⟨.cons (yk hs hv) this.1,by simp[this.2]⟩
def Yd(P:Program)(t:TypeId):Option aaa:=fl (yQ P (zeroValue t))
theorem Wq{ρ:xt}{t:TypeId}{z:aaa}(h:Yd P t=some z)(w:World):(zeroValue t).run P w=.ok z w/\zS ρ z z:=by
 obtain⟨h1,h2⟩:=KR h;exact⟨zv h1 w,.of_flat ρ h2⟩
def zeI(P:Program)(fields:Array Field):Option (Array (Nat×Nat)):=yQ P (fields.mapM λf=>do pure (f.offset,<- sizeOf f.type))
def zY(P:Program)(t:TypeId)(parts:List (Nat×aaa)):Option aaa :=
 match Yd P t with
 |none=>none
 |some z=>match yQ P (underlying t) with
  |some (.struct fields)=>(match zeI P fields with
   |none=>none
   |some places=>(Instr.fill (places[·]?) z.cells parts).map .agg)
  |some (.array _ elem)=>(match yQ P (sizeOf elem) with
   |none=>none
   |some n=>(Instr.fill (λi=>some (i*n,n)) z.cells parts).map .agg)
  |_=>none
theorem Hd{ρ:xt}{t:TypeId}{parts parts':List (Nat×aaa)}{v:aaa}(h:zY P t parts=some v)(hp:Bi ρ parts parts')(w:World) :
  ∃v',(Instr.build t parts'.toArray).run P w=.ok v' w/\zS ρ v v':=by
 unfold zY at h;split at h
 ·cases h
 ·rename_i z hz;obtain⟨e0,hz⟩:=Wq (ρ:=ρ) hz w;split at h
  ·rename_i fields hu;split at h
   ·cases h
   ·rename_i places hpl;simp only[aat]at h;obtain⟨r,hr,rfl⟩:=h;obtain⟨r',hr',hv⟩:=pY _ _ _ _ _ hp hz.cells hr;refine⟨.agg r',?_,.agg (by simpa using hv.1) (λi x y hx hy=>hv.2 i x y (by simpa using hx) (by simpa using hy))⟩;simp only[Instr.build,aan,e0,aah,zv hu,zv hpl,hr',aaw]
  ·rename_i n elem hu;split at h
   ·cases h
   ·rename_i n hn;simp only[aat]at h;obtain⟨r,hr,rfl⟩:=h;obtain⟨r',hr',hv⟩:=pY _ _ _ _ _ hp hz.cells hr;refine⟨.agg r',?_,.agg (by simpa using hv.1) (λi x y hx hy=>hv.2 i x y (by simpa using hx) (by simpa using hy))⟩;simp only[Instr.build,aan,e0,aah,zv hu,zv hn,hr',aaw]
  ·cases h
def ER(h:za)(c:List aaa)(t:TypeId):aaa×za:=(.pointer (some ⟨h.next,0,none⟩),h.push (.cells c t))
theorem rC{ρ:xt}{h:za}{w:World}(hr:Rel P ρ h w){v v':aaa}(hv:zS ρ v v')(t:TypeId) :
  ∃a' w' ρ',(newVar t v').run P w=.ok a' w'/\Step P ρ h w ρ' (ER h v.cells.toList t).2 w'/\zS ρ' (ER h v.cells.toList t).1 (.pointer (some a')):=by
 have hc:=hv.cells
 obtain⟨e,st⟩:=nT (t:=t) hr (c:=v.cells.toList) (cs:=v'.cells) (by rw[hc.1,abP];exact aam _) (λi x hx=>by
  obtain⟨y,hy,hxy⟩:=hc.get hx;exact⟨y,by simpa using hy,hxy⟩)
 exact⟨_,_,_,e,st,.new hr _ rfl⟩
def qX(z:List aaa)(n:Nat):List aaa:=(List.range n).map λi=>(z[i%z.length]?).getD default
theorem GU(z:Array aaa)(n:Nat):((Array.range n).map λi=>z[i%z.size]!)=(qX z.toList n).toArray:=by
 apply acv;simp only[Array.toList_map,Array.toList_range,qX];apply List.map_congr_left;intro i _;simp[getElem!_def];cases z[i%z.size]? <;> rfl
theorem Ej{ρ:xt}{z:aaa}(h:zS ρ z z)(hd:z.cells.size≠0)(n:Nat):xV ρ (qX z.cells.toList n) (qX z.cells.toList n):=by
 refine⟨rfl,λi x y hx hy=>?_⟩;rw[hx]at hy;cases hy;simp only[qX,aaq,aat]at hx;obtain⟨k,_,hk⟩:=hx;have hlt:k%z.cells.toList.length<z.cells.toList.length:=Nat.mod_lt _ (by simp;omega);rw[aae hlt]at hk;simp only[abG]at hk;have:=h.cells.2 _ _ _ (aae hlt) (aae hlt);rw[hk]at this;exact this
def Wo(P:Program)(t:TypeId)(len cap:aaa)(h:za):Option (aaa×za) :=
 match len,cap,yQ P (underlying t) with
 | .int _ l,.int _ c,some (.slice elem)=>(match yQ P (typeInfo elem) with
   |none=>none
   |some i=>(match Yd P elem with
    |none=>none
    |some z=>cond (decide (IntKind.i64.wrap l=l)&&decide (IntKind.i64.wrap c=c)&&decide (0<=l)&&decide (l<=c)&&decide (i.bytes*c<=2^48)&&Nat.beq z.cells.size i.size&&Nat.blt 0 i.size)
      (some (.slice (some ⟨h.next,0,none⟩) l.toNat (c.toNat+2),h.push (.cells (qX z.cells.toList (c.toNat*i.size)) elem))) none))
 |_,_,_=>none
theorem Zs{t:TypeId}{i:TypeInfo}(h:yQ P (typeInfo t)=some i):P.cellsOf t=i.size /\ ∀w,(sizeOf t).run P w=.ok i.size w:=by
 have h0:=h
 constructor
 ·simp only[typeInfo,program,Sem.bind,bind,yQ]at h;cases hp:P.info? t with
  |none=>rw[hp]at h;cases h
  |some j=>rw[hp]at h;simp only[pure,yQ,aab]at h;subst h;simp[Program.cellsOf,hp]
 ·intro w;simp only[sizeOf,aan,zv h0,aah,aaw]
theorem L8{ρ:xt}{t:TypeId}{l l' c c' v:aaa}{h h':za}{w:World}(he:Wo P t l c h=some (v,h'))(hr:Rel P ρ h w)(hl:zS ρ l l')(hc:zS ρ c c') :
  ∃v' w' ρ',(Instr.makeSlice t l' c').run P w=.ok v' w'/\Step P ρ h w ρ' h' w'/\zS ρ' v v':=by
 unfold Wo at he;split at he
 ·rename_i kl l kc c elem hu;cases hl;cases hc;split at he
  ·cases he
  ·rename_i i hi;split at he
   ·cases he
   ·rename_i z hz;cases hcond:(decide (IntKind.i64.wrap l=l)&&decide (IntKind.i64.wrap c=c)&&decide (0<=l)&&decide (l<=c)&&decide (i.bytes*c<=2^48)&&Nat.beq z.cells.size i.size&&Nat.blt 0 i.size) with
    |false=>rw[hcond]at he;cases he
    |true=>
     rw[hcond]at he;simp only[aaC,aab,aaj]at he;obtain⟨rfl,rfl⟩:=he;simp only[aag,aaR]at hcond;obtain⟨⟨⟨⟨⟨⟨w1,w2⟩,p1⟩,p2⟩,p3⟩,zs⟩,sp⟩:=hcond;have zs:=aav zs;have sp:0<i.size:=by simpa [aa7] using sp
     obtain⟨e0,hz'⟩:=Wq (ρ:=ρ) hz w;obtain⟨sz1,sz2⟩:=Zs hi
     obtain⟨e,st⟩:=nT (t:=elem) hr (c:=qX z.cells.toList (c.toNat*i.size)) (cs:=(Array.range (c.toNat*i.size)).map λk=>z.cells[k%z.cells.size]!)
      (by simp[qX]) (λk x hx=>by
       rw[GU];obtain⟨y,hy,hxy⟩:=(Ej hz' (by omega) (c.toNat*i.size)).get hx;exact⟨y,by simpa using hy,hxy⟩)
     refine⟨.slice (some ⟨w.heap.size,0,none⟩) l.toNat c.toNat,_,_,?_,st,?_⟩
     ·have b1:¬((i.bytes:Int)*c>2^48):=(by omega);have b2:¬(c<0):=(by omega);have b3:¬(l<0):=(by omega);have b4:¬(l>c):=(by omega);simp only[Instr.makeSlice,asInt,asIntOf,aan,aaw,aah,zv hu,zv hi,w1,w2];rw[aac (by simp[b2,b3,b4];omega)];simp only[aan,run_askRoom,aah,sz2];by_cases hn:c.toNat*i.size=0
      ·rw[aai hn];have e1:((Array.range (c.toNat*i.size)).map λk=>(#[]:Array aaa)[k%(#[]:Array aaa).size]!)=((Array.range (c.toNat*i.size)).map λk=>z.cells[k%z.cells.size]!):=by rw[hn];simp
       simp only[aan,aaw,aah];rw[e1,e];simp only[aah]
      ·rw[aac hn];simp only[aan,e0,aaw,aah,e]
     ·refine zS.slice (ρ:=ρ.ext _) (b:=h.next) (off:=0) (pl:=⟨w.heap.size,0,_,_⟩) (by show h.next<ρ.next+1;rw[hr.next];exact aaH _) (by rw[<- hr.next];exact ρ.jC _) (by omega) ?_;intro _;refine⟨by simp[sz1],λk hk=>by omega⟩
 ·cases he
end
noncomputable section
variable {P:Program}
def dQ:Nat->Nat->Nat
 |0,_=>0
 |1,_=>1
 |k+2,l=>(k-l)+2
def uV(x:Option aaa)(d:Nat)(most:Nat):Option Nat :=
 match x with
 |none=>some d
 |some (.int _ i)=>cond (decide (0<=i)&&decide (i<=most)) (some i.toNat) none
 |some _=>none
def wide(P:Program)(h:za)(b n:Nat):Bool :=
 match h.get b with
 |some (.cells _ t)=>Nat.beq (P.cellsOf t) n
 |_=>false
def tj(P:Program)(t:TypeId)(x:aaa)(lo hi:Option aaa)(h:za):Option aaa :=
 match yQ P (underlying t),x with
 |some (.slice elem),.slice base len c=>(match yQ P (sizeOf elem) with
  |none=>none
  |some n=>(match uV hi len len with
   |none=>none
   |some hh=>(match uV lo 0 hh with
    |none=>none
    |some l=>(match base with
     |none=>cond (Nat.beq len 0) (some (.slice none 0 0)) none
     |some ⟨b,off,none⟩=>some (.slice (some ⟨b,off+l*n,none⟩) (hh-l) (cond (wide P h b n) (dQ c l) 0))
     |some _=>none))))
 |some (.array k elem),.pointer (some ⟨b,off,none⟩)=>(match yQ P (sizeOf elem) with
  |none=>none
  |some n=>(match uV hi k k with
   |none=>none
   |some hh=>(match uV lo 0 hh with
    |none=>none
    |some l=>some (.slice (some ⟨b,off+(if k=l then 0 else l*n),none⟩) (hh-l) 0))))
 |_,_=>none
theorem lM{x:Option aaa}{d most r:Nat}(h:uV x d most=some r)(hd:d<=most):r<=most:=by
 unfold uV at h;split at h
 ·simp only[aab]at h;omega
 ·rename_i k i;cases hc:(decide (0<=i)&&decide (i<=(most:Int))) with
  |false=>rw[hc]at h;cases h
  |true=>
   rw[hc]at h;simp only[aaC,aab]at h;simp only[aag,aaR]at hc;omega
 ·cases h
theorem CQ{ρ:xt}{x x':Option aaa}{d most r:Nat}(h:uV x d most=some r)(hx:∀v,x=some v->∃v',x'=some v'/\zS ρ v v')(hn:x=none->x'=none){y:Nat}(hy:most<=y)(code:BoundsCode)(w:World) :
  (match x' with|some v=>Instr.sliceBound v y code|none=>(pure d:Sem Nat)).run P w=.ok r w:=by
 unfold uV at h;split at h
 ·rw[hn rfl];simp only[aab]at h;subst h;rfl
 ·rename_i k i;obtain⟨v',rfl,hv⟩:=hx _ rfl;cases hv;cases hc:(decide (0<=i)&&decide (i<=(most:Int))) with
  |false=>rw[hc]at h;cases h
  |true=>
   rw[hc]at h;simp only[aaC,aab]at h;simp only[aag,aaR]at hc;subst h;simp only[Instr.sliceBound,asIntOf,aan,aaw,aah,acJ];rw[aai (by omega)]
 ·cases h
def Tt(ρ:xt)(x x':Option aaa):Prop:=(∀v,x=some v->∃v',x'=some v'/\zS ρ v v')/\(x=none->x'=none)
theorem dP{ρ:xt}{lo lo' hi hi':Option aaa}{len cap hh l:Nat}(hhi:uV hi len len=some hh)(hlo:uV lo 0 hh=some l)(rl:Tt ρ lo lo')(rh:Tt ρ hi hi')(hl:len<=cap)(b:Bool)(w:World) :
  (Instr.sliceBounds b len cap lo' hi' none).run P w=.ok (l,hh,cap) w:=by
 have h1:=CQ (P:=P) hhi rh.1 rh.2 hl (if b then .sliceAcap else .sliceAlen) w;have h2:=CQ (P:=P) hlo rl.1 rl.2 (aam hh) (.sliceB) w;unfold Instr.sliceBounds;cases hi' with
 |none=>
  have e1:len=hh:=by simpa using h1
  subst e1;cases lo' with
  |none=>have e2:0=l:=by simpa using h2
         subst e2;rfl
  |some v=>
   simp only at h2;simp only[aan,aaw,aah,aa8,abo,abe,h2]
 |some u=>
  simp only at h1;cases lo' with
  |none=>have e2:0=l:=by simpa using h2
         subst e2;simp only[aan,aaw,aah,h1]
  |some v=>
   simp only at h2;simp only[aan,aaw,aah,aa8,abo,abe,h1,h2]
theorem Hw{ρ:xt}{t:TypeId}{x x' v:aaa}{lo lo' hi hi':Option aaa}{h:za}{w:World}(he:tj P t x lo hi h=some v)(hr:Rel P ρ h w)(hx:zS ρ x x')(rl:Tt ρ lo lo')(rh:Tt ρ hi hi') :
  ∃v',(Instr.sliceAt t x' lo' hi' none).run P w=.ok v' w/\zS ρ v v':=by
 unfold tj at he;split at he
 ·rename_i elem base len c hu;split at he
  ·cases he
  ·rename_i n hn;split at he
   ·cases he
   ·rename_i hh hhi;split at he
    ·cases he
    ·rename_i l hlo;have h1:=lM hhi (aam _);have h2:=lM hlo (aba _);cases hx with
     |sliceNil=>
      simp only[acy,aaC,aab]at he;subst he;have:hh=0:=by omega
      subst this;have:l=0:=by omega
      subst this;refine⟨.slice none 0 0,?_,.sliceNil 0⟩;have hb:=dP (P:=P) hhi hlo rl rh (aam 0) true w;simp only[Instr.sliceAt,Instr.slice,aan,zv hu,aah,hb,zv hn,aaw,aad,acO]
     |slice hb hm hl hc=>
      rename_i b off cap pl;simp only[aab]at he;subst he;have hbd:=dP (P:=P) hhi hlo rl rh hl true w
      have hrun:(Instr.sliceAt t (.slice (some ⟨pl.c,pl.base+off,none⟩) len cap) lo' hi' none).run P w=.ok (.slice (if cap=l then some ⟨pl.c,pl.base+off,none⟩ else some ⟨pl.c,pl.base+off+l*n,none⟩) (hh-l) (cap-l)) w:=by
       simp only[Instr.sliceAt,Instr.slice,aan,zv hu,aah,hbd,zv hn,aaw,abV,ZO]
      by_cases hcl:cap=l
      ·refine⟨_,hrun,?_⟩;rw[aai hcl];have e1:hh-l=0:=by omega
       have e2:cap-l=0:=(by omega);rw[e1,e2];refine .sliceOut hb ?_;cases hw:wide P h b n with
       |false=>exact aba _
       |true=>
        simp only[aaC];unfold dQ;split
        ·omega
        ·omega
        ·rename_i k;have:=(hc (by omega)).2 k rfl;omega
      ·refine⟨_,hrun,?_⟩;rw[aac hcl,acz];refine .slice hb hm (by omega) ?_;cases hw:wide P h b n with
       |false=>intro hne;exact absurd rfl hne
       |true=>
        simp only[aaC];intro hne;have hc0:c≠0:=by intro e;subst e;exact hne rfl
        obtain⟨c1,c2⟩:=hc hc0;unfold wide at hw;split at hw
        ·rename_i cs tb hg;have hw:=aav hw;obtain⟨cs',fz,_,_,hesz,_⟩:=hr.place hg hm;rw[hesz.1,hw]at c1 ⊢;refine⟨?_,?_⟩
         ·have:l*n+(cap-l)*n=cap*n:=(by rw[<- acZ];congr 1;omega);omega
         ·intro k hk;unfold dQ at hk;split at hk
          ·omega
          ·omega
          ·have:=c2 _ rfl;omega
        ·cases hw
     |sliceOut hb hc=>
      rename_i b off a;simp only[aab]at he;subst he;have:hh=0:=by omega
      subst this;have:l=0:=by omega
      subst this;refine⟨.slice (some a) 0 0,?_,.sliceOut hb ?_⟩
      ·have hbd:=dP (P:=P) hhi hlo rl rh (aam 0) true w;simp only[Instr.sliceAt,Instr.slice,aan,zv hu,aah,hbd,zv hn,aaw,aad,acO]
      ·cases wide P h b n with
       |false=>exact aba _
       |true=>simp only[aaC];unfold dQ;split <;> omega
 ·rename_i k elem b off hu;cases hx with
  |ptr hb hm=>
   rename_i pl;split at he
   ·cases he
   ·rename_i n hn;split at he
    ·cases he
    ·rename_i hh hhi;split at he
     ·cases he
     ·rename_i l hlo;simp only[aab]at he;subst he;have h1:=lM hhi (aam _);have h2:=lM hlo (aba _);have hbd:=dP (P:=P) hhi hlo rl rh (aam k) false w;refine⟨_,by simp only[Instr.sliceAt,Instr.sureAddr,aan,zv hu,aaw,aah,hbd,zv hn];rfl,?_⟩
      have:(if k=l then (Addr.mk pl.c (pl.base+off) none) else (Addr.mk pl.c (pl.base+off) none).add (l*n))=⟨pl.c,pl.base+(off+(if k=l then 0 else l*n)),none⟩:=by
       split
       ·rfl
       ·rw[ZO,acz]
      rw[this];exact .slice hb hm (by omega) (λhne=>absurd rfl hne)
 ·cases he
def zbV(P:Program)(t:TypeId)(x:aaa):Option aaa :=
 match yQ P (underlying t),x with
 |some (.slice _),.slice _ n _=>some (goInt n)
 |some .string,.string s=>some (goInt s.size)
 |some (.array n _),_=>some (goInt n)
 |_,_=>none
theorem On{ρ:xt}{t:TypeId}{x x' v:aaa}(he:zbV P t x=some v)(hx:zS ρ x x')(r:TypeId)(w:World):(Builtin.len_ #[t] r #[x']).run P w=.ok v w/\zS ρ v v:=by
 unfold zbV at he;split at he
 ·rename_i hu;simp only[aab]at he;subst he;refine⟨?_,.int _ _⟩;cases hx <;> simp[Builtin.len_,zv hu]
 ·rename_i hu;simp only[aab]at he;subst he;refine⟨?_,.int _ _⟩;cases hx;simp[Builtin.len_,zv hu]
 ·rename_i hu;simp only[aab]at he;subst he;refine⟨?_,.int _ _⟩;simp[Builtin.len_,zv hu]
 ·cases he
end
noncomputable section
variable {P:Program}
def wR(h:za)(n size:Nat):aaa->Option (List aaa)
 | .slice (some ⟨b,off,none⟩) _ _=>cond (Nat.beq (n*size) 0) (some []) (match h.get b with
   |some (.cells c _)=>cond (Nat.ble (off+n*size) c.length) (some ((c.drop off).take (n*size))) none
   |_=>none)
 | .slice none _ _=>some []
 | .string s=>some ((s.extract 0 n).data.toList.map λb => .int .u8 b.toNat)
 |_=>none
def gY:aaa->Option Nat
 | .slice _ n _=>some n
 | .string s=>some s.size
 |_=>none
theorem Ax{ρ:xt}{x x':aaa}{n:Nat}(h:gY x=some n)(hx:zS ρ x x')(w:World):(Builtin.lenOf x').run P w=.ok n w:=by
 cases hx with
 |Iv _=>cases h
 |_=>simp only[gY,aab,reduceCtorEq]at h <;> subst h <;> rfl
theorem dZ{ρ:xt}{h:za}{w:World}{n size:Nat}{x x':aaa}{c:List aaa}(he:wR h n size x=some c)(hr:Rel P ρ h w)(hx:zS ρ x x')(hn:∀b l cap,x=.slice b l cap->n<=l) :
  ∃c':List aaa,(Builtin.firstCells size n x').run P w=.ok c'.toArray w/\xV ρ c c':=by
 have hzero:n*size=0->∀a:Addr,(loadCells a (n*size)).run P w=.ok ([]:List aaa).toArray w:=by
  intro e a;rw[e];rfl
 cases hx with
 |sliceNil c0=>
  simp only[wR,aab]at he;subst he;exact⟨[],rfl,.nil ρ⟩
 |slice hb hm hl hc=>
  rename_i b off len c0 cap pl;simp only[wR]at he;cases hz:Nat.beq (n*size) 0 with
  |true=>
   rw[hz]at he;simp only[aaC,aab]at he;subst he;exact⟨[],by simp only[Builtin.firstCells];exact hzero (aav hz) _,.nil ρ⟩
  |false=>
   rw[hz]at he;simp only[aaK]at he;split at he
   ·rename_i cs t hg;cases hle:Nat.ble (off+n*size) cs.length with
    |false=>rw[hle]at he;cases he
    |true=>
     rw[hle]at he;simp only[aaC,aab]at he;subst he;obtain⟨ys,hys,hv⟩:=Zr (hr.place hg hm) off (n*size) (aaL hle);exact⟨ys,by simpa only[Builtin.firstCells] using hys,hv⟩
   ·cases he
 |sliceOut hb hc=>
  rename_i b off c0 a;have:=hn _ _ _ rfl
  have hz:n*size=0:=by have:n=0:=by omega
                       subst this;simp
  simp only[wR,hz,acy,aaC,aab]at he;subst he;exact⟨[],by simp only[Builtin.firstCells];exact hzero hz _,.nil ρ⟩
 |string s=>
  simp only[wR,aab]at he;subst he;refine⟨_,?_,⟨rfl,λi x y hx hy=>?_⟩⟩
  ·simp only[Builtin.firstCells,aaw]
   congr 1
   apply acv;simp
  ·rw[hx]at hy;cases hy;simp only[aaq,aat]at hx;obtain⟨b,_,rfl⟩:=hx;exact .int _ _
 |_=>cases he
def tD:TypeDesc->Bool
 | .int _=>true
 |_=>false
theorem Gj(need:Nat)(hn:255<=need):∀(r c:Nat),c<=2*need->Builtin.growBy need r c<=2*need
 |0,c,h=>h
 |r+1,c,h=>by
  unfold Builtin.growBy;split
  ·exact h
  ·exact Gj need hn r _ (by omega)
theorem Pd(need cap:Nat)(h:cap<need):Builtin.nextslicecap need cap<=2*need:=by
 unfold Builtin.nextslicecap;split
 ·omega
 ·split
  ·omega
  ·exact Gj need (by omega) 4 cap (by omega)
theorem rD(need:Nat)(h:0<need):Builtin.nextslicecap need 0=need:=by
 unfold Builtin.nextslicecap;rw[aai (by omega)]
theorem run_append_grow{ρ:xt}{h:za}{w:World}(hr:Rel P ρ h w){sT xT elem:TypeId}{r:TypeId}{xd:TypeDesc}{i:TypeInfo}{z:aaa}{base:Option Addr}{len cap n:Nat}{x':aaa}{old old' new new':List aaa}
  (h1:yQ P (underlying sT)=some (.slice elem)) (h2:yQ P (underlying xT)=some xd) (h3:tD xd=false) (hi:yQ P (typeInfo elem)=some i) (hz:Yd P elem=some z)
  (hb:0<i.bytes) (hzs:z.cells.size=i.size)
  (hlen:∀w,(Builtin.lenOf x').run P w=.ok n w) (hgrow:cap<len+n) (hlim:Builtin.nextslicecap (len+n) cap*i.bytes<=2^48)
  (hold:(Builtin.firstCells i.size len (.slice base len cap)).run P {w with drawn:=w.drawn+1} = .ok old'.toArray {w with drawn:=w.drawn+1}) (hnew:(Builtin.firstCells i.size n x').run P {w with drawn:=w.drawn+1} = .ok new'.toArray {w with drawn:=w.drawn+1})
  (vold:xV ρ old old') (vnew:xV ρ new new') (hol:old.length=len*i.size) (hnl:new.length=n*i.size) :
  ∃cap' w' pl,(Builtin.append_ #[sT,xT] r #[.slice base len cap,x']).run P w=.ok (.slice (some ⟨w.heap.size,0,none⟩) (len+n) cap') w'/\len+n<=cap'/\pl.c=w.heap.size/\pl.base=0/\pl.So=i.size/\cap' * i.size<=pl.size /\
   Step P ρ h w (ρ.ext pl) (h.push (.cells (old++new) elem)) w':=by
 obtain⟨sz1,sz2⟩:=Zs hi;obtain⟨z1,_⟩:=Wq (ρ:=ρ) hz w;have z1:∀w,(zeroValue elem).run P w=.ok z w:=λw=>(Wq (ρ:=ρ) hz w).1
 let q:Question := .appendCap (len+n) cap elem
 let newCap:=q.cut (w.tape w.drawn q)
 let w1:World:={w with drawn:=w.drawn+1}
 have hge:len+n<=newCap:=by show len+n<=(len+n)+_%_;omega
 let cs:Array aaa:=old'.toArray++new'.toArray++Builtin.zeroCells z.cells (newCap-(len+n))
 have hr1:Rel P ρ h w1:=hr.grow (λk _=>rfl)
 have hcs:cs.size=newCap*i.size:=by
  simp only[cs,Builtin.zeroCells,Array.size_append,List.size_toArray,Array.size_map,Array.size_range,<- vold.1,<- vnew.1,hol,hnl,hzs];rw[<- acZ,<- acZ];congr 1;omega
 have st:=Step.push (t:=elem) hr1 (c:=old++new) (cs:=cs) (fz:=(0,0)) (w':={w1 with heap:=w1.heap.push (.cells cs elem)}) rfl (λi _ hi=>by simp at hi)
  (by simp only[cs,Array.size_append,abH,List.size_toArray,vold.1,vnew.1];omega)
  (λk x hx=>by
   obtain⟨y,hy,hxy⟩:=(vold.append vnew).get hx;refine⟨y,?_,hxy⟩
   have hlt:k<(old'++new').length:=by
    rcases aar k (old'++new').length with h|h
    ·exact h
    ·rw[aal h]at hy;cases hy
   have:cs=(old'++new').toArray++Builtin.zeroCells z.cells (newCap-(len+n)):=by
    have e:old'.toArray++new'.toArray=(old'++new').toArray:=(by simp);simp only[cs];rw[e]
   rw[this,Array.getElem?_append_left (by simpa using hlt)];simpa using hy) rfl rfl rfl
 refine⟨newCap,_,⟨w.heap.size,0,cs.size,P.cellsOf elem⟩,?_,hge,rfl,rfl,sz1,by rw[hcs];exact aam _,⟨st.le,st.rel,st.ro,st.os,st.tape,st.output,st.size,st.frame,st.A6⟩⟩;have e1:¬(len+n<=cap):=by omega
 simp only[Builtin.append_];simp only[ab4,aak,aap,aan,zv h1,aah,sz2,zv h2,aaw];rw[aac (by cases xd <;> first|exact acM|cases h3)];simp only[aan,hlen,aah];rw[aac e1];simp only[aan,zv hi,aah]
 rw[aac (by
  rintro⟨_,h|h⟩
  ·revert h;cases xd <;> first|exact acM|cases h3
  ·omega)]
 simp only[aan,zv hi,aah];rw[aac (by omega)];have hq:(choose (.appendCap (len+n) cap elem)).run P w=.ok newCap w1:=by rw[run_choose];rfl
 simp only[aan,hq,aah,zv hi,run_askRoom];rw[show w1 = {w with drawn:=w.drawn+1} from rfl,hold];simp only[aah];rw[aai (by cases xd <;> first|rfl|cases h3)];rw[hnew];simp only[aah,z1,aaw];rfl
theorem EU{ρ:xt}{h:za}{w:World}(hr:Rel P ρ h w){sT xT elem:TypeId}{r:TypeId}{xd:TypeDesc}{i:TypeInfo}{b off len cap n:Nat}{cs:List aaa}{pl:Place}{x':aaa}{new new':List aaa}
  (h1:yQ P (underlying sT)=some (.slice elem)) (h2:yQ P (underlying xT)=some xd) (h3:tD xd=false) (hi:yQ P (typeInfo elem)=some i)
  (hlen:∀w,(Builtin.lenOf x').run P w=.ok n w) (hfits:len+n<=cap) (hg:h.get b=some (.cells cs elem)) (hm:ρ.m b=some pl) (hro:h.ro<=b)
  (hnew:(Builtin.firstCells i.size n x').run P w=.ok new'.toArray w) (vnew:xV ρ new new') (hnl:new.length=n*i.size) (hcell:∀x∈new,yN x=true)
  (hroom:pl.base+off+cap*i.size<=pl.size) (hhave:off+len*i.size<=cs.length) (hoff:off%i.size=0) :
  ∃w',(Builtin.append_ #[sT,xT] r #[.slice (some ⟨pl.c,pl.base+off,none⟩) len cap,x']).run P w=.ok (.slice (some ⟨pl.c,pl.base+off,none⟩) (len+n) cap) w' /\
   Step P ρ h w (ρ.ext ⟨pl.c,pl.base+off,pl.size,pl.So⟩) ((h.set b none).push (.cells (((cs.drop off).take (len*i.size))++new) elem)) w':=by
 obtain⟨sz1,sz2⟩:=Zs hi;obtain⟨cs',fz,g1,g2,g3,g4,g5,g6⟩:=hr.place hg hm
 have key:∀(vs vs':List aaa) (w0:World) (cc:Array aaa) (j:Nat),w0.heap[pl.c]? = some (.cells cc elem fz)->cc.size=pl.size->pl.base+off+len*i.size+j+vs.length<=pl.size->xV ρ vs vs'->(∀x∈vs,yN x=true) ->
   ∃w',(storeCells ⟨pl.c,pl.base+off+len*i.size,none⟩ vs' j).run P w0=.ok () w'/\(∃dd:Array aaa,w'.heap[pl.c]? = some (.cells dd elem fz)/\dd.size=cc.size /\
    (∀k,(k<pl.base+off+len*i.size+j)->dd[k]? = cc[k]?)/\(∀k y,vs'[k]? = some y->dd[pl.base+off+len*i.size+j+k]? = some y)) /\
    (∀k,k≠pl.c->w'.heap[k]? = w0.heap[k]?)/\w'.os=w0.os/\w'.tape=w0.tape/\w'.output=w0.output/\w'.heap.size=w0.heap.size:=by
  intro vs
  induction vs with
  |nil=>
   intro vs' w0 cc j hb hsz _ hv _;cases hv.uW;exact⟨w0,rfl,⟨cc,hb,rfl,λ_ _=>rfl,λk y hy=>by simp at hy⟩,λ_ _=>rfl,rfl,rfl,rfl,rfl⟩
  |cons v vs ih=>
   intro vs' w0 cc j hb hsz hle hv hco;obtain⟨v',vs'',rfl,hv1,hv2⟩:=hv.cons_inv;simp only[aaE]at hle
   let p:=pl.base+off+len*i.size+j
   have hp:p<pl.size:=by show pl.base+off+len*i.size+j<pl.size;omega
   have hone:v'.oneCell'=true:=by have:=C7 hv1;rw[hco v (by simp)]at this;cases v' <;> simp_all [yN,Value.oneCell']
   have hcell0:w0.cell? ⟨pl.c,p,none⟩=some cc[p]!:=by
    simp only[World.cell?,hb];simp[getElem!_def,aaP (show p<cc.size by omega)]
   have hfr:w0.frozen? ⟨pl.c,p,none⟩=false:=by
    have:=g5 (by simpa using hro) p hp;obtain⟨lo,hi'⟩:=fz;simp[World.frozen?,hb]at this ⊢;exact this
   have e1:(store ⟨pl.c,p,none⟩ v').run P w0=.ok () (w0.setCell ⟨pl.c,p,none⟩ v'):=by
    rw[run_store _ _ _ _ _ hone,hcell0];simp[hfr]
   have hb1:(w0.setCell ⟨pl.c,p,none⟩ v').heap[pl.c]? = some (.cells (cc.setIfInBounds p v') elem fz):=by simp[World.setCell,Array.getElem?_modify,hb]
   obtain⟨w',e2,⟨dd,d1,d2,d3,d4⟩,d5,d6,d7,d8,d9⟩:=ih vs'' _ (cc.setIfInBounds p v') (j+1) hb1 (by simpa using hsz) (by omega) hv2 (λx hx=>hco x (by simp[hx]));refine⟨w',?_,⟨dd,d1,by simpa using d2,λk hk=>?_,λk y hy=>?_⟩,λk hk=>(d5 k hk).trans (eX _ _ _ _ hk),d6,d7,d8,d9.trans (size_setCell _ _ _)⟩
   ·simp only[storeCells,ZO,aan];rw[show(⟨pl.c,pl.base+off+len*i.size+j,none⟩:Addr)=⟨pl.c,p,none⟩ from rfl,e1];exact e2
   ·rw[d3 k (by omega),aby,aac (by show p≠k;omega)]
   ·cases k with
    |zero=>
     simp only[aak,aab]at hy;subst hy;rw[acA,d3 _ (by omega),aby,aai rfl,aai (by omega)]
    |succ k=>
     have:=d4 k y (by simpa using hy);rw[show pl.base+off+len*i.size+j+(k+1)=pl.base+off+len*i.size+(j+1)+k by omega];exact this
 have hfit:pl.base+off+len*i.size+0+new.length<=pl.size:=by
  have:len*i.size+n*i.size<=cap*i.size:=by rw[<- acZ];exact abR _ hfits
  omega
 obtain⟨w',e,⟨dd,d1,d2,d3,d4⟩,d5,d6,d7,d8,d9⟩:=key new new' w cs' 0 g1 g2 hfit vnew hcell;refine⟨w',?_,?_⟩
 ·simp only[Builtin.append_];simp only[ab4,aak,aap,aan,zv h1,aah,sz2,zv h2,aaw];rw[aac (by cases xd <;> first|exact acM|cases h3)];simp only[aan,hlen,aah];rw[aai hfits];rw[aai (by cases xd <;> first|rfl|cases h3)];simp only[aan,hnew,aah,ZO,e,aaw]
 ·have hr0:=hr.drop b;have hle:=ρ.tE ⟨pl.c,pl.base+off,pl.size,pl.So⟩
  have hr1:Rel P ρ (h.set b none) w':=⟨hr0.next,hr0.ro,hr0.eU,λx ox hx=>by
    obtain⟨p,hp,hc⟩:=hr0.ok x ox hx;refine⟨p,hp,hc.other (d5 _ ?_)⟩;intro ec;rw[za.yI]at hx;split at hx
    ·cases hx
    ·rename_i ne;exact ne (hr.inj x b _ _ p pl hx hg hp hm ec),hr0.inj,hr0.tB,hr0.XR⟩
  refine⟨hle,hr1.push ⟨dd,fz,d1,d2.trans g2,⟨g3.1,by
   show(pl.base+off)%pl.So=0;rw[Nat.add_mod,g3.2,g3.1,sz1,hoff];simp⟩,?_,λ_=>g5 (by simpa using hro),?_⟩ ?_,rfl,d6,d7,d8,by omega,λk hk hn=>d5 k (λec=>hn ⟨b,_,pl,hg,hro,hm,ec.symm⟩),?_⟩
  ·simp only[abH,acw,acI,hnl]at hfit ⊢;have:len*i.size+n*i.size<=cap*i.size:=by rw[<- acZ];exact abR _ hfits
   show pl.base+off+(min (len*i.size) (cs.length-off)+n*i.size)<=dd.size;omega
  ·intro k x hx;rcases aar k (len*i.size) with hk|hk
   ·have hk':k<((cs.drop off).take (len*i.size)).length:=(by simp only[acw,acI];omega);rw[abj hk',aaX hk,aa1]at hx;obtain⟨y,hy,hxy⟩:=g6 _ _ hx;exact⟨y,by rw[show(pl.base+off:Nat)+k=pl.base+(off+k) by omega,d3 _ (by omega)];exact hy,hxy.mono hle⟩
   ·have hl0:((cs.drop off).take (len*i.size)).length=len*i.size:=(by simp only[acw,acI];omega);rw[aa5 (by omega),hl0]at hx;obtain⟨y,hy,hxy⟩:=vnew.get hx;refine⟨y,?_,hxy.mono hle⟩;have:=d4 _ _ hy;rw[show(pl.base+off:Nat)+k=pl.base+off+len*i.size+0+(k-len*i.size) by omega];exact this
  ·intro x o p hx hp ec;rw[za.yI]at hx;split at hx
   ·cases hx
   ·rename_i ne;exact ne (hr.inj x b _ _ p pl hx hg hp hm ec)
  ·rintro k hk ⟨x,o,p,hx,hrx,hp,hpc⟩;rw[za.vA]at hx;split at hx
   ·rename_i ex;subst ex;rw[show(h.set b none).next=ρ.next from hr.next.symm,xt.jC]at hp;cases hp;exact⟨b,_,pl,hg,hro,hm,hpc⟩
   ·have hlt:=hr0.eU x o hx;have hp':ρ.m x=some p:=by rw[<- hp];exact(hle.2 x (by rw[hr0.next];exact hlt)).symm
    rw[za.yI]at hx;split at hx
    ·cases hx
    ·exact⟨x,o,p,hx,hrx,hp',hpc⟩
end
noncomputable section
variable {P:Program}
def uG(c need:Nat):Nat :=
 match c with
 |k+2=>cond (Nat.ble need k) (k+2) 1
 |_=>1
theorem QP{c need k:Nat}(h:uG c need=k+2):c=k+2/\need<=k:=by
 unfold uG at h;split at h
 ·rename_i q;cases hq:Nat.ble need q with
  |true=>rw[hq]at h;simp only[aaC]at h;exact⟨h,by have:=aaL hq;omega⟩
  |false=>rw[hq]at h;simp only[aaK]at h;omega
 ·omega
def roomFor(c need bytes:Nat):Bool:=Nat.ble (need*bytes) (cond (Nat.beq c 2) (2^48) (2^47))
def aP(h:za)(elem:TypeId)(i:TypeInfo)(n:Nat)(new:List aaa)(s:aaa):Option (aaa×za) :=
 match s with
 | .slice none 0 0=>cond (Nat.beq n 0) (some (.slice none 0 0,h)) (cond (Nat.ble (n*i.bytes) (2^48)) (some (.slice (some ⟨h.next,0,none⟩) n 1,h.push (.cells new elem))) none)
 | .slice (some ⟨b,off,none⟩) len c=>cond (Nat.beq n 0) (some (s,h)) (match h.get b with
   |some (.cells cs t)=>cond (!(Nat.beq c 0)&&Nat.beq t elem&&Nat.ble h.ro b&&Nat.ble (off+len*i.size) cs.length&&(roomFor c (len+n) i.bytes&&Nat.beq (off%i.size) 0))
     (some (.slice (some ⟨h.next,0,none⟩) (len+n) (uG c (len+n)),(h.set b none).push (.cells (((cs.drop off).take (len*i.size))++new) elem))) none
   |_=>none)
 |_=>none
def KN(P:Program)(sT xT:TypeId)(s x:aaa)(h:za):Option (aaa×za) :=
 match yQ P (underlying sT),yQ P (underlying xT),gY x with
 |some (.slice elem),some xd,some n=>(match yQ P (typeInfo elem),Yd P elem with
  |some i,some z=>(match wR h n i.size x with
   |some new=>cond (!(tD xd)&&Nat.blt 0 i.bytes&&Nat.beq z.cells.size i.size&&new.all yN&&Nat.beq new.length (n*i.size)) (aP h elem i n new s) none
   |none=>none)
  |_,_=>none)
 |_,_,_=>none
theorem Step.Pf{ρ:xt}{h:za}{w:World}(hr:Rel P ρ h w)(b:Nat):Step P ρ h w ρ (h.set b none) w :=
 ⟨xt.le_refl _,hr.drop b,rfl,rfl,rfl,rfl,aam _,λ_ _ _=>rfl,λc _ hm=>by
  obtain⟨x,o,pl,hx,h1,h2,h3⟩:=hm;rw[za.yI]at hx;split at hx
  ·cases hx
  ·exact⟨x,o,pl,hx,h1,h2,h3⟩⟩
theorem UI{sT xT elem:TypeId}{r:TypeId}{xd:TypeDesc}{i:TypeInfo}{len cap:Nat}{base:Option Addr}{x':aaa}{w:World}
  (h1:yQ P (underlying sT)=some (.slice elem)) (h2:yQ P (underlying xT)=some xd) (h3:tD xd=false) (hi:yQ P (typeInfo elem)=some i)
  (hlen:∀w,(Builtin.lenOf x').run P w=.ok 0 w) (hl:len<=cap) (hnew:(Builtin.firstCells i.size 0 x').run P w=.ok ([]:List aaa).toArray w) :
  (Builtin.append_ #[sT,xT] r #[.slice base len cap,x']).run P w=.ok (.slice base len cap) w:=by
 obtain⟨sz1,sz2⟩:=Zs hi;simp only[Builtin.append_];simp only[ab4,aak,aap,aan,zv h1,aah,sz2,zv h2,aaw];rw[aac (by cases xd <;> first|exact acM|cases h3)];simp only[aan,hlen,aah];rw[aai (by omega)];rw[aai (by cases xd <;> first|rfl|cases h3)];simp only[aan,hnew,aah,acA];cases base with
 |none=>simp only[aaw]
 |some a=>simp only[storeCells,aaw,aah,aan]
set_option maxHeartbeats 1000000 in
theorem Eu{ρ:xt}{sT xT r:TypeId}{s s' x x' v:aaa}{h h':za}{w:World}(he:KN P sT xT s x h=some (v,h'))(hr:Rel P ρ h w)(hs:zS ρ s s')(hx:zS ρ x x') :
  ∃v' w' ρ',(Builtin.append_ #[sT,xT] r #[s',x']).run P w=.ok v' w'/\Step P ρ h w ρ' h' w'/\zS ρ' v v':=by
 unfold KN at he;split at he
 case h_2=>cases he
 rename_i elem xd n h1 h2 hn;split at he
 case h_2=>cases he
 rename_i i z hi hz;split at he
 case h_2=>cases he
 rename_i new hnew;cases hc:(!(tD xd)&&Nat.blt 0 i.bytes&&Nat.beq z.cells.size i.size&&new.all yN&&Nat.beq new.length (n*i.size)) with
 |false=>rw[hc]at he;cases he
 |true=>
  rw[hc]at he;simp only[aaC]at he;simp only[aag,aaA,aaD]at hc;obtain⟨⟨⟨⟨h3,hb⟩,hzs⟩,hco⟩,hnl⟩:=hc;have hb:0<i.bytes:=by simpa [aa7] using hb
  have hzs:=aav hzs;have hnl:=aav hnl;have hlen:∀w,(Builtin.lenOf x').run P w=.ok n w:=λw=>Ax hn hx w;have hnx:∀b l cap,x=.slice b l cap->n<=l:=by intro b l cap e;subst e;simp only[gY,aab]at hn;omega
  obtain⟨new',hnew',vnew⟩:=dZ hnew hr hx hnx
  have hnil:n=0->(Builtin.firstCells i.size 0 x').run P w=.ok ([]:List aaa).toArray w:=by
   intro e;subst e;have:new'=[]:=by have:=vnew.1;rw[hnl,acP]at this;exact abJ this.symm
   rw[this]at hnew';exact hnew'
  have hr1:Rel P ρ h {w with drawn:=w.drawn+1}:=hr.grow (λk _=>rfl);obtain⟨new1,hnew1,vnew1⟩:=dZ (w:={w with drawn:=w.drawn+1}) hnew hr1 hx hnx;unfold aP at he;split at he
  ·
   cases hs;cases hz0:Nat.beq n 0 with
   |true=>
    obtain rfl:=aav hz0;rw[hz0]at he;simp only[aaC,aab,aaj]at he;obtain⟨rfl,rfl⟩:=he;exact⟨_,w,ρ,UI h1 h2 h3 hi hlen (aam 0) (hnil rfl),.refl hr,.sliceNil 0⟩
   |false=>
    rw[hz0]at he
    have hn0:0<n:=by rcases ab8 n with e|e; · subst e;simp at hz0
                     ·exact e
    cases hlim:Nat.ble (n*i.bytes) (2^48) with
    |false=>rw[hlim]at he;cases he
    |true=>
     rw[hlim]at he;simp only[aaC,aaK,aab,aaj]at he;obtain⟨rfl,rfl⟩:=he;have hlim:=aaL hlim
     obtain⟨cap',w',pl,e1,e2,e3,e4,e5,e6,st⟩:=run_append_grow (r:=r) (base:=none) (len:=0) (cap:=0) (old:=[]) (old':=[]) hr h1 h2 h3 hi hz hb hzs hlen (by omega)
      (by rw[rD _ (by omega)];simpa using hlim) (by simp[Builtin.firstCells]) hnew1 (.nil ρ) vnew1 (by simp) hnl
     rw[aay]at e1 e2;refine⟨_,w',_,e1,st,?_⟩
     have:=zS.slice (ρ:=ρ.ext pl) (b:=h.next) (off:=0) (len:=n) (c:=1) (cap:=cap') (pl:=pl) (by show h.next<ρ.next+1;rw[hr.next];exact aaH _) (by rw[<- hr.next];exact ρ.jC _) e2
      (λ_=>⟨by rw[e4,e5];simpa using e6,λk hk=>by omega⟩)
     rw[e3,e4]at this;exact this
  ·rename_i b off len c;cases hz0:Nat.beq n 0 with
   |true=>
    obtain rfl:=aav hz0;rw[hz0]at he;simp only[aaC,aab,aaj]at he;obtain⟨rfl,rfl⟩:=he;cases hs with
    |slice hb' hm' hl' hc'=>exact⟨_,w,ρ,UI h1 h2 h3 hi hlen hl' (hnil rfl),.refl hr,.slice hb' hm' hl' hc'⟩
    |sliceOut hb' hc'=>exact⟨_,w,ρ,UI h1 h2 h3 hi hlen (aam 0) (hnil rfl),.refl hr,.sliceOut hb' hc'⟩
   |false=>
    rw[hz0]at he
    have hn0:0<n:=by rcases ab8 n with e|e; · subst e;simp at hz0
                     ·exact e
    simp only[aaK]at he;split at he
    case h_2=>cases he
    rename_i cs t hg;cases hcc:(!(Nat.beq c 0)&&Nat.beq t elem&&Nat.ble h.ro b&&Nat.ble (off+len*i.size) cs.length&&(roomFor c (len+n) i.bytes&&Nat.beq (off%i.size) 0)) with
    |false=>rw[hcc]at he;cases he
    |true=>
     rw[hcc]at he;simp only[aaC,aab,aaj]at he;obtain⟨rfl,rfl⟩:=he;simp only[aag,aaA]at hcc;obtain⟨⟨⟨⟨k1,k2⟩,k3⟩,k4⟩,k5,k6⟩:=hcc;have k1:c≠0:=by intro e;subst e;simp at k1
     obtain rfl:=aav k2;have k3:=aaL k3;have k4:=aaL k4
     have hlim:∀cap,cap<len+n->(c=2->cap=0)->Builtin.nextslicecap (len+n) cap*i.bytes<=2^48:=by
      intro cap hcap h2c;unfold roomFor at k5;by_cases e2:c=2
      ·subst e2;rw[h2c rfl,rD _ (by omega)];simp only[acy,aaC]at k5;exact aaL k5
      ·rw[show Nat.beq c 2=false from Tr.beq_false e2]at k5;simp only[aaK]at k5;have k5:=aaL k5;have:=Pd (len+n) cap hcap
       calc Builtin.nextslicecap (len+n) cap*i.bytes<=(2*(len+n))*i.bytes:=abR _ this
        _=2*((len+n)*i.bytes):=Nat.mul_assoc _ _ _
        _<=2*2^47:=Nat.mul_le_mul_left _ k5
        _=2^48:=by decide
     have hdropr:=hr.drop b;cases hs with
     |slice hb' hm' hl' hc'=>
      rename_i cap pl;obtain⟨c1,c2⟩:=hc' k1;obtain⟨sz1,_⟩:=Zs hi;have hpl:=hr.place hg hm';have hesz:pl.So=i.size:=by obtain⟨_,_,_,_,q,_⟩:=hpl;rw[q.1,sz1]
      by_cases hfit:len+n<=cap
      ·obtain⟨w',e1,st⟩:=EU (r:=r) hr h1 h2 h3 hi hlen hfit hg hm' k3 hnew' vnew hnl hco (by rw[<- hesz];exact c1) k4 (aav k6);refine⟨_,w',_,e1,st,?_⟩
       have:=zS.slice (ρ:=ρ.ext ⟨pl.c,pl.base+off,pl.size,pl.So⟩) (b:=h.next) (off:=0) (len:=len+n) (c:=uG c (len+n)) (cap:=cap) (pl:=⟨pl.c,pl.base+off,pl.size,pl.So⟩)
        (by show h.next<ρ.next+1;rw[hr.next];exact aaH _) (by rw[<- hr.next];exact ρ.jC _) hfit
        (λ_=>⟨by simpa using c1,λk hk=>c2 k (QP hk).1⟩)
       simpa using this
      ·have hfull:(c=2->cap=0):=λe=>c2 0 (by omega);obtain⟨old',hold',vold⟩:=Zr (hr1.place hg hm') off (len*i.size) k4
       obtain⟨cap',w',pl',e1,e2,e3,e4,e5,e6,st⟩:=run_append_grow (r:=r) (base:=some ⟨pl.c,pl.base+off,none⟩) (len:=len) (cap:=cap) hdropr h1 h2 h3 hi hz hb hzs hlen (by omega)
        (hlim cap (by omega) hfull) (by simpa only[Builtin.firstCells] using hold') hnew1 vold vnew1 (by simp only[acw,acI];omega) hnl
       refine⟨_,w',_,e1,(Step.Pf hr b).trans st,?_⟩
       have:=zS.slice (ρ:=ρ.ext pl') (b:=h.next) (off:=0) (len:=len+n) (c:=uG c (len+n)) (cap:=cap') (pl:=pl') (by show h.next<ρ.next+1;rw[hr.next];exact aaH _) (by rw[<- hr.next];exact ρ.jC _) e2
        (λ_=>⟨by rw[e4,e5];simpa using e6,λk hk=>by
         have q:=QP hk;have:=c2 k q.1;omega⟩)
       rw[e3,e4]at this;exact this
     |sliceOut hb' hc'=>
      obtain⟨cap',w',pl',e1,e2,e3,e4,e5,e6,st⟩:=run_append_grow (r:=r) (base:=some _) (len:=0) (cap:=0) (old:=(cs.drop off).take (0*i.size)) (old':=[]) hdropr h1 h2 h3 hi hz hb hzs hlen (by omega)
       (hlim 0 (by omega) (λ_=>rfl)) (by simp only[Builtin.firstCells,acP];rfl) hnew1 (by simp[xV]) vnew1 (by simp) hnl
      refine⟨_,w',_,e1,(Step.Pf hr b).trans st,?_⟩
      have:=zS.slice (ρ:=ρ.ext pl') (b:=h.next) (off:=0) (len:=0+n) (c:=uG c (0+n)) (cap:=cap') (pl:=pl') (by show h.next<ρ.next+1;rw[hr.next];exact aaH _) (by rw[<- hr.next];exact ρ.jC _) e2
       (λ_=>⟨by rw[e4,e5];simpa using e6,λk hk=>by
        have q:=QP hk;omega⟩)
      rw[e3,e4]at this;exact this
  ·cases he
end
noncomputable section
variable {P:Program}
def lO(h:za)(b off:Nat)(new:List aaa):Option za :=
 cond (Nat.beq new.length 0) (some h) (match h.get b with
  |some (.cells cs t)=>cond (Nat.ble h.ro b&&Nat.ble (off+new.length) cs.length&&new.all yN) (some (h.set b (some (.cells (zb cs off new) t)))) none
  |_=>none)
theorem EC{ρ:xt}{h h':za}{w:World}{b off:Nat}{pl:Place}{new new':List aaa}(he:lO h b off new=some h')(hr:Rel P ρ h w)(hm:ρ.m b=some pl)(hv:xV ρ new new') :
  ∃w',(storeCells ⟨pl.c,pl.base+off,none⟩ new').run P w=.ok () w'/\Step P ρ h w ρ h' w':=by
 unfold lO at he;cases hz:Nat.beq new.length 0 with
 |true=>
  rw[hz]at he;simp only[aaC,aab]at he;subst he;have:new=[]:=abJ (aav hz);subst this;cases hv.uW;exact⟨w,rfl,.refl hr⟩
 |false=>
  rw[hz]at he;simp only[aaK]at he;split at he
  case h_2=>cases he
  rename_i cs t hg;cases hc:(Nat.ble h.ro b&&Nat.ble (off+new.length) cs.length&&new.all yN) with
  |false=>rw[hc]at he;cases he
  |true=>
   rw[hc]at he;simp only[aaC,aab]at he;subst he;simp only[aag,aaD]at hc;exact iT (o:=off) hm new new' h w cs 0 hr hg (aaL hc.1.1) (by have:=aaL hc.1.2;omega) hv hc.2
def L4(P:Program)(dT:TypeId)(d x:aaa)(h:za):Option (aaa×za) :=
 match yQ P (underlying dT),d,gY x with
 |some (.slice elem),.slice base dl _,some m=>(match yQ P (typeInfo elem) with
  |none=>none
  |some i=>(match wR h (Nat.min m dl) i.size x with
   |none=>none
   |some new=>(match base with
    |none=>some (goInt (Nat.min m dl),h)
    |some ⟨b,off,none⟩=>(lO h b off new).map λh'=>(goInt (Nat.min m dl),h')
    |some _=>none)))
 |_,_,_=>none
theorem L5{ρ:xt}{dT r:TypeId}{ts:Array TypeId}{d d' x x' v:aaa}{h h':za}{w:World}(he:L4 P dT d x h=some (v,h'))(hr:Rel P ρ h w)(hd:zS ρ d d')(hx:zS ρ x x')(hts:ts[0]? = some dT) :
  ∃v' w',(Builtin.copy_ ts r #[d',x']).run P w=.ok v' w'/\Step P ρ h w ρ h' w'/\zS ρ v v':=by
 unfold L4 at he;split at he
 case h_2=>cases he
 rename_i elem base dl c m hu hm;split at he
 case h_1=>cases he
 rename_i i hi;obtain⟨sz1,sz2⟩:=Zs hi;split at he
 case h_1=>cases he
 rename_i new hnew;have hlen:=λw=>Ax (P:=P) hm hx w;obtain⟨new',hnew',vnew⟩:=dZ hnew hr hx (by intro b l cap e;subst e;simp only[gY,aab]at hm;subst hm;exact Nat.min_le_left _ _);cases hd with
 |sliceNil=>
  simp only[aab,aaj]at he;obtain⟨rfl,rfl⟩:=he;refine⟨goInt (Nat.min m 0),w,?_,.refl hr,.int _ _⟩;simp only[Builtin.copy_,hts];simp only[ab4,aak,aap,aan,zv hu,aah,hlen,sz2,hnew',aaw]
 |slice hb hmm hl hc=>
  simp only[aat,aaj]at he;obtain⟨h2,hsp,rfl,rfl⟩:=he;obtain⟨w',e,st⟩:=EC hsp hr hmm vnew;refine⟨_,w',?_,st,.int _ _⟩;simp only[Builtin.copy_,hts];simp only[ab4,aak,aap,aan,zv hu,aah,hlen,sz2,hnew',e,aaw];rfl
 |sliceOut hb hc=>
  simp only[aat,aaj]at he;obtain⟨h2,hsp,rfl,rfl⟩:=he;have hmin:Nat.min m 0=0:=Nat.min_zero m
  have hnil:new=[]:=by
   rw[hmin]at hnew;cases hx with
   |sliceNil=>simp only[wR,aab]at hnew;exact hnew.symm
   |slice=>simp only[wR,acP,acy,aaC,aab]at hnew;exact hnew.symm
   |sliceOut=>simp only[wR,acP,acy,aaC,aab]at hnew;exact hnew.symm
   |string=>simp only[wR,aab]at hnew;rw[<- hnew];simp
   |_=>cases hm
  subst hnil;cases vnew.uW;simp only[lO,aaz,acy,aaC,aab]at hsp;subst hsp;refine⟨goInt (Nat.min m 0),w,?_,.refl hr,.int _ _⟩;simp only[Builtin.copy_,hts];simp only[ab4,aak,aap,aan,zv hu,aah,hlen,sz2,hnew',aaw,storeCells]
def CS(P:Program)(t:TypeId)(x:aaa)(h:za):Option za:=none
theorem Hf{ρ:xt}{t r:TypeId}{x x':aaa}{h h':za}{w:World}(he:CS P t x h=some h')(hr:Rel P ρ h w)(hx:zS ρ x x') :
  ∃w',(Builtin.clear_ #[t] r #[x']).run P w=.ok undef w'/\Step P ρ h w ρ h' w':=by
 unfold CS at he;cases he
def bytesOf:List aaa->ByteArray->Option ByteArray
 |[],s=>some s
 | .int .u8 n::l,s=>bytesOf l (s.push (UInt8.ofNat n.toNat))
 |_::_,_=>none
def zf9(h:za)(x:aaa):Option aaa :=
 match x with
 | .slice none _ _=>some (.string .empty)
 | .slice (some ⟨b,off,none⟩) n _=>cond (Nat.beq n 0) (some (.string .empty)) (match h.get b with
   |some (.cells c _)=>cond (Nat.ble (off+n) c.length) ((bytesOf ((c.drop off).take n) .empty).map .string) none
   |_=>none)
 |_=>none
theorem AE{ρ:xt}:∀(l l':List aaa) (s r:ByteArray),bytesOf l s=some r->xV ρ l l'->∀w:World,
  (forIn l' s λc s=>(match c with
   | .int .u8 n=>pure (ForInStep.yield (s.push (UInt8.ofNat n.toNat)))
   |_=>(do stuck "bytesToString: byte expected";pure (ForInStep.yield s)):Sem (ForInStep ByteArray))).run P w=.ok r w
 |[],l',s,r,h,hv,w=>by
  cases hv.uW;simp only[bytesOf,aab]at h;subst h;rfl
 |x::l,l',s,r,h,hv,w=>by
  obtain⟨y,ys,rfl,h1,h2⟩:=hv.cons_inv;unfold bytesOf at h;split at h
  ·rename_i e;cases e
  ·rename_i e;simp only[abE]at e;obtain⟨rfl,rfl⟩:=e;cases h1;rw[List.forIn_cons];simp only[aan,aaw,aah];exact AE _ _ _ _ h h2 w
  ·cases h
theorem Og{ρ:xt}{h:za}{w:World}{x x' v:aaa}(he:zf9 h x=some v)(hr:Rel P ρ h w)(hx:zS ρ x x'):(Conv.bytesToString x').run P w=.ok v w/\zS ρ v v:=by
 unfold zf9 at he;split at he
 ·simp only[aab]at he;subst he;cases hx;exact⟨rfl,.string _⟩
 ·rename_i b off n c;cases hz:Nat.beq n 0 with
  |true=>
   rw[hz]at he;obtain rfl:=aav hz;simp only[aaC,aab]at he;subst he;refine⟨?_,.string _⟩;cases hx <;> (simp only[Conv.bytesToString,loadCells,loadCellsFrom,aan,aaw,aah];rw[<- Array.forIn_toList];rfl)
  |false=>
   rw[hz]at he;simp only[aaK]at he;split at he
   case h_2=>cases he
   rename_i cs t hg;cases hle:Nat.ble (off+n) cs.length with
   |false=>rw[hle]at he;cases he
   |true=>
    rw[hle]at he;simp only[aaC,aat]at he;obtain⟨r,hb,rfl⟩:=he;refine⟨?_,.string _⟩;cases hx with
    |slice hb' hm hl hc=>
     obtain⟨ys,hys,hv⟩:=Zr (hr.place hg hm) off n (aaL hle);simp only[Conv.bytesToString,aan,hys,aah];rw[<- Array.forIn_toList];have:=AE (P:=P) _ _ _ _ hb hv w;rw[show ys.toArray.toList=ys from rfl];exact(congrArg (λq:Result ByteArray=>q.andThen λa w'=>Sem.run P (pure (Value.string a)) w') this)
    |sliceOut=>simp at hz
 ·cases he
end
end Go.Ai
