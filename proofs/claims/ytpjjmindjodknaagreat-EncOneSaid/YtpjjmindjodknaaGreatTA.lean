import Derived.Calls
import Derived.Below
import Derived.Laws.Sem
import Derived.Laws.Cells
import Derived.Laws.Entries
import GoSem.Builtin.Delete
set_option linter.unusedVariables false
set_option linter.unusedSimpArgs false
set_option maxRecDepth 100000
namespace Go
abbrev pi(b:Nat):Value:=.pointer (some ⟨b,0,none⟩)
abbrev pm(z:Int):Value:=.int .i64 z
abbrev pp:Value:=.slice none 0 0
abbrev aaa:=Value
theorem aab:type_of% @Option.some.injEq:=@Option.some.injEq
theorem aac:type_of% @Go.Result.andThen_ok:=@Go.Result.andThen_ok
theorem aad:type_of% @Bool.and_eq_true:=@Bool.and_eq_true
theorem aae:type_of% @Prod.mk.injEq:=@Prod.mk.injEq
theorem aaf:type_of% @if_neg:=@if_neg
theorem aag:type_of% @List.getElem?_eq_getElem:=@List.getElem?_eq_getElem
theorem aah:type_of% @Go.Sem.run_bind:=@Go.Sem.run_bind
theorem aai:type_of% @if_pos:=@if_pos
theorem aaj:type_of% @Nat.le_refl:=@Nat.le_refl
theorem aak:type_of% @List.mem_cons_self:=@List.mem_cons_self
theorem aal:type_of% @Nat.eq_of_beq_eq_true:=@Nat.eq_of_beq_eq_true
theorem aam:type_of% @Go.Sem.run_pure:=@Go.Sem.run_pure
theorem aan:type_of% @decide_eq_false_iff_not:=@decide_eq_false_iff_not
theorem aao:type_of% @List.length_append:=@List.length_append
theorem aap:type_of% @Nat.lt_of_lt_of_le:=@Nat.lt_of_lt_of_le
theorem aaq:type_of% @Bool.not_eq_true':=@Bool.not_eq_true'
theorem aar:type_of% @List.mem_singleton:=@List.mem_singleton
theorem aas:type_of% @Option.map_eq_some_iff:=@Option.map_eq_some_iff
theorem aat:type_of% @List.getElem?_eq_none:=@List.getElem?_eq_none
theorem aau:type_of% @List.length_map:=@List.length_map
theorem aav:type_of% @cond_true:=@cond_true
theorem aaw:type_of% @cond_false:=@cond_false
theorem aax:type_of% @Array.getD_eq_getD_getElem?:=@Array.getD_eq_getD_getElem?
theorem aay:type_of% @beq_self_eq_true:=@beq_self_eq_true
theorem aaz:type_of% @List.mem_of_getElem?:=@List.mem_of_getElem?
theorem aaA:type_of% @List.getElem?_cons_zero:=@List.getElem?_cons_zero
theorem aaB:type_of% @List.all_eq_true:=@List.all_eq_true
theorem aaC:type_of% @List.mem_cons_of_mem:=@List.mem_cons_of_mem
theorem aaD:type_of% @List.contains_eq_mem:=@List.contains_eq_mem
theorem aaE:type_of% @Nat.le_of_ble_eq_true:=@Nat.le_of_ble_eq_true
theorem aaF:type_of% @decide_eq_true_eq:=@decide_eq_true_eq
theorem aaG:type_of% @List.mem_append:=@List.mem_append
theorem aaH:type_of% @List.getElem?_map:=@List.getElem?_map
theorem aaI:type_of% @Array.getElem?_eq_none:=@Array.getElem?_eq_none
theorem aaJ:type_of% @Nat.lt_succ_self:=@Nat.lt_succ_self
theorem aaK:type_of% @List.mem_append_left:=@List.mem_append_left
theorem aaL:type_of% @Array.getElem?_eq_getElem:=@Array.getElem?_eq_getElem
theorem aaM:type_of% @List.length_take:=@List.length_take
theorem aaN:type_of% @Nat.lt_or_ge:=@Nat.lt_or_ge
theorem aaO:type_of% @Nat.blt_eq:=@Nat.blt_eq
theorem aaP:type_of% @Nat.zero_le:=@Nat.zero_le
theorem aaQ:type_of% @List.filter_append:=@List.filter_append
theorem aaR:type_of% @List.getElem?_drop:=@List.getElem?_drop
theorem aaS:type_of% @List.mem_cons:=@List.mem_cons
theorem aaT:type_of% @List.append_of_mem:=@List.append_of_mem
theorem aaU:type_of% @List.getElem?_cons_succ:=@List.getElem?_cons_succ
theorem aaV:type_of% @List.getElem?_take_of_lt:=@List.getElem?_take_of_lt
theorem aaW:type_of% @Nat.le_trans:=@Nat.le_trans
theorem aaX:type_of% @Bool.or_eq_true:=@Bool.or_eq_true
theorem aaY:type_of% @decide_eq_false:=@decide_eq_false
theorem aaZ:type_of% @List.getElem?_eq_some_iff:=@List.getElem?_eq_some_iff
theorem aa0:type_of% @decide_eq_true:=@decide_eq_true
theorem aa1:type_of% @List.append_assoc:=@List.append_assoc
theorem aa2:type_of% @Array.getElem?_setIfInBounds:=@Array.getElem?_setIfInBounds
theorem aa3:type_of% @List.length_cons:=@List.length_cons
theorem aa4:type_of% @List.mem_map:=@List.mem_map
theorem aa5:type_of% @List.mem_append_right:=@List.mem_append_right
theorem aa6:type_of% @Int.toNat_natCast:=@Int.toNat_natCast
theorem aa7:type_of% @List.append_nil:=@List.append_nil
theorem aa8:type_of% @List.getElem?_append_right:=@List.getElem?_append_right
theorem aa9:type_of% @of_decide_eq_true:=@of_decide_eq_true
theorem aba:type_of% @List.getElem?_append_left:=@List.getElem?_append_left
theorem abb:type_of% @Bool.false_eq_true:=@Bool.false_eq_true
theorem abc:type_of% @Bool.or_eq_false_iff:=@Bool.or_eq_false_iff
theorem abd:type_of% @List.take_add_one:=@List.take_add_one
theorem abe:type_of% @List.getD_eq_getElem?_getD:=@List.getD_eq_getElem?_getD
theorem abf:type_of% @List.mem_range:=@List.mem_range
theorem abg:type_of% @Option.bind_some:=@Option.bind_some
theorem abh:type_of% @Array.length_toList:=@Array.length_toList
theorem abj:type_of% @List.length_drop:=@List.length_drop
theorem abk:type_of% @List.length_nil:=@List.length_nil
theorem abl:type_of% @Option.some.inj:=@Option.some.inj
theorem abm:type_of% @List.length_eq_zero_iff:=@List.length_eq_zero_iff
theorem abn:type_of% @List.take_append_drop:=@List.take_append_drop
theorem abo:type_of% @List.map_append:=@List.map_append
theorem abp:type_of% @List.mem_of_mem_take:=@List.mem_of_mem_take
theorem abq:type_of% @List.map_cons:=@List.map_cons
theorem abr:type_of% @List.cons.injEq:=@List.cons.injEq
theorem abt:type_of% @Nat.zero_add:=@Nat.zero_add
theorem abu:type_of% @Bool.true_and:=@Bool.true_and
theorem abv:type_of% @List.take_length:=@List.take_length
theorem abw:type_of% @Option.map_some:=@Option.map_some
theorem abx:type_of% @List.getElem?_toArray:=@List.getElem?_toArray
theorem aby:type_of% @List.eq_nil_of_length_eq_zero:=@List.eq_nil_of_length_eq_zero
theorem abz:type_of% @Nat.le_succ:=@Nat.le_succ
theorem abA:type_of% @List.nil_append:=@List.nil_append
theorem abB:type_of% @Array.mem_of_getElem?:=@Array.mem_of_getElem?
theorem abC:type_of% @Nat.le_succ_of_le:=@Nat.le_succ_of_le
theorem abD:type_of% @List.filter_congr:=@List.filter_congr
theorem abE:type_of% @List.mem_of_mem_drop:=@List.mem_of_mem_drop
theorem abF:type_of% @Array.eq_empty_of_size_eq_zero:=@Array.eq_empty_of_size_eq_zero
theorem abG:type_of% @List.range_succ:=@List.range_succ
theorem abH:type_of% @List.drop_eq_getElem_cons:=@List.drop_eq_getElem_cons
theorem abI:type_of% @Nat.add_assoc:=@Nat.add_assoc
theorem abJ:type_of% @List.not_mem_nil:=@List.not_mem_nil
theorem abK:type_of% @Nat.lt_succ_of_lt:=@Nat.lt_succ_of_lt
theorem abL:type_of% @List.ext_getElem?:=@List.ext_getElem?
theorem abM:type_of% @if_true:=@if_true
theorem abN:type_of% @Nat.mul_le_mul_right:=@Nat.mul_le_mul_right
theorem abO:type_of% @Array.toArray_toList:=@Array.toArray_toList
theorem abP:type_of% @List.filter_cons:=@List.filter_cons
theorem abQ:type_of% @List.take_of_length_le:=@List.take_of_length_le
theorem abR:type_of% @Nat.mul_one:=@Nat.mul_one
theorem abS:type_of% @if_false:=@if_false
theorem abT:type_of% @List.drop_zero:=@List.drop_zero
theorem abU:type_of% @List.mem_filter:=@List.mem_filter
theorem abV:type_of% @Nat.min_eq_left:=@Nat.min_eq_left
theorem abW:type_of% @Array.getElem?_replicate:=@Array.getElem?_replicate
theorem abX:type_of% @List.filter_filter:=@List.filter_filter
theorem abY:type_of% @Nat.ble_eq:=@Nat.ble_eq
theorem abZ:type_of% @Option.getD_some:=@Option.getD_some
theorem ab0:type_of% @Nat.le_of_not_lt:=@Nat.le_of_not_lt
theorem ab1:type_of% @Go.Steps.trans:=@Go.Steps.trans
theorem ab2:type_of% @Array.ext':=@Array.ext'
theorem ab3:type_of% @Bool.not_eq_true:=@Bool.not_eq_true
theorem ab4:type_of% @Nat.beq_refl:=@Nat.beq_refl
theorem ab5:type_of% @ne_eq:=@ne_eq
theorem ab6:type_of% @Bool.false_ne_true:=@Bool.false_ne_true
theorem ab7:type_of% @Bool.not_false:=@Bool.not_false
theorem ab8:type_of% @Go.Value.slice.injEq:=@Go.Value.slice.injEq
theorem ab9:type_of% @List.getElem?_of_mem:=@List.getElem?_of_mem
theorem aca:type_of% @Bool.eq_iff_iff:=@Bool.eq_iff_iff
theorem acb:type_of% @List.mem_map_of_mem:=@List.mem_map_of_mem
theorem acd:type_of% @Int.toNat_of_nonneg:=@Int.toNat_of_nonneg
theorem ace:type_of% @Go.Addr.mk.injEq:=@Go.Addr.mk.injEq
theorem acf:type_of% @Go.Checked.mixed:=@Go.Checked.mixed
theorem acg:type_of% @Go.Sem.run_ite:=@Go.Sem.run_ite
theorem ach:type_of% @List.tail_drop:=@List.tail_drop
theorem aci:type_of% @List.filter_eq_nil_iff:=@List.filter_eq_nil_iff
theorem acj:type_of% @List.getElem?_set_self:=@List.getElem?_set_self
theorem ack:type_of% @Nat.eq_zero_or_pos:=@Nat.eq_zero_or_pos
theorem acm:type_of% @List.foldl_cons:=@List.foldl_cons
theorem acn:type_of% @Nat.add_mul:=@Nat.add_mul
theorem aco:type_of% @Nat.beq_eq:=@Nat.beq_eq
theorem acp:type_of% @Bool.and_true:=@Bool.and_true
theorem acq:type_of% @List.all_cons:=@List.all_cons
theorem acr:type_of% @List.flatten_cons:=@List.flatten_cons
theorem acs:type_of% @List.nodup_range:=@List.nodup_range
theorem acu:type_of% @List.cons_append:=@List.cons_append
theorem acv:type_of% @Nat.zero_mul:=@Nat.zero_mul
theorem acw:type_of% @List.map_nil:=@List.map_nil
theorem acx:type_of% @Bool.false_or:=@Bool.false_or
theorem acy:type_of% @Bool.and_self:=@Bool.and_self
theorem acz:type_of% @or_false:=@or_false
end Go
namespace Go.Ai
noncomputable section
inductive Tr (α:Type) where
 |e
 |n (v:Option α) (l r:Tr α)
namespace Tr
variable {α:Type}
def get(t:Tr α)(k:Nat):Option α :=
 @Tr.rec α (λ_=>Nat->Option α) (λ_=>none)
  (λv _ _ gl gr k=>@Bool.rec (λ_=>Option α) (@Bool.rec (λ_=>Option α) (gr (Nat.sub (Nat.div k 2) 1)) (gl (Nat.div k 2)) (Nat.beq (Nat.mod k 2) 1)) v (Nat.beq k 0)) t k
def Ct(f:Nat):Tr α->Nat->Option α->Tr α :=
 @Nat.rec (λ_=>Tr α->Nat->Option α->Tr α) (λt _ _=>t)
  (λ_ ih t k x=>@Tr.rec α (λ_=>Tr α)
   (@Bool.rec (λ_=>Tr α) (@Bool.rec (λ_=>Tr α) (.n none .e (ih .e (Nat.sub (Nat.div k 2) 1) x)) (.n none (ih .e (Nat.div k 2) x) .e) (Nat.beq (Nat.mod k 2) 1)) (.n x .e .e) (Nat.beq k 0))
   (λv l r _ _=>@Bool.rec (λ_=>Tr α) (@Bool.rec (λ_=>Tr α) (.n v l (ih r (Nat.sub (Nat.div k 2) 1) x)) (.n v (ih l (Nat.div k 2) x) r) (Nat.beq (Nat.mod k 2) 1)) (.n x l r) (Nat.beq k 0)) t) f
def set(t:Tr α)(k:Nat)(x:Option α):Tr α:=Ct (Nat.succ k) t k x
@[simp] theorem zc8 (k:Nat):(Tr.e:Tr α).get k=none:=rfl
theorem beq_false{a b:Nat}(h:a≠b):Nat.beq a b=false:=by
 cases e:Nat.beq a b
 ·rfl
 ·exact absurd (aal e) h
theorem beq_true{a b:Nat}(h:a=b):Nat.beq a b=true:=by subst h;exact ab4 a
theorem AW(v:Option α)(l r:Tr α)(k:Nat):(Tr.n v l r).get k=if k=0 then v else if k%2=1 then l.get (k/2) else r.get (k/2-1):=by
 show @Bool.rec (λ_=>Option α) (@Bool.rec (λ_=>Option α) (r.get (k/2-1)) (l.get (k/2)) (Nat.beq (k%2) 1)) v (Nat.beq k 0)=_;by_cases h:k=0
 ·rw[beq_true h,aai h]
 ·rw[beq_false h,aaf h];by_cases h2:k%2=1
  ·rw[beq_true h2,aai h2]
  ·rw[beq_false h2,aaf h2]
theorem zeD(f:Nat)(k:Nat)(x:Option α):Ct (f+1) .e k x=Ct (f+1) (.n none .e .e) k x:=rfl
theorem zeE(f:Nat)(v:Option α)(l r:Tr α)(k:Nat)(x:Option α) :
  Ct (f+1) (.n v l r) k x=if k=0 then .n x l r else if k%2=1 then .n v (Ct f l (k/2) x) r else .n v l (Ct f r (k/2-1) x):=by
 show @Bool.rec (λ_=>Tr α) (@Bool.rec (λ_=>Tr α) (.n v l (Ct f r (k/2-1) x)) (.n v (Ct f l (k/2) x) r) (Nat.beq (k%2) 1)) (.n x l r) (Nat.beq k 0)=_;by_cases h:k=0
 ·rw[beq_true h,aai h]
 ·rw[beq_false h,aaf h];by_cases h2:k%2=1
  ·rw[beq_true h2,aai h2]
  ·rw[beq_false h2,aaf h2]
theorem Tw(f:Nat):∀(t:Tr α) (k j:Nat) (x:Option α),k<f->(Ct f t k x).get j=if j=k then x else t.get j:=by
 induction f with
 |zero=>intro t k j x h;omega
 |succ f ih=>
  have node:∀(v:Option α) (l r:Tr α) (k j:Nat) (x:Option α),k<f+1->(Ct (f+1) (.n v l r) k x).get j=if j=k then x else (Tr.n v l r).get j:=by
   intro v l r k j x h;rw[zeE];by_cases h0:k=0
   ·subst h0;rw[aai rfl,AW,AW];by_cases hj:j=0
    ·simp[hj]
    ·simp[hj]
   ·rw[aaf h0];by_cases h1:k%2=1
    ·rw[aai h1,AW,AW,ih _ _ _ _ (by omega)];by_cases hj:j=0
     ·subst hj;simp[Ne.symm h0]
     ·rw[aaf hj,aaf hj];by_cases hj2:j%2=1
      ·rw[aai hj2,aai hj2];by_cases e:j=k
       ·subst e;simp
       ·rw[aaf e,aaf (by omega)]
      ·rw[aaf hj2,aaf hj2,aaf (by intro e;subst e;exact hj2 h1)]
    ·rw[aaf h1,AW,AW,ih _ _ _ _ (by omega)];by_cases hj:j=0
     ·subst hj;simp[Ne.symm h0]
     ·rw[aaf hj,aaf hj];by_cases hj2:j%2=1
      ·rw[aai hj2,aai hj2,aaf (by intro e;subst e;exact h1 hj2)]
      ·rw[aaf hj2,aaf hj2];by_cases e:j=k
       ·subst e;simp
       ·rw[aaf e,aaf (by omega)]
  intro t k j x h;cases t with
  |e=>
   rw[zeD,node _ _ _ _ _ _ h];by_cases e:j=k
   ·simp[e]
   ·simp only[aaf e,AW,zc8];split <;> (try split) <;> rfl
  |n v l r=>exact node v l r k j x h
theorem yJ(t:Tr α)(k j:Nat)(x:Option α):(t.set k x).get j=if j=k then x else t.get j :=
 Tw (k+1) t k j x (aaJ k)
def ofList(t:Tr α)(i:Nat):List α->Tr α
 |[]=>t
 |a::l=>ofList (t.set i (some a)) (i+1) l
theorem Mg(l:List α):∀(t:Tr α) (i j:Nat),(ofList t i l).get j=if i<=j/\j<i+l.length then l[j-i]? else t.get j:=by
 induction l with
 |nil=>intro t i j;simp[ofList];omega
 |cons a l ih=>
  intro t i j;rw[ofList,ih,yJ];by_cases h:j=i
  ·subst h;rw[aaf (by omega),aai rfl,aai (by simp),Nat.sub_self];rfl
  ·by_cases h2:i+1<=j/\j<i+1+l.length
   ·rw[aai h2,aai (by simp;omega)];have:j-i=(j-(i+1))+1:=by omega
    rw[this];rfl
   ·rw[aaf h2,aaf h,aaf (by simp;omega)]
end Tr
structure Env where
 t:Tr Value
 size:Nat
def Env.get(s:Env)(i:Nat):Value := @Option.rec Value (λ_=>Value) undef (λv=>v) (s.t.get i)
theorem Env.get_eq(s:Env)(i:Nat):s.get i=(s.t.get i).getD undef:=by
 unfold Env.get;cases s.t.get i <;> rfl
def Env.set(s:Env)(i:Nat)(v:Value):Env := @Env.rec (λ_=>Env) (λt n=>⟨t.set i (some v),n⟩) s
theorem Env.zf6(s:Env)(i:Nat)(v:Value):(s.set i v).t=s.t.set i (some v):=rfl
def Env.put(s:Env)(d:Option Nat)(v:Value):Option Env :=
 match d with
 |none=>some s
 |some d=>cond (Nat.blt d s.size) (some (s.set d v)) none
theorem Env.yJ(s:Env)(i j:Nat)(v:Value):(s.set i v).get j=if j=i then v else s.get j:=by
 simp only[Env.get_eq,Env.zf6,Tr.yJ];split <;> rfl
@[simp] theorem Env.size_set (s:Env) (i:Nat) (v:Value):(s.set i v).size=s.size:=rfl
def OS{α:Type}(n:Nat)(f:Nat->α):α := @Nat.rec (λ_=>α) (f 0) (λm _=>f (Nat.succ m)) n
theorem MQ{α:Type}(n:Nat)(f:Nat->α):OS n f=f n:=by cases n <;> rfl
def Env.enter(args:List Value)(n:Nat):Env:=OS (max args.length n) λk=>{t:=Tr.ofList .e 0 args,size:=k}
theorem Env.H8(args:List Value)(n:Nat):Env.enter args n = {t:=Tr.ofList .e 0 args,size:=max args.length n}:=MQ _ _
theorem Env.PO(args:List Value)(n j:Nat):(Env.enter args n).get j=(args[j]?).getD undef:=by
 simp only[Env.get_eq,Env.H8,Tr.Mg,Tr.zc8];by_cases h:j<args.length
 ·rw[aai (by omega)];rfl
 ·rw[aaf (by omega),aat (by omega)]
structure dU where
 state:LoopState
 pending:Option Code
 s:Env
 params:Array Tmp
 assign:Code
 body:Code
inductive vr where
 |cells (c:List Value) (elem:TypeId)
 |map (es:List (Value×Value×Nat)) (clock:Nat)
 |iter (m:Option Nat) (since:Nat) (seen:List Nat) (last:Nat)
 |siter (s:ByteArray) (pos:Nat)
 |tab (c:List Value)
 |loop (l:dU)
structure za where
 t:Tr vr
 next:Nat
 ro:Nat
def za.get(h:za)(b:Nat):Option vr:=h.t.get b
def za.set(h:za)(b:Nat)(o:Option vr):za := @za.rec (λ_=>za) (λt n r=>⟨t.set b o,n,r⟩) h
def za.push(h:za)(o:vr):za := @za.rec (λ_=>za) (λt n r=>⟨t.set n (some o),Nat.succ n,r⟩) h
theorem za.yJ(h:za)(b c:Nat)(o:Option vr):(h.set b o).get c=if c=b then o else h.get c:=Tr.yJ _ _ _ _
theorem za.vY(h:za)(c:Nat)(o:vr):(h.push o).get c=if c=h.next then some o else h.get c:=Tr.yJ _ _ _ _
@[simp] theorem za.zfW (h:za) (b:Nat) (o:Option vr):(h.set b o).next=h.next:=rfl
@[simp] theorem za.zgQ (h:za) (b:Nat) (o:Option vr):(h.set b o).ro=h.ro:=rfl
@[simp] theorem za.dC (h:za) (o:vr):(h.push o).next=h.next+1:=rfl
@[simp] theorem za.zgg (h:za) (o:vr):(h.push o).ro=h.ro:=rfl
def za.lock(h:za):za := @za.rec (λ_=>za) (λt n _=>⟨t,n,n⟩) h
structure Place where
 c:Nat
 base:Nat
 size:Nat
 Oa:Nat
structure xL where
 next:Nat
 m:Nat->Option Place
def zeT(pl:Place)(off cap:Nat)(c:Nat):Prop:=c≠0->off+cap*pl.Oa<=pl.size /\ ∀k,c=k+2->cap=k
def bot:Value := .complex .f32 0 0
def BA:Value->Bool
 | .bool _ | .agg _ | .tuple _=>false
 |_=>true
inductive zO (ρ:xL):Value->Value->Prop
 |BA {v:Value} (h:BA v=true):zO ρ bot v
 |bool (b:Bool):zO ρ (.bool b) (.bool b)
 |int (k:IntKind) (n:Int):zO ρ (.int k n) (.int k n)
 |float (k:FloatKind) (n:Nat):zO ρ (.float k n) (.float k n)
 |string (s:ByteArray):zO ρ (.string s) (.string s)
 |ptrNil:zO ρ (.pointer none) (.pointer none)
 |ptr {b off:Nat} {pl:Place} (hb:b<ρ.next) (hm:ρ.m b=some pl):zO ρ (.pointer (some ⟨b,off,none⟩)) (.pointer (some ⟨pl.c,pl.base+off,none⟩))
 |X3 {g off:Nat}:zO ρ (.pointer (some ⟨g,off,some 0⟩)) (.pointer (some ⟨g,off,none⟩))
 |sliceNil (c:Nat):zO ρ (.slice none 0 c) (.slice none 0 0)
 |slice {b off len c cap:Nat} {pl:Place} (hb:b<ρ.next) (hm:ρ.m b=some pl) (hl:len<=cap) (hc:zeT pl (pl.base+off) cap c) :
   zO ρ (.slice (some ⟨b,off,none⟩) len c) (.slice (some ⟨pl.c,pl.base+off,none⟩) len cap)
 |sliceOut {b off c:Nat} {a:Addr} (hb:b<ρ.next) (hc:c<=2):zO ρ (.slice (some ⟨b,off,none⟩) 0 c) (.slice (some a) 0 0)
 |nilFunc:zO ρ .nilFunc .nilFunc
 |nilIface:zO ρ .nilIface .nilIface
 |mapNil:zO ρ (.map none) (.map none)
 |map {b:Nat} {pl:Place} (hb:b<ρ.next) (hm:ρ.m b=some pl):zO ρ (.map (some b)) (.map (some pl.c))
 |yield {b:Nat} {pl:Place} (hb:b<ρ.next) (hm:ρ.m b=some pl):zO ρ (.func (.yield b) #[] #[]) (.func (.yield pl.c) #[] #[])
 |iface {t:TypeId} {x y:Value} (h:zO ρ x y):zO ρ (.iface t x) (.iface t y)
 |func {f:FuncId} {a c a' c':Array Value} (ha:a.size=a'.size) (hc:c.size=c'.size)
   (h:∀(i:Nat) x y,a[i]? = some x->a'[i]? = some y->zO ρ x y) (h':∀(i:Nat) x y,c[i]? = some x->c'[i]? = some y->zO ρ x y):zO ρ (.func (.func f) a c) (.func (.func f) a' c')
 |agg {a a':Array Value} (ha:a.size=a'.size) (h:∀(i:Nat) x y,a[i]? = some x->a'[i]? = some y->zO ρ x y):zO ρ (.agg a) (.agg a')
 |tuple {a a':Array Value} (ha:a.size=a'.size) (h:∀(i:Nat) x y,a[i]? = some x->a'[i]? = some y->zO ρ x y):zO ρ (.tuple a) (.tuple a')
def xL.le(ρ ρ':xL):Prop:=ρ.next<=ρ'.next /\ ∀b,b<ρ.next->ρ'.m b=ρ.m b
theorem xL.le_refl(ρ:xL):ρ.le ρ:=⟨aaj _,λ_ _=>rfl⟩
theorem xL.le_trans{a b c:xL}(h:a.le b)(k:b.le c):a.le c:=⟨aaW h.1 k.1,λx hx=>(k.2 x (aap hx h.1)).trans (h.2 x hx)⟩
theorem zO.mono{ρ ρ':xL}(hle:ρ.le ρ'){v v':Value}(h:zO ρ v v'):zO ρ' v v':=by
 induction h with
 |BA h=>exact .BA h
 |bool b=>exact .bool b
 |int k n=>exact .int k n
 |float k n=>exact .float k n
 |string s=>exact .string s
 |ptrNil=>exact .ptrNil
 |ptr hb hm=>exact .ptr (aap hb hle.1) ((hle.2 _ hb).trans hm)
 |X3=>exact .X3
 |sliceNil c=>exact .sliceNil c
 |slice hb hm hl hc=>exact .slice (aap hb hle.1) ((hle.2 _ hb).trans hm) hl hc
 |sliceOut hb hc=>exact .sliceOut (aap hb hle.1) hc
 |nilFunc=>exact .nilFunc
 |nilIface=>exact .nilIface
 |mapNil=>exact .mapNil
 |map hb hm=>exact .map (aap hb hle.1) ((hle.2 _ hb).trans hm)
 |yield hb hm=>exact .yield (aap hb hle.1) ((hle.2 _ hb).trans hm)
 |iface _ ih=>exact .iface ih
 |func ha hc _ _ ih ih'=>exact .func ha hc ih ih'
 |agg ha _ ih=>exact .agg ha ih
 |tuple ha _ ih=>exact .tuple ha ih
def w9(ρ:xL)(xs ys:List Value):Prop:=xs.length=ys.length /\ ∀(i:Nat) x y,xs[i]? = some x->ys[i]? = some y->zO ρ x y
theorem w9.nil(ρ:xL):w9 ρ [] []:=⟨rfl,λi x y h=>by simp at h⟩
theorem w9.cons{ρ:xL}{x y:Value}{xs ys:List Value}(h:zO ρ x y)(hs:w9 ρ xs ys):w9 ρ (x::xs) (y::ys) :=
 ⟨by simp[hs.1],λi a b ha hb=>by
  cases i with
  |zero=>simp at ha hb;subst ha hb;exact h
  |succ i=>exact hs.2 i a b (by simpa using ha) (by simpa using hb)⟩
theorem w9.cons_inv{ρ:xL}{x:Value}{xs ys:List Value}(h:w9 ρ (x::xs) ys):∃y ys',ys=y::ys'/\zO ρ x y/\w9 ρ xs ys':=by
 cases ys with
 |nil=>simp[w9]at h
 |cons y ys=>exact⟨y,ys,rfl,h.2 0 x y rfl rfl,by simpa using h.1,λi a b ha hb=>h.2 (i+1) a b (by simpa using ha) (by simpa using hb)⟩
theorem w9.qj{ρ:xL}{ys:List Value}(h:w9 ρ [] ys):ys=[]:=by
 have:=h.1;simp at this;exact aby this.symm
theorem w9.append{ρ:xL}{a b c d:List Value}(h:w9 ρ a b)(k:w9 ρ c d):w9 ρ (a++c) (b++d):=by
 refine⟨by simp[h.1,k.1],λi x y hx hy=>?_⟩;by_cases hi:i<a.length
 ·rw[aba hi]at hx;rw[aba (by rw[<- h.1];exact hi)]at hy;exact h.2 i x y hx hy
 ·rw[aa8 (by omega)]at hx;rw[aa8 (by rw[<- h.1];omega),<- h.1]at hy;exact k.2 _ x y hx hy
theorem w9.get{ρ:xL}{xs ys:List Value}(h:w9 ρ xs ys){i:Nat}{x:Value}(hx:xs[i]? = some x):∃y,ys[i]? = some y/\zO ρ x y:=by
 have hi:i<xs.length:=by
  rcases aaN i xs.length with h|h
  ·exact h
  ·rw[aat h]at hx;cases hx
 have hj:i<ys.length:=h.1 ▸ hi;exact⟨ys[i],aag hj,h.2 i x _ hx (aag hj)⟩
def plain:Value->Bool
 | .bool _ | .int _ _ | .float _ _ | .string _ | .pointer none | .nilFunc | .nilIface | .map none=>true
 | .slice none n c=>Nat.beq n 0&&Nat.beq c 0
 | .func (.func _) a c=>Nat.beq a.size 0&&Nat.beq c.size 0
 | .tuple a=>Nat.beq a.size 0
 |_=>false
theorem Qz{a:Array Value}(h:Nat.beq a.size 0=true):a = #[]:=abF (aal h)
theorem zO.Yu(ρ:xL){v:Value}(h:plain v=true):zO ρ v v:=by
 cases v with
 |bool b=>exact .bool _
 |int k n=>exact .int _ _
 |float k n=>exact .float _ _
 |string s=>exact .string _
 |nilFunc=>exact .nilFunc
 |nilIface=>exact .nilIface
 |pointer a=>cases a <;> first|exact .ptrNil|cases h
 |map a=>cases a <;> first|exact .mapNil|cases h
 |slice a n c=>
  cases a with
  |some a=>cases h
  |none=>
   simp only[plain,aad]at h;obtain rfl:=aal h.1;obtain rfl:=aal h.2;exact .sliceNil _
 |func f a c=>
  cases f with
  |func f=>
   simp only[plain,aad]at h;obtain rfl:=Qz h.1;obtain rfl:=Qz h.2;exact .func rfl rfl (λi x y hx=>by simp at hx) (λi x y hx=>by simp at hx)
  |_=>cases h
 |tuple a=>
  obtain rfl:=Qz h;exact .tuple rfl (λi x y hx=>by simp at hx)
 |_=>cases h
def wG:Value->Bool
 | .agg _ | .tuple _=>false
 |_=>true
theorem Az{ρ:xL}{v v':Value}(h:zO ρ v v'):wG v'=wG v:=by
 cases h with
 |BA h=>cases v' <;> first|rfl|cases h
 |_=>rfl
def wa(P:Program)(ρ:xL)(wr:Bool)(c:List Value)(elem:TypeId)(pl:Place)(w:World):Prop :=
 ∃cs fz,w.heap[pl.c]? = some (.cells cs elem fz)/\cs.size=pl.size/\(pl.Oa=P.cellsOf elem/\pl.base%pl.Oa=0)/\pl.base+c.length<=cs.size /\
  (wr=true->∀i,i<pl.size->¬(fz.1<=i/\i<fz.2)) /\ ∀i x,c[i]? = some x->∃y,cs[pl.base+i]? = some y/\zO ρ x y
structure uf (ρ:xL) (s:Env) (tm:Array Value):Prop where
 size:s.size=tm.size
 get:∀i,zO ρ (s.get i) (tm.getD i undef)
theorem uf.mono{ρ ρ':xL}(hle:ρ.le ρ'){s:Env}{tm:Array Value}(h:uf ρ s tm):uf ρ' s tm:=⟨h.size,λi=>(h.get i).mono hle⟩
def zeV(ρ:xL)(es:List (Value×Value×Nat))(clock:Nat)(pl:Place)(w:World):Prop :=
 ∃ms,w.heap[pl.c]? = some (.map ms clock)/\ms.size=es.length /\ ∀(i:Nat) x m,es[i]? = some x->ms[i]? = some m->zO ρ x.1 m.key/\zO ρ x.2.1 m.val/\m.born=x.2.2
def zdj(ρ:xL)(m:Option Nat)(since:Nat)(seen:List Nat)(last:Nat)(pl:Place)(w:World):Prop :=
 ∃m',w.heap[pl.c]? = some (.mapIter m' since seen.toArray last)/\pl.base=0/\zO ρ (.map m) (.map m')
def zdk(ρ:xL)(l:dU)(pl:Place)(w:World):Prop :=
 ∃tm d fn,w.heap[pl.c]? = some (.loop {state:=l.state,pending:=l.pending,fn:=fn,tmps:=tm,params:=l.params,assign:=l.assign,body:=l.body,defers:=d})/\uf ρ l.s tm
def uu(P:Program)(ρ:xL)(wr:Bool)(o:vr)(pl:Place)(w:World):Prop :=
 match o with
 | .cells c t=>wa P ρ wr c t pl w
 | .map es q=>zeV ρ es q pl w
 | .iter m since seen last=>zdj ρ m since seen last pl w
 | .siter s pos=>w.heap[pl.c]? = some (.stringIter s pos)/\pl.base=0
 | .tab c=>∃t,wa P ρ false c t {pl with Oa:=P.cellsOf t} w
 | .loop l=>zdk ρ l pl w
structure Rel (P:Program) (ρ:xL) (h:za) (w:World):Prop where
 next:ρ.next=h.next
 ro:h.ro<=h.next
 ar:∀b o,h.get b=some o->b<h.next
 ok:∀b o,h.get b=some o->∃pl,ρ.m b=some pl/\uu P ρ (decide (h.ro<=b)) o pl w
 inj:∀b1 b2 o1 o2 p1 p2,h.get b1=some o1->h.get b2=some o2->ρ.m b1=some p1->ρ.m b2=some p2->p1.c=p2.c->b1=b2
 pf:P.globals.size<=h.ro
 X3:∀b pl,b<P.globals.size->ρ.m b=some pl->pl.c=b/\pl.base=0
def rj(ρ:xL)(h:za)(c:Nat):Prop := ∃b o pl,h.get b=some o/\h.ro<=b/\ρ.m b=some pl/\pl.c=c
structure Step (P:Program) (ρ:xL) (h:za) (w:World) (ρ':xL) (h':za) (w':World):Prop where
 le:ρ.le ρ'
 rel:Rel P ρ' h' w'
 ro:h'.ro=h.ro
 os:w'.os=w.os
 tape:w'.tape=w.tape
 output:w'.output=w.output
 size:w.heap.size<=w'.heap.size
 frame:∀c,c<w.heap.size->¬rj ρ h c->w'.heap[c]? = w.heap[c]?
 pX:∀c,c<w.heap.size->rj ρ' h' c->rj ρ h c
theorem Step.refl{P:Program}{ρ:xL}{h:za}{w:World}(hr:Rel P ρ h w):Step P ρ h w ρ h w :=
 ⟨xL.le_refl _,hr,rfl,rfl,rfl,rfl,aaj _,λ_ _ _=>rfl,λ_ _ h=>h⟩
theorem Step.trans{P:Program}{ρ ρ' ρ'':xL}{h h' h'':za}{w w' w'':World}(a:Step P ρ h w ρ' h' w')(b:Step P ρ' h' w' ρ'' h'' w'') :
  Step P ρ h w ρ'' h'' w'' :=
 ⟨xL.le_trans a.le b.le,b.rel,b.ro.trans a.ro,b.os.trans a.os,b.tape.trans a.tape,b.output.trans a.output,aaW a.size b.size,
  λc hc hn=>(b.frame c (aap hc a.size) (λhm=>hn (a.pX c hc hm))).trans (a.frame c hc hn),
  λc hc hm=>a.pX c hc (b.pX c (aap hc a.size) hm)⟩
def qY(tm:Array Value)(d:Option Nat)(v:Value):Array Value :=
 match d with
 |some d=>tm.setIfInBounds d v
 |none=>tm
theorem uf.put{ρ:xL}{s s':Env}{tm:Array Value}{d:Option Nat}{v v':Value}(h:uf ρ s tm)(hv:zO ρ v v')(hp:s.put d v=some s') :
  uf ρ s' (qY tm d v'):=by
 cases d with
 |none=>simp only[Env.put,aab]at hp;subst hp;exact h
 |some d=>
  simp only[Env.put]at hp;cases hb:Nat.blt d s.size with
  |false=>rw[hb]at hp;cases hp
  |true=>
   rw[hb]at hp;simp only[aav,aab]at hp;subst hp;have hd:d<s.size:=by simpa [aaO] using hb
   refine⟨by simp[qY,h.size],λi=>?_⟩;rw[Env.yJ];simp only[qY];by_cases e:i=d
   ·subst e;rw[aai rfl]
    have:(tm.setIfInBounds i v').getD i undef=v':=by
     simp[aax,<- h.size,hd]
    rw[this];exact hv
   ·rw[aaf e]
    have:(tm.setIfInBounds d v').getD i undef=tm.getD i undef:=by
     simp[aax,Ne.symm e]
    rw[this];exact h.get i
end
end Go.Ai
namespace Go.Ai
noncomputable section
variable {P:Program}
theorem Rel.place{ρ:xL}{h:za}{w:World}(hr:Rel P ρ h w){b:Nat}{c:List aaa}{t:TypeId}{pl:Place}(hg:h.get b=some (.cells c t))(hm:ρ.m b=some pl) :
  wa P ρ (decide (h.ro<=b)) c t pl w:=by
 obtain⟨pl',hm',hc⟩:=hr.ok b _ hg;rw[hm]at hm';cases hm';exact hc
theorem Rel.T4{ρ:xL}{h:za}{w:World}(hr:Rel P ρ h w){b:Nat}{o:vr}{pl:Place}(hg:h.get b=some o)(hm:ρ.m b=some pl):uu P ρ (decide (h.ro<=b)) o pl w:=by
 obtain⟨pl',hm',hc⟩:=hr.ok b _ hg;rw[hm]at hm';cases hm';exact hc
theorem wa.cell{ρ:xL}{wr:Bool}{c:List aaa}{t:TypeId}{pl:Place}{w:World}(hc:wa P ρ wr c t pl w){i:Nat}{x:aaa}(hx:c[i]? = some x) :
  ∃y,w.cell? ⟨pl.c,pl.base+i,none⟩=some y/\zO ρ x y:=by
 obtain⟨cs,fz,hb,_,_,_,_,hv⟩:=hc;obtain⟨y,hy,hxy⟩:=hv i x hx;exact⟨y,by simp[World.cell?,hb,hy],hxy⟩
theorem wa.zaT{ρ:xL}{c:List aaa}{t:TypeId}{pl:Place}{w:World}(hc:wa P ρ true c t pl w){i:Nat}(hi:i<pl.size) :
  w.frozen? ⟨pl.c,i,none⟩=false:=by
 obtain⟨cs,fz,hb,_,_,_,hf,_⟩:=hc;have:=hf rfl i hi;obtain⟨lo,hi'⟩:=fz;simp[World.frozen?,hb]at this ⊢;exact this
theorem wa.other{ρ:xL}{wr:Bool}{c:List aaa}{t:TypeId}{pl:Place}{w w':World}(hc:wa P ρ wr c t pl w)(hb:w'.heap[pl.c]? = w.heap[pl.c]?):wa P ρ wr c t pl w':=by
 obtain⟨cs,fz,h1,h2⟩:=hc;exact⟨cs,fz,hb.trans h1,h2⟩
theorem wa.mono{ρ ρ':xL}(hle:ρ.le ρ'){wr:Bool}{c:List aaa}{t:TypeId}{pl:Place}{w:World}(hc:wa P ρ wr c t pl w):wa P ρ' wr c t pl w:=by
 obtain⟨cs,fz,h1,h2,h3,h4,h5,h6⟩:=hc;exact⟨cs,fz,h1,h2,h3,h4,h5,λi x hx=>by obtain⟨y,hy,hv⟩:=h6 i x hx;exact⟨y,hy,hv.mono hle⟩⟩
theorem wa.lt{ρ:xL}{wr:Bool}{c:List aaa}{t:TypeId}{pl:Place}{w:World}(hc:wa P ρ wr c t pl w):pl.c<w.heap.size:=by
 obtain⟨cs,fz,h1,_⟩:=hc;rcases aaN pl.c w.heap.size with h|h
 ·exact h
 ·rw[aaI h]at h1;cases h1
theorem wa.Rz{ρ:xL}{c:List aaa}{t:TypeId}{pl:Place}{w:World}{wr wr':Bool}(hw:wr'=true->wr=true)(hc:wa P ρ wr c t pl w):wa P ρ wr' c t pl w:=by
 obtain⟨cs,fz,h1,h2,h3,h4,h5,h6⟩:=hc;exact⟨cs,fz,h1,h2,h3,h4,λe=>h5 (hw e),h6⟩
theorem uu.other{ρ:xL}{wr:Bool}{o:vr}{pl:Place}{w w':World}(hc:uu P ρ wr o pl w)(hb:w'.heap[pl.c]? = w.heap[pl.c]?):uu P ρ wr o pl w':=by
 cases o with
 |cells c t=>exact wa.other hc hb
 |map es q=>obtain⟨ms,h1,h2⟩:=hc;exact⟨ms,hb.trans h1,h2⟩
 |iter m a b c=>obtain⟨m',h1,h2⟩:=hc;exact⟨m',hb.trans h1,h2⟩
 |siter s pos=>exact⟨hb.trans hc.1,hc.2⟩
 |tab c=>obtain⟨t,h1⟩:=hc;exact⟨t,wa.other h1 hb⟩
 |loop l=>obtain⟨tm,d,fn,h1,h2⟩:=hc;exact⟨tm,d,fn,hb.trans h1,h2⟩
theorem uu.mono{ρ ρ':xL}(hle:ρ.le ρ'){wr:Bool}{o:vr}{pl:Place}{w:World}(hc:uu P ρ wr o pl w):uu P ρ' wr o pl w:=by
 cases o with
 |cells c t=>exact wa.mono hle hc
 |map es q=>obtain⟨ms,h1,h2,h3⟩:=hc;exact⟨ms,h1,h2,λi x m hx hm=>⟨(h3 i x m hx hm).1.mono hle,(h3 i x m hx hm).2.1.mono hle,(h3 i x m hx hm).2.2⟩⟩
 |iter m a b c=>obtain⟨m',h1,h0,h2⟩:=hc;exact⟨m',h1,h0,h2.mono hle⟩
 |tab c=>obtain⟨t,h1⟩:=hc;exact⟨t,wa.mono hle h1⟩
 |siter s pos=>exact hc
 |loop l=>obtain⟨tm,d,fn,h1,h2⟩:=hc;exact⟨tm,d,fn,h1,h2.mono hle⟩
theorem XY{w:World}{r:Nat}{o:Obj}(h:w.heap[r]? = some o):r<w.heap.size:=by
 rcases aaN r w.heap.size with hl|hl
 ·exact hl
 ·rw[aaI hl]at h;cases h
theorem uu.lt{ρ:xL}{wr:Bool}{o:vr}{pl:Place}{w:World}(hc:uu P ρ wr o pl w):pl.c<w.heap.size:=by
 cases o with
 |cells c t=>exact wa.lt hc
 |map es q=>obtain⟨ms,h1,_⟩:=hc;exact XY h1
 |iter m a b c=>obtain⟨m',h1,_⟩:=hc;exact XY h1
 |siter s pos=>exact XY hc.1
 |tab c=>obtain⟨t,h1⟩:=hc;exact h1.lt
 |loop l=>obtain⟨tm,d,fn,h1,_⟩:=hc;exact XY h1
theorem uu.Rz{ρ:xL}{o:vr}{pl:Place}{w:World}{wr wr':Bool}(hw:wr'=true->wr=true)(hc:uu P ρ wr o pl w):uu P ρ wr' o pl w:=by
 cases o with
 |cells c t=>exact wa.Rz hw hc
 |map es q=>exact hc
 |tab c=>exact hc
 |iter m a b c=>exact hc
 |siter s pos=>exact hc
 |loop l=>exact hc
theorem Rel.drop{ρ:xL}{h:za}{w:World}(hr:Rel P ρ h w)(b:Nat):Rel P ρ (h.set b none) w:=by
 have hsub:∀x o,(h.set b none).get x=some o->h.get x=some o:=by
  intro x o hx;rw[za.yJ]at hx;split at hx
  ·cases hx
  ·exact hx
 exact⟨hr.next,hr.ro,λx o hx=>hr.ar x o (hsub x o hx),λx o hx=>hr.ok x o (hsub x _ hx),
  λb1 b2 o1 o2 p1 p2 h1 h2=>hr.inj b1 b2 o1 o2 p1 p2 (hsub _ _ h1) (hsub _ _ h2),hr.pf,hr.X3⟩
theorem Step.ME{ρ:xL}{h:za}{w w':World}(hr:Rel P ρ h w){b:Nat}{ob ob':vr}{pl:Place}(hg:h.get b=some ob)(hm:ρ.m b=some pl)(hro:h.ro<=b)
  (hok:uu P ρ true ob' pl w') (hos:w'.os=w.os) (htape:w'.tape=w.tape) (hout:w'.output=w.output) (hsz:w'.heap.size=w.heap.size)
  (hfr:∀k,k≠pl.c->w'.heap[k]? = w.heap[k]?):Step P ρ h w ρ (h.set b (some ob')) w':=by
 have hold:∀x o,(h.set b (some ob')).get x=some o->∃o',h.get x=some o':=by
  intro x o hx;rw[za.yJ]at hx;split at hx
  ·rename_i e;subst e;exact⟨_,hg⟩
  ·exact⟨o,hx⟩
 refine⟨xL.le_refl _,⟨hr.next,hr.ro,?_,?_,?_,hr.pf,hr.X3⟩,rfl,hos,htape,hout,by omega,?_,?_⟩
 ·intro x o hx;obtain⟨o',ho'⟩:=hold x o hx;exact hr.ar x o' ho'
 ·intro x ox hx;rw[za.yJ]at hx;split at hx
  ·rename_i e;subst e;cases hx;exact⟨pl,hm,hok.Rz (λ_=>rfl)⟩
  ·rename_i e;obtain⟨p,hp,hc⟩:=hr.ok x ox hx;refine⟨p,hp,hc.other (hfr _ ?_)⟩;intro e2;exact e (hr.inj x b _ _ p pl hx hg hp hm e2)
 ·intro b1 b2 o1 o2 p1 p2 h1 h2;obtain⟨o1',h1'⟩:=hold _ _ h1;obtain⟨o2',h2'⟩:=hold _ _ h2;exact hr.inj b1 b2 o1' o2' p1 p2 h1' h2'
 ·intro k hk hn;refine hfr k ?_;intro e;exact hn ⟨b,_,pl,hg,hro,hm,e.symm⟩
 ·rintro k hk ⟨x,o,p,hx,hrx,hp,hpc⟩;obtain⟨o',ho'⟩:=hold x o hx;exact⟨x,o',p,ho',hrx,hp,hpc⟩
theorem Step.write{ρ:xL}{h:za}{w w':World}(hr:Rel P ρ h w){b:Nat}{c c':List aaa}{t:TypeId}{pl:Place}(hg:h.get b=some (.cells c t))(hm:ρ.m b=some pl)(hro:h.ro<=b)
  (hok:wa P ρ true c' t pl w') (hos:w'.os=w.os) (htape:w'.tape=w.tape) (hout:w'.output=w.output) (hsz:w'.heap.size=w.heap.size)
  (hfr:∀k,k≠pl.c->w'.heap[k]? = w.heap[k]?):Step P ρ h w ρ (h.set b (some (.cells c' t))) w' :=
 Step.ME hr hg hm hro (ob' := .cells c' t) hok hos htape hout hsz hfr
theorem size_setCell(w:World)(a:Addr)(v:aaa):(w.setCell a v).heap.size=w.heap.size:=by simp[World.setCell]
theorem ah(w:World)(a:Addr)(v:aaa)(k:Nat)(h:k≠a.block):(w.setCell a v).heap[k]? = w.heap[k]?:=RowKit.Below.heap_setCell w a v k h
theorem wa.setCell{ρ:xL}{wr:Bool}{c:List aaa}{t:TypeId}{pl:Place}{w:World}(hc:wa P ρ wr c t pl w){i:Nat}{v v':aaa}(hi:i<c.length)(hv:zO ρ v v') :
  wa P ρ wr (c.set i v) t pl (w.setCell ⟨pl.c,pl.base+i,none⟩ v'):=by
 obtain⟨cs,fz,h1,h2,h3,h4,h5,h6⟩:=hc;refine⟨cs.setIfInBounds (pl.base+i) v',fz,?_,by simpa using h2,h3,by simpa using h4,h5,?_⟩
 ·simp[World.setCell,Array.getElem?_modify,h1]
 ·intro j x hx;by_cases e:j=i
  ·subst e;rw[acj hi]at hx;cases hx;exact⟨v',by rw[aa2,aai rfl,aai (by omega)],hv⟩
  ·rw[List.getElem?_set_ne (λh=>e h.symm)]at hx;obtain⟨y,hy,hxy⟩:=h6 j x hx;exact⟨y,by rw[aa2,aaf (by omega)];exact hy,hxy⟩
theorem BO{ρ:xL}{h:za}{w:World}(hr:Rel P ρ h w){b:Nat}{c:List aaa}{t:TypeId}{pl:Place}(hg:h.get b=some (.cells c t))(hm:ρ.m b=some pl)(hro:h.ro<=b)
  {i:Nat} (hi:i<c.length) {v v':aaa} (hv:zO ρ v v') (hcell:wG v=true) :
  (store ⟨pl.c,pl.base+i,none⟩ v').run P w=.ok () (w.setCell ⟨pl.c,pl.base+i,none⟩ v') /\
   Step P ρ h w ρ (h.set b (some (.cells (c.set i v) t))) (w.setCell ⟨pl.c,pl.base+i,none⟩ v'):=by
 have hc:=hr.place hg hm;rw[show decide (h.ro<=b)=true by simpa using hro]at hc;obtain⟨y,hy,_⟩:=hc.cell (i:=i) (aag hi);have hsz:pl.base+i<pl.size:=by obtain⟨cs,fz,_,h2,_,h4,_⟩:=hc;omega
 have hone:v'.oneCell'=true:=by have:=Az hv;rw[hcell]at this;cases v' <;> simp_all [wG,Value.oneCell']
 refine⟨?_,Step.write hr hg hm hro (hc.setCell hi hv) rfl rfl rfl (size_setCell _ _ _) (λk hk=>ah _ _ _ _ hk)⟩;rw[run_store _ _ _ _ _ hone,hy];simp[hc.zaT hsz]
def zp(c:List aaa)(i:Nat):List aaa->List aaa
 |[]=>c
 |v::vs=>zp (c.set i v) (i+1) vs
theorem wh(vs:List aaa):∀(c:List aaa) (i:Nat),(zp c i vs).length=c.length:=by
 induction vs with
 |nil=>intro c i;rfl
 |cons v vs ih=>intro c i;simp[zp,ih]
theorem za.set_set(h:za)(b:Nat)(x y:Option vr)(k:Nat):((h.set b x).set b y).get k=(h.set b y).get k:=by
 simp only[za.yJ];split <;> rfl
structure zeW (h h':za):Prop where
 next:h'.next=h.next
 ro:h'.ro=h.ro
 get:∀b,h'.get b=h.get b
theorem Rel.same{ρ:xL}{h h':za}{w:World}(hr:Rel P ρ h w)(e:zeW h h'):Rel P ρ h' w :=
 ⟨hr.next.trans e.next.symm,by rw[e.ro,e.next];exact hr.ro,λb o hb=>by rw[e.next];exact hr.ar b o ((e.get b) ▸ hb),
  λb o hb=>by rw[e.ro];exact hr.ok b o ((e.get b) ▸ hb),
  λb1 b2 o1 o2 p1 p2 h1 h2=>hr.inj b1 b2 o1 o2 p1 p2 ((e.get b1) ▸ h1) ((e.get b2) ▸ h2),by rw[e.ro];exact hr.pf,hr.X3⟩
theorem Step.same{ρ ρ':xL}{h h' h'':za}{w w':World}(s:Step P ρ h w ρ' h' w')(e:zeW h' h''):Step P ρ h w ρ' h'' w' :=
 ⟨s.le,s.rel.same e,e.ro.trans s.ro,s.os,s.tape,s.output,s.size,s.frame,λc hc hm=>s.pX c hc (by
  obtain⟨b,o,pl,hb,hro,hp⟩:=hm;exact⟨b,o,pl,by rw[<- e.get];exact hb,by rw[<- e.ro];exact hro,hp⟩)⟩
theorem ZH(c o i:Nat):(Addr.mk c o none).add i=⟨c,o+i,none⟩:=by
 unfold Addr.add;split
 ·rename_i h;subst h;rfl
 ·rfl
theorem cr{ρ:xL}{t:TypeId}{pl:Place}{b:Nat}{o:Nat}(hm:ρ.m b=some pl):∀(vs vs':List aaa) (h:za) (w:World) (c:List aaa) (j:Nat),Rel P ρ h w->h.get b=some (.cells c t)->h.ro<=b ->
  o+j+vs.length<=c.length->w9 ρ vs vs'->(∀x∈vs,wG x=true) ->
  ∃w',(storeCells ⟨pl.c,pl.base+o,none⟩ vs' j).run P w=.ok () w'/\Step P ρ h w ρ (h.set b (some (.cells (zp c (o+j) vs) t))) w':=by
 intro vs
 induction vs with
 |nil=>
  intro vs' h w c j hr hg hro hl hv hcell;cases hv.qj;refine⟨w,rfl,(Step.refl hr).same ⟨rfl,rfl,λx=>?_⟩⟩;rw[za.yJ];split
  ·rename_i e;subst e;exact hg.symm
  ·rfl
 |cons v vs ih=>
  intro vs' h w c j hr hg hro hl hv hcell;obtain⟨v',vs'',rfl,hv1,hv2⟩:=hv.cons_inv;simp only[aa3]at hl;obtain⟨e1,s1⟩:=BO hr hg hm hro (i:=o+j) (by omega) hv1 (hcell v (by simp));obtain⟨w',e2,s2⟩:=ih vs'' _ _ (c.set (o+j) v) (j+1) s1.rel (by rw[za.yJ,aai rfl]) hro (by simp;omega) hv2 (λx hx=>hcell x (by simp[hx]));refine⟨w',?_,(s1.trans s2).same ⟨rfl,rfl,λx=>?_⟩⟩
  ·simp only[storeCells,ZH,aah,abI]at e1 ⊢;rw[e1];exact e2
  ·rw[za.set_set];rfl
def xL.ext(ρ:xL)(pl:Place):xL:={next:=ρ.next+1,m:=λb=>if b=ρ.next then some pl else ρ.m b}
theorem xL.mU(ρ:xL)(pl:Place):ρ.le (ρ.ext pl):=⟨abz _,λ_ hb=>aaf (Nat.ne_of_lt hb)⟩
theorem xL.jh(ρ:xL)(pl:Place):(ρ.ext pl).m ρ.next=some pl:=aai rfl
theorem Rel.dE{ρ:xL}{h:za}{w:World}(hr:Rel P ρ h w){ob:vr}{pl:Place}(hc:uu P (ρ.ext pl) true ob pl w)
  (hfresh:∀b o p,h.get b=some o->ρ.m b=some p->p.c≠pl.c):Rel P (ρ.ext pl) (h.push ob) w:=by
 have hle:=ρ.mU pl
 have hcase:∀x o,(h.push ob).get x=some o->(x=h.next/\o=ob)\/(x<h.next/\h.get x=some o):=by
  intro x o hx;rw[za.vY]at hx;split at hx
  ·rename_i e;cases hx;exact .inl ⟨e,rfl⟩
  ·exact .inr ⟨hr.ar x o hx,hx⟩
 have hold:∀x,x<h.next->(ρ.ext pl).m x=ρ.m x:=λx hx=>hle.2 x (by rw[hr.next];exact hx);have hnew:(ρ.ext pl).m h.next=some pl:=by rw[<- hr.next];exact ρ.jh pl
 refine⟨by show ρ.next+1=h.next+1;rw[hr.next],aaW hr.ro (abz _),?_,?_,?_,hr.pf,λb p hb hm=>hr.X3 b p hb (by rw[<- hold b (aap hb (aaW hr.pf hr.ro))];exact hm)⟩
 ·intro x o hx;rcases hcase x o hx with⟨e,_⟩|⟨hlt,_⟩
  ·subst e;exact aaJ _
  ·exact abK hlt
 ·intro x ox hx;rcases hcase x _ hx with⟨e,eo⟩|⟨hlt,hx'⟩
  ·cases eo;subst e;exact⟨pl,hnew,hc.Rz (λ_=>rfl)⟩
  ·obtain⟨p,hp,hcx⟩:=hr.ok x ox hx';exact⟨p,(hold x hlt).trans hp,hcx.mono hle⟩
 ·intro b1 b2 o1 o2 p1 p2 h1 h2 m1 m2 e;rcases hcase b1 o1 h1 with⟨e1,_⟩|⟨l1,g1⟩ <;> rcases hcase b2 o2 h2 with⟨e2,_⟩|⟨l2,g2⟩
  ·omega
  ·subst e1;rw[hnew]at m1;cases m1;rw[hold _ l2]at m2;exact absurd e.symm (hfresh b2 o2 p2 g2 m2)
  ·subst e2;rw[hnew]at m2;cases m2;rw[hold _ l1]at m1;exact absurd e (hfresh b1 o1 p1 g1 m1)
  ·rw[hold _ l1]at m1;rw[hold _ l2]at m2;exact hr.inj b1 b2 o1 o2 p1 p2 g1 g2 m1 m2 e
theorem Rel.push{ρ:xL}{h:za}{w:World}(hr:Rel P ρ h w){c:List aaa}{t:TypeId}{pl:Place}(hc:wa P (ρ.ext pl) true c t pl w)
  (hfresh:∀b o p,h.get b=some o->ρ.m b=some p->p.c≠pl.c):Rel P (ρ.ext pl) (h.push (.cells c t)) w:=hr.dE (ob := .cells c t) hc hfresh
theorem Rel.grow{ρ:xL}{h:za}{w w':World}(hr:Rel P ρ h w)(hold:∀k,k<w.heap.size->w'.heap[k]? = w.heap[k]?):Rel P ρ h w' :=
 ⟨hr.next,hr.ro,hr.ar,λb o hb=>by obtain⟨pl,hp,hc⟩:=hr.ok b o hb;exact⟨pl,hp,hc.other (hold _ hc.lt)⟩,hr.inj,hr.pf,hr.X3⟩
theorem Step.dE{ρ:xL}{h:za}{w w':World}(hr:Rel P ρ h w){ob:vr}{pl:Place}{wo:Obj}(hpl:pl.c=w.heap.size)
  (hnew:w'.heap=w.heap.push wo) (hok:uu P (ρ.ext pl) true ob pl w')
  (hos:w'.os=w.os) (htape:w'.tape=w.tape) (hout:w'.output=w.output) :
  Step P ρ h w (ρ.ext pl) (h.push ob) w':=by
 have hold:∀k,k<w.heap.size->w'.heap[k]? = w.heap[k]?:=by
  intro k hk;rw[hnew,Array.getElem?_push,aaf (by omega)]
 have hle:=ρ.mU pl;have hr':=hr.grow hold;refine⟨hle,hr'.dE hok ?_,rfl,hos,htape,hout,by rw[hnew];simp,λk hk _=>hold k hk,?_⟩
 ·intro b o p hg hm e;obtain⟨p',hp',hcx⟩:=hr.ok b o hg;rw[hm]at hp';cases hp';have:=hcx.lt;omega
 ·rintro k hk ⟨b,o,p,hg,hro,hm,e⟩;rw[za.vY]at hg;split at hg
  ·rename_i eb;subst eb;rw[<- hr.next,xL.jh]at hm;cases hm;omega
  ·have hlt:=hr.ar b o hg;refine⟨b,o,p,hg,hro,?_,e⟩;rw[<- hm];exact(hle.2 b (by rw[hr.next];exact hlt)).symm
theorem Step.push{ρ:xL}{h:za}{w w':World}(hr:Rel P ρ h w){c:List aaa}{t:TypeId}{cs:Array aaa}{fz:Nat×Nat}
  (hnew:w'.heap=w.heap.push (.cells cs t fz)) (hfz:∀i,i<cs.size->¬(fz.1<=i/\i<fz.2)) (hlen:c.length<=cs.size) (hv:∀(i:Nat) x,c[i]? = some x->∃y,cs[i]? = some y/\zO ρ x y)
  (hos:w'.os=w.os) (htape:w'.tape=w.tape) (hout:w'.output=w.output) :
  Step P ρ h w (ρ.ext ⟨w.heap.size,0,cs.size,P.cellsOf t⟩) (h.push (.cells c t)) w':=by
 refine Step.dE hr (ob := .cells c t) rfl hnew ⟨cs,fz,by rw[hnew];simp,rfl,⟨rfl,Nat.zero_mod _⟩,by simpa using hlen,λ_=>hfz,?_⟩ hos htape hout;intro i x hx;obtain⟨y,hy,hxy⟩:=hv i x hx;exact⟨y,by simpa using hy,hxy.mono (ρ.mU _)⟩
theorem gD{ρ:xL}{h:za}{w:World}(hr:Rel P ρ h w){c:List aaa}{t:TypeId}{cs:Array aaa}(hlen:c.length<=cs.size)(hv:∀(i:Nat) x,c[i]? = some x->∃y,cs[i]? = some y/\zO ρ x y) :
  (newRow t cs).run P w=.ok ⟨w.heap.size,0,none⟩ {w with heap:=w.heap.push (.cells cs t)} /\
   Step P ρ h w (ρ.ext ⟨w.heap.size,0,cs.size,P.cellsOf t⟩) (h.push (.cells c t)) {w with heap:=w.heap.push (.cells cs t)} :=
 ⟨rfl,Step.push hr rfl (λi _ hi=>by simp at hi) hlen hv rfl rfl rfl⟩
theorem zO.new{ρ:xL}{h:za}{w:World}(hr:Rel P ρ h w)(pl:Place)(hb:pl.base=0):zO (ρ.ext pl) (.pointer (some ⟨h.next,0,none⟩)) (.pointer (some ⟨pl.c,0,none⟩)):=by
 have:=zO.ptr (ρ:=ρ.ext pl) (b:=h.next) (off:=0) (pl:=pl) (by show h.next<ρ.next+1;rw[hr.next];exact aaJ _) (by rw[<- hr.next];exact ρ.jh pl);rw[hb]at this;exact this
theorem jP{ρ:xL}{wr:Bool}{c:List aaa}{t:TypeId}{pl:Place}{w:World}(hc:wa P ρ wr c t pl w)(o n:Nat)(h:o+n<=c.length) :
  ∃ys:List aaa,(loadCells ⟨pl.c,pl.base+o,none⟩ n).run P w=.ok ys.toArray w/\w9 ρ ((c.drop o).take n) ys:=by
 obtain⟨cs,fz,h1,h2,h3,h4,h5,h6⟩:=hc;refine⟨((cs.toList.drop (pl.base+o)).take n),?_,?_,?_⟩
 ·have hlen:((cs.toList.drop (pl.base+o)).take n).length=n:=by simp;omega
  have:=run_loadCells_list (P:=P) w ⟨pl.c,pl.base+o,none⟩ ((cs.toList.drop (pl.base+o)).take n) (λj v hj=>by
   have hjn:j<n:=by
    rcases aaN j n with h|h
    ·exact h
    ·rw[aat (by omega)]at hj;cases hj
   rw[aaV hjn,aaR]at hj;rw[ZH];simp[World.cell?,h1];simpa using hj)
  rw[hlen]at this;exact this
 ·simp;omega
 ·intro i x y hx hy
  have hi:i<n:=by
   rcases aaN i n with h|h
   ·exact h
   ·rw[aat (by simp;omega)]at hx;cases hx
  rw[aaV hi,aaR]at hx hy;obtain⟨y',hy',hxy⟩:=h6 _ _ hx
  have:y=y':=by
   have e:pl.base+(o+i)=pl.base+o+i:=by omega
   rw[e]at hy';have hy2:cs[pl.base+o+i]? = some y:=by simpa using hy
   rw[hy2]at hy';cases hy';rfl
  rw[this];exact hxy
end
noncomputable section
def z9{α:Type}(P:Program):Sem α->Option α
 | .pure a=>some a
 | .program k=>z9 P (k P)
 |_=>none
theorem zk{α:Type}{P:Program}{s:Sem α}{a:α}(h:z9 P s=some a)(w:World):s.run P w=.ok a w:=by
 induction s with
 |pure b=>simp only[z9,aab]at h;subst h;rfl
 |program k ih=>simp only[z9]at h;exact ih P h
 |_=>cases h
def flat:aaa->Bool
 | .agg a=>a.toList.all plain
 |v=>plain v
theorem IK{ρ:xL}{v v':aaa}(h:zO ρ v v')(hp:plain v=true):v'=v:=by
 cases h with
 |BA h=>cases hp
 |bool|int|float|string|ptrNil|nilFunc|nilIface|mapNil=>rfl
 |ptr|X3|slice|sliceOut|iface|agg|map|yield=>simp[plain]at hp
 |sliceNil c=>simp only[plain,aad]at hp;obtain rfl:=aal hp.2;rfl
 |func ha hc _ _=>
  simp only[plain,aad]at hp;obtain rfl:=Qz hp.1;obtain rfl:=Qz hp.2;rw[abF ha.symm,abF hc.symm]
 |tuple ha _=>
  obtain rfl:=Qz hp;rw[abF ha.symm]
theorem Bl{xs ys:List aaa}(hl:xs.length=ys.length)(h:∀(i:Nat) x y,xs[i]? = some x->ys[i]? = some y->y=x):ys=xs:=by
 apply abL;intro i;rcases aaN i xs.length with hi|hi
 ·rw[aag hi,aag (hl ▸ hi)]
  congr 1
  exact h i _ _ (aag hi) (aag (hl ▸ hi))
 ·rw[aat hi,aat (by omega)]
theorem jj{ρ:xL}{v v':aaa}(h:zO ρ v v')(hp:flat v=true):v'=v:=by
 cases h with
 |agg ha hv=>
  rename_i a a';simp only[flat,aaB]at hp
  congr 1
  apply ab2;refine Bl (by simpa using ha) (λi x y hx hy=>?_);exact IK (hv i x y (by simpa using hx) (by simpa using hy)) (hp x (aaz hx))
 |_=>first|rfl|exact IK (ρ:=ρ) (by constructor <;> assumption) hp
theorem zO.of_flat(ρ:xL){v:aaa}(h:flat v=true):zO ρ v v:=by
 cases v with
 |agg a=>
  simp only[flat,aaB]at h
  exact .agg rfl (λi x y hx hy=>by
   rw[hx]at hy;cases hy;exact .Yu ρ (h x (aaz (by simpa using hx))))
 |_=>exact .Yu ρ h
def jF(s:Env):Operand->Option aaa
 | .tmp t=>some (s.get t)
 | .const v=>cond (flat v) (some v) none
 | .global g=>some (.pointer (some ⟨g,0,some 0⟩))
 | .func f=>some (.func (.func f) #[] #[])
theorem z8{ρ:xL}{s:Env}{a:Act}(hs:uf ρ s a.tmps){x:Operand}{v:aaa}(h:jF s x=some v):zO ρ v (a.eval x):=by
 cases x with
 |tmp t=>simp only[jF,aab]at h;subst h;exact hs.get t
 |const c=>
  simp only[jF]at h;cases hf:flat c with
  |false=>rw[hf]at h;cases h
  |true=>rw[hf]at h;simp only[aav,aab]at h;subst h;exact .of_flat ρ hf
 |global g=>simp only[jF,aab]at h;subst h;exact .X3
 |func f=>simp only[jF,aab]at h;subst h;exact .Yu ρ rfl
def U7(s:Env):List Operand->Option (List aaa)
 |[]=>some []
 |x::xs=>match jF s x with
  |none=>none
  |some v=>match U7 s xs with
   |none=>none
   |some vs=>some (v::vs)
theorem ZB{ρ:xL}{s:Env}{a:Act}(hs:uf ρ s a.tmps):∀{xs:List Operand} {vs:List aaa},U7 s xs=some vs->w9 ρ vs (xs.map a.eval)
 |[],vs,h=>by simp only[U7,aab]at h;subst h;exact .nil ρ
 |x::xs,vs,h=>by
  simp only[U7]at h;split at h
  ·cases h
  ·rename_i v hv;split at h
   ·cases h
   ·rename_i vs' hvs;simp only[aab]at h;subst h;exact .cons (z8 hs hv) (ZB hs hvs)
theorem zO.cells{ρ:xL}{v v':aaa}(h:zO ρ v v'):w9 ρ v.cells.toList v'.cells.toList:=by
 cases h with
 |agg ha hv=>exact⟨by simpa [Value.cells] using ha,λi x y hx hy=>hv i x y (by simpa [Value.cells] using hx) (by simpa [Value.cells] using hy)⟩
 |BA h=>cases v' <;> first|exact .cons (.BA h) (.nil ρ)|cases h
 |_=>exact .cons (by constructor <;> assumption) (.nil ρ)
def apart(P:Program)(t:TypeId)(cs:List aaa)(off:Nat):Option aaa :=
 match z9 P (isAgg t) with
 |none=>none
 |some true=>(match z9 P (sizeOf t) with
  |none=>none
  |some n=>some (.agg ((cs.drop off).take n).toArray))
 |some false=>cs[off]?
theorem HN{P:Program}{ρ:xL}{t:TypeId}{cs:List aaa}{cs':Array aaa}{off:Nat}{v:aaa}(h:apart P t cs off=some v)(hc:w9 ρ cs cs'.toList)(w:World) :
  ∃v',(part t cs' off).run P w=.ok v' w/\zO ρ v v':=by
 simp only[apart]at h;split at h
 ·cases h
 ·rename_i hagg;split at h
  ·cases h
  ·rename_i n hn;simp only[aab]at h;subst h;refine⟨_,by simp only[part,aah,zk hagg,aac,abM,zk hn,aam];rfl,?_⟩;refine .agg ?_ ?_
   ·simp only[List.size_toArray,aaM,abj,Array.size_extract,hc.1,abh];omega
   ·intro i x y hx hy;rw[abx]at hx;rw[Array.getElem?_extract]at hy;split at hy
    ·rename_i hi;rw[aaV (by omega),aaR]at hx;exact hc.2 _ _ _ hx (by simpa using hy)
    ·cases hy
 ·rename_i hagg;obtain⟨y,hy,hxy⟩:=hc.get h;refine⟨y,?_,hxy⟩;have hy':cs'[off]? = some y:=by simpa using hy
  simp only[part,aah,zk hagg,aac,abb,abS,hy',aam]
def zf(P:Program)(t:TypeId)(a:aaa)(h:za):Option aaa :=
 match a with
 | .pointer (some ⟨b,off,none⟩)=>(match h.get b with
   |none=>none
   |some (.cells c _)=>(match z9 P (isAgg t) with
    |none=>none
    |some true=>(match z9 P (sizeOf t) with
     |none=>none
     |some n=>cond (Nat.ble (off+n) c.length) (some (.agg ((c.drop off).take n).toArray)) none)
    |some false=>c[off]?)
   |some _=>none)
 | .pointer (some ⟨b,off,some 0⟩)=>cond (Nat.blt b P.globals.size) (match h.get b with
   |none=>none
   |some (.tab c)=>(match z9 P (isAgg t) with
    |none=>none
    |some true=>(match z9 P (sizeOf t) with
     |none=>none
     |some n=>cond (Nat.ble (off+n) c.length) (some (.agg ((c.drop off).take n).toArray)) none)
    |some false=>c[off]?)
   |some _=>none) none
 |_=>none
theorem oU{P:Program}{ρ:xL}{t:TypeId}{a a':aaa}{h:za}{v:aaa}{w:World}(he:zf P t a h=some v)(hr:Rel P ρ h w)(ha:zO ρ a a') :
  ∃v',(Instr.loadAt t a').run P w=.ok v' w/\zO ρ v v':=by
 unfold zf at he;split at he
 ·rename_i b off;cases ha with
  |ptr hb hm=>
   rename_i pl;split at he
   ·cases he
   ·rename_i c t' hg;have hc:=hr.place hg hm;split at he
    ·cases he
    ·rename_i hagg;split at he
     ·cases he
     ·rename_i n hn;cases hle:Nat.ble (off+n) c.length with
      |false=>rw[hle]at he;cases he
      |true=>
       rw[hle]at he;simp only[aav,aab]at he;subst he;obtain⟨ys,hys,hv⟩:=jP hc off n (aaE hle);refine⟨.agg ys.toArray,?_,.agg (by simpa using hv.1) (λi x y hx hy=>hv.2 i x y (by simpa using hx) (by simpa using hy))⟩;simp only[Instr.loadAt,Instr.sureAddr,loadVar,aah,aam,aac,zk hagg,abM,zk hn,hys]
    ·rename_i hagg;obtain⟨y,hy,hxy⟩:=hc.cell he;refine⟨y,?_,hxy⟩;simp only[Instr.loadAt,Instr.sureAddr,loadVar,aah,aam,aac,zk hagg,abb,abS,run_load,hy]
   ·cases he
 ·rename_i b off;cases ha with
  |X3=>
   cases hbl:Nat.blt b P.globals.size with
   |false=>rw[hbl]at he;cases he
   |true=>
    rw[hbl]at he;simp only[aav]at he;have hbl:b<P.globals.size:=by simpa [aaO] using hbl
    split at he
    ·cases he
    ·rename_i c hg;obtain⟨pl,hm,t',hc⟩:=hr.ok b _ hg;obtain⟨q1,q2⟩:=hr.X3 b pl hbl hm;split at he
     ·cases he
     ·rename_i hagg;split at he
      ·cases he
      ·rename_i n hn;cases hle:Nat.ble (off+n) c.length with
       |false=>rw[hle]at he;cases he
       |true=>
        rw[hle]at he;simp only[aav,aab]at he;subst he;obtain⟨ys,hys,hv⟩:=jP hc off n (aaE hle);simp only[q1,q2,abt]at hys;refine⟨.agg ys.toArray,?_,.agg (by simpa using hv.1) (λi x y hx hy=>hv.2 i x y (by simpa using hx) (by simpa using hy))⟩;simp only[Instr.loadAt,Instr.sureAddr,loadVar,aah,aam,aac,zk hagg,abM,zk hn,hys]
     ·rename_i hagg;obtain⟨y,hy,hxy⟩:=hc.cell he;simp only[q1,q2,abt]at hy;refine⟨y,?_,hxy⟩;simp only[Instr.loadAt,Instr.sureAddr,loadVar,aah,aam,aac,zk hagg,abb,abS,run_load,hy]
    ·cases he
 ·cases he
def uv(P:Program)(t:TypeId)(a v:aaa)(h:za):Option za :=
 match a with
 | .pointer (some ⟨b,off,none⟩)=>(match h.get b with
   |none=>none
   |some (.cells c t')=>(match z9 P (sizeOf t) with
    |none=>none
    |some n=>cond (Nat.beq v.cells.size n&&Nat.ble (off+n) c.length&&Nat.ble h.ro b&&v.cells.toList.all wG) (some (h.set b (some (.cells (zp c off v.cells.toList) t')))) none)
   |some _=>none)
 |_=>none
theorem E1{P:Program}{ρ:xL}{t:TypeId}{a a' v v':aaa}{h h':za}{w:World}(he:uv P t a v h=some h')(hr:Rel P ρ h w)(ha:zO ρ a a')(hv:zO ρ v v') :
  ∃w',(Instr.storeAt t a' v').run P w=.ok () w'/\Step P ρ h w ρ h' w':=by
 unfold uv at he;split at he
 ·rename_i b off;cases ha with
  |ptr hb hm=>
   rename_i pl;split at he
   ·cases he
   ·rename_i c t' hg;split at he
    ·cases he
    ·rename_i n hn;cases hc:(Nat.beq v.cells.size n&&Nat.ble (off+n) c.length&&Nat.ble h.ro b&&v.cells.toList.all wG) with
     |false=>rw[hc]at he;cases he
     |true=>
      rw[hc]at he;simp only[aav,aab]at he;subst he;simp only[aad,aaB]at hc;obtain⟨⟨⟨h1,h2⟩,h3⟩,h4⟩:=hc;have h1:=aal h1;have h2:=aaE h2;have h3:=aaE h3;have hcells:=hv.cells;have hsz:v'.cells.size=n:=by have:=hcells.1;simp only[abh]at this;omega
      obtain⟨w',e,st⟩:=cr (o:=off) hm v.cells.toList v'.cells.toList h w c 0 hr hg h3 (by simp only[abh];omega) hcells h4;refine⟨w',?_,st⟩;simp only[Instr.storeAt,Instr.sureAddr,storeVar,aah,aam,aac,zk hn,acg,hsz];simp only[ab5,not_true,abS];exact e
   ·cases he
 ·cases he
def zl(P:Program)(s:TypeId)(a:aaa)(i:Nat):Option aaa :=
 match a with
 | .pointer (some ⟨b,off,none⟩)=>(match z9 P (underlying s) with
   |some (.struct fields)=>(match fields[i]? with
    |none=>none
    |some f=>(match z9 P (sizeOf f.type) with
     |none=>none
     |some n=>cond (Nat.beq n 0) none (some (.pointer (some ⟨b,off+f.offset,none⟩)))))
   |_=>none)
 | .pointer (some ⟨b,off,some 0⟩)=>(match z9 P (underlying s) with
   |some (.struct fields)=>(match fields[i]? with
    |none=>none
    |some f=>(match z9 P (sizeOf f.type) with
     |none=>none
     |some n=>cond (Nat.beq n 0) none (some (.pointer (some ⟨b,off+f.offset,some 0⟩)))))
   |_=>none)
 |_=>none
theorem EU{P:Program}{ρ:xL}{s:TypeId}{a a' v:aaa}{i:Nat}(he:zl P s a i=some v)(ha:zO ρ a a')(w:World) :
  ∃v',(Instr.fieldAt s a' i).run P w=.ok v' w/\zO ρ v v':=by
 unfold zl at he;split at he
 ·rename_i b off;cases ha with
  |ptr hb hm=>
   rename_i pl;split at he
   ·rename_i fields hu;split at he
    ·cases he
    ·rename_i f hf;split at he
     ·cases he
     ·rename_i n hn;cases hz:Nat.beq n 0 with
      |true=>rw[hz]at he;cases he
      |false=>
       rw[hz]at he;simp only[aaw,aab]at he;subst he;have hne:n≠0:=by intro e;subst e;simp at hz
       refine⟨.pointer (some ⟨pl.c,pl.base+(off+f.offset),none⟩),?_,.ptr hb hm⟩;simp only[Instr.fieldAt,Instr.sureAddr,fieldPlace,aah,aam,aac,zk hu,hf,zk hn,acg,aaf hne,ZH,abI]
   ·cases he
 ·rename_i b off;cases ha with
  |X3=>
   split at he
   ·rename_i fields hu;split at he
    ·cases he
    ·rename_i f hf;split at he
     ·cases he
     ·rename_i n hn;cases hz:Nat.beq n 0 with
      |true=>rw[hz]at he;cases he
      |false=>
       rw[hz]at he;simp only[aaw,aab]at he;subst he;have hne:n≠0:=by intro e;subst e;simp at hz
       refine⟨.pointer (some ⟨b,off+f.offset,none⟩),?_,.X3⟩;simp only[Instr.fieldAt,Instr.sureAddr,fieldPlace,aah,aam,aac,zk hu,hf,zk hn,acg,aaf hne,ZH]
   ·cases he
 ·cases he
def vf(P:Program)(t:TypeId)(x ix:aaa):Option aaa :=
 match ix with
 | .int _ i=>(match z9 P (underlying t),x with
   |some (.array len elem),.pointer (some ⟨b,off,none⟩)=>(match z9 P (sizeOf elem) with
    |none=>none
    |some n=>cond (decide (0<=i)&&decide (i<len)) (some (.pointer (some ⟨b,off+i.toNat*n,none⟩))) none)
   |some (.array len elem),.pointer (some ⟨b,off,some 0⟩)=>(match z9 P (sizeOf elem) with
    |none=>none
    |some n=>cond (decide (0<=i)&&decide (i<len)) (some (.pointer (some ⟨b,off+i.toNat*n,some 0⟩))) none)
   |some (.slice elem),.slice (some ⟨b,off,none⟩) len _=>(match z9 P (sizeOf elem) with
    |none=>none
    |some n=>cond (decide (0<=i)&&decide (i<len)) (some (.pointer (some ⟨b,off+i.toNat*n,none⟩))) none)
   |_,_=>none)
 |_=>none
theorem EW{P:Program}{ρ:xL}{t:TypeId}{x x' ix ix' v:aaa}(he:vf P t x ix=some v)(hx:zO ρ x x')(hi:zO ρ ix ix')(w:World) :
  ∃v',(Instr.indexAt t x' ix').run P w=.ok v' w/\zO ρ v v':=by
 unfold vf at he;split at he
 ·rename_i k i;cases hi;split at he
  ·rename_i hu;cases hx with
   |ptr hb hm=>
    split at he
    ·cases he
    ·rename_i n hn;cases hc:(decide (0<=i)&&decide (i<_)) with
     |false=>rw[hc]at he;cases he
     |true=>
      rw[hc]at he;simp only[aav,aab]at he;subst he;simp only[aad,aaF]at hc;refine⟨_,?_,.ptr hb hm⟩;simp only[Instr.indexAt,Instr.sureAddr,asIntOf,aah,aam,aac,zk hu,zk hn,acg,aai hc,ZH,abI]
  ·rename_i hu;cases hx with
   |X3=>
    split at he
    ·cases he
    ·rename_i n hn;cases hc:(decide (0<=i)&&decide (i<_)) with
     |false=>rw[hc]at he;cases he
     |true=>
      rw[hc]at he;simp only[aav,aab]at he;subst he;simp only[aad,aaF]at hc;refine⟨_,?_,.X3⟩;simp only[Instr.indexAt,Instr.sureAddr,asIntOf,aah,aam,aac,zk hu,zk hn,acg,aai hc,ZH]
  ·rename_i hu;cases hx with
   |slice hb hm hl hcap=>
    split at he
    ·cases he
    ·rename_i n hn;cases hc:(decide (0<=i)&&decide (i<_)) with
     |false=>rw[hc]at he;cases he
     |true=>
      rw[hc]at he;simp only[aav,aab]at he;subst he;simp only[aad,aaF]at hc;refine⟨_,?_,.ptr hb hm⟩;simp only[Instr.indexAt,asIntOf,aah,aam,aac,zk hu,zk hn,acg,aai hc,ZH,abI]
   |sliceOut hb hc=>
    split at he
    ·cases he
    ·rename_i n hn;rw[show(decide (0<=i)&&decide (i<((0:Nat):Int)))=false by simp]at he;cases he
  ·cases he
 ·cases he
end
noncomputable section
variable {P:Program}
def fl(x:Option aaa):Option aaa :=
 match x with
 |none=>none
 |some v=>cond (flat v) (some v) none
theorem QJ{x:Option aaa}{v:aaa}(h:fl x=some v):x=some v/\flat v=true:=by
 unfold fl at h;split at h
 ·cases h
 ·rename_i u;cases hf:flat u with
  |false=>rw[hf]at h;cases h
  |true=>rw[hf]at h;simp only[aav,aab]at h;subst h;exact⟨rfl,hf⟩
def isNil(P:Program)(t:TypeId)(a b:aaa):Option Bool :=
 match z9 P (underlying t),a,b with
 |some (.pointer _),.pointer (some _),.pointer none|some (.pointer _),.pointer none,.pointer (some _)=>some false
 |some (.slice _),.slice (some _) _ _,.slice none _ _|some (.slice _),.slice none _ _,.slice (some _) _ _=>some false
 |some (.func _ _ _),.func _ _ _,.nilFunc|some (.func _ _ _),.nilFunc,.func _ _ _=>some false
 |some (.interface _),.iface _ _,.nilIface|some (.interface _),.nilIface,.iface _ _=>some false
 |_,_,_=>none
def ze2(P:Program)(op:BinOp)(t:TypeId)(a b:aaa):Option aaa :=
 match op with
 | .eql=>(isNil P t a b).map .bool
 | .neq=>(isNil P t a b).map λx => .bool (!x)
 |_=>none
theorem QO{ρ:xL}{t:TypeId}{a b a' b':aaa}{r:Bool}(h:isNil P t a b=some r)(ha:zO ρ a a')(hb:zO ρ b b')(w:World) :
  (∀d,(Op.equalIn (d+1) t a' b').run P w=.ok r w)/\(∀op x y,(eqGuard op t x y a' b').run P w=.ok () w)/\(∀op,op=.eql\/op=.neq->binOp op t a' b'=if op=.eql then (do pure (.bool (<- Op.equal t a' b'))) else (do pure (.bool (!(<- Op.equal t a' b'))))):=by
 unfold isNil at h
 split at h <;> first
  |cases h;done
  |(simp only[aab]at h
    subst h;rename_i hu;cases ha <;> cases hb <;>
    (refine⟨λd=>?_,λop x y=>?_,λop yy=>?_⟩
     ·simp[Op.equalIn,zk hu]
     ·cases op <;> simp[eqGuard]
     ·rcases yy with rfl|rfl <;> rfl))
theorem PV{ρ:xL}{t:TypeId}{a b a' b':aaa}{r:Bool}(h:isNil P t a b=some r)(ha:zO ρ a a')(hb:zO ρ b b')(w:World) :
  (binOp .eql t a' b').run P w=.ok (.bool r) w:=by
 obtain⟨h1,_,h3⟩:=QO h ha hb w;rw[h3 .eql (.inl rfl),aai rfl];have h1:(Op.equal t a' b').run P w=.ok r w:=h1 9999;simp only[aah,h1,aac,aam]
theorem PW{ρ:xL}{t:TypeId}{a b a' b':aaa}{r:Bool}(h:isNil P t a b=some r)(ha:zO ρ a a')(hb:zO ρ b b')(w:World) :
  (binOp .neq t a' b').run P w=.ok (.bool (!r)) w:=by
 obtain⟨h1,_,h3⟩:=QO h ha hb w;rw[h3 .neq (.inr rfl),aaf (by simp)];have h1:(Op.equal t a' b').run P w=.ok r w:=h1 9999;simp only[aah,h1,aac,aam]
def St(P:Program)(op:BinOp)(t:TypeId)(x y:Operand)(a b:aaa):Option aaa :=
 cond (flat a&&flat b) (fl (z9 P (do eqGuard op t x y a b;binOp op t a b))) (ze2 P op t a b)
theorem Ly{ρ:xL}{op:BinOp}{t:TypeId}{x y:Operand}{a b a' b' v:aaa}(h:St P op t x y a b=some v)(ha:zO ρ a a')(hb:zO ρ b b')(w:World) :
  ∃v',(do eqGuard op t x y a' b';binOp op t a' b':Sem aaa).run P w=.ok v' w/\zO ρ v v':=by
 unfold St at h;cases hf:(flat a&&flat b) with
 |true=>
  rw[hf]at h;simp only[aad]at hf;obtain rfl:=jj ha hf.1;obtain rfl:=jj hb hf.2;obtain⟨h1,h2⟩:=QJ h;exact⟨v,zk h1 w,.of_flat ρ h2⟩
 |false=>
  rw[hf]at h;simp only[aaw]at h;unfold ze2 at h;split at h
  ·simp only[aas]at h;obtain⟨r,hr,rfl⟩:=h;obtain⟨_,h2,_⟩:=QO hr ha hb w;have h3:=PV hr ha hb w;exact⟨.bool r,by simp only[aah,h2,aac,h3],.bool r⟩
  ·simp only[aas]at h;obtain⟨r,hr,rfl⟩:=h;obtain⟨_,h2,_⟩:=QO hr ha hb w;have h4:=PW hr ha hb w;exact⟨.bool (!r),by simp only[aah,h2,aac,h4],.bool (!r)⟩
  ·cases h
def pV(ρ:xL)(ps ps':List (Nat×aaa)):Prop:=w9 ρ (ps.map (·.2)) (ps'.map (·.2))/\ps.map (·.1)=ps'.map (·.1)
theorem Ry{ρ:xL}{xs ys:List aaa}(h:w9 ρ xs ys)(i:Nat){x y:aaa}(hv:zO ρ x y):w9 ρ (xs.set i x) (ys.set i y):=by
 refine⟨by simp[h.1],λj a b ha hb=>?_⟩;by_cases e:i=j
 ·subst e;rcases aaN i xs.length with hi|hi
  ·rw[acj hi]at ha;rw[acj (h.1 ▸ hi)]at hb;cases ha;cases hb;exact hv
  ·rw[aat (by simpa using hi)]at ha;cases ha
 ·rw[List.getElem?_set_ne e]at ha hb;exact h.2 j a b ha hb
theorem AT{ρ:xL}(off:Nat):∀(l l':List (aaa×Nat)) (c c':Array aaa),w9 ρ (l.map (·.1)) (l'.map (·.1))->l.map (·.2)=l'.map (·.2)->w9 ρ c.toList c'.toList ->
  w9 ρ (l.foldl (λcs x=>cs.setIfInBounds (off+x.2) x.1) c).toList (l'.foldl (λcs x=>cs.setIfInBounds (off+x.2) x.1) c').toList
 |[],l',c,c',hl,hn,hc=>by
  cases l' with
  |nil=>exact hc
  |cons x l'=>simp at hn
 |x::l,l',c,c',hl,hn,hc=>by
  cases l' with
  |nil=>simp at hn
  |cons y l'=>
   simp only[abq,abr]at hl hn;obtain⟨y',ys',e,hv,hr⟩:=hl.cons_inv;simp only[abr]at e;obtain⟨e1,e2⟩:=e;subst e1 e2;simp only[acm];refine AT off l l' _ _ hr hn.2 ?_;rw[Array.toList_setIfInBounds,Array.toList_setIfInBounds,hn.1];exact Ry hc _ hv
theorem iT{ρ:xL}{place:Nat->Option (Nat×Nat)}:∀(ps ps':List (Nat×aaa)) (c c':Array aaa) (r:Array aaa),pV ρ ps ps'->w9 ρ c.toList c'.toList->Instr.fill place c ps=some r ->
  ∃r',Instr.fill place c' ps'=some r'/\w9 ρ r.toList r'.toList
 |[],ps',c,c',r,hp,hc,he=>by
  have:ps'=[]:=by have:=hp.2;simp at this;cases ps' <;> simp_all
  subst this;simp only[Instr.fill,aab]at he;subst he;exact⟨c',rfl,hc⟩
 |(i,v)::ps,ps',c,c',r,hp,hc,he=>by
  cases ps' with
  |nil=>have:=hp.2;simp at this
  |cons p ps'=>
   obtain⟨i',v'⟩:=p;obtain⟨h1,h2⟩:=hp;simp only[abq,abr]at h1 h2;obtain⟨rfl,h2⟩:=h2;obtain⟨y,ys,e,hv,hr⟩:=h1.cons_inv;simp only[abr]at e;obtain⟨e1,e2⟩:=e;subst e1 e2;simp only[Instr.fill]at he ⊢;cases hpl:place i with
   |none=>rw[hpl]at he;cases he
   |some x=>
    obtain⟨off,size⟩:=x;rw[hpl]at he;simp only at he ⊢;have hcells:=hv.cells;have e1:v'.cells.size=v.cells.size:=by simpa using hcells.1.symm
    have e2:c'.size=c.size:=(by simpa using hc.1.symm);split at he
    ·cases he
    ·rename_i hcond;rw[aaf (by rw[e1,e2];exact hcond)];refine iT ps ps' _ _ r ⟨hr,h2⟩ ?_ he;rw[<- Array.foldl_toList,<- Array.foldl_toList];refine AT off _ _ c c' ?_ ?_ hc
     ·simp only[Array.toList_zipIdx];have q:∀(l:List aaa) k,(l.zipIdx k).map (·.1)=l:=λl k=>by simp
      rw[q,q];exact hcells
     ·simp only[Array.toList_zipIdx];have q:∀(l:List aaa) k,(l.zipIdx k).map (·.2)=List.range' k l.length:=λl k=>by simp
      rw[q,q,hcells.1]
def UI(s:Env):List (Nat×Operand)->Option (List (Nat×aaa))
 |[]=>some []
 |(i,x)::ps=>match jF s x with
  |none=>none
  |some v=>match UI s ps with
   |none=>none
   |some vs=>some ((i,v)::vs)
theorem Jz{ρ:xL}{s:Env}{a:Act}(hs:uf ρ s a.tmps):∀{ps:List (Nat×Operand)} {vs:List (Nat×aaa)},UI s ps=some vs->pV ρ vs (ps.map λx=>(x.1,a.eval x.2))
 |[],vs,h=>by simp only[UI,aab]at h;subst h;exact⟨.nil ρ,rfl⟩
 |(i,x)::ps,vs,h=>by
  simp only[UI]at h;split at h
  ·cases h
  ·rename_i v hv;split at h
   ·cases h
   ·rename_i vs' hvs;simp only[aab]at h;subst h;have:=Jz hs hvs;exact⟨.cons (z8 hs hv) this.1,by simp[this.2]⟩
def Y7(P:Program)(t:TypeId):Option aaa:=fl (z9 P (zeroValue t))
theorem Yp{ρ:xL}{t:TypeId}{z:aaa}(h:Y7 P t=some z)(w:World):(zeroValue t).run P w=.ok z w/\zO ρ z z:=by
 obtain⟨h1,h2⟩:=QJ h;exact⟨zk h1 w,.of_flat ρ h2⟩
def zbm(P:Program)(fields:Array Field):Option (Array (Nat×Nat)):=z9 P (fields.mapM λf=>do pure (f.offset,<- sizeOf f.type))
def zN(P:Program)(t:TypeId)(parts:List (Nat×aaa)):Option aaa :=
 match Y7 P t with
 |none=>none
 |some z=>match z9 P (underlying t) with
  |some (.struct fields)=>(match zbm P fields with
   |none=>none
   |some Fv=>(Instr.fill (Fv[·]?) z.cells parts).map .agg)
  |some (.array _ elem)=>(match z9 P (sizeOf elem) with
   |none=>none
   |some n=>(Instr.fill (λi=>some (i*n,n)) z.cells parts).map .agg)
  |_=>none
theorem EI{ρ:xL}{t:TypeId}{parts parts':List (Nat×aaa)}{v:aaa}(h:zN P t parts=some v)(hp:pV ρ parts parts')(w:World) :
  ∃v',(Instr.build t parts'.toArray).run P w=.ok v' w/\zO ρ v v':=by
 unfold zN at h;split at h
 ·cases h
 ·rename_i z hz;obtain⟨e0,hz⟩:=Yp (ρ:=ρ) hz w;split at h
  ·rename_i fields hu;split at h
   ·cases h
   ·rename_i Fv hpl;simp only[aas]at h;obtain⟨r,hr,rfl⟩:=h;obtain⟨r',hr',hv⟩:=iT _ _ _ _ _ hp hz.cells hr;refine⟨.agg r',?_,.agg (by simpa using hv.1) (λi x y hx hy=>hv.2 i x y (by simpa using hx) (by simpa using hy))⟩;simp only[Instr.build,aah,e0,aac,zk hu,zk hpl,hr',aam]
  ·rename_i n elem hu;split at h
   ·cases h
   ·rename_i n hn;simp only[aas]at h;obtain⟨r,hr,rfl⟩:=h;obtain⟨r',hr',hv⟩:=iT _ _ _ _ _ hp hz.cells hr;refine⟨.agg r',?_,.agg (by simpa using hv.1) (λi x y hx hy=>hv.2 i x y (by simpa using hx) (by simpa using hy))⟩;simp only[Instr.build,aah,e0,aac,zk hu,zk hn,hr',aam]
  ·cases h
def Cp(h:za)(c:List aaa)(t:TypeId):aaa×za:=(.pointer (some ⟨h.next,0,none⟩),h.push (.cells c t))
theorem lh{ρ:xL}{h:za}{w:World}(hr:Rel P ρ h w){v v':aaa}(hv:zO ρ v v')(t:TypeId) :
  ∃a' w' ρ',(newVar t v').run P w=.ok a' w'/\Step P ρ h w ρ' (Cp h v.cells.toList t).2 w'/\zO ρ' (Cp h v.cells.toList t).1 (.pointer (some a')):=by
 have hc:=hv.cells
 obtain⟨e,st⟩:=gD (t:=t) hr (c:=v.cells.toList) (cs:=v'.cells) (by rw[hc.1,abh];exact aaj _) (λi x hx=>by
  obtain⟨y,hy,hxy⟩:=hc.get hx;exact⟨y,by simpa using hy,hxy⟩)
 exact⟨_,_,_,e,st,.new hr _ rfl⟩
def Yx(z:List aaa)(n:Nat):List aaa:=(List.range n).map λi=>(z[i%z.length]?).getD default
theorem Es(z:Array aaa)(n:Nat):((Array.range n).map λi=>z[i%z.size]!)=(Yx z.toList n).toArray:=by
 apply ab2;simp only[Array.toList_map,Array.toList_range,Yx];apply List.map_congr_left;intro i _;simp[getElem!_def];cases z[i%z.size]? <;> rfl
theorem BW{ρ:xL}{z:aaa}(h:zO ρ z z)(hd:z.cells.size≠0)(n:Nat):w9 ρ (Yx z.cells.toList n) (Yx z.cells.toList n):=by
 refine⟨rfl,λi x y hx hy=>?_⟩;rw[hx]at hy;cases hy;simp only[Yx,aaH,aas]at hx;obtain⟨k,_,hk⟩:=hx;have hlt:k%z.cells.toList.length<z.cells.toList.length:=Nat.mod_lt _ (by simp;omega);rw[aag hlt]at hk;simp only[abZ]at hk;have:=h.cells.2 _ _ _ (aag hlt) (aag hlt);rw[hk]at this;exact this
def Wh(P:Program)(t:TypeId)(len cap:aaa)(h:za):Option (aaa×za) :=
 match len,cap,z9 P (underlying t) with
 | .int _ l,.int _ c,some (.slice elem)=>(match z9 P (typeInfo elem) with
   |none=>none
   |some i=>(match Y7 P elem with
    |none=>none
    |some z=>cond (decide (IntKind.i64.wrap l=l)&&decide (IntKind.i64.wrap c=c)&&decide (0<=l)&&decide (l<=c)&&decide (i.bytes*c<=2^48)&&Nat.beq z.cells.size i.size&&Nat.blt 0 i.size)
      (some (.slice (some ⟨h.next,0,none⟩) l.toNat (c.toNat+2),h.push (.cells (Yx z.cells.toList (c.toNat*i.size)) elem))) none))
 |_,_,_=>none
theorem jQ{t:TypeId}{i:TypeInfo}(h:z9 P (typeInfo t)=some i):P.cellsOf t=i.size /\ ∀w,(sizeOf t).run P w=.ok i.size w:=by
 have h0:=h
 constructor
 ·simp only[typeInfo,program,Sem.bind,bind,z9]at h;cases hp:P.info? t with
  |none=>rw[hp]at h;cases h
  |some j=>rw[hp]at h;simp only[pure,z9,aab]at h;subst h;simp[Program.cellsOf,hp]
 ·intro w;simp only[sizeOf,aah,zk h0,aac,aam]
theorem HK{ρ:xL}{t:TypeId}{l l' c c' v:aaa}{h h':za}{w:World}(he:Wh P t l c h=some (v,h'))(hr:Rel P ρ h w)(hl:zO ρ l l')(hc:zO ρ c c') :
  ∃v' w' ρ',(Instr.makeSlice t l' c').run P w=.ok v' w'/\Step P ρ h w ρ' h' w'/\zO ρ' v v':=by
 unfold Wh at he;split at he
 ·rename_i kl l kc c elem hu;cases hl;cases hc;split at he
  ·cases he
  ·rename_i i hi;split at he
   ·cases he
   ·rename_i z hz;cases hcond:(decide (IntKind.i64.wrap l=l)&&decide (IntKind.i64.wrap c=c)&&decide (0<=l)&&decide (l<=c)&&decide (i.bytes*c<=2^48)&&Nat.beq z.cells.size i.size&&Nat.blt 0 i.size) with
    |false=>rw[hcond]at he;cases he
    |true=>
     rw[hcond]at he;simp only[aav,aab,aae]at he;obtain⟨rfl,rfl⟩:=he;simp only[aad,aaF]at hcond;obtain⟨⟨⟨⟨⟨⟨w1,w2⟩,p1⟩,p2⟩,p3⟩,zs⟩,sp⟩:=hcond;have zs:=aal zs;have sp:0<i.size:=by simpa [aaO] using sp
     obtain⟨e0,hz'⟩:=Yp (ρ:=ρ) hz w;obtain⟨sz1,sz2⟩:=jQ hi
     obtain⟨e,st⟩:=gD (t:=elem) hr (c:=Yx z.cells.toList (c.toNat*i.size)) (cs:=(Array.range (c.toNat*i.size)).map λk=>z.cells[k%z.cells.size]!)
      (by simp[Yx]) (λk x hx=>by
       rw[Es];obtain⟨y,hy,hxy⟩:=(BW hz' (by omega) (c.toNat*i.size)).get hx;exact⟨y,by simpa using hy,hxy⟩)
     refine⟨.slice (some ⟨w.heap.size,0,none⟩) l.toNat c.toNat,_,_,?_,st,?_⟩
     ·have b1:¬((i.bytes:Int)*c>2^48):=(by omega);have b2:¬(c<0):=(by omega);have b3:¬(l<0):=(by omega);have b4:¬(l>c):=(by omega);simp only[Instr.makeSlice,asInt,asIntOf,aah,aam,aac,zk hu,zk hi,w1,w2];rw[aaf (by simp[b2,b3,b4];omega)];simp only[aah,run_askRoom,aac,sz2];by_cases hn:c.toNat*i.size=0
      ·rw[aai hn];have e1:((Array.range (c.toNat*i.size)).map λk=>(#[]:Array aaa)[k%(#[]:Array aaa).size]!)=((Array.range (c.toNat*i.size)).map λk=>z.cells[k%z.cells.size]!):=by rw[hn];simp
       simp only[aah,aam,aac];rw[e1,e];simp only[aac]
      ·rw[aaf hn];simp only[aah,e0,aam,aac,e]
     ·refine zO.slice (ρ:=ρ.ext _) (b:=h.next) (off:=0) (pl:=⟨w.heap.size,0,_,_⟩) (by show h.next<ρ.next+1;rw[hr.next];exact aaJ _) (by rw[<- hr.next];exact ρ.jh _) (by omega) ?_;intro _;refine⟨by simp[sz1],λk hk=>by omega⟩
 ·cases he
end
noncomputable section
variable {P:Program}
def UO:Nat->Nat->Nat
 |0,_=>0
 |1,_=>1
 |k+2,l=>(k-l)+2
def qf(x:Option aaa)(d:Nat)(most:Nat):Option Nat :=
 match x with
 |none=>some d
 |some (.int _ i)=>cond (decide (0<=i)&&decide (i<=most)) (some i.toNat) none
 |some _=>none
def wide(P:Program)(h:za)(b n:Nat):Bool :=
 match h.get b with
 |some (.cells _ t)=>Nat.beq (P.cellsOf t) n
 |_=>false
def mD(P:Program)(t:TypeId)(x:aaa)(lo hi:Option aaa)(h:za):Option aaa :=
 match z9 P (underlying t),x with
 |some (.slice elem),.slice base len c=>(match z9 P (sizeOf elem) with
  |none=>none
  |some n=>(match qf hi len len with
   |none=>none
   |some hh=>(match qf lo 0 hh with
    |none=>none
    |some l=>(match base with
     |none=>cond (Nat.beq len 0) (some (.slice none 0 0)) none
     |some ⟨b,off,none⟩=>some (.slice (some ⟨b,off+l*n,none⟩) (hh-l) (cond (wide P h b n) (UO c l) 0))
     |some _=>none))))
 |some (.array k elem),.pointer (some ⟨b,off,none⟩)=>(match z9 P (sizeOf elem) with
  |none=>none
  |some n=>(match qf hi k k with
   |none=>none
   |some hh=>(match qf lo 0 hh with
    |none=>none
    |some l=>some (.slice (some ⟨b,off+(if k=l then 0 else l*n),none⟩) (hh-l) 0))))
 |_,_=>none
theorem dp{x:Option aaa}{d most r:Nat}(h:qf x d most=some r)(hd:d<=most):r<=most:=by
 unfold qf at h;split at h
 ·simp only[aab]at h;omega
 ·rename_i k i;cases hc:(decide (0<=i)&&decide (i<=(most:Int))) with
  |false=>rw[hc]at h;cases h
  |true=>
   rw[hc]at h;simp only[aav,aab]at h;simp only[aad,aaF]at hc;omega
 ·cases h
theorem t9{ρ:xL}{x x':Option aaa}{d most r:Nat}(h:qf x d most=some r)(hx:∀v,x=some v->∃v',x'=some v'/\zO ρ v v')(hn:x=none->x'=none){y:Nat}(hy:most<=y)(code:BoundsCode)(w:World) :
  (match x' with|some v=>Instr.sliceBound v y code|none=>(pure d:Sem Nat)).run P w=.ok r w:=by
 unfold qf at h;split at h
 ·rw[hn rfl];simp only[aab]at h;subst h;rfl
 ·rename_i k i;obtain⟨v',rfl,hv⟩:=hx _ rfl;cases hv;cases hc:(decide (0<=i)&&decide (i<=(most:Int))) with
  |false=>rw[hc]at h;cases h
  |true=>
   rw[hc]at h;simp only[aav,aab]at h;simp only[aad,aaF]at hc;subst h;simp only[Instr.sliceBound,asIntOf,aah,aam,aac,acg];rw[aai (by omega)]
 ·cases h
def O0(ρ:xL)(x x':Option aaa):Prop:=(∀v,x=some v->∃v',x'=some v'/\zO ρ v v')/\(x=none->x'=none)
theorem JE{ρ:xL}{lo lo' hi hi':Option aaa}{len cap hh l:Nat}(hhi:qf hi len len=some hh)(hlo:qf lo 0 hh=some l)(rl:O0 ρ lo lo')(rh:O0 ρ hi hi')(hl:len<=cap)(b:Bool)(w:World) :
  (Instr.sliceBounds b len cap lo' hi' none).run P w=.ok (l,hh,cap) w:=by
 have h1:=t9 (P:=P) hhi rh.1 rh.2 hl (if b then .sliceAcap else .sliceAlen) w;have h2:=t9 (P:=P) hlo rl.1 rl.2 (aaj hh) (.sliceB) w;unfold Instr.sliceBounds;cases hi' with
 |none=>
  have e1:len=hh:=by simpa using h1
  subst e1;cases lo' with
  |none=>have e2:0=l:=by simpa using h2
         subst e2;rfl
  |some v=>
   simp only at h2;simp only[aah,aam,aac,Option.isSome_none,abb,abS,h2]
 |some u=>
  simp only at h1;cases lo' with
  |none=>have e2:0=l:=by simpa using h2
         subst e2;simp only[aah,aam,aac,h1]
  |some v=>
   simp only at h2;simp only[aah,aam,aac,Option.isSome_none,abb,abS,h1,h2]
theorem E0{ρ:xL}{t:TypeId}{x x' v:aaa}{lo lo' hi hi':Option aaa}{h:za}{w:World}(he:mD P t x lo hi h=some v)(hr:Rel P ρ h w)(hx:zO ρ x x')(rl:O0 ρ lo lo')(rh:O0 ρ hi hi') :
  ∃v',(Instr.sliceAt t x' lo' hi' none).run P w=.ok v' w/\zO ρ v v':=by
 unfold mD at he;split at he
 ·rename_i elem base len c hu;split at he
  ·cases he
  ·rename_i n hn;split at he
   ·cases he
   ·rename_i hh hhi;split at he
    ·cases he
    ·rename_i l hlo;have h1:=dp hhi (aaj _);have h2:=dp hlo (aaP _);cases hx with
     |sliceNil=>
      simp only[ab4,aav,aab]at he;subst he;have:hh=0:=by omega
      subst this;have:l=0:=by omega
      subst this;refine⟨.slice none 0 0,?_,.sliceNil 0⟩;have hb:=JE (P:=P) hhi hlo rl rh (aaj 0) true w;simp only[Instr.sliceAt,Instr.slice,aah,zk hu,aac,hb,zk hn,aam,abM,Nat.sub_self]
     |slice hb hm hl hc=>
      rename_i b off cap pl;simp only[aab]at he;subst he;have hbd:=JE (P:=P) hhi hlo rl rh hl true w
      have hrun:(Instr.sliceAt t (.slice (some ⟨pl.c,pl.base+off,none⟩) len cap) lo' hi' none).run P w=.ok (.slice (if cap=l then some ⟨pl.c,pl.base+off,none⟩ else some ⟨pl.c,pl.base+off+l*n,none⟩) (hh-l) (cap-l)) w:=by
       simp only[Instr.sliceAt,Instr.slice,aah,zk hu,aac,hbd,zk hn,aam,abw,ZH]
      by_cases hcl:cap=l
      ·refine⟨_,hrun,?_⟩;rw[aai hcl];have e1:hh-l=0:=by omega
       have e2:cap-l=0:=(by omega);rw[e1,e2];refine .sliceOut hb ?_;cases hw:wide P h b n with
       |false=>exact aaP _
       |true=>
        simp only[aav];unfold UO;split
        ·omega
        ·omega
        ·rename_i k;have:=(hc (by omega)).2 k rfl;omega
      ·refine⟨_,hrun,?_⟩;rw[aaf hcl,abI];refine .slice hb hm (by omega) ?_;cases hw:wide P h b n with
       |false=>intro hne;exact absurd rfl hne
       |true=>
        simp only[aav];intro hne;have hc0:c≠0:=by intro e;subst e;exact hne rfl
        obtain⟨c1,c2⟩:=hc hc0;unfold wide at hw;split at hw
        ·rename_i cs tb hg;have hw:=aal hw;obtain⟨cs',fz,_,_,hesz,_⟩:=hr.place hg hm;rw[hesz.1,hw]at c1 ⊢;refine⟨?_,?_⟩
         ·have:l*n+(cap-l)*n=cap*n:=(by rw[<- acn];congr 1;omega);omega
         ·intro k hk;unfold UO at hk;split at hk
          ·omega
          ·omega
          ·have:=c2 _ rfl;omega
        ·cases hw
     |sliceOut hb hc=>
      rename_i b off a;simp only[aab]at he;subst he;have:hh=0:=by omega
      subst this;have:l=0:=by omega
      subst this;refine⟨.slice (some a) 0 0,?_,.sliceOut hb ?_⟩
      ·have hbd:=JE (P:=P) hhi hlo rl rh (aaj 0) true w;simp only[Instr.sliceAt,Instr.slice,aah,zk hu,aac,hbd,zk hn,aam,abM,Nat.sub_self]
      ·cases wide P h b n with
       |false=>exact aaP _
       |true=>simp only[aav];unfold UO;split <;> omega
 ·rename_i k elem b off hu;cases hx with
  |ptr hb hm=>
   rename_i pl;split at he
   ·cases he
   ·rename_i n hn;split at he
    ·cases he
    ·rename_i hh hhi;split at he
     ·cases he
     ·rename_i l hlo;simp only[aab]at he;subst he;have h1:=dp hhi (aaj _);have h2:=dp hlo (aaP _);have hbd:=JE (P:=P) hhi hlo rl rh (aaj k) false w;refine⟨_,by simp only[Instr.sliceAt,Instr.sureAddr,aah,zk hu,aam,aac,hbd,zk hn];rfl,?_⟩
      have:(if k=l then (Addr.mk pl.c (pl.base+off) none) else (Addr.mk pl.c (pl.base+off) none).add (l*n))=⟨pl.c,pl.base+(off+(if k=l then 0 else l*n)),none⟩:=by
       split
       ·rfl
       ·rw[ZH,abI]
      rw[this];exact .slice hb hm (by omega) (λhne=>absurd rfl hne)
 ·cases he
def Ag(P:Program)(t:TypeId)(x:aaa):Option aaa :=
 match z9 P (underlying t),x with
 |some (.slice _),.slice _ n _=>some (goInt n)
 |some .string,.string s=>some (goInt s.size)
 |some (.array n _),_=>some (goInt n)
 |_,_=>none
theorem LC{ρ:xL}{t:TypeId}{x x' v:aaa}(he:Ag P t x=some v)(hx:zO ρ x x')(r:TypeId)(w:World):(Builtin.len_ #[t] r #[x']).run P w=.ok v w/\zO ρ v v:=by
 unfold Ag at he;split at he
 ·rename_i hu;simp only[aab]at he;subst he;refine⟨?_,.int _ _⟩;cases hx <;> simp[Builtin.len_,zk hu]
 ·rename_i hu;simp only[aab]at he;subst he;refine⟨?_,.int _ _⟩;cases hx;simp[Builtin.len_,zk hu]
 ·rename_i hu;simp only[aab]at he;subst he;refine⟨?_,.int _ _⟩;simp[Builtin.len_,zk hu]
 ·cases he
end
noncomputable section
variable {P:Program}
def kh(h:za)(n size:Nat):aaa->Option (List aaa)
 | .slice (some ⟨b,off,none⟩) _ _=>cond (Nat.beq (n*size) 0) (some []) (match h.get b with
   |some (.cells c _)=>cond (Nat.ble (off+n*size) c.length) (some ((c.drop off).take (n*size))) none
   |_=>none)
 | .slice none _ _=>some []
 | .string s=>some ((s.extract 0 n).data.toList.map λb => .int .u8 b.toNat)
 |_=>none
def Kv:aaa->Option Nat
 | .slice _ n _=>some n
 | .string s=>some s.size
 |_=>none
theorem oS{ρ:xL}{x x':aaa}{n:Nat}(h:Kv x=some n)(hx:zO ρ x x')(w:World):(Builtin.lenOf x').run P w=.ok n w:=by
 cases hx with
 |BA _=>cases h
 |_=>simp only[Kv,aab,reduceCtorEq]at h <;> subst h <;> rfl
theorem JH{ρ:xL}{h:za}{w:World}{n size:Nat}{x x':aaa}{c:List aaa}(he:kh h n size x=some c)(hr:Rel P ρ h w)(hx:zO ρ x x')(hn:∀b l cap,x=.slice b l cap->n<=l) :
  ∃c':List aaa,(Builtin.firstCells size n x').run P w=.ok c'.toArray w/\w9 ρ c c':=by
 have hzero:n*size=0->∀a:Addr,(loadCells a (n*size)).run P w=.ok ([]:List aaa).toArray w:=by
  intro e a;rw[e];rfl
 cases hx with
 |sliceNil c0=>
  simp only[kh,aab]at he;subst he;exact⟨[],rfl,.nil ρ⟩
 |slice hb hm hl hc=>
  rename_i b off len c0 cap pl;simp only[kh]at he;cases hz:Nat.beq (n*size) 0 with
  |true=>
   rw[hz]at he;simp only[aav,aab]at he;subst he;exact⟨[],by simp only[Builtin.firstCells];exact hzero (aal hz) _,.nil ρ⟩
  |false=>
   rw[hz]at he;simp only[aaw]at he;split at he
   ·rename_i cs t hg;cases hle:Nat.ble (off+n*size) cs.length with
    |false=>rw[hle]at he;cases he
    |true=>
     rw[hle]at he;simp only[aav,aab]at he;subst he;obtain⟨ys,hys,hv⟩:=jP (hr.place hg hm) off (n*size) (aaE hle);exact⟨ys,by simpa only[Builtin.firstCells] using hys,hv⟩
   ·cases he
 |sliceOut hb hc=>
  rename_i b off c0 a;have:=hn _ _ _ rfl
  have hz:n*size=0:=by have:n=0:=by omega
                       subst this;simp
  simp only[kh,hz,ab4,aav,aab]at he;subst he;exact⟨[],by simp only[Builtin.firstCells];exact hzero hz _,.nil ρ⟩
 |string s=>
  simp only[kh,aab]at he;subst he;refine⟨_,?_,⟨rfl,λi x y hx hy=>?_⟩⟩
  ·simp only[Builtin.firstCells,aam]
   congr 1
   apply ab2;simp
  ·rw[hx]at hy;cases hy;simp only[aaH,aas]at hx;obtain⟨b,_,rfl⟩:=hx;exact .int _ _
 |_=>cases he
def mT:TypeDesc->Bool
 | .int _=>true
 |_=>false
theorem DO(need:Nat)(hn:255<=need):∀(r c:Nat),c<=2*need->Builtin.growBy need r c<=2*need
 |0,c,h=>h
 |r+1,c,h=>by
  unfold Builtin.growBy;split
  ·exact h
  ·exact DO need hn r _ (by omega)
theorem Mw(need cap:Nat)(h:cap<need):Builtin.nextslicecap need cap<=2*need:=by
 unfold Builtin.nextslicecap;split
 ·omega
 ·split
  ·omega
  ·exact DO need (by omega) 4 cap (by omega)
theorem lj(need:Nat)(h:0<need):Builtin.nextslicecap need 0=need:=by
 unfold Builtin.nextslicecap;rw[aai (by omega)]
theorem run_append_grow{ρ:xL}{h:za}{w:World}(hr:Rel P ρ h w){sT xT elem:TypeId}{r:TypeId}{xd:TypeDesc}{i:TypeInfo}{z:aaa}{base:Option Addr}{len cap n:Nat}{x':aaa}{old old' new new':List aaa}
  (h1:z9 P (underlying sT)=some (.slice elem)) (h2:z9 P (underlying xT)=some xd) (h3:mT xd=false) (hi:z9 P (typeInfo elem)=some i) (hz:Y7 P elem=some z)
  (hb:0<i.bytes) (hzs:z.cells.size=i.size)
  (hlen:∀w,(Builtin.lenOf x').run P w=.ok n w) (hgrow:cap<len+n) (hlim:Builtin.nextslicecap (len+n) cap*i.bytes<=2^48)
  (hold:(Builtin.firstCells i.size len (.slice base len cap)).run P {w with drawn:=w.drawn+1} = .ok old'.toArray {w with drawn:=w.drawn+1}) (hnew:(Builtin.firstCells i.size n x').run P {w with drawn:=w.drawn+1} = .ok new'.toArray {w with drawn:=w.drawn+1})
  (vold:w9 ρ old old') (vnew:w9 ρ new new') (hol:old.length=len*i.size) (hnl:new.length=n*i.size) :
  ∃cap' w' pl,(Builtin.append_ #[sT,xT] r #[.slice base len cap,x']).run P w=.ok (.slice (some ⟨w.heap.size,0,none⟩) (len+n) cap') w'/\len+n<=cap'/\pl.c=w.heap.size/\pl.base=0/\pl.Oa=i.size/\cap' * i.size<=pl.size /\
   Step P ρ h w (ρ.ext pl) (h.push (.cells (old++new) elem)) w':=by
 obtain⟨sz1,sz2⟩:=jQ hi;obtain⟨z1,_⟩:=Yp (ρ:=ρ) hz w;have z1:∀w,(zeroValue elem).run P w=.ok z w:=λw=>(Yp (ρ:=ρ) hz w).1
 let q:Question := .appendCap (len+n) cap elem
 let newCap:=q.cut (w.tape w.drawn q)
 let w1:World:={w with drawn:=w.drawn+1}
 have hge:len+n<=newCap:=by show len+n<=(len+n)+_%_;omega
 let cs:Array aaa:=old'.toArray++new'.toArray++Builtin.zeroCells z.cells (newCap-(len+n))
 have hr1:Rel P ρ h w1:=hr.grow (λk _=>rfl)
 have hcs:cs.size=newCap*i.size:=by
  simp only[cs,Builtin.zeroCells,Array.size_append,List.size_toArray,Array.size_map,Array.size_range,<- vold.1,<- vnew.1,hol,hnl,hzs];rw[<- acn,<- acn];congr 1;omega
 have st:=Step.push (t:=elem) hr1 (c:=old++new) (cs:=cs) (fz:=(0,0)) (w':={w1 with heap:=w1.heap.push (.cells cs elem)}) rfl (λi _ hi=>by simp at hi)
  (by simp only[cs,Array.size_append,aao,List.size_toArray,vold.1,vnew.1];omega)
  (λk x hx=>by
   obtain⟨y,hy,hxy⟩:=(vold.append vnew).get hx;refine⟨y,?_,hxy⟩
   have hlt:k<(old'++new').length:=by
    rcases aaN k (old'++new').length with h|h
    ·exact h
    ·rw[aat h]at hy;cases hy
   have:cs=(old'++new').toArray++Builtin.zeroCells z.cells (newCap-(len+n)):=by
    have e:old'.toArray++new'.toArray=(old'++new').toArray:=(by simp);simp only[cs];rw[e]
   rw[this,Array.getElem?_append_left (by simpa using hlt)];simpa using hy) rfl rfl rfl
 refine⟨newCap,_,⟨w.heap.size,0,cs.size,P.cellsOf elem⟩,?_,hge,rfl,rfl,sz1,by rw[hcs];exact aaj _,⟨st.le,st.rel,st.ro,st.os,st.tape,st.output,st.size,st.frame,st.pX⟩⟩;have e1:¬(len+n<=cap):=by omega
 simp only[Builtin.append_];simp only[abx,aaA,aaU,aah,zk h1,aac,sz2,zk h2,aam];rw[aaf (by cases xd <;> first|exact ab6|cases h3)];simp only[aah,hlen,aac];rw[aaf e1];simp only[aah,zk hi,aac]
 rw[aaf (by
  rintro⟨_,h|h⟩
  ·revert h;cases xd <;> first|exact ab6|cases h3
  ·omega)]
 simp only[aah,zk hi,aac];rw[aaf (by omega)];have hq:(choose (.appendCap (len+n) cap elem)).run P w=.ok newCap w1:=by rw[run_choose];rfl
 simp only[aah,hq,aac,zk hi,run_askRoom];rw[show w1 = {w with drawn:=w.drawn+1} from rfl,hold];simp only[aac];rw[aai (by cases xd <;> first|rfl|cases h3)];rw[hnew];simp only[aac,z1,aam];rfl
theorem Cs{ρ:xL}{h:za}{w:World}(hr:Rel P ρ h w){sT xT elem:TypeId}{r:TypeId}{xd:TypeDesc}{i:TypeInfo}{b off len cap n:Nat}{cs:List aaa}{pl:Place}{x':aaa}{new new':List aaa}
  (h1:z9 P (underlying sT)=some (.slice elem)) (h2:z9 P (underlying xT)=some xd) (h3:mT xd=false) (hi:z9 P (typeInfo elem)=some i)
  (hlen:∀w,(Builtin.lenOf x').run P w=.ok n w) (hfits:len+n<=cap) (hg:h.get b=some (.cells cs elem)) (hm:ρ.m b=some pl) (hro:h.ro<=b)
  (hnew:(Builtin.firstCells i.size n x').run P w=.ok new'.toArray w) (vnew:w9 ρ new new') (hnl:new.length=n*i.size) (hcell:∀x∈new,wG x=true)
  (hroom:pl.base+off+cap*i.size<=pl.size) (hhave:off+len*i.size<=cs.length) (hoff:off%i.size=0) :
  ∃w',(Builtin.append_ #[sT,xT] r #[.slice (some ⟨pl.c,pl.base+off,none⟩) len cap,x']).run P w=.ok (.slice (some ⟨pl.c,pl.base+off,none⟩) (len+n) cap) w' /\
   Step P ρ h w (ρ.ext ⟨pl.c,pl.base+off,pl.size,pl.Oa⟩) ((h.set b none).push (.cells (((cs.drop off).take (len*i.size))++new) elem)) w':=by
 obtain⟨sz1,sz2⟩:=jQ hi;obtain⟨cs',fz,g1,g2,g3,g4,g5,g6⟩:=hr.place hg hm
 have key:∀(vs vs':List aaa) (w0:World) (cc:Array aaa) (j:Nat),w0.heap[pl.c]? = some (.cells cc elem fz)->cc.size=pl.size->pl.base+off+len*i.size+j+vs.length<=pl.size->w9 ρ vs vs'->(∀x∈vs,wG x=true) ->
   ∃w',(storeCells ⟨pl.c,pl.base+off+len*i.size,none⟩ vs' j).run P w0=.ok () w'/\(∃dd:Array aaa,w'.heap[pl.c]? = some (.cells dd elem fz)/\dd.size=cc.size /\
    (∀k,(k<pl.base+off+len*i.size+j)->dd[k]? = cc[k]?)/\(∀k y,vs'[k]? = some y->dd[pl.base+off+len*i.size+j+k]? = some y)) /\
    (∀k,k≠pl.c->w'.heap[k]? = w0.heap[k]?)/\w'.os=w0.os/\w'.tape=w0.tape/\w'.output=w0.output/\w'.heap.size=w0.heap.size:=by
  intro vs
  induction vs with
  |nil=>
   intro vs' w0 cc j hb hsz _ hv _;cases hv.qj;exact⟨w0,rfl,⟨cc,hb,rfl,λ_ _=>rfl,λk y hy=>by simp at hy⟩,λ_ _=>rfl,rfl,rfl,rfl,rfl⟩
  |cons v vs ih=>
   intro vs' w0 cc j hb hsz hle hv hco;obtain⟨v',vs'',rfl,hv1,hv2⟩:=hv.cons_inv;simp only[aa3]at hle
   let p:=pl.base+off+len*i.size+j
   have hp:p<pl.size:=by show pl.base+off+len*i.size+j<pl.size;omega
   have hone:v'.oneCell'=true:=by have:=Az hv1;rw[hco v (by simp)]at this;cases v' <;> simp_all [wG,Value.oneCell']
   have hcell0:w0.cell? ⟨pl.c,p,none⟩=some cc[p]!:=by
    simp only[World.cell?,hb];simp[getElem!_def,aaL (show p<cc.size by omega)]
   have hfr:w0.frozen? ⟨pl.c,p,none⟩=false:=by
    have:=g5 (by simpa using hro) p hp;obtain⟨lo,hi'⟩:=fz;simp[World.frozen?,hb]at this ⊢;exact this
   have e1:(store ⟨pl.c,p,none⟩ v').run P w0=.ok () (w0.setCell ⟨pl.c,p,none⟩ v'):=by
    rw[run_store _ _ _ _ _ hone,hcell0];simp[hfr]
   have hb1:(w0.setCell ⟨pl.c,p,none⟩ v').heap[pl.c]? = some (.cells (cc.setIfInBounds p v') elem fz):=by simp[World.setCell,Array.getElem?_modify,hb]
   obtain⟨w',e2,⟨dd,d1,d2,d3,d4⟩,d5,d6,d7,d8,d9⟩:=ih vs'' _ (cc.setIfInBounds p v') (j+1) hb1 (by simpa using hsz) (by omega) hv2 (λx hx=>hco x (by simp[hx]));refine⟨w',?_,⟨dd,d1,by simpa using d2,λk hk=>?_,λk y hy=>?_⟩,λk hk=>(d5 k hk).trans (ah _ _ _ _ hk),d6,d7,d8,d9.trans (size_setCell _ _ _)⟩
   ·simp only[storeCells,ZH,aah];rw[show(⟨pl.c,pl.base+off+len*i.size+j,none⟩:Addr)=⟨pl.c,p,none⟩ from rfl,e1];exact e2
   ·rw[d3 k (by omega),aa2,aaf (by show p≠k;omega)]
   ·cases k with
    |zero=>
     simp only[aaA,aab]at hy;subst hy;rw[Nat.add_zero,d3 _ (by omega),aa2,aai rfl,aai (by omega)]
    |succ k=>
     have:=d4 k y (by simpa using hy);rw[show pl.base+off+len*i.size+j+(k+1)=pl.base+off+len*i.size+(j+1)+k by omega];exact this
 have hfit:pl.base+off+len*i.size+0+new.length<=pl.size:=by
  have:len*i.size+n*i.size<=cap*i.size:=by rw[<- acn];exact abN _ hfits
  omega
 obtain⟨w',e,⟨dd,d1,d2,d3,d4⟩,d5,d6,d7,d8,d9⟩:=key new new' w cs' 0 g1 g2 hfit vnew hcell;refine⟨w',?_,?_⟩
 ·simp only[Builtin.append_];simp only[abx,aaA,aaU,aah,zk h1,aac,sz2,zk h2,aam];rw[aaf (by cases xd <;> first|exact ab6|cases h3)];simp only[aah,hlen,aac];rw[aai hfits];rw[aai (by cases xd <;> first|rfl|cases h3)];simp only[aah,hnew,aac,ZH,e,aam]
 ·have hr0:=hr.drop b;have hle:=ρ.mU ⟨pl.c,pl.base+off,pl.size,pl.Oa⟩
  have hr1:Rel P ρ (h.set b none) w':=⟨hr0.next,hr0.ro,hr0.ar,λx ox hx=>by
    obtain⟨p,hp,hc⟩:=hr0.ok x ox hx;refine⟨p,hp,hc.other (d5 _ ?_)⟩;intro ec;rw[za.yJ]at hx;split at hx
    ·cases hx
    ·rename_i ne;exact ne (hr.inj x b _ _ p pl hx hg hp hm ec),hr0.inj,hr0.pf,hr0.X3⟩
  refine⟨hle,hr1.push ⟨dd,fz,d1,d2.trans g2,⟨g3.1,by
   show(pl.base+off)%pl.Oa=0;rw[Nat.add_mod,g3.2,g3.1,sz1,hoff];simp⟩,?_,λ_=>g5 (by simpa using hro),?_⟩ ?_,rfl,d6,d7,d8,by omega,λk hk hn=>d5 k (λec=>hn ⟨b,_,pl,hg,hro,hm,ec.symm⟩),?_⟩
  ·simp only[aao,aaM,abj,hnl]at hfit ⊢;have:len*i.size+n*i.size<=cap*i.size:=by rw[<- acn];exact abN _ hfits
   show pl.base+off+(min (len*i.size) (cs.length-off)+n*i.size)<=dd.size;omega
  ·intro k x hx;rcases aaN k (len*i.size) with hk|hk
   ·have hk':k<((cs.drop off).take (len*i.size)).length:=(by simp only[aaM,abj];omega);rw[aba hk',aaV hk,aaR]at hx;obtain⟨y,hy,hxy⟩:=g6 _ _ hx;exact⟨y,by rw[show(pl.base+off:Nat)+k=pl.base+(off+k) by omega,d3 _ (by omega)];exact hy,hxy.mono hle⟩
   ·have hl0:((cs.drop off).take (len*i.size)).length=len*i.size:=(by simp only[aaM,abj];omega);rw[aa8 (by omega),hl0]at hx;obtain⟨y,hy,hxy⟩:=vnew.get hx;refine⟨y,?_,hxy.mono hle⟩;have:=d4 _ _ hy;rw[show(pl.base+off:Nat)+k=pl.base+off+len*i.size+0+(k-len*i.size) by omega];exact this
  ·intro x o p hx hp ec;rw[za.yJ]at hx;split at hx
   ·cases hx
   ·rename_i ne;exact ne (hr.inj x b _ _ p pl hx hg hp hm ec)
  ·rintro k hk ⟨x,o,p,hx,hrx,hp,hpc⟩;rw[za.vY]at hx;split at hx
   ·rename_i ex;subst ex;rw[show(h.set b none).next=ρ.next from hr.next.symm,xL.jh]at hp;cases hp;exact⟨b,_,pl,hg,hro,hm,hpc⟩
   ·have hlt:=hr0.ar x o hx;have hp':ρ.m x=some p:=by rw[<- hp];exact(hle.2 x (by rw[hr0.next];exact hlt)).symm
    rw[za.yJ]at hx;split at hx
    ·cases hx
    ·exact⟨x,o,p,hx,hrx,hp',hpc⟩
end
noncomputable section
variable {P:Program}
def ux(c need:Nat):Nat :=
 match c with
 |k+2=>cond (Nat.ble need k) (k+2) 1
 |_=>1
theorem UN{c need k:Nat}(h:ux c need=k+2):c=k+2/\need<=k:=by
 unfold ux at h;split at h
 ·rename_i q;cases hq:Nat.ble need q with
  |true=>rw[hq]at h;simp only[aav]at h;exact⟨h,by have:=aaE hq;omega⟩
  |false=>rw[hq]at h;simp only[aaw]at h;omega
 ·omega
def roomFor(c need bytes:Nat):Bool:=Nat.ble (need*bytes) (cond (Nat.beq c 2) (2^48) (2^47))
def Kr(h:za)(elem:TypeId)(i:TypeInfo)(n:Nat)(new:List aaa)(s:aaa):Option (aaa×za) :=
 match s with
 | .slice none 0 0=>cond (Nat.beq n 0) (some (.slice none 0 0,h)) (cond (Nat.ble (n*i.bytes) (2^48)) (some (.slice (some ⟨h.next,0,none⟩) n 1,h.push (.cells new elem))) none)
 | .slice (some ⟨b,off,none⟩) len c=>cond (Nat.beq n 0) (some (s,h)) (match h.get b with
   |some (.cells cs t)=>cond (!(Nat.beq c 0)&&Nat.beq t elem&&Nat.ble h.ro b&&Nat.ble (off+len*i.size) cs.length&&(roomFor c (len+n) i.bytes&&Nat.beq (off%i.size) 0))
     (some (.slice (some ⟨h.next,0,none⟩) (len+n) (ux c (len+n)),(h.set b none).push (.cells (((cs.drop off).take (len*i.size))++new) elem))) none
   |_=>none)
 |_=>none
def Qw(P:Program)(sT xT:TypeId)(s x:aaa)(h:za):Option (aaa×za) :=
 match z9 P (underlying sT),z9 P (underlying xT),Kv x with
 |some (.slice elem),some xd,some n=>(match z9 P (typeInfo elem),Y7 P elem with
  |some i,some z=>(match kh h n i.size x with
   |some new=>cond (!(mT xd)&&Nat.blt 0 i.bytes&&Nat.beq z.cells.size i.size&&new.all wG&&Nat.beq new.length (n*i.size)) (Kr h elem i n new s) none
   |none=>none)
  |_,_=>none)
 |_,_,_=>none
theorem Step.My{ρ:xL}{h:za}{w:World}(hr:Rel P ρ h w)(b:Nat):Step P ρ h w ρ (h.set b none) w :=
 ⟨xL.le_refl _,hr.drop b,rfl,rfl,rfl,rfl,aaj _,λ_ _ _=>rfl,λc _ hm=>by
  obtain⟨x,o,pl,hx,h1,h2,h3⟩:=hm;rw[za.yJ]at hx;split at hx
  ·cases hx
  ·exact⟨x,o,pl,hx,h1,h2,h3⟩⟩
theorem VR{sT xT elem:TypeId}{r:TypeId}{xd:TypeDesc}{i:TypeInfo}{len cap:Nat}{base:Option Addr}{x':aaa}{w:World}
  (h1:z9 P (underlying sT)=some (.slice elem)) (h2:z9 P (underlying xT)=some xd) (h3:mT xd=false) (hi:z9 P (typeInfo elem)=some i)
  (hlen:∀w,(Builtin.lenOf x').run P w=.ok 0 w) (hl:len<=cap) (hnew:(Builtin.firstCells i.size 0 x').run P w=.ok ([]:List aaa).toArray w) :
  (Builtin.append_ #[sT,xT] r #[.slice base len cap,x']).run P w=.ok (.slice base len cap) w:=by
 obtain⟨sz1,sz2⟩:=jQ hi;simp only[Builtin.append_];simp only[abx,aaA,aaU,aah,zk h1,aac,sz2,zk h2,aam];rw[aaf (by cases xd <;> first|exact ab6|cases h3)];simp only[aah,hlen,aac];rw[aai (by omega)];rw[aai (by cases xd <;> first|rfl|cases h3)];simp only[aah,hnew,aac,Nat.add_zero];cases base with
 |none=>simp only[aam]
 |some a=>simp only[storeCells,aam,aac,aah]
set_option maxHeartbeats 1000000 in
theorem B8{ρ:xL}{sT xT r:TypeId}{s s' x x' v:aaa}{h h':za}{w:World}(he:Qw P sT xT s x h=some (v,h'))(hr:Rel P ρ h w)(hs:zO ρ s s')(hx:zO ρ x x') :
  ∃v' w' ρ',(Builtin.append_ #[sT,xT] r #[s',x']).run P w=.ok v' w'/\Step P ρ h w ρ' h' w'/\zO ρ' v v':=by
 unfold Qw at he;split at he
 case h_2=>cases he
 rename_i elem xd n h1 h2 hn;split at he
 case h_2=>cases he
 rename_i i z hi hz;split at he
 case h_2=>cases he
 rename_i new hnew;cases hc:(!(mT xd)&&Nat.blt 0 i.bytes&&Nat.beq z.cells.size i.size&&new.all wG&&Nat.beq new.length (n*i.size)) with
 |false=>rw[hc]at he;cases he
 |true=>
  rw[hc]at he;simp only[aav]at he;simp only[aad,aaq,aaB]at hc;obtain⟨⟨⟨⟨h3,hb⟩,hzs⟩,hco⟩,hnl⟩:=hc;have hb:0<i.bytes:=by simpa [aaO] using hb
  have hzs:=aal hzs;have hnl:=aal hnl;have hlen:∀w,(Builtin.lenOf x').run P w=.ok n w:=λw=>oS hn hx w;have hnx:∀b l cap,x=.slice b l cap->n<=l:=by intro b l cap e;subst e;simp only[Kv,aab]at hn;omega
  obtain⟨new',hnew',vnew⟩:=JH hnew hr hx hnx
  have hnil:n=0->(Builtin.firstCells i.size 0 x').run P w=.ok ([]:List aaa).toArray w:=by
   intro e;subst e;have:new'=[]:=by have:=vnew.1;rw[hnl,acv]at this;exact aby this.symm
   rw[this]at hnew';exact hnew'
  have hr1:Rel P ρ h {w with drawn:=w.drawn+1}:=hr.grow (λk _=>rfl);obtain⟨new1,hnew1,vnew1⟩:=JH (w:={w with drawn:=w.drawn+1}) hnew hr1 hx hnx;unfold Kr at he;split at he
  ·
   cases hs;cases hz0:Nat.beq n 0 with
   |true=>
    obtain rfl:=aal hz0;rw[hz0]at he;simp only[aav,aab,aae]at he;obtain⟨rfl,rfl⟩:=he;exact⟨_,w,ρ,VR h1 h2 h3 hi hlen (aaj 0) (hnil rfl),.refl hr,.sliceNil 0⟩
   |false=>
    rw[hz0]at he
    have hn0:0<n:=by rcases ack n with e|e; · subst e;simp at hz0
                     ·exact e
    cases hlim:Nat.ble (n*i.bytes) (2^48) with
    |false=>rw[hlim]at he;cases he
    |true=>
     rw[hlim]at he;simp only[aav,aaw,aab,aae]at he;obtain⟨rfl,rfl⟩:=he;have hlim:=aaE hlim
     obtain⟨cap',w',pl,e1,e2,e3,e4,e5,e6,st⟩:=run_append_grow (r:=r) (base:=none) (len:=0) (cap:=0) (old:=[]) (old':=[]) hr h1 h2 h3 hi hz hb hzs hlen (by omega)
      (by rw[lj _ (by omega)];simpa using hlim) (by simp[Builtin.firstCells]) hnew1 (.nil ρ) vnew1 (by simp) hnl
     rw[abt]at e1 e2;refine⟨_,w',_,e1,st,?_⟩
     have:=zO.slice (ρ:=ρ.ext pl) (b:=h.next) (off:=0) (len:=n) (c:=1) (cap:=cap') (pl:=pl) (by show h.next<ρ.next+1;rw[hr.next];exact aaJ _) (by rw[<- hr.next];exact ρ.jh _) e2
      (λ_=>⟨by rw[e4,e5];simpa using e6,λk hk=>by omega⟩)
     rw[e3,e4]at this;exact this
  ·rename_i b off len c;cases hz0:Nat.beq n 0 with
   |true=>
    obtain rfl:=aal hz0;rw[hz0]at he;simp only[aav,aab,aae]at he;obtain⟨rfl,rfl⟩:=he;cases hs with
    |slice hb' hm' hl' hc'=>exact⟨_,w,ρ,VR h1 h2 h3 hi hlen hl' (hnil rfl),.refl hr,.slice hb' hm' hl' hc'⟩
    |sliceOut hb' hc'=>exact⟨_,w,ρ,VR h1 h2 h3 hi hlen (aaj 0) (hnil rfl),.refl hr,.sliceOut hb' hc'⟩
   |false=>
    rw[hz0]at he
    have hn0:0<n:=by rcases ack n with e|e; · subst e;simp at hz0
                     ·exact e
    simp only[aaw]at he;split at he
    case h_2=>cases he
    rename_i cs t hg;cases hcc:(!(Nat.beq c 0)&&Nat.beq t elem&&Nat.ble h.ro b&&Nat.ble (off+len*i.size) cs.length&&(roomFor c (len+n) i.bytes&&Nat.beq (off%i.size) 0)) with
    |false=>rw[hcc]at he;cases he
    |true=>
     rw[hcc]at he;simp only[aav,aab,aae]at he;obtain⟨rfl,rfl⟩:=he;simp only[aad,aaq]at hcc;obtain⟨⟨⟨⟨k1,k2⟩,k3⟩,k4⟩,k5,k6⟩:=hcc;have k1:c≠0:=by intro e;subst e;simp at k1
     obtain rfl:=aal k2;have k3:=aaE k3;have k4:=aaE k4
     have hlim:∀cap,cap<len+n->(c=2->cap=0)->Builtin.nextslicecap (len+n) cap*i.bytes<=2^48:=by
      intro cap hcap h2c;unfold roomFor at k5;by_cases e2:c=2
      ·subst e2;rw[h2c rfl,lj _ (by omega)];simp only[ab4,aav]at k5;exact aaE k5
      ·rw[show Nat.beq c 2=false from Tr.beq_false e2]at k5;simp only[aaw]at k5;have k5:=aaE k5;have:=Mw (len+n) cap hcap
       calc Builtin.nextslicecap (len+n) cap*i.bytes<=(2*(len+n))*i.bytes:=abN _ this
        _=2*((len+n)*i.bytes):=Nat.mul_assoc _ _ _
        _<=2*2^47:=Nat.mul_le_mul_left _ k5
        _=2^48:=by decide
     have hdropr:=hr.drop b;cases hs with
     |slice hb' hm' hl' hc'=>
      rename_i cap pl;obtain⟨c1,c2⟩:=hc' k1;obtain⟨sz1,_⟩:=jQ hi;have hpl:=hr.place hg hm';have hesz:pl.Oa=i.size:=by obtain⟨_,_,_,_,q,_⟩:=hpl;rw[q.1,sz1]
      by_cases hfit:len+n<=cap
      ·obtain⟨w',e1,st⟩:=Cs (r:=r) hr h1 h2 h3 hi hlen hfit hg hm' k3 hnew' vnew hnl hco (by rw[<- hesz];exact c1) k4 (aal k6);refine⟨_,w',_,e1,st,?_⟩
       have:=zO.slice (ρ:=ρ.ext ⟨pl.c,pl.base+off,pl.size,pl.Oa⟩) (b:=h.next) (off:=0) (len:=len+n) (c:=ux c (len+n)) (cap:=cap) (pl:=⟨pl.c,pl.base+off,pl.size,pl.Oa⟩)
        (by show h.next<ρ.next+1;rw[hr.next];exact aaJ _) (by rw[<- hr.next];exact ρ.jh _) hfit
        (λ_=>⟨by simpa using c1,λk hk=>c2 k (UN hk).1⟩)
       simpa using this
      ·have hfull:(c=2->cap=0):=λe=>c2 0 (by omega);obtain⟨old',hold',vold⟩:=jP (hr1.place hg hm') off (len*i.size) k4
       obtain⟨cap',w',pl',e1,e2,e3,e4,e5,e6,st⟩:=run_append_grow (r:=r) (base:=some ⟨pl.c,pl.base+off,none⟩) (len:=len) (cap:=cap) hdropr h1 h2 h3 hi hz hb hzs hlen (by omega)
        (hlim cap (by omega) hfull) (by simpa only[Builtin.firstCells] using hold') hnew1 vold vnew1 (by simp only[aaM,abj];omega) hnl
       refine⟨_,w',_,e1,(Step.My hr b).trans st,?_⟩
       have:=zO.slice (ρ:=ρ.ext pl') (b:=h.next) (off:=0) (len:=len+n) (c:=ux c (len+n)) (cap:=cap') (pl:=pl') (by show h.next<ρ.next+1;rw[hr.next];exact aaJ _) (by rw[<- hr.next];exact ρ.jh _) e2
        (λ_=>⟨by rw[e4,e5];simpa using e6,λk hk=>by
         have q:=UN hk;have:=c2 k q.1;omega⟩)
       rw[e3,e4]at this;exact this
     |sliceOut hb' hc'=>
      obtain⟨cap',w',pl',e1,e2,e3,e4,e5,e6,st⟩:=run_append_grow (r:=r) (base:=some _) (len:=0) (cap:=0) (old:=(cs.drop off).take (0*i.size)) (old':=[]) hdropr h1 h2 h3 hi hz hb hzs hlen (by omega)
       (hlim 0 (by omega) (λ_=>rfl)) (by simp only[Builtin.firstCells,acv];rfl) hnew1 (by simp[w9]) vnew1 (by simp) hnl
      refine⟨_,w',_,e1,(Step.My hr b).trans st,?_⟩
      have:=zO.slice (ρ:=ρ.ext pl') (b:=h.next) (off:=0) (len:=0+n) (c:=ux c (0+n)) (cap:=cap') (pl:=pl') (by show h.next<ρ.next+1;rw[hr.next];exact aaJ _) (by rw[<- hr.next];exact ρ.jh _) e2
       (λ_=>⟨by rw[e4,e5];simpa using e6,λk hk=>by
        have q:=UN hk;omega⟩)
      rw[e3,e4]at this;exact this
  ·cases he
end
noncomputable section
variable {P:Program}
def JC(h:za)(b off:Nat)(new:List aaa):Option za :=
 cond (Nat.beq new.length 0) (some h) (match h.get b with
  |some (.cells cs t)=>cond (Nat.ble h.ro b&&Nat.ble (off+new.length) cs.length&&new.all wG) (some (h.set b (some (.cells (zp cs off new) t)))) none
  |_=>none)
theorem Cf{ρ:xL}{h h':za}{w:World}{b off:Nat}{pl:Place}{new new':List aaa}(he:JC h b off new=some h')(hr:Rel P ρ h w)(hm:ρ.m b=some pl)(hv:w9 ρ new new') :
  ∃w',(storeCells ⟨pl.c,pl.base+off,none⟩ new').run P w=.ok () w'/\Step P ρ h w ρ h' w':=by
 unfold JC at he;cases hz:Nat.beq new.length 0 with
 |true=>
  rw[hz]at he;simp only[aav,aab]at he;subst he;have:new=[]:=aby (aal hz);subst this;cases hv.qj;exact⟨w,rfl,.refl hr⟩
 |false=>
  rw[hz]at he;simp only[aaw]at he;split at he
  case h_2=>cases he
  rename_i cs t hg;cases hc:(Nat.ble h.ro b&&Nat.ble (off+new.length) cs.length&&new.all wG) with
  |false=>rw[hc]at he;cases he
  |true=>
   rw[hc]at he;simp only[aav,aab]at he;subst he;simp only[aad,aaB]at hc;exact cr (o:=off) hm new new' h w cs 0 hr hg (aaE hc.1.1) (by have:=aaE hc.1.2;omega) hv hc.2
def Ad(P:Program)(dT:TypeId)(d x:aaa)(h:za):Option (aaa×za) :=
 match z9 P (underlying dT),d,Kv x with
 |some (.slice elem),.slice base dl _,some m=>(match z9 P (typeInfo elem) with
  |none=>none
  |some i=>(match kh h (Nat.min m dl) i.size x with
   |none=>none
   |some new=>(match base with
    |none=>some (goInt (Nat.min m dl),h)
    |some ⟨b,off,none⟩=>(JC h b off new).map λh'=>(goInt (Nat.min m dl),h')
    |some _=>none)))
 |_,_,_=>none
theorem HG{ρ:xL}{dT r:TypeId}{ts:Array TypeId}{d d' x x' v:aaa}{h h':za}{w:World}(he:Ad P dT d x h=some (v,h'))(hr:Rel P ρ h w)(hd:zO ρ d d')(hx:zO ρ x x')(hts:ts[0]? = some dT) :
  ∃v' w',(Builtin.copy_ ts r #[d',x']).run P w=.ok v' w'/\Step P ρ h w ρ h' w'/\zO ρ v v':=by
 unfold Ad at he;split at he
 case h_2=>cases he
 rename_i elem base dl c m hu hm;split at he
 case h_1=>cases he
 rename_i i hi;obtain⟨sz1,sz2⟩:=jQ hi;split at he
 case h_1=>cases he
 rename_i new hnew;have hlen:=λw=>oS (P:=P) hm hx w;obtain⟨new',hnew',vnew⟩:=JH hnew hr hx (by intro b l cap e;subst e;simp only[Kv,aab]at hm;subst hm;exact Nat.min_le_left _ _);cases hd with
 |sliceNil=>
  simp only[aab,aae]at he;obtain⟨rfl,rfl⟩:=he;refine⟨goInt (Nat.min m 0),w,?_,.refl hr,.int _ _⟩;simp only[Builtin.copy_,hts];simp only[abx,aaA,aaU,aah,zk hu,aac,hlen,sz2,hnew',aam]
 |slice hb hmm hl hc=>
  simp only[aas,aae]at he;obtain⟨h2,hsp,rfl,rfl⟩:=he;obtain⟨w',e,st⟩:=Cf hsp hr hmm vnew;refine⟨_,w',?_,st,.int _ _⟩;simp only[Builtin.copy_,hts];simp only[abx,aaA,aaU,aah,zk hu,aac,hlen,sz2,hnew',e,aam];rfl
 |sliceOut hb hc=>
  simp only[aas,aae]at he;obtain⟨h2,hsp,rfl,rfl⟩:=he;have hmin:Nat.min m 0=0:=Nat.min_zero m
  have hnil:new=[]:=by
   rw[hmin]at hnew;cases hx with
   |sliceNil=>simp only[kh,aab]at hnew;exact hnew.symm
   |slice=>simp only[kh,acv,ab4,aav,aab]at hnew;exact hnew.symm
   |sliceOut=>simp only[kh,acv,ab4,aav,aab]at hnew;exact hnew.symm
   |string=>simp only[kh,aab]at hnew;rw[<- hnew];simp
   |_=>cases hm
  subst hnil;cases vnew.qj;simp only[JC,abk,ab4,aav,aab]at hsp;subst hsp;refine⟨goInt (Nat.min m 0),w,?_,.refl hr,.int _ _⟩;simp only[Builtin.copy_,hts];simp only[abx,aaA,aaU,aah,zk hu,aac,hlen,sz2,hnew',aam,storeCells]
def Ab(P:Program)(t:TypeId)(x:aaa)(h:za):Option za:=none
theorem EJ{ρ:xL}{t r:TypeId}{x x':aaa}{h h':za}{w:World}(he:Ab P t x h=some h')(hr:Rel P ρ h w)(hx:zO ρ x x') :
  ∃w',(Builtin.clear_ #[t] r #[x']).run P w=.ok undef w'/\Step P ρ h w ρ h' w':=by
 unfold Ab at he;cases he
def bytesOf:List aaa->ByteArray->Option ByteArray
 |[],s=>some s
 | .int .u8 n::l,s=>bytesOf l (s.push (UInt8.ofNat n.toNat))
 |_::_,_=>none
def Ss(h:za)(x:aaa):Option aaa :=
 match x with
 | .slice none _ _=>some (.string .empty)
 | .slice (some ⟨b,off,none⟩) n _=>cond (Nat.beq n 0) (some (.string .empty)) (match h.get b with
   |some (.cells c _)=>cond (Nat.ble (off+n) c.length) ((bytesOf ((c.drop off).take n) .empty).map .string) none
   |_=>none)
 |_=>none
theorem oY{ρ:xL}:∀(l l':List aaa) (s r:ByteArray),bytesOf l s=some r->w9 ρ l l'->∀w:World,
  (forIn l' s λc s=>(match c with
   | .int .u8 n=>pure (ForInStep.yield (s.push (UInt8.ofNat n.toNat)))
   |_=>(do stuck "bytesToString: byte expected";pure (ForInStep.yield s)):Sem (ForInStep ByteArray))).run P w=.ok r w
 |[],l',s,r,h,hv,w=>by
  cases hv.qj;simp only[bytesOf,aab]at h;subst h;rfl
 |x::l,l',s,r,h,hv,w=>by
  obtain⟨y,ys,rfl,h1,h2⟩:=hv.cons_inv;unfold bytesOf at h;split at h
  ·rename_i e;cases e
  ·rename_i e;simp only[abr]at e;obtain⟨rfl,rfl⟩:=e;cases h1;rw[List.forIn_cons];simp only[aah,aam,aac];exact oY _ _ _ _ h h2 w
  ·cases h
theorem Lx{ρ:xL}{h:za}{w:World}{x x' v:aaa}(he:Ss h x=some v)(hr:Rel P ρ h w)(hx:zO ρ x x'):(Conv.bytesToString x').run P w=.ok v w/\zO ρ v v:=by
 unfold Ss at he;split at he
 ·simp only[aab]at he;subst he;cases hx;exact⟨rfl,.string _⟩
 ·rename_i b off n c;cases hz:Nat.beq n 0 with
  |true=>
   rw[hz]at he;obtain rfl:=aal hz;simp only[aav,aab]at he;subst he;refine⟨?_,.string _⟩;cases hx <;> (simp only[Conv.bytesToString,loadCells,loadCellsFrom,aah,aam,aac];rw[<- Array.forIn_toList];rfl)
  |false=>
   rw[hz]at he;simp only[aaw]at he;split at he
   case h_2=>cases he
   rename_i cs t hg;cases hle:Nat.ble (off+n) cs.length with
   |false=>rw[hle]at he;cases he
   |true=>
    rw[hle]at he;simp only[aav,aas]at he;obtain⟨r,hb,rfl⟩:=he;refine⟨?_,.string _⟩;cases hx with
    |slice hb' hm hl hc=>
     obtain⟨ys,hys,hv⟩:=jP (hr.place hg hm) off n (aaE hle);simp only[Conv.bytesToString,aah,hys,aac];rw[<- Array.forIn_toList];have:=oY (P:=P) _ _ _ _ hb hv w;rw[show ys.toArray.toList=ys from rfl];exact(congrArg (λq:Result ByteArray=>q.andThen λa w'=>Sem.run P (pure (Value.string a)) w') this)
    |sliceOut=>simp at hz
 ·cases he
end
noncomputable section
variable {P:Program}
theorem ad{α:Type}{b:Bool}{x:Option α}{y:α}(h:cond b x none=some y):b=true/\x=some y:=by
 cases b
 ·cases h
 ·exact⟨rfl,h⟩
abbrev KT:=aaa×aaa×Nat
def iL(k:aaa):MapEntry:={key:=k,val:=undef,born:=0}
def Af(P:Program)(kt:TypeId)(k:aaa)(es:List KT):Option (Option Nat) :=
 cond (flat k&&es.all λe=>flat e.1) (match z9 P (Instr.findKey kt k (es.map λe=>iL e.1)) with
  |some (some (i,_))=>some (some i)
  |some none=>some none
  |none=>none) none
def X4(ρ:xL)(es:List KT)(ms:List MapEntry):Prop:=es.length=ms.length /\ ∀(i:Nat) x m,es[i]? = some x->ms[i]? = some m->zO ρ x.1 m.key/\zO ρ x.2.1 m.val/\m.born=x.2.2
theorem X4.tail{ρ:xL}{x:KT}{es:List KT}{m:MapEntry}{ms:List MapEntry}(h:X4 ρ (x::es) (m::ms)):(zO ρ x.1 m.key/\zO ρ x.2.1 m.val/\m.born=x.2.2)/\X4 ρ es ms :=
 ⟨h.2 0 x m rfl rfl,by simpa using h.1,λi a b ha hb=>h.2 (i+1) a b (by simpa using ha) (by simpa using hb)⟩
theorem X4.nil{ρ:xL}:X4 ρ [] []:=⟨rfl,λi x m hx=>by simp at hx⟩
theorem X4.qj{ρ:xL}{ms:List MapEntry}(h:X4 ρ [] ms):ms=[]:=aby (by have:=h.1;simpa using this.symm)
theorem X4.cons_inv{ρ:xL}{x:KT}{es:List KT}{ms:List MapEntry}(h:X4 ρ (x::es) ms):∃m ms',ms=m::ms'/\(zO ρ x.1 m.key/\zO ρ x.2.1 m.val/\m.born=x.2.2)/\X4 ρ es ms':=by
 cases ms with
 |nil=>have:=h.1;simp at this
 |cons m ms=>exact⟨m,ms,rfl,h.tail⟩
theorem X4.keys{ρ:xL}:∀{es:List KT} {ms:List MapEntry},X4 ρ es ms->(es.all λe=>flat e.1)=true->ms.map (·.key)=(es.map λe=>iL e.1).map (·.key)
 |[],ms,h,_=>by rw[h.qj];rfl
 |x::es,ms,h,hf=>by
  obtain⟨m,ms',rfl,h1,h2⟩:=h.cons_inv;simp only[acq,aad]at hf;simp only[abq];rw[jj h1.1 hf.1,X4.keys h2 hf.2];rfl
theorem iW{kind:TypeDesc}{k:aaa}:∀{ms ns:List MapEntry} {i:Nat} {r:Option (Nat×aaa)},ms.map (·.key)=ns.map (·.key)->Instr.findNow kind k ns i=some r ->
  ∃r',Instr.findNow kind k ms i=some r'/\r'.map (·.1)=r.map (·.1)
 |[],[],i,r,_,h=>by simp only[Instr.findNow,aab]at h;subst h;exact⟨none,rfl,rfl⟩
 |[],_::_,i,r,e,h=>by simp at e
 |_::_,[],i,r,e,h=>by simp at e
 |m::ms,n::ns,i,r,e,h=>by
  simp only[abq,abr]at e;simp only[Instr.findNow]at h ⊢;rw[e.1];split at h
  ·rename_i hs;simp only[aab]at h;subst h;exact⟨_,rfl,rfl⟩
  ·rename_i hs;obtain⟨r',h1,h2⟩:=iW e.2 h;exact⟨r',h1,h2⟩
  ·cases h
theorem iX{kind:TypeDesc}{k:aaa}:∀{ms ns:List MapEntry} {i:Nat},ms.map (·.key)=ns.map (·.key)->Instr.findNow kind k ns i=none->Instr.findNow kind k ms i=none
 |[],[],i,_,h=>h
 |[],_::_,i,e,h=>by simp at e
 |_::_,[],i,e,h=>by simp at e
 |m::ms,n::ns,i,e,h=>by
  simp only[abq,abr]at e;simp only[Instr.findNow]at h ⊢;rw[e.1];split at h
  ·cases h
  ·exact iX e.2 h
  ·rfl
theorem El{α β:Type}{x:Sem α}{f:α->Sem β}{r:β}(h:z9 P (x >>= f)=some r):∃a,z9 P x=some a/\z9 P (f a)=some r:=by
 induction x with
 |pure a=>exact⟨a,rfl,h⟩
 |program k ih=>exact ih P h
 |_=>cases h
theorem ae{kt:TypeId}{k:aaa}:∀{ms ns:List MapEntry} {i:Nat} {r:Option (Nat×aaa)},ms.map (·.key)=ns.map (·.key)->z9 P (Instr.findAsking kt k ns i)=some r ->
  ∃r',(∀w,(Instr.findAsking kt k ms i).run P w=.ok r' w)/\r'.map (·.1)=r.map (·.1)
 |[],[],i,r,_,h=>by
  have h:some none=some r:=h;simp only[aab]at h;subst h;exact⟨none,λw=>rfl,rfl⟩
 |[],_::_,i,r,e,h=>by simp at e
 |_::_,[],i,r,e,h=>by simp at e
 |m::ms,n::ns,i,r,e,h=>by
  simp only[abq,abr]at e;simp only[Instr.findAsking]at h;obtain⟨b,h1,h2⟩:=El h;rw[<- e.1]at h1;cases b with
  |true=>
   simp only[abM]at h2;have h2:some (some (i,n.val))=some r:=h2;simp only[aab]at h2;subst h2;exact⟨some (i,m.val),λw=>by simp only[Instr.findAsking,aah,zk h1,aac,abM,aam],rfl⟩
  |false=>
   simp only[abb,abS]at h2;obtain⟨r',h3,h4⟩:=ae e.2 h2;exact⟨r',λw=>by simp only[Instr.findAsking,aah,zk h1,aac,abb,abS,h3],h4⟩
theorem iV{kt:TypeId}{k:aaa}{ms ns:List MapEntry}{r:Option (Nat×aaa)}(e:ms.map (·.key)=ns.map (·.key))(h:z9 P (Instr.findKey kt k ns)=some r) :
  ∃r',(∀w,(Instr.findKey kt k ms).run P w=.ok r' w)/\r'.map (·.1)=r.map (·.1):=by
 simp only[Instr.findKey]at h;obtain⟨kind,h1,h2⟩:=El h;split at h2
 ·rename_i r0 hn;have h2:some r0=some r:=h2;simp only[aab]at h2;subst h2;obtain⟨r',h3,h4⟩:=iW e hn;exact⟨r',λw=>by simp only[Instr.findKey,aah,zk h1,aac,h3,aam],h4⟩
 ·rename_i hn;obtain⟨r',h3,h4⟩:=ae e h2;exact⟨r',λw=>by simp only[Instr.findKey,aah,zk h1,aac,iX e hn,h3],h4⟩
theorem AQ{kind:TypeDesc}{k:aaa}:∀{ms:List MapEntry} {i j:Nat} {v:aaa},Instr.findNow kind k ms i=some (some (j,v))->i<=j /\ ∃m,ms[j-i]? = some m/\m.val=v
 |[],i,j,v,h=>by simp[Instr.findNow]at h
 |m::ms,i,j,v,h=>by
  simp only[Instr.findNow]at h;split at h
  ·simp only[aab,aae]at h;obtain⟨rfl,rfl⟩:=h;exact⟨aaj _,m,by simp,rfl⟩
  ·obtain⟨h1,x,h2,h3⟩:=AQ h;exact⟨by omega,x,by rw[show j-i=(j-(i+1))+1 by omega,aaU];exact h2,h3⟩
  ·cases h
theorem eM{kt:TypeId}{k:aaa}:∀{ms:List MapEntry} {i j:Nat} {v:aaa} {w w':World},(Instr.findAsking kt k ms i).run P w=.ok (some (j,v)) w'->i<=j /\ ∃m,ms[j-i]? = some m/\m.val=v
 |[],i,j,v,w,w',h=>by simp[Instr.findAsking,aam]at h
 |m::ms,i,j,v,w,w',h=>by
  simp only[Instr.findAsking,aah]at h;cases he:(Op.equal kt k m.key).run P w with
  |halt a b=>rw[he]at h;cases h
  |ok b w1=>
   rw[he]at h;simp only[aac]at h;cases b with
   |true=>
    simp only[abM,aam,Result.ok.injEq,aab,aae]at h;obtain⟨⟨rfl,rfl⟩,_⟩:=h;exact⟨aaj _,m,by simp,rfl⟩
   |false=>
    simp only[abb,abS]at h;obtain⟨h1,x,h2,h3⟩:=eM h;exact⟨by omega,x,by rw[show j-i=(j-(i+1))+1 by omega,aaU];exact h2,h3⟩
theorem L6{kt:TypeId}{k:aaa}{ms:List MapEntry}{j:Nat}{v:aaa}{w w':World}(h:(Instr.findKey kt k ms).run P w=.ok (some (j,v)) w'):∃m,ms[j]? = some m/\m.val=v:=by
 simp only[Instr.findKey,aah]at h;cases he:(underlying kt).run P w with
 |halt a b=>rw[he]at h;cases h
 |ok kind w1=>
  rw[he]at h;simp only[aac]at h;split at h
  ·rename_i r hn;simp only[aam,Result.ok.injEq]at h;rw[h.1]at hn;obtain⟨_,x,h2,h3⟩:=AQ hn;exact⟨x,by simpa using h2,h3⟩
  ·obtain⟨_,x,h2,h3⟩:=eM h;exact⟨x,by simpa using h2,h3⟩
theorem XS{ρ:xL}{kt:TypeId}{k k':aaa}{es:List KT}{ms:List MapEntry}{r:Option Nat}(hk:zO ρ k k')(he:X4 ρ es ms)(h:Af P kt k es=some r) :
  k'=k /\ ∃r',(∀w,(Instr.findKey kt k' ms).run P w=.ok r' w)/\(match r with
   |none=>r'=none
   |some i=>∃x m,es[i]? = some x/\ms[i]? = some m/\r'=some (i,m.val)/\zO ρ x.2.1 m.val/\m.born=x.2.2/\m.key=x.1):=by
 unfold Af at h;obtain⟨hf,h⟩:=ad h;simp only[aad]at hf;obtain rfl:=jj hk hf.1;refine⟨rfl,?_⟩;split at h
 ·rename_i i v hs;simp only[aab]at h;subst h;obtain⟨r',h1,h2⟩:=iV (he.keys hf.2) hs;refine⟨r',h1,?_⟩;cases r' with
  |none=>simp at h2
  |some y=>
   obtain⟨j,u⟩:=y;simp only[abw,aab]at h2;subst h2;obtain⟨m,hm,rfl⟩:=L6 (h1 default)
   have hlt:j<es.length:=by
    rw[he.1];rcases aaN j ms.length with hl|hl
    ·exact hl
    ·rw[aat hl]at hm;cases hm
   have hx:=aag hlt;obtain⟨q1,q2,q3⟩:=he.2 j _ m hx hm
   have hfx:flat (es[j]).1=true:=by
    have:=hf.2;simp only[aaB]at this;exact this _ (List.getElem_mem hlt)
   exact⟨_,m,hx,hm,rfl,q2,q3,jj q1 hfx⟩
 ·rename_i hs;simp only[aab]at h;subst h;obtain⟨r',h1,h2⟩:=iV (he.keys hf.2) hs;refine⟨r',h1,?_⟩;cases r' with
  |none=>rfl
  |some y=>simp at h2
 ·cases h
theorem Xx{w:World}{l:Nat}{ms:Array MapEntry}{c:Nat}(h:w.heap[l]? = some (.map ms c)):(getObj l).run P w=.ok (.map ms c) w:=by
 simp only[getObj,Sem.run,h]
theorem JX{w:World}{l:Nat}{ms:Array MapEntry}{c:Nat}(h:w.heap[l]? = some (.map ms c))(o:Obj):(setObj l o).run P w=.ok () {w with heap:=w.heap.setIfInBounds l o}:=by
 simp only[setObj,Sem.run,h]
theorem Rel.map{ρ:xL}{h:za}{w:World}(hr:Rel P ρ h w){b:Nat}{es:List KT}{q:Nat}{pl:Place}(hg:h.get b=some (.map es q))(hm:ρ.m b=some pl) :
  ∃ms,w.heap[pl.c]? = some (.map ms q)/\X4 ρ es ms.toList:=by
 obtain⟨pl',hm',ms,h1,h2,h3⟩:=hr.ok b _ hg;rw[hm]at hm';cases hm';exact⟨ms,h1,by simp[h2],λi x m hx hm=>h3 i x m hx (by simpa using hm)⟩
theorem X4.size{ρ:xL}{es:List KT}{ms:Array MapEntry}(h:X4 ρ es ms.toList):ms.isEmpty=es.isEmpty:=by
 have:=h.1;cases es with
 |nil=>simp at this;rw[abF this.symm];rfl
 |cons x es=>simp at this;cases hs:ms.isEmpty with
  |false=>rfl
  |true=>simp at hs;subst hs;simp at this
def pr(h:za):aaa->Option (List KT)
 | .map none=>some []
 | .map (some b)=>(match h.get b with
   |some (.map es _)=>some es
   |_=>none)
 |_=>none
def Wg(P:Program)(t:TypeId)(x k:aaa)(commaOk:Bool)(h:za):Option aaa :=
 match z9 P (underlying t),pr h x with
 |some (.map kt et),some es=>(match z9 P (Instr.checkKey es.isEmpty 10000 kt k) with
  |some _=>(match Af P kt k es with
   |some (some i)=>(match es[i]? with
    |some e=>some (cond commaOk (.tuple #[e.2.1,.bool true]) e.2.1)
    |none=>none)
   |some none=>(match Y7 P et with
    |some z=>some (cond commaOk (.tuple #[z,.bool false]) z)
    |none=>none)
   |none=>none)
  |none=>none)
 |_,_=>none
theorem MS{ρ:xL}{a b a' b':aaa}(h:zO ρ a a')(k:zO ρ b b'):zO ρ (.tuple #[a,b]) (.tuple #[a',b']) :=
 .tuple rfl (λi x y hx hy=>by
  rcases i with _|_|i
  ·simp at hx hy;subst hx hy;exact h
  ·simp at hx hy;subst hx hy;exact k
  ·simp at hx)
theorem Ca{ρ:xL}{t:TypeId}{x x' k k' v:aaa}{ok:Bool}{h:za}{w:World}(he:Wg P t x k ok h=some v)(hr:Rel P ρ h w)(hx:zO ρ x x')(hk:zO ρ k k') :
  ∃v',(Instr.lookup t x' k' ok).run P w=.ok v' w/\zO ρ v v':=by
 unfold Wg at he;split at he
 case h_2=>cases he
 rename_i kt et es ht hes;split at he
 case h_2=>cases he
 rename_i hck
 obtain⟨ms,hx',hrel⟩:∃ms:Array MapEntry,((x'=.map none/\ms = #[]) \/ ∃c q,x'=.map (some c)/\w.heap[c]? = some (.map ms q))/\X4 ρ es ms.toList:=by
  cases hx with
  |mapNil=>simp only[pr,aab]at hes;subst hes;exact⟨#[],.inl ⟨rfl,rfl⟩,.nil⟩
  |map hb hm=>
   simp only[pr]at hes;split at hes
   ·rename_i g;simp only[aab]at hes;subst hes;obtain⟨ms,h1,h2⟩:=hr.map g hm;exact⟨ms,.inr ⟨_,_,rfl,h1⟩,h2⟩
   ·cases hes
  |_=>cases hes
 have hfin:∀{q q':aaa} {b:Bool},zO ρ q q'->(pure (if ok then .tuple #[q',.bool b] else q'):Sem aaa).run P w=.ok (cond ok (.tuple #[q',.bool b]) q') w/\zO ρ (cond ok (.tuple #[q,.bool b]) q) (cond ok (.tuple #[q',.bool b]) q'):=by
  intro q q' b hq;cases ok
  ·exact⟨rfl,hq⟩
  ·exact⟨rfl,MS hq (.bool b)⟩
 rw[<- hrel.size]at hck;split at he
 ·rename_i i hf;obtain⟨rfl,r',hr',x0,m,hx0,hm,rfl,q1,q2,q3⟩:=XS hk hrel hf;rw[hx0]at he;simp only[aab]at he;subst he;refine⟨_,?_,(hfin (b:=true) q1).2⟩;rcases hx' with⟨rfl,rfl⟩|⟨c,q,rfl,hg⟩
  ·simp at hm
  ·simp only[Instr.lookup,aah,zk ht,aac,Xx hg,zk hck,hr',aam];exact(hfin (b:=true) q1).1
 ·rename_i hf;split at he
  case h_2=>cases he
  rename_i z hz;simp only[aab]at he;subst he;obtain⟨z1,z2⟩:=Yp (ρ:=ρ) hz w;obtain⟨rfl,r',hr',rfl⟩:=XS hk hrel hf;refine⟨_,?_,(hfin (b:=false) z2).2⟩;rcases hx' with⟨rfl,rfl⟩|⟨c,q,rfl,hg⟩
  ·simp only[Instr.lookup,aah,zk ht,aac,zk hck,hr',z1,aam];exact(hfin (b:=false) z2).1
  ·simp only[Instr.lookup,aah,zk ht,aac,Xx hg,zk hck,hr',z1,aam];exact(hfin (b:=false) z2).1
 ·cases he
def Dl(P:Program)(t:TypeId)(x:aaa)(h:za):Option aaa :=
 match Ag P t x with
 |some v=>some v
 |none=>(match z9 P (underlying t),pr h x with
  |some (.map _ _),some es=>some (goInt es.length)
  |_,_=>none)
theorem HH{ρ:xL}{t:TypeId}{x x' v:aaa}{h:za}{w:World}(he:Dl P t x h=some v)(hr:Rel P ρ h w)(hx:zO ρ x x')(r:TypeId):(Builtin.len_ #[t] r #[x']).run P w=.ok v w/\zO ρ v v:=by
 unfold Dl at he;split at he
 ·rename_i hl;simp only[aab]at he;subst he;exact LC hl hx r w
 ·split at he
  case h_2=>cases he
  rename_i k e es ht hes;simp only[aab]at he;subst he;refine⟨?_,.int _ _⟩;cases hx with
  |mapNil=>simp only[pr,aab]at hes;subst hes;simp[Builtin.len_,zk ht]
  |map hb hm=>
   simp only[pr]at hes;split at hes
   ·rename_i g;simp only[aab]at hes;subst hes;obtain⟨ms,h1,h2⟩:=hr.map g hm;have hsz:=h2.1;simp only[abh]at hsz;simp[Builtin.len_,zk ht,Xx h1,hsz]
   ·cases hes
  |_=>cases hes
def qg(h:za):aaa×za:=(.map (some h.next),h.push (.map [] 0))
theorem Ah{ρ:xL}{h:za}{w:World}(hr:Rel P ρ h w)(t:TypeId) :
  ∃v' w' ρ',(Instr.makeMap t none).run P w=.ok v' w'/\Step P ρ h w ρ' (qg h).2 w'/\zO ρ' (qg h).1 v':=by
 let pl:Place:=⟨w.heap.size,0,0,0⟩
 refine⟨.map (some w.heap.size),{w with heap:=w.heap.push (.map #[] 0)},ρ.ext pl,rfl,Step.dE hr (ob := .map [] 0) (pl:=pl) rfl rfl ⟨#[],by simp[pl],rfl,λi x m hx=>by simp at hx⟩ rfl rfl rfl,?_⟩;exact .map (pl:=pl) (by show h.next<ρ.next+1;rw[hr.next];omega) (by rw[<- hr.next];exact ρ.jh pl)
theorem Step.Fy{ρ:xL}{h:za}{w:World}(hr:Rel P ρ h w){b:Nat}{ob:vr}{pl:Place}{wo:Obj}(g:h.get b=some ob)(hm:ρ.m b=some pl)(hro:h.ro<=b)(hg:w.heap[pl.c]? = some wo){ms':Array MapEntry}{q':Nat}{es':List KT}(hr':X4 ρ es' ms'.toList) :
  Step P ρ h w ρ (h.set b (some (.map es' q'))) {w with heap:=w.heap.setIfInBounds pl.c (.map ms' q')}:=by
 refine Step.ME hr g hm hro (ob' := .map es' q') ⟨ms',?_,by have:=hr'.1;simpa using this.symm,λi x m hx hm=>hr'.2 i x m hx (by simpa using hm)⟩ rfl rfl rfl (by simp) (λk hk=>?_)
 ·show(w.heap.setIfInBounds pl.c _)[pl.c]? = _;rw[aa2,aai rfl,aai (XY hg)]
 ·show(w.heap.setIfInBounds pl.c _)[k]? = _;rw[aa2,aaf (Ne.symm hk)]
def jG(P:Program)(t:TypeId)(x k v:aaa)(h:za):Option za :=
 match z9 P (underlying t),x with
 |some (.map kt _),.map (some b)=>(match h.get b with
  |some (.map es q)=>(match z9 P (Instr.checkKey false 10000 kt k) with
   |some _=>cond (Nat.ble h.ro b)
     (match Af P kt k es with
      |some (some i)=>(match es[i]? with
       |some e=>cond (Instr.sameBits 10000 e.1 k) (some (h.set b (some (.map (es.set i (k,v,e.2.2)) q)))) none
       |none=>none)
      |some none=>some (h.set b (some (.map (es++[(k,v,q)]) (q+1))))
      |none=>none) none
   |none=>none)
  |_=>none)
 |_,_=>none
theorem mA{ρ:xL}{t:TypeId}{x x' k k' v v':aaa}{h h':za}{w:World}(he:jG P t x k v h=some h')(hr:Rel P ρ h w)(hx:zO ρ x x')(hk:zO ρ k k')(hv:zO ρ v v') :
  ∃w',(Instr.mapUpdate t x' k' v').run P w=.ok () w'/\Step P ρ h w ρ h' w':=by
 unfold jG at he;split at he
 case h_2=>cases he
 rename_i kt et b ht;cases hx with
 |map hb hm=>
  rename_i pl;split at he
  case h_2=>cases he
  rename_i es q g;split at he
  case h_2=>cases he
  rename_i hck;obtain⟨hc,he⟩:=ad he;have hro:=aaE hc;obtain⟨ms,hg,hrel⟩:=hr.map g hm;split at he
  ·rename_i i hf;obtain⟨rfl,r',hr',x0,m,hx0,hm0,rfl,q1,q2,q3⟩:=XS hk hrel hf;rw[hx0]at he;simp only[]at he;obtain⟨hsb,he⟩:=ad he;simp only[aab]at he;subst he;have f4':ms[i]? = some m:=by simpa using hm0
   have hkey:((ms[i]?).map (·.key)).getD k'=m.key:=by rw[f4'];rfl
   rw[<- q3]at hsb;refine⟨_,?_,Step.Fy hr g hm hro hg (ms':=ms.modify i λe=>{e with key:=k',val:=v'}) ?_⟩
   ·simp only[Instr.mapUpdate,aah,zk ht,aac,Xx hg,zk hck,hr',hkey,Instr.keyThatStays,hsb,abM,aam,JX hg]
   ·refine⟨by simpa using hrel.1,λj x m1 hx hm1=>?_⟩;simp only[Array.toList_modify,List.getElem?_modify]at hm1;rw[List.getElem?_set]at hx;by_cases e:i=j
    ·subst e;rw[aai rfl]at hx;split at hx
     ·simp only[aab]at hx;subst hx;rw[hm0]at hm1;simp only[abM,Option.map_eq_map,abw,aab]at hm1;subst hm1;exact⟨hk,hv,q2⟩
     ·cases hx
    ·rw[aaf e]at hx;simp only[aaf e,Option.map_eq_map,Option.map_id']at hm1;exact hrel.2 j x m1 hx hm1
  ·rename_i hf;simp only[aab]at he;subst he;obtain⟨rfl,r',hr',rfl⟩:=XS hk hrel hf;refine⟨_,?_,Step.Fy hr g hm hro hg (ms':=ms.push {key:=k',val:=v',born:=q}) (q':=q+1) ?_⟩
   ·simp only[Instr.mapUpdate,aah,zk ht,aac,Xx hg,zk hck,hr',JX hg]
   ·refine⟨by simpa using hrel.1,λi x m1 hx hm1=>?_⟩;have hl:=hrel.1;simp only[Array.toList_push]at hm1;rcases aaN i es.length with hi|hi
    ·rw[aba hi]at hx;rw[aba (by omega)]at hm1;exact hrel.2 i x m1 hx hm1
    ·rw[aa8 hi]at hx;rw[aa8 (by omega),<- hl]at hm1;cases hn:i-es.length with
     |zero=>
      rw[hn]at hx hm1;simp only[aaA,aab]at hx hm1;subst hx hm1;exact⟨hk,hv,rfl⟩
     |succ n=>rw[hn]at hx;simp at hx
  ·cases he
def UG(P:Program)(t:TypeId)(x k:aaa)(h:za):Option za :=
 match z9 P (underlying t),x with
 |some (.map kt _),.map (some b)=>(match h.get b with
  |some (.map es q)=>(match z9 P (Instr.checkKey es.isEmpty 10000 kt k) with
   |some _=>cond (Nat.ble h.ro b)
     (match Af P kt k es with
      |some (some i)=>some (h.set b (some (.map (es.eraseIdx i) q)))
      |some none=>some h
      |none=>none) none
   |none=>none)
  |_=>none)
 |_,_=>none
theorem mz{ρ:xL}{ts:Array TypeId}{t:TypeId}{r:TypeId}{x x' k k':aaa}{h h':za}{w:World}(he:UG P t x k h=some h')(hts:ts[0]? = some t)(hr:Rel P ρ h w)(hx:zO ρ x x')(hk:zO ρ k k') :
  ∃w',(Builtin.delete_ ts r #[x',k']).run P w=.ok undef w'/\Step P ρ h w ρ h' w':=by
 unfold UG at he;split at he
 case h_2=>cases he
 rename_i kt et b ht;cases hx with
 |map hb hm=>
  rename_i pl;split at he
  case h_2=>cases he
  rename_i es q g;split at he
  case h_2=>cases he
  rename_i hck;obtain⟨hc,he⟩:=ad he;have hro:=aaE hc;obtain⟨ms,hg,hrel⟩:=hr.map g hm;rw[<- hrel.size]at hck;split at he
  ·rename_i i hf;simp only[aab]at he;subst he;obtain⟨rfl,r',hr',x0,m,hx0,hm0,rfl,q1,q2,q3⟩:=XS hk hrel hf;refine⟨_,?_,Step.Fy hr g hm hro hg (ms':=ms.eraseIdxIfInBounds i) ?_⟩
   ·simp only[Builtin.delete_,hts,abx,aaA,aaU,aah,zk ht,aac,Xx hg,zk hck,hr',JX hg,aam];rfl
   ·have e:(ms.eraseIdxIfInBounds i).toList=ms.toList.eraseIdx i:=(by simp);rw[e];refine⟨by have:=hrel.1;simp only[List.length_eraseIdx,this],λi x m1 hx hm1=>?_⟩;rw[List.getElem?_eraseIdx]at hx hm1;split at hx
    ·rename_i hi;rw[aai hi]at hm1;exact hrel.2 _ x m1 hx hm1
    ·rename_i hi;rw[aaf hi]at hm1;exact hrel.2 _ x m1 hx hm1
  ·rename_i hf;simp only[aab]at he;subst he;obtain⟨rfl,r',hr',rfl⟩:=XS hk hrel hf;refine⟨_,?_,(Step.Fy hr g hm hro hg (ms':=ms) (q':=q) hrel).same ⟨rfl,rfl,λz=>?_⟩⟩
   ·simp only[Builtin.delete_,hts,abx,aaA,aaU,aah,zk ht,aac,Xx hg,zk hck,hr',JX hg,aam];rfl
   ·rw[za.yJ];split
    ·rename_i e;subst e;exact g
    ·rfl
  ·cases he
def mC(P:Program)(t:TypeId)(x:aaa)(h:za):Option (aaa×za):=none
theorem EY{ρ:xL}{t:TypeId}{x x' v:aaa}{h h':za}{w:World}(he:mC P t x h=some (v,h'))(hr:Rel P ρ h w)(hx:zO ρ x x') :
  ∃v' w' ρ',(Instr.range t x').run P w=.ok v' w'/\Step P ρ h w ρ' h' w'/\zO ρ' v v':=by
 unfold mC at he;cases he
def leftOf(es:List KT)(seen:List Nat):List KT:=es.filter λe => !seen.contains e.2.2
def Dm(P:Program)(x:aaa)(str:Bool)(h:za):Option (aaa×za):=none
theorem X4.left{ρ:xL}(seen:List Nat):∀{es:List KT} {ms:List MapEntry},X4 ρ es ms->X4 ρ (leftOf es seen) (ms.filter λe => !seen.toArray.contains e.born)
 |[],ms,h=>by rw[h.qj];exact .nil
 |x::es,ms,h=>by
  obtain⟨m,ms',rfl,h1,h2⟩:=h.cons_inv;have ih:=X4.left seen h2;have e:(!seen.toArray.contains m.born) = !seen.contains x.2.2:=by rw[h1.2.2];simp
  simp only[leftOf,abP,e];split
  ·refine⟨by have:=ih.1;simp only[leftOf]at this;simp only[aa3,this],λi a b ha hb=>?_⟩;cases i with
   |zero=>simp at ha hb;subst ha hb;exact h1
   |succ i=>exact ih.2 i a b (by simpa [leftOf] using ha) (by simpa using hb)
  ·exact ih
theorem X4.all{ρ:xL}(last:Nat):∀{es:List KT} {ms:List MapEntry},X4 ρ es ms->(ms.all λe=>decide (e.born ≥ last))=es.all λe=>Nat.ble last e.2.2
 |[],ms,h=>by rw[h.qj];rfl
 |x::es,ms,h=>by
  obtain⟨m,ms',rfl,h1,h2⟩:=h.cons_inv;simp only[acq,X4.all last h2,h1.2.2]
  congr 1
  rw[aca];simp
theorem HM{ρ:xL}{t:TypeId}{x x' v:aaa}{str:Bool}{h h':za}{w:World}(he:Dm P x str h=some (v,h'))(hr:Rel P ρ h w)(hx:zO ρ x x') :
  ∃v' w' ρ',(Instr.next x' str t).run P w=.ok v' w'/\Step P ρ h w ρ' h' w'/\zO ρ' v v':=by
 unfold Dm at he;cases he
def EO(x:aaa)(h:za):Option aaa:=none
theorem X4.find{ρ:xL}(stamp:Nat):∀{es:List KT} {ms:List MapEntry} {e:KT},X4 ρ es ms->(es.find? λe=>Nat.beq e.2.2 stamp)=some e->∃m,(ms.find? λe=>e.born == stamp)=some m/\zO ρ e.1 m.key/\zO ρ e.2.1 m.val
 |[],ms,e,h,he=>by simp at he
 |x::es,ms,e,h,he=>by
  obtain⟨m,ms',rfl,h1,h2⟩:=h.cons_inv;rw[List.find?_cons]at he ⊢;rw[h1.2.2];cases hb:Nat.beq x.2.2 stamp with
  |true=>
   rw[hb]at he;simp only[aab]at he;subst he;have:(x.2.2 == stamp)=true:=by simpa using aal hb
   rw[this];exact⟨m,rfl,h1.1,h1.2.1⟩
  |false=>
   rw[hb]at he
   have:(x.2.2 == stamp)=false:=by
    cases hq:x.2.2 == stamp with
    |false=>rfl
    |true=>have:=beq_iff_eq.1 hq;rw[this,ab4]at hb;cases hb
   rw[this];exact X4.find stamp h2 he
theorem EP{ρ:xL}{x x' v:aaa}{h:za}{w:World}(he:EO x h=some v)(hr:Rel P ρ h w)(hx:zO ρ x x'):∃v',(Instr.entry x').run P w=.ok v' w/\zO ρ v v':=by
 unfold EO at he;cases he
end
end Go.Ai
