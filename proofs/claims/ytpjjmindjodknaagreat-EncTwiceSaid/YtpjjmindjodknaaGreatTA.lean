import Derived.Calls
import Derived.Below
import Derived.Laws.Sem
import Derived.Laws.Cells
import Derived.Laws.Entries
import GoSem.Builtin.Delete
set_option linter.unusedVariables false
set_option linter.unusedSimpArgs false
set_option maxRecDepth 100000
namespace Go
abbrev pi(b:Nat):Value:=.pointer (some ⟨b,0,none⟩)
abbrev pm(z:Int):Value:=.int .i64 z
abbrev pp:Value:=.slice none 0 0
abbrev aaa:=Value
theorem aab:type_of% @Option.some.injEq:=@Option.some.injEq
theorem aac:type_of% @Bool.and_eq_true:=@Bool.and_eq_true
theorem aad:type_of% @Go.Result.andThen_ok:=@Go.Result.andThen_ok
theorem aae:type_of% @if_neg:=@if_neg
theorem aaf:type_of% @Prod.mk.injEq:=@Prod.mk.injEq
theorem aag:type_of% @List.getElem?_eq_getElem:=@List.getElem?_eq_getElem
theorem aah:type_of% @if_pos:=@if_pos
theorem aai:type_of% @Go.Sem.run_bind:=@Go.Sem.run_bind
theorem aaj:type_of% @Nat.le_refl:=@Nat.le_refl
theorem aak:type_of% @List.mem_cons_self:=@List.mem_cons_self
theorem aal:type_of% @Nat.eq_of_beq_eq_true:=@Nat.eq_of_beq_eq_true
theorem aam:type_of% @decide_eq_false_iff_not:=@decide_eq_false_iff_not
theorem aan:type_of% @Go.Sem.run_pure:=@Go.Sem.run_pure
theorem aao:type_of% @Bool.not_eq_true':=@Bool.not_eq_true'
theorem aap:type_of% @Nat.lt_of_lt_of_le:=@Nat.lt_of_lt_of_le
theorem aaq:type_of% @List.length_map:=@List.length_map
theorem aar:type_of% @List.mem_cons_of_mem:=@List.mem_cons_of_mem
theorem aas:type_of% @List.getElem?_eq_none:=@List.getElem?_eq_none
theorem aat:type_of% @List.mem_singleton:=@List.mem_singleton
theorem aau:type_of% @Option.map_eq_some_iff:=@Option.map_eq_some_iff
theorem aav:type_of% @List.all_eq_true:=@List.all_eq_true
theorem aaw:type_of% @cond_true:=@cond_true
theorem aax:type_of% @List.mem_of_getElem?:=@List.mem_of_getElem?
theorem aay:type_of% @List.getElem?_map:=@List.getElem?_map
theorem aaz:type_of% @List.mem_cons:=@List.mem_cons
theorem aaA:type_of% @Array.getD_eq_getD_getElem?:=@Array.getD_eq_getD_getElem?
theorem aaB:type_of% @List.length_append:=@List.length_append
theorem aaC:type_of% @List.getElem?_cons_zero:=@List.getElem?_cons_zero
theorem aaD:type_of% @List.mem_append:=@List.mem_append
theorem aaE:type_of% @List.contains_eq_mem:=@List.contains_eq_mem
theorem aaF:type_of% @Nat.le_of_ble_eq_true:=@Nat.le_of_ble_eq_true
theorem aaG:type_of% @decide_eq_true_eq:=@decide_eq_true_eq
theorem aaH:type_of% @cond_false:=@cond_false
theorem aaI:type_of% @Nat.lt_or_ge:=@Nat.lt_or_ge
theorem aaJ:type_of% @Array.getElem?_eq_none:=@Array.getElem?_eq_none
theorem aaK:type_of% @List.mem_append_left:=@List.mem_append_left
theorem aaL:type_of% @Array.getElem?_eq_getElem:=@Array.getElem?_eq_getElem
theorem aaM:type_of% @List.getElem?_eq_some_iff:=@List.getElem?_eq_some_iff
theorem aaN:type_of% @Nat.blt_eq:=@Nat.blt_eq
theorem aaO:type_of% @List.filter_append:=@List.filter_append
theorem aaP:type_of% @List.append_of_mem:=@List.append_of_mem
theorem aaQ:type_of% @List.getElem?_drop:=@List.getElem?_drop
theorem aaR:type_of% @List.getElem?_cons_succ:=@List.getElem?_cons_succ
theorem aaS:type_of% @Nat.zero_le:=@Nat.zero_le
theorem aaT:type_of% @decide_eq_false:=@decide_eq_false
theorem aaU:type_of% @Nat.le_trans:=@Nat.le_trans
theorem aaV:type_of% @Bool.or_eq_true:=@Bool.or_eq_true
theorem aaW:type_of% @List.getElem?_take_of_lt:=@List.getElem?_take_of_lt
theorem aaX:type_of% @List.mem_append_right:=@List.mem_append_right
theorem aaY:type_of% @List.map_append:=@List.map_append
theorem aaZ:type_of% @List.getElem?_append_right:=@List.getElem?_append_right
theorem aa0:type_of% @List.mem_map:=@List.mem_map
theorem aa1:type_of% @decide_eq_true:=@decide_eq_true
theorem aa2:type_of% @List.getElem?_append_left:=@List.getElem?_append_left
theorem aa3:type_of% @List.length_take:=@List.length_take
theorem aa4:type_of% @List.append_assoc:=@List.append_assoc
theorem aa5:type_of% @Array.getElem?_setIfInBounds:=@Array.getElem?_setIfInBounds
theorem aa6:type_of% @Nat.lt_succ_self:=@Nat.lt_succ_self
theorem aa7:type_of% @of_decide_eq_true:=@of_decide_eq_true
theorem aa8:type_of% @Array.mem_of_getElem?:=@Array.mem_of_getElem?
theorem aa9:type_of% @List.length_eq_zero_iff:=@List.length_eq_zero_iff
theorem aba:type_of% @Bool.or_eq_false_iff:=@Bool.or_eq_false_iff
theorem abb:type_of% @Int.toNat_natCast:=@Int.toNat_natCast
theorem abc:type_of% @List.length_cons:=@List.length_cons
theorem abd:type_of% @List.getD_eq_getElem?_getD:=@List.getD_eq_getElem?_getD
theorem abe:type_of% @List.cons.injEq:=@List.cons.injEq
theorem abf:type_of% @Nat.zero_add:=@Nat.zero_add
theorem abg:type_of% @Option.some.inj:=@Option.some.inj
theorem abh:type_of% @Bool.false_eq_true:=@Bool.false_eq_true
theorem abj:type_of% @List.mem_range:=@List.mem_range
theorem abk:type_of% @beq_self_eq_true:=@beq_self_eq_true
theorem abl:type_of% @List.take_append_drop:=@List.take_append_drop
theorem abm:type_of% @List.append_nil:=@List.append_nil
theorem abn:type_of% @Option.map_some:=@Option.map_some
theorem abo:type_of% @List.map_cons:=@List.map_cons
theorem abp:type_of% @Array.length_toList:=@Array.length_toList
theorem abq:type_of% @Nat.add_assoc:=@Nat.add_assoc
theorem abr:type_of% @Bool.true_and:=@Bool.true_and
theorem abt:type_of% @List.getElem?_toArray:=@List.getElem?_toArray
theorem abu:type_of% @List.eq_nil_of_length_eq_zero:=@List.eq_nil_of_length_eq_zero
theorem abv:type_of% @List.nil_append:=@List.nil_append
theorem abw:type_of% @List.take_add_one:=@List.take_add_one
theorem abx:type_of% @Nat.le_succ:=@Nat.le_succ
theorem aby:type_of% @List.filter_congr:=@List.filter_congr
theorem abz:type_of% @List.ext_getElem?:=@List.ext_getElem?
theorem abA:type_of% @Array.eq_empty_of_size_eq_zero:=@Array.eq_empty_of_size_eq_zero
theorem abB:type_of% @List.drop_eq_getElem_cons:=@List.drop_eq_getElem_cons
theorem abC:type_of% @Option.getD_some:=@Option.getD_some
theorem abD:type_of% @List.take_length:=@List.take_length
theorem abE:type_of% @List.not_mem_nil:=@List.not_mem_nil
theorem abF:type_of% @Nat.lt_succ_of_lt:=@Nat.lt_succ_of_lt
theorem abG:type_of% @List.drop_zero:=@List.drop_zero
theorem abH:type_of% @List.length_nil:=@List.length_nil
theorem abI:type_of% @Nat.mul_one:=@Nat.mul_one
theorem abJ:type_of% @Nat.mul_le_mul_right:=@Nat.mul_le_mul_right
theorem abK:type_of% @Array.toArray_toList:=@Array.toArray_toList
theorem abL:type_of% @List.filter_cons:=@List.filter_cons
theorem abM:type_of% @List.length_drop:=@List.length_drop
theorem abN:type_of% @Nat.le_succ_of_le:=@Nat.le_succ_of_le
theorem abO:type_of% @List.getElem_of_mem:=@List.getElem_of_mem
theorem abP:type_of% @List.mem_filter:=@List.mem_filter
theorem abQ:type_of% @Array.getElem?_replicate:=@Array.getElem?_replicate
theorem abR:type_of% @List.filter_filter:=@List.filter_filter
theorem abS:type_of% @Nat.ble_eq:=@Nat.ble_eq
theorem abT:type_of% @Nat.le_of_not_lt:=@Nat.le_of_not_lt
theorem abU:type_of% @List.getElem_mem:=@List.getElem_mem
theorem abV:type_of% @List.mem_of_mem_take:=@List.mem_of_mem_take
theorem abW:type_of% @List.getElem?_of_mem:=@List.getElem?_of_mem
theorem abX:type_of% @Go.Steps.trans:=@Go.Steps.trans
theorem abY:type_of% @List.mem_map_of_mem:=@List.mem_map_of_mem
theorem abZ:type_of% @if_true:=@if_true
theorem ab0:type_of% @List.take_succ_cons:=@List.take_succ_cons
theorem ab1:type_of% @if_false:=@if_false
theorem ab2:type_of% @List.take_of_length_le:=@List.take_of_length_le
theorem ab3:type_of% @Array.ext':=@Array.ext'
theorem ab4:type_of% @Bool.not_eq_true:=@Bool.not_eq_true
theorem ab5:type_of% @Nat.beq_refl:=@Nat.beq_refl
theorem ab6:type_of% @Nat.ble_eq_true_of_le:=@Nat.ble_eq_true_of_le
theorem ab7:type_of% @Bool.false_ne_true:=@Bool.false_ne_true
theorem ab8:type_of% @List.mem_of_mem_drop:=@List.mem_of_mem_drop
theorem ab9:type_of% @Bool.eq_iff_iff:=@Bool.eq_iff_iff
theorem aca:type_of% @List.range_succ:=@List.range_succ
theorem acb:type_of% @List.flatten_cons:=@List.flatten_cons
theorem acd:type_of% @List.all_cons:=@List.all_cons
theorem ace:type_of% @List.drop_succ_cons:=@List.drop_succ_cons
theorem acf:type_of% @Int.toNat_of_nonneg:=@Int.toNat_of_nonneg
theorem acg:type_of% @Option.bind_some:=@Option.bind_some
theorem ach:type_of% @List.cons_append:=@List.cons_append
theorem aci:type_of% @Go.Checked.mixed:=@Go.Checked.mixed
theorem acj:type_of% @Bool.not_false:=@Bool.not_false
theorem ack:type_of% @Go.Sem.run_ite:=@Go.Sem.run_ite
theorem acm:type_of% @List.tail_drop:=@List.tail_drop
theorem acn:type_of% @List.filter_eq_nil_iff:=@List.filter_eq_nil_iff
theorem aco:type_of% @List.getElem?_set_self:=@List.getElem?_set_self
theorem acp:type_of% @Nat.eq_zero_or_pos:=@Nat.eq_zero_or_pos
theorem acq:type_of% @Nat.add_mul:=@Nat.add_mul
theorem acr:type_of% @Nat.min_eq_left:=@Nat.min_eq_left
theorem acs:type_of% @Nat.beq_eq:=@Nat.beq_eq
theorem acu:type_of% @List.take_zero:=@List.take_zero
theorem acv:type_of% @List.nodup_range:=@List.nodup_range
theorem acw:type_of% @Nat.sub_self:=@Nat.sub_self
theorem acx:type_of% @Nat.zero_mul:=@Nat.zero_mul
theorem acy:type_of% @List.map_nil:=@List.map_nil
theorem acz:type_of% @Bool.and_true:=@Bool.and_true
theorem acA:type_of% @Bool.false_or:=@Bool.false_or
theorem acB:type_of% @and_true:=@and_true
theorem acC:type_of% @or_false:=@or_false
theorem acD:type_of% @ne_eq:=@ne_eq
end Go
namespace Go.Ai
noncomputable section
inductive Tr (α:Type) where
 |e
 |n (v:Option α) (l r:Tr α)
namespace Tr
variable {α:Type}
def get(t:Tr α)(k:Nat):Option α :=
 @Tr.rec α (λ_=>Nat->Option α) (λ_=>none)
  (λv _ _ gl gr k=>@Bool.rec (λ_=>Option α) (@Bool.rec (λ_=>Option α) (gr (Nat.sub (Nat.div k 2) 1)) (gl (Nat.div k 2)) (Nat.beq (Nat.mod k 2) 1)) v (Nat.beq k 0)) t k
def sS(f:Nat):Tr α->Nat->Option α->Tr α :=
 @Nat.rec (λ_=>Tr α->Nat->Option α->Tr α) (λt _ _=>t)
  (λ_ ih t k x=>@Tr.rec α (λ_=>Tr α)
   (@Bool.rec (λ_=>Tr α) (@Bool.rec (λ_=>Tr α) (.n none .e (ih .e (Nat.sub (Nat.div k 2) 1) x)) (.n none (ih .e (Nat.div k 2) x) .e) (Nat.beq (Nat.mod k 2) 1)) (.n x .e .e) (Nat.beq k 0))
   (λv l r _ _=>@Bool.rec (λ_=>Tr α) (@Bool.rec (λ_=>Tr α) (.n v l (ih r (Nat.sub (Nat.div k 2) 1) x)) (.n v (ih l (Nat.div k 2) x) r) (Nat.beq (Nat.mod k 2) 1)) (.n x l r) (Nat.beq k 0)) t) f
def set(t:Tr α)(k:Nat)(x:Option α):Tr α:=sS (Nat.succ k) t k x
@[simp] theorem AB (k:Nat):(Tr.e:Tr α).get k=none:=rfl
theorem beq_false{a b:Nat}(h:a≠b):Nat.beq a b=false:=by
 cases e:Nat.beq a b
 ·rfl
 ·exact absurd (aal e) h
theorem beq_true{a b:Nat}(h:a=b):Nat.beq a b=true:=by subst h;exact ab5 a
theorem pI(v:Option α)(l r:Tr α)(k:Nat):(Tr.n v l r).get k=if k=0 then v else if k%2=1 then l.get (k/2) else r.get (k/2-1):=by
 show @Bool.rec (λ_=>Option α) (@Bool.rec (λ_=>Option α) (r.get (k/2-1)) (l.get (k/2)) (Nat.beq (k%2) 1)) v (Nat.beq k 0)=_;by_cases h:k=0
 ·rw[beq_true h,aah h]
 ·rw[beq_false h,aae h];by_cases h2:k%2=1
  ·rw[beq_true h2,aah h2]
  ·rw[beq_false h2,aae h2]
theorem zbz(f:Nat)(k:Nat)(x:Option α):sS (f+1) .e k x=sS (f+1) (.n none .e .e) k x:=rfl
theorem zbA(f:Nat)(v:Option α)(l r:Tr α)(k:Nat)(x:Option α) :
  sS (f+1) (.n v l r) k x=if k=0 then .n x l r else if k%2=1 then .n v (sS f l (k/2) x) r else .n v l (sS f r (k/2-1) x):=by
 show @Bool.rec (λ_=>Tr α) (@Bool.rec (λ_=>Tr α) (.n v l (sS f r (k/2-1) x)) (.n v (sS f l (k/2) x) r) (Nat.beq (k%2) 1)) (.n x l r) (Nat.beq k 0)=_;by_cases h:k=0
 ·rw[beq_true h,aah h]
 ·rw[beq_false h,aae h];by_cases h2:k%2=1
  ·rw[beq_true h2,aah h2]
  ·rw[beq_false h2,aae h2]
theorem OS(f:Nat):∀(t:Tr α) (k j:Nat) (x:Option α),k<f->(sS f t k x).get j=if j=k then x else t.get j:=by
 induction f with
 |zero=>intro t k j x h;omega
 |succ f ih=>
  have node:∀(v:Option α) (l r:Tr α) (k j:Nat) (x:Option α),k<f+1->(sS (f+1) (.n v l r) k x).get j=if j=k then x else (Tr.n v l r).get j:=by
   intro v l r k j x h;rw[zbA];by_cases h0:k=0
   ·subst h0;rw[aah rfl,pI,pI];by_cases hj:j=0
    ·simp[hj]
    ·simp[hj]
   ·rw[aae h0];by_cases h1:k%2=1
    ·rw[aah h1,pI,pI,ih _ _ _ _ (by omega)];by_cases hj:j=0
     ·subst hj;simp[Ne.symm h0]
     ·rw[aae hj,aae hj];by_cases hj2:j%2=1
      ·rw[aah hj2,aah hj2];by_cases e:j=k
       ·subst e;simp
       ·rw[aae e,aae (by omega)]
      ·rw[aae hj2,aae hj2,aae (by intro e;subst e;exact hj2 h1)]
    ·rw[aae h1,pI,pI,ih _ _ _ _ (by omega)];by_cases hj:j=0
     ·subst hj;simp[Ne.symm h0]
     ·rw[aae hj,aae hj];by_cases hj2:j%2=1
      ·rw[aah hj2,aah hj2,aae (by intro e;subst e;exact h1 hj2)]
      ·rw[aae hj2,aae hj2];by_cases e:j=k
       ·subst e;simp
       ·rw[aae e,aae (by omega)]
  intro t k j x h;cases t with
  |e=>
   rw[zbz,node _ _ _ _ _ _ h];by_cases e:j=k
   ·simp[e]
   ·simp only[aae e,pI,AB];split <;> (try split) <;> rfl
  |n v l r=>exact node v l r k j x h
theorem yq(t:Tr α)(k j:Nat)(x:Option α):(t.set k x).get j=if j=k then x else t.get j :=
 OS (k+1) t k j x (aa6 k)
def ofList(t:Tr α)(i:Nat):List α->Tr α
 |[]=>t
 |a::l=>ofList (t.set i (some a)) (i+1) l
theorem GQ(l:List α):∀(t:Tr α) (i j:Nat),(ofList t i l).get j=if i<=j/\j<i+l.length then l[j-i]? else t.get j:=by
 induction l with
 |nil=>intro t i j;simp[ofList];omega
 |cons a l ih=>
  intro t i j;rw[ofList,ih,yq];by_cases h:j=i
  ·subst h;rw[aae (by omega),aah rfl,aah (by simp),acw];rfl
  ·by_cases h2:i+1<=j/\j<i+1+l.length
   ·rw[aah h2,aah (by simp;omega)];have:j-i=(j-(i+1))+1:=by omega
    rw[this];rfl
   ·rw[aae h2,aae h,aae (by simp;omega)]
end Tr
structure Env where
 t:Tr Value
 size:Nat
def Env.get(s:Env)(i:Nat):Value := @Option.rec Value (λ_=>Value) undef (λv=>v) (s.t.get i)
theorem Env.get_eq(s:Env)(i:Nat):s.get i=(s.t.get i).getD undef:=by
 unfold Env.get;cases s.t.get i <;> rfl
def Env.set(s:Env)(i:Nat)(v:Value):Env := @Env.rec (λ_=>Env) (λt n=>⟨t.set i (some v),n⟩) s
theorem Env.zc2(s:Env)(i:Nat)(v:Value):(s.set i v).t=s.t.set i (some v):=rfl
def Env.put(s:Env)(d:Option Nat)(v:Value):Option Env :=
 match d with
 |none=>some s
 |some d=>cond (Nat.blt d s.size) (some (s.set d v)) none
theorem Env.yq(s:Env)(i j:Nat)(v:Value):(s.set i v).get j=if j=i then v else s.get j:=by
 simp only[Env.get_eq,Env.zc2,Tr.yq];split <;> rfl
@[simp] theorem Env.size_set (s:Env) (i:Nat) (v:Value):(s.set i v).size=s.size:=rfl
def Ll{α:Type}(n:Nat)(f:Nat->α):α := @Nat.rec (λ_=>α) (f 0) (λm _=>f (Nat.succ m)) n
theorem Hn{α:Type}(n:Nat)(f:Nat->α):Ll n f=f n:=by cases n <;> rfl
def Env.enter(args:List Value)(n:Nat):Env:=Ll (max args.length n) λk=>{t:=Tr.ofList .e 0 args,size:=k}
theorem Env.pw(args:List Value)(n:Nat):Env.enter args n = {t:=Tr.ofList .e 0 args,size:=max args.length n}:=Hn _ _
theorem Env.Mm(args:List Value)(n j:Nat):(Env.enter args n).get j=(args[j]?).getD undef:=by
 simp only[Env.get_eq,Env.pw,Tr.GQ,Tr.AB];by_cases h:j<args.length
 ·rw[aah (by omega)];rfl
 ·rw[aae (by omega),aas (by omega)]
structure VQ where
 state:LoopState
 pending:Option Code
 s:Env
 params:Array Tmp
 assign:Code
 body:Code
inductive wS where
 |cells (c:List Value) (elem:TypeId)
 |map (es:List (Value×Value×Nat)) (clock:Nat)
 |iter (m:Option Nat) (since:Nat) (seen:List Nat) (last:Nat)
 |siter (s:ByteArray) (pos:Nat)
 |tab (c:List Value)
 |loop (l:VQ)
structure za where
 t:Tr wS
 next:Nat
 ro:Nat
def za.get(h:za)(b:Nat):Option wS:=h.t.get b
def za.set(h:za)(b:Nat)(o:Option wS):za := @za.rec (λ_=>za) (λt n r=>⟨t.set b o,n,r⟩) h
def za.push(h:za)(o:wS):za := @za.rec (λ_=>za) (λt n r=>⟨t.set n (some o),Nat.succ n,r⟩) h
theorem za.yq(h:za)(b c:Nat)(o:Option wS):(h.set b o).get c=if c=b then o else h.get c:=Tr.yq _ _ _ _
theorem za.vJ(h:za)(c:Nat)(o:wS):(h.push o).get c=if c=h.next then some o else h.get c:=Tr.yq _ _ _ _
@[simp] theorem za.zcS (h:za) (b:Nat) (o:Option wS):(h.set b o).next=h.next:=rfl
@[simp] theorem za.zdB (h:za) (b:Nat) (o:Option wS):(h.set b o).ro=h.ro:=rfl
@[simp] theorem za.ay (h:za) (o:wS):(h.push o).next=h.next+1:=rfl
@[simp] theorem za.zdc (h:za) (o:wS):(h.push o).ro=h.ro:=rfl
def za.lock(h:za):za := @za.rec (λ_=>za) (λt n _=>⟨t,n,n⟩) h
structure Place where
 c:Nat
 base:Nat
 size:Nat
 IC:Nat
structure xA where
 next:Nat
 m:Nat->Option Place
def zbR(pl:Place)(off cap:Nat)(c:Nat):Prop:=c≠0->off+cap*pl.IC<=pl.size /\ ∀k,c=k+2->cap=k
def bot:Value := .complex .f32 0 0
def ry:Value->Bool
 | .bool _ | .agg _ | .tuple _=>false
 |_=>true
inductive zG (ρ:xA):Value->Value->Prop
 |ry {v:Value} (h:ry v=true):zG ρ bot v
 |bool (b:Bool):zG ρ (.bool b) (.bool b)
 |int (k:IntKind) (n:Int):zG ρ (.int k n) (.int k n)
 |float (k:FloatKind) (n:Nat):zG ρ (.float k n) (.float k n)
 |string (s:ByteArray):zG ρ (.string s) (.string s)
 |ptrNil:zG ρ (.pointer none) (.pointer none)
 |ptr {b off:Nat} {pl:Place} (hb:b<ρ.next) (hm:ρ.m b=some pl):zG ρ (.pointer (some ⟨b,off,none⟩)) (.pointer (some ⟨pl.c,pl.base+off,none⟩))
 |Y0 {g off:Nat}:zG ρ (.pointer (some ⟨g,off,some 0⟩)) (.pointer (some ⟨g,off,none⟩))
 |sliceNil (c:Nat):zG ρ (.slice none 0 c) (.slice none 0 0)
 |slice {b off len c cap:Nat} {pl:Place} (hb:b<ρ.next) (hm:ρ.m b=some pl) (hl:len<=cap) (hc:zbR pl (pl.base+off) cap c) :
   zG ρ (.slice (some ⟨b,off,none⟩) len c) (.slice (some ⟨pl.c,pl.base+off,none⟩) len cap)
 |sliceOut {b off c:Nat} {a:Addr} (hb:b<ρ.next) (hc:c<=2):zG ρ (.slice (some ⟨b,off,none⟩) 0 c) (.slice (some a) 0 0)
 |nilFunc:zG ρ .nilFunc .nilFunc
 |nilIface:zG ρ .nilIface .nilIface
 |mapNil:zG ρ (.map none) (.map none)
 |map {b:Nat} {pl:Place} (hb:b<ρ.next) (hm:ρ.m b=some pl):zG ρ (.map (some b)) (.map (some pl.c))
 |yield {b:Nat} {pl:Place} (hb:b<ρ.next) (hm:ρ.m b=some pl):zG ρ (.func (.yield b) #[] #[]) (.func (.yield pl.c) #[] #[])
 |iface {t:TypeId} {x y:Value} (h:zG ρ x y):zG ρ (.iface t x) (.iface t y)
 |func {f:FuncId} {a c a' c':Array Value} (ha:a.size=a'.size) (hc:c.size=c'.size)
   (h:∀(i:Nat) x y,a[i]? = some x->a'[i]? = some y->zG ρ x y) (h':∀(i:Nat) x y,c[i]? = some x->c'[i]? = some y->zG ρ x y):zG ρ (.func (.func f) a c) (.func (.func f) a' c')
 |agg {a a':Array Value} (ha:a.size=a'.size) (h:∀(i:Nat) x y,a[i]? = some x->a'[i]? = some y->zG ρ x y):zG ρ (.agg a) (.agg a')
 |tuple {a a':Array Value} (ha:a.size=a'.size) (h:∀(i:Nat) x y,a[i]? = some x->a'[i]? = some y->zG ρ x y):zG ρ (.tuple a) (.tuple a')
def xA.le(ρ ρ':xA):Prop:=ρ.next<=ρ'.next /\ ∀b,b<ρ.next->ρ'.m b=ρ.m b
theorem xA.le_refl(ρ:xA):ρ.le ρ:=⟨aaj _,λ_ _=>rfl⟩
theorem xA.le_trans{a b c:xA}(h:a.le b)(k:b.le c):a.le c:=⟨aaU h.1 k.1,λx hx=>(k.2 x (aap hx h.1)).trans (h.2 x hx)⟩
theorem zG.mono{ρ ρ':xA}(hle:ρ.le ρ'){v v':Value}(h:zG ρ v v'):zG ρ' v v':=by
 induction h with
 |ry h=>exact .ry h
 |bool b=>exact .bool b
 |int k n=>exact .int k n
 |float k n=>exact .float k n
 |string s=>exact .string s
 |ptrNil=>exact .ptrNil
 |ptr hb hm=>exact .ptr (aap hb hle.1) ((hle.2 _ hb).trans hm)
 |Y0=>exact .Y0
 |sliceNil c=>exact .sliceNil c
 |slice hb hm hl hc=>exact .slice (aap hb hle.1) ((hle.2 _ hb).trans hm) hl hc
 |sliceOut hb hc=>exact .sliceOut (aap hb hle.1) hc
 |nilFunc=>exact .nilFunc
 |nilIface=>exact .nilIface
 |mapNil=>exact .mapNil
 |map hb hm=>exact .map (aap hb hle.1) ((hle.2 _ hb).trans hm)
 |yield hb hm=>exact .yield (aap hb hle.1) ((hle.2 _ hb).trans hm)
 |iface _ ih=>exact .iface ih
 |func ha hc _ _ ih ih'=>exact .func ha hc ih ih'
 |agg ha _ ih=>exact .agg ha ih
 |tuple ha _ ih=>exact .tuple ha ih
def wI(ρ:xA)(xs ys:List Value):Prop:=xs.length=ys.length /\ ∀(i:Nat) x y,xs[i]? = some x->ys[i]? = some y->zG ρ x y
theorem wI.nil(ρ:xA):wI ρ [] []:=⟨rfl,λi x y h=>by simp at h⟩
theorem wI.cons{ρ:xA}{x y:Value}{xs ys:List Value}(h:zG ρ x y)(hs:wI ρ xs ys):wI ρ (x::xs) (y::ys) :=
 ⟨by simp[hs.1],λi a b ha hb=>by
  cases i with
  |zero=>simp at ha hb;subst ha hb;exact h
  |succ i=>exact hs.2 i a b (by simpa using ha) (by simpa using hb)⟩
theorem wI.cons_inv{ρ:xA}{x:Value}{xs ys:List Value}(h:wI ρ (x::xs) ys):∃y ys',ys=y::ys'/\zG ρ x y/\wI ρ xs ys':=by
 cases ys with
 |nil=>simp[wI]at h
 |cons y ys=>exact⟨y,ys,rfl,h.2 0 x y rfl rfl,by simpa using h.1,λi a b ha hb=>h.2 (i+1) a b (by simpa using ha) (by simpa using hb)⟩
theorem wI.uI{ρ:xA}{ys:List Value}(h:wI ρ [] ys):ys=[]:=by
 have:=h.1;simp at this;exact abu this.symm
theorem wI.append{ρ:xA}{a b c d:List Value}(h:wI ρ a b)(k:wI ρ c d):wI ρ (a++c) (b++d):=by
 refine⟨by simp[h.1,k.1],λi x y hx hy=>?_⟩;by_cases hi:i<a.length
 ·rw[aa2 hi]at hx;rw[aa2 (by rw[<- h.1];exact hi)]at hy;exact h.2 i x y hx hy
 ·rw[aaZ (by omega)]at hx;rw[aaZ (by rw[<- h.1];omega),<- h.1]at hy;exact k.2 _ x y hx hy
theorem wI.get{ρ:xA}{xs ys:List Value}(h:wI ρ xs ys){i:Nat}{x:Value}(hx:xs[i]? = some x):∃y,ys[i]? = some y/\zG ρ x y:=by
 have hi:i<xs.length:=by
  rcases aaI i xs.length with h|h
  ·exact h
  ·rw[aas h]at hx;cases hx
 have hj:i<ys.length:=h.1 ▸ hi;exact⟨ys[i],aag hj,h.2 i x _ hx (aag hj)⟩
def plain:Value->Bool
 | .bool _ | .int _ _ | .float _ _ | .string _ | .pointer none | .nilFunc | .nilIface | .map none=>true
 | .slice none n c=>Nat.beq n 0&&Nat.beq c 0
 | .func (.func _) a c=>Nat.beq a.size 0&&Nat.beq c.size 0
 | .tuple a=>Nat.beq a.size 0
 |_=>false
theorem Ub{a:Array Value}(h:Nat.beq a.size 0=true):a = #[]:=abA (aal h)
theorem zG.ZM(ρ:xA){v:Value}(h:plain v=true):zG ρ v v:=by
 cases v with
 |bool b=>exact .bool _
 |int k n=>exact .int _ _
 |float k n=>exact .float _ _
 |string s=>exact .string _
 |nilFunc=>exact .nilFunc
 |nilIface=>exact .nilIface
 |pointer a=>cases a <;> first|exact .ptrNil|cases h
 |map a=>cases a <;> first|exact .mapNil|cases h
 |slice a n c=>
  cases a with
  |some a=>cases h
  |none=>
   simp only[plain,aac]at h;obtain rfl:=aal h.1;obtain rfl:=aal h.2;exact .sliceNil _
 |func f a c=>
  cases f with
  |func f=>
   simp only[plain,aac]at h;obtain rfl:=Ub h.1;obtain rfl:=Ub h.2;exact .func rfl rfl (λi x y hx=>by simp at hx) (λi x y hx=>by simp at hx)
  |_=>cases h
 |tuple a=>
  obtain rfl:=Ub h;exact .tuple rfl (λi x y hx=>by simp at hx)
 |_=>cases h
def xX:Value->Bool
 | .agg _ | .tuple _=>false
 |_=>true
theorem oY{ρ:xA}{v v':Value}(h:zG ρ v v'):xX v'=xX v:=by
 cases h with
 |ry h=>cases v' <;> first|rfl|cases h
 |_=>rfl
def xN(P:Program)(ρ:xA)(wr:Bool)(c:List Value)(elem:TypeId)(pl:Place)(w:World):Prop :=
 ∃cs fz,w.heap[pl.c]? = some (.cells cs elem fz)/\cs.size=pl.size/\(pl.IC=P.cellsOf elem/\pl.base%pl.IC=0)/\pl.base+c.length<=cs.size /\
  (wr=true->∀i,i<pl.size->¬(fz.1<=i/\i<fz.2)) /\ ∀i x,c[i]? = some x->∃y,cs[pl.base+i]? = some y/\zG ρ x y
structure vL (ρ:xA) (s:Env) (tm:Array Value):Prop where
 size:s.size=tm.size
 get:∀i,zG ρ (s.get i) (tm.getD i undef)
theorem vL.mono{ρ ρ':xA}(hle:ρ.le ρ'){s:Env}{tm:Array Value}(h:vL ρ s tm):vL ρ' s tm:=⟨h.size,λi=>(h.get i).mono hle⟩
def zbT(ρ:xA)(es:List (Value×Value×Nat))(clock:Nat)(pl:Place)(w:World):Prop :=
 ∃ms,w.heap[pl.c]? = some (.map ms clock)/\ms.size=es.length /\ ∀(i:Nat) x m,es[i]? = some x->ms[i]? = some m->zG ρ x.1 m.key/\zG ρ x.2.1 m.val/\m.born=x.2.2
def zal(ρ:xA)(m:Option Nat)(since:Nat)(seen:List Nat)(last:Nat)(pl:Place)(w:World):Prop :=
 ∃m',w.heap[pl.c]? = some (.mapIter m' since seen.toArray last)/\pl.base=0/\zG ρ (.map m) (.map m')
def zan(ρ:xA)(l:VQ)(pl:Place)(w:World):Prop :=
 ∃tm d fn,w.heap[pl.c]? = some (.loop {state:=l.state,pending:=l.pending,fn:=fn,tmps:=tm,params:=l.params,assign:=l.assign,body:=l.body,defers:=d})/\vL ρ l.s tm
def vV(P:Program)(ρ:xA)(wr:Bool)(o:wS)(pl:Place)(w:World):Prop :=
 match o with
 | .cells c t=>xN P ρ wr c t pl w
 | .map es q=>zbT ρ es q pl w
 | .iter m since seen last=>zal ρ m since seen last pl w
 | .siter s pos=>w.heap[pl.c]? = some (.stringIter s pos)/\pl.base=0
 | .tab c=>∃t,xN P ρ false c t {pl with IC:=P.cellsOf t} w
 | .loop l=>zan ρ l pl w
structure Rel (P:Program) (ρ:xA) (h:za) (w:World):Prop where
 next:ρ.next=h.next
 ro:h.ro<=h.next
 KJ:∀b o,h.get b=some o->b<h.next
 ok:∀b o,h.get b=some o->∃pl,ρ.m b=some pl/\vV P ρ (decide (h.ro<=b)) o pl w
 inj:∀b1 b2 o1 o2 p1 p2,h.get b1=some o1->h.get b2=some o2->ρ.m b1=some p1->ρ.m b2=some p2->p1.c=p2.c->b1=b2
 lq:P.globals.size<=h.ro
 Y0:∀b pl,b<P.globals.size->ρ.m b=some pl->pl.c=b/\pl.base=0
def mE(ρ:xA)(h:za)(c:Nat):Prop := ∃b o pl,h.get b=some o/\h.ro<=b/\ρ.m b=some pl/\pl.c=c
structure Step (P:Program) (ρ:xA) (h:za) (w:World) (ρ':xA) (h':za) (w':World):Prop where
 le:ρ.le ρ'
 rel:Rel P ρ' h' w'
 ro:h'.ro=h.ro
 os:w'.os=w.os
 tape:w'.tape=w.tape
 output:w'.output=w.output
 size:w.heap.size<=w'.heap.size
 frame:∀c,c<w.heap.size->¬mE ρ h c->w'.heap[c]? = w.heap[c]?
 mo:∀c,c<w.heap.size->mE ρ' h' c->mE ρ h c
theorem Step.refl{P:Program}{ρ:xA}{h:za}{w:World}(hr:Rel P ρ h w):Step P ρ h w ρ h w :=
 ⟨xA.le_refl _,hr,rfl,rfl,rfl,rfl,aaj _,λ_ _ _=>rfl,λ_ _ h=>h⟩
theorem Step.trans{P:Program}{ρ ρ' ρ'':xA}{h h' h'':za}{w w' w'':World}(a:Step P ρ h w ρ' h' w')(b:Step P ρ' h' w' ρ'' h'' w'') :
  Step P ρ h w ρ'' h'' w'' :=
 ⟨xA.le_trans a.le b.le,b.rel,b.ro.trans a.ro,b.os.trans a.os,b.tape.trans a.tape,b.output.trans a.output,aaU a.size b.size,
  λc hc hn=>(b.frame c (aap hc a.size) (λhm=>hn (a.mo c hc hm))).trans (a.frame c hc hn),
  λc hc hm=>a.mo c hc (b.mo c (aap hc a.size) hm)⟩
def qj(tm:Array Value)(d:Option Nat)(v:Value):Array Value :=
 match d with
 |some d=>tm.setIfInBounds d v
 |none=>tm
theorem vL.put{ρ:xA}{s s':Env}{tm:Array Value}{d:Option Nat}{v v':Value}(h:vL ρ s tm)(hv:zG ρ v v')(hp:s.put d v=some s') :
  vL ρ s' (qj tm d v'):=by
 cases d with
 |none=>simp only[Env.put,aab]at hp;subst hp;exact h
 |some d=>
  simp only[Env.put]at hp;cases hb:Nat.blt d s.size with
  |false=>rw[hb]at hp;cases hp
  |true=>
   rw[hb]at hp;simp only[aaw,aab]at hp;subst hp;have hd:d<s.size:=by simpa [aaN] using hb
   refine⟨by simp[qj,h.size],λi=>?_⟩;rw[Env.yq];simp only[qj];by_cases e:i=d
   ·subst e;rw[aah rfl]
    have:(tm.setIfInBounds i v').getD i undef=v':=by
     simp[aaA,<- h.size,hd]
    rw[this];exact hv
   ·rw[aae e]
    have:(tm.setIfInBounds d v').getD i undef=tm.getD i undef:=by
     simp[aaA,Ne.symm e]
    rw[this];exact h.get i
end
end Go.Ai
namespace Go.Ai
noncomputable section
variable {P:Program}
theorem Rel.place{ρ:xA}{h:za}{w:World}(hr:Rel P ρ h w){b:Nat}{c:List aaa}{t:TypeId}{pl:Place}(hg:h.get b=some (.cells c t))(hm:ρ.m b=some pl) :
  xN P ρ (decide (h.ro<=b)) c t pl w:=by
 obtain⟨pl',hm',hc⟩:=hr.ok b _ hg;rw[hm]at hm';cases hm';exact hc
theorem Rel.PA{ρ:xA}{h:za}{w:World}(hr:Rel P ρ h w){b:Nat}{o:wS}{pl:Place}(hg:h.get b=some o)(hm:ρ.m b=some pl):vV P ρ (decide (h.ro<=b)) o pl w:=by
 obtain⟨pl',hm',hc⟩:=hr.ok b _ hg;rw[hm]at hm';cases hm';exact hc
theorem xN.cell{ρ:xA}{wr:Bool}{c:List aaa}{t:TypeId}{pl:Place}{w:World}(hc:xN P ρ wr c t pl w){i:Nat}{x:aaa}(hx:c[i]? = some x) :
  ∃y,w.cell? ⟨pl.c,pl.base+i,none⟩=some y/\zG ρ x y:=by
 obtain⟨cs,fz,hb,_,_,_,_,hv⟩:=hc;obtain⟨y,hy,hxy⟩:=hv i x hx;exact⟨y,by simp[World.cell?,hb,hy],hxy⟩
theorem xN.Rp{ρ:xA}{c:List aaa}{t:TypeId}{pl:Place}{w:World}(hc:xN P ρ true c t pl w){i:Nat}(hi:i<pl.size) :
  w.frozen? ⟨pl.c,i,none⟩=false:=by
 obtain⟨cs,fz,hb,_,_,_,hf,_⟩:=hc;have:=hf rfl i hi;obtain⟨lo,hi'⟩:=fz;simp[World.frozen?,hb]at this ⊢;exact this
theorem xN.other{ρ:xA}{wr:Bool}{c:List aaa}{t:TypeId}{pl:Place}{w w':World}(hc:xN P ρ wr c t pl w)(hb:w'.heap[pl.c]? = w.heap[pl.c]?):xN P ρ wr c t pl w':=by
 obtain⟨cs,fz,h1,h2⟩:=hc;exact⟨cs,fz,hb.trans h1,h2⟩
theorem xN.mono{ρ ρ':xA}(hle:ρ.le ρ'){wr:Bool}{c:List aaa}{t:TypeId}{pl:Place}{w:World}(hc:xN P ρ wr c t pl w):xN P ρ' wr c t pl w:=by
 obtain⟨cs,fz,h1,h2,h3,h4,h5,h6⟩:=hc;exact⟨cs,fz,h1,h2,h3,h4,h5,λi x hx=>by obtain⟨y,hy,hv⟩:=h6 i x hx;exact⟨y,hy,hv.mono hle⟩⟩
theorem xN.lt{ρ:xA}{wr:Bool}{c:List aaa}{t:TypeId}{pl:Place}{w:World}(hc:xN P ρ wr c t pl w):pl.c<w.heap.size:=by
 obtain⟨cs,fz,h1,_⟩:=hc;rcases aaI pl.c w.heap.size with h|h
 ·exact h
 ·rw[aaJ h]at h1;cases h1
theorem xN.Nc{ρ:xA}{c:List aaa}{t:TypeId}{pl:Place}{w:World}{wr wr':Bool}(hw:wr'=true->wr=true)(hc:xN P ρ wr c t pl w):xN P ρ wr' c t pl w:=by
 obtain⟨cs,fz,h1,h2,h3,h4,h5,h6⟩:=hc;exact⟨cs,fz,h1,h2,h3,h4,λe=>h5 (hw e),h6⟩
theorem vV.other{ρ:xA}{wr:Bool}{o:wS}{pl:Place}{w w':World}(hc:vV P ρ wr o pl w)(hb:w'.heap[pl.c]? = w.heap[pl.c]?):vV P ρ wr o pl w':=by
 cases o with
 |cells c t=>exact xN.other hc hb
 |map es q=>obtain⟨ms,h1,h2⟩:=hc;exact⟨ms,hb.trans h1,h2⟩
 |iter m a b c=>obtain⟨m',h1,h2⟩:=hc;exact⟨m',hb.trans h1,h2⟩
 |siter s pos=>exact⟨hb.trans hc.1,hc.2⟩
 |tab c=>obtain⟨t,h1⟩:=hc;exact⟨t,xN.other h1 hb⟩
 |loop l=>obtain⟨tm,d,fn,h1,h2⟩:=hc;exact⟨tm,d,fn,hb.trans h1,h2⟩
theorem vV.mono{ρ ρ':xA}(hle:ρ.le ρ'){wr:Bool}{o:wS}{pl:Place}{w:World}(hc:vV P ρ wr o pl w):vV P ρ' wr o pl w:=by
 cases o with
 |cells c t=>exact xN.mono hle hc
 |map es q=>obtain⟨ms,h1,h2,h3⟩:=hc;exact⟨ms,h1,h2,λi x m hx hm=>⟨(h3 i x m hx hm).1.mono hle,(h3 i x m hx hm).2.1.mono hle,(h3 i x m hx hm).2.2⟩⟩
 |iter m a b c=>obtain⟨m',h1,h0,h2⟩:=hc;exact⟨m',h1,h0,h2.mono hle⟩
 |tab c=>obtain⟨t,h1⟩:=hc;exact⟨t,xN.mono hle h1⟩
 |siter s pos=>exact hc
 |loop l=>obtain⟨tm,d,fn,h1,h2⟩:=hc;exact⟨tm,d,fn,h1,h2.mono hle⟩
theorem YX{w:World}{r:Nat}{o:Obj}(h:w.heap[r]? = some o):r<w.heap.size:=by
 rcases aaI r w.heap.size with hl|hl
 ·exact hl
 ·rw[aaJ hl]at h;cases h
theorem vV.lt{ρ:xA}{wr:Bool}{o:wS}{pl:Place}{w:World}(hc:vV P ρ wr o pl w):pl.c<w.heap.size:=by
 cases o with
 |cells c t=>exact xN.lt hc
 |map es q=>obtain⟨ms,h1,_⟩:=hc;exact YX h1
 |iter m a b c=>obtain⟨m',h1,_⟩:=hc;exact YX h1
 |siter s pos=>exact YX hc.1
 |tab c=>obtain⟨t,h1⟩:=hc;exact h1.lt
 |loop l=>obtain⟨tm,d,fn,h1,_⟩:=hc;exact YX h1
theorem vV.Nc{ρ:xA}{o:wS}{pl:Place}{w:World}{wr wr':Bool}(hw:wr'=true->wr=true)(hc:vV P ρ wr o pl w):vV P ρ wr' o pl w:=by
 cases o with
 |cells c t=>exact xN.Nc hw hc
 |map es q=>exact hc
 |tab c=>exact hc
 |iter m a b c=>exact hc
 |siter s pos=>exact hc
 |loop l=>exact hc
theorem Rel.drop{ρ:xA}{h:za}{w:World}(hr:Rel P ρ h w)(b:Nat):Rel P ρ (h.set b none) w:=by
 have hsub:∀x o,(h.set b none).get x=some o->h.get x=some o:=by
  intro x o hx;rw[za.yq]at hx;split at hx
  ·cases hx
  ·exact hx
 exact⟨hr.next,hr.ro,λx o hx=>hr.KJ x o (hsub x o hx),λx o hx=>hr.ok x o (hsub x _ hx),
  λb1 b2 o1 o2 p1 p2 h1 h2=>hr.inj b1 b2 o1 o2 p1 p2 (hsub _ _ h1) (hsub _ _ h2),hr.lq,hr.Y0⟩
theorem Step.Hc{ρ:xA}{h:za}{w w':World}(hr:Rel P ρ h w){b:Nat}{ob ob':wS}{pl:Place}(hg:h.get b=some ob)(hm:ρ.m b=some pl)(hro:h.ro<=b)
  (hok:vV P ρ true ob' pl w') (hos:w'.os=w.os) (htape:w'.tape=w.tape) (hout:w'.output=w.output) (hsz:w'.heap.size=w.heap.size)
  (hfr:∀k,k≠pl.c->w'.heap[k]? = w.heap[k]?):Step P ρ h w ρ (h.set b (some ob')) w':=by
 have hold:∀x o,(h.set b (some ob')).get x=some o->∃o',h.get x=some o':=by
  intro x o hx;rw[za.yq]at hx;split at hx
  ·rename_i e;subst e;exact⟨_,hg⟩
  ·exact⟨o,hx⟩
 refine⟨xA.le_refl _,⟨hr.next,hr.ro,?_,?_,?_,hr.lq,hr.Y0⟩,rfl,hos,htape,hout,by omega,?_,?_⟩
 ·intro x o hx;obtain⟨o',ho'⟩:=hold x o hx;exact hr.KJ x o' ho'
 ·intro x ox hx;rw[za.yq]at hx;split at hx
  ·rename_i e;subst e;cases hx;exact⟨pl,hm,hok.Nc (λ_=>rfl)⟩
  ·rename_i e;obtain⟨p,hp,hc⟩:=hr.ok x ox hx;refine⟨p,hp,hc.other (hfr _ ?_)⟩;intro e2;exact e (hr.inj x b _ _ p pl hx hg hp hm e2)
 ·intro b1 b2 o1 o2 p1 p2 h1 h2;obtain⟨o1',h1'⟩:=hold _ _ h1;obtain⟨o2',h2'⟩:=hold _ _ h2;exact hr.inj b1 b2 o1' o2' p1 p2 h1' h2'
 ·intro k hk hn;refine hfr k ?_;intro e;exact hn ⟨b,_,pl,hg,hro,hm,e.symm⟩
 ·rintro k hk ⟨x,o,p,hx,hrx,hp,hpc⟩;obtain⟨o',ho'⟩:=hold x o hx;exact⟨x,o',p,ho',hrx,hp,hpc⟩
theorem Step.write{ρ:xA}{h:za}{w w':World}(hr:Rel P ρ h w){b:Nat}{c c':List aaa}{t:TypeId}{pl:Place}(hg:h.get b=some (.cells c t))(hm:ρ.m b=some pl)(hro:h.ro<=b)
  (hok:xN P ρ true c' t pl w') (hos:w'.os=w.os) (htape:w'.tape=w.tape) (hout:w'.output=w.output) (hsz:w'.heap.size=w.heap.size)
  (hfr:∀k,k≠pl.c->w'.heap[k]? = w.heap[k]?):Step P ρ h w ρ (h.set b (some (.cells c' t))) w' :=
 Step.Hc hr hg hm hro (ob' := .cells c' t) hok hos htape hout hsz hfr
theorem size_setCell(w:World)(a:Addr)(v:aaa):(w.setCell a v).heap.size=w.heap.size:=by simp[World.setCell]
theorem Kz(w:World)(a:Addr)(v:aaa)(k:Nat)(h:k≠a.block):(w.setCell a v).heap[k]? = w.heap[k]?:=RowKit.Below.heap_setCell w a v k h
theorem xN.setCell{ρ:xA}{wr:Bool}{c:List aaa}{t:TypeId}{pl:Place}{w:World}(hc:xN P ρ wr c t pl w){i:Nat}{v v':aaa}(hi:i<c.length)(hv:zG ρ v v') :
  xN P ρ wr (c.set i v) t pl (w.setCell ⟨pl.c,pl.base+i,none⟩ v'):=by
 obtain⟨cs,fz,h1,h2,h3,h4,h5,h6⟩:=hc;refine⟨cs.setIfInBounds (pl.base+i) v',fz,?_,by simpa using h2,h3,by simpa using h4,h5,?_⟩
 ·simp[World.setCell,Array.getElem?_modify,h1]
 ·intro j x hx;by_cases e:j=i
  ·subst e;rw[aco hi]at hx;cases hx;exact⟨v',by rw[aa5,aah rfl,aah (by omega)],hv⟩
  ·rw[List.getElem?_set_ne (λh=>e h.symm)]at hx;obtain⟨y,hy,hxy⟩:=h6 j x hx;exact⟨y,by rw[aa5,aae (by omega)];exact hy,hxy⟩
theorem rM{ρ:xA}{h:za}{w:World}(hr:Rel P ρ h w){b:Nat}{c:List aaa}{t:TypeId}{pl:Place}(hg:h.get b=some (.cells c t))(hm:ρ.m b=some pl)(hro:h.ro<=b)
  {i:Nat} (hi:i<c.length) {v v':aaa} (hv:zG ρ v v') (hcell:xX v=true) :
  (store ⟨pl.c,pl.base+i,none⟩ v').run P w=.ok () (w.setCell ⟨pl.c,pl.base+i,none⟩ v') /\
   Step P ρ h w ρ (h.set b (some (.cells (c.set i v) t))) (w.setCell ⟨pl.c,pl.base+i,none⟩ v'):=by
 have hc:=hr.place hg hm;rw[show decide (h.ro<=b)=true by simpa using hro]at hc;obtain⟨y,hy,_⟩:=hc.cell (i:=i) (aag hi);have hsz:pl.base+i<pl.size:=by obtain⟨cs,fz,_,h2,_,h4,_⟩:=hc;omega
 have hone:v'.oneCell'=true:=by have:=oY hv;rw[hcell]at this;cases v' <;> simp_all [xX,Value.oneCell']
 refine⟨?_,Step.write hr hg hm hro (hc.setCell hi hv) rfl rfl rfl (size_setCell _ _ _) (λk hk=>Kz _ _ _ _ hk)⟩;rw[run_store _ _ _ _ _ hone,hy];simp[hc.Rp hsz]
def zt(c:List aaa)(i:Nat):List aaa->List aaa
 |[]=>c
 |v::vs=>zt (c.set i v) (i+1) vs
theorem x6(vs:List aaa):∀(c:List aaa) (i:Nat),(zt c i vs).length=c.length:=by
 induction vs with
 |nil=>intro c i;rfl
 |cons v vs ih=>intro c i;simp[zt,ih]
theorem za.set_set(h:za)(b:Nat)(x y:Option wS)(k:Nat):((h.set b x).set b y).get k=(h.set b y).get k:=by
 simp only[za.yq];split <;> rfl
structure zbU (h h':za):Prop where
 next:h'.next=h.next
 ro:h'.ro=h.ro
 get:∀b,h'.get b=h.get b
theorem Rel.same{ρ:xA}{h h':za}{w:World}(hr:Rel P ρ h w)(e:zbU h h'):Rel P ρ h' w :=
 ⟨hr.next.trans e.next.symm,by rw[e.ro,e.next];exact hr.ro,λb o hb=>by rw[e.next];exact hr.KJ b o ((e.get b) ▸ hb),
  λb o hb=>by rw[e.ro];exact hr.ok b o ((e.get b) ▸ hb),
  λb1 b2 o1 o2 p1 p2 h1 h2=>hr.inj b1 b2 o1 o2 p1 p2 ((e.get b1) ▸ h1) ((e.get b2) ▸ h2),by rw[e.ro];exact hr.lq,hr.Y0⟩
theorem Step.same{ρ ρ':xA}{h h' h'':za}{w w':World}(s:Step P ρ h w ρ' h' w')(e:zbU h' h''):Step P ρ h w ρ' h'' w' :=
 ⟨s.le,s.rel.same e,e.ro.trans s.ro,s.os,s.tape,s.output,s.size,s.frame,λc hc hm=>s.mo c hc (by
  obtain⟨b,o,pl,hb,hro,hp⟩:=hm;exact⟨b,o,pl,by rw[<- e.get];exact hb,by rw[<- e.ro];exact hro,hp⟩)⟩
theorem j1(c o i:Nat):(Addr.mk c o none).add i=⟨c,o+i,none⟩:=by
 unfold Addr.add;split
 ·rename_i h;subst h;rfl
 ·rfl
theorem JH{ρ:xA}{t:TypeId}{pl:Place}{b:Nat}{o:Nat}(hm:ρ.m b=some pl):∀(vs vs':List aaa) (h:za) (w:World) (c:List aaa) (j:Nat),Rel P ρ h w->h.get b=some (.cells c t)->h.ro<=b ->
  o+j+vs.length<=c.length->wI ρ vs vs'->(∀x∈vs,xX x=true) ->
  ∃w',(storeCells ⟨pl.c,pl.base+o,none⟩ vs' j).run P w=.ok () w'/\Step P ρ h w ρ (h.set b (some (.cells (zt c (o+j) vs) t))) w':=by
 intro vs
 induction vs with
 |nil=>
  intro vs' h w c j hr hg hro hl hv hcell;cases hv.uI;refine⟨w,rfl,(Step.refl hr).same ⟨rfl,rfl,λx=>?_⟩⟩;rw[za.yq];split
  ·rename_i e;subst e;exact hg.symm
  ·rfl
 |cons v vs ih=>
  intro vs' h w c j hr hg hro hl hv hcell;obtain⟨v',vs'',rfl,hv1,hv2⟩:=hv.cons_inv;simp only[abc]at hl;obtain⟨e1,s1⟩:=rM hr hg hm hro (i:=o+j) (by omega) hv1 (hcell v (by simp));obtain⟨w',e2,s2⟩:=ih vs'' _ _ (c.set (o+j) v) (j+1) s1.rel (by rw[za.yq,aah rfl]) hro (by simp;omega) hv2 (λx hx=>hcell x (by simp[hx]));refine⟨w',?_,(s1.trans s2).same ⟨rfl,rfl,λx=>?_⟩⟩
  ·simp only[storeCells,j1,aai,abq]at e1 ⊢;rw[e1];exact e2
  ·rw[za.set_set];rfl
def xA.ext(ρ:xA)(pl:Place):xA:={next:=ρ.next+1,m:=λb=>if b=ρ.next then some pl else ρ.m b}
theorem xA.ij(ρ:xA)(pl:Place):ρ.le (ρ.ext pl):=⟨abx _,λ_ hb=>aae (Nat.ne_of_lt hb)⟩
theorem xA.kq(ρ:xA)(pl:Place):(ρ.ext pl).m ρ.next=some pl:=aah rfl
theorem Rel.aF{ρ:xA}{h:za}{w:World}(hr:Rel P ρ h w){ob:wS}{pl:Place}(hc:vV P (ρ.ext pl) true ob pl w)
  (hfresh:∀b o p,h.get b=some o->ρ.m b=some p->p.c≠pl.c):Rel P (ρ.ext pl) (h.push ob) w:=by
 have hle:=ρ.ij pl
 have hcase:∀x o,(h.push ob).get x=some o->(x=h.next/\o=ob)\/(x<h.next/\h.get x=some o):=by
  intro x o hx;rw[za.vJ]at hx;split at hx
  ·rename_i e;cases hx;exact .inl ⟨e,rfl⟩
  ·exact .inr ⟨hr.KJ x o hx,hx⟩
 have hold:∀x,x<h.next->(ρ.ext pl).m x=ρ.m x:=λx hx=>hle.2 x (by rw[hr.next];exact hx);have hnew:(ρ.ext pl).m h.next=some pl:=by rw[<- hr.next];exact ρ.kq pl
 refine⟨by show ρ.next+1=h.next+1;rw[hr.next],aaU hr.ro (abx _),?_,?_,?_,hr.lq,λb p hb hm=>hr.Y0 b p hb (by rw[<- hold b (aap hb (aaU hr.lq hr.ro))];exact hm)⟩
 ·intro x o hx;rcases hcase x o hx with⟨e,_⟩|⟨hlt,_⟩
  ·subst e;exact aa6 _
  ·exact abF hlt
 ·intro x ox hx;rcases hcase x _ hx with⟨e,eo⟩|⟨hlt,hx'⟩
  ·cases eo;subst e;exact⟨pl,hnew,hc.Nc (λ_=>rfl)⟩
  ·obtain⟨p,hp,hcx⟩:=hr.ok x ox hx';exact⟨p,(hold x hlt).trans hp,hcx.mono hle⟩
 ·intro b1 b2 o1 o2 p1 p2 h1 h2 m1 m2 e;rcases hcase b1 o1 h1 with⟨e1,_⟩|⟨l1,g1⟩ <;> rcases hcase b2 o2 h2 with⟨e2,_⟩|⟨l2,g2⟩
  ·omega
  ·subst e1;rw[hnew]at m1;cases m1;rw[hold _ l2]at m2;exact absurd e.symm (hfresh b2 o2 p2 g2 m2)
  ·subst e2;rw[hnew]at m2;cases m2;rw[hold _ l1]at m1;exact absurd e (hfresh b1 o1 p1 g1 m1)
  ·rw[hold _ l1]at m1;rw[hold _ l2]at m2;exact hr.inj b1 b2 o1 o2 p1 p2 g1 g2 m1 m2 e
theorem Rel.push{ρ:xA}{h:za}{w:World}(hr:Rel P ρ h w){c:List aaa}{t:TypeId}{pl:Place}(hc:xN P (ρ.ext pl) true c t pl w)
  (hfresh:∀b o p,h.get b=some o->ρ.m b=some p->p.c≠pl.c):Rel P (ρ.ext pl) (h.push (.cells c t)) w:=hr.aF (ob := .cells c t) hc hfresh
theorem Rel.grow{ρ:xA}{h:za}{w w':World}(hr:Rel P ρ h w)(hold:∀k,k<w.heap.size->w'.heap[k]? = w.heap[k]?):Rel P ρ h w' :=
 ⟨hr.next,hr.ro,hr.KJ,λb o hb=>by obtain⟨pl,hp,hc⟩:=hr.ok b o hb;exact⟨pl,hp,hc.other (hold _ hc.lt)⟩,hr.inj,hr.lq,hr.Y0⟩
theorem Step.aF{ρ:xA}{h:za}{w w':World}(hr:Rel P ρ h w){ob:wS}{pl:Place}{wo:Obj}(hpl:pl.c=w.heap.size)
  (hnew:w'.heap=w.heap.push wo) (hok:vV P (ρ.ext pl) true ob pl w')
  (hos:w'.os=w.os) (htape:w'.tape=w.tape) (hout:w'.output=w.output) :
  Step P ρ h w (ρ.ext pl) (h.push ob) w':=by
 have hold:∀k,k<w.heap.size->w'.heap[k]? = w.heap[k]?:=by
  intro k hk;rw[hnew,Array.getElem?_push,aae (by omega)]
 have hle:=ρ.ij pl;have hr':=hr.grow hold;refine⟨hle,hr'.aF hok ?_,rfl,hos,htape,hout,by rw[hnew];simp,λk hk _=>hold k hk,?_⟩
 ·intro b o p hg hm e;obtain⟨p',hp',hcx⟩:=hr.ok b o hg;rw[hm]at hp';cases hp';have:=hcx.lt;omega
 ·rintro k hk ⟨b,o,p,hg,hro,hm,e⟩;rw[za.vJ]at hg;split at hg
  ·rename_i eb;subst eb;rw[<- hr.next,xA.kq]at hm;cases hm;omega
  ·have hlt:=hr.KJ b o hg;refine⟨b,o,p,hg,hro,?_,e⟩;rw[<- hm];exact(hle.2 b (by rw[hr.next];exact hlt)).symm
theorem Step.push{ρ:xA}{h:za}{w w':World}(hr:Rel P ρ h w){c:List aaa}{t:TypeId}{cs:Array aaa}{fz:Nat×Nat}
  (hnew:w'.heap=w.heap.push (.cells cs t fz)) (hfz:∀i,i<cs.size->¬(fz.1<=i/\i<fz.2)) (hlen:c.length<=cs.size) (hv:∀(i:Nat) x,c[i]? = some x->∃y,cs[i]? = some y/\zG ρ x y)
  (hos:w'.os=w.os) (htape:w'.tape=w.tape) (hout:w'.output=w.output) :
  Step P ρ h w (ρ.ext ⟨w.heap.size,0,cs.size,P.cellsOf t⟩) (h.push (.cells c t)) w':=by
 refine Step.aF hr (ob := .cells c t) rfl hnew ⟨cs,fz,by rw[hnew];simp,rfl,⟨rfl,Nat.zero_mod _⟩,by simpa using hlen,λ_=>hfz,?_⟩ hos htape hout;intro i x hx;obtain⟨y,hy,hxy⟩:=hv i x hx;exact⟨y,by simpa using hy,hxy.mono (ρ.ij _)⟩
theorem cX{ρ:xA}{h:za}{w:World}(hr:Rel P ρ h w){c:List aaa}{t:TypeId}{cs:Array aaa}(hlen:c.length<=cs.size)(hv:∀(i:Nat) x,c[i]? = some x->∃y,cs[i]? = some y/\zG ρ x y) :
  (newRow t cs).run P w=.ok ⟨w.heap.size,0,none⟩ {w with heap:=w.heap.push (.cells cs t)} /\
   Step P ρ h w (ρ.ext ⟨w.heap.size,0,cs.size,P.cellsOf t⟩) (h.push (.cells c t)) {w with heap:=w.heap.push (.cells cs t)} :=
 ⟨rfl,Step.push hr rfl (λi _ hi=>by simp at hi) hlen hv rfl rfl rfl⟩
theorem zG.new{ρ:xA}{h:za}{w:World}(hr:Rel P ρ h w)(pl:Place)(hb:pl.base=0):zG (ρ.ext pl) (.pointer (some ⟨h.next,0,none⟩)) (.pointer (some ⟨pl.c,0,none⟩)):=by
 have:=zG.ptr (ρ:=ρ.ext pl) (b:=h.next) (off:=0) (pl:=pl) (by show h.next<ρ.next+1;rw[hr.next];exact aa6 _) (by rw[<- hr.next];exact ρ.kq pl);rw[hb]at this;exact this
theorem jg{ρ:xA}{wr:Bool}{c:List aaa}{t:TypeId}{pl:Place}{w:World}(hc:xN P ρ wr c t pl w)(o n:Nat)(h:o+n<=c.length) :
  ∃ys:List aaa,(loadCells ⟨pl.c,pl.base+o,none⟩ n).run P w=.ok ys.toArray w/\wI ρ ((c.drop o).take n) ys:=by
 obtain⟨cs,fz,h1,h2,h3,h4,h5,h6⟩:=hc;refine⟨((cs.toList.drop (pl.base+o)).take n),?_,?_,?_⟩
 ·have hlen:((cs.toList.drop (pl.base+o)).take n).length=n:=by simp;omega
  have:=run_loadCells_list (P:=P) w ⟨pl.c,pl.base+o,none⟩ ((cs.toList.drop (pl.base+o)).take n) (λj v hj=>by
   have hjn:j<n:=by
    rcases aaI j n with h|h
    ·exact h
    ·rw[aas (by omega)]at hj;cases hj
   rw[aaW hjn,aaQ]at hj;rw[j1];simp[World.cell?,h1];simpa using hj)
  rw[hlen]at this;exact this
 ·simp;omega
 ·intro i x y hx hy
  have hi:i<n:=by
   rcases aaI i n with h|h
   ·exact h
   ·rw[aas (by simp;omega)]at hx;cases hx
  rw[aaW hi,aaQ]at hx hy;obtain⟨y',hy',hxy⟩:=h6 _ _ hx
  have:y=y':=by
   have e:pl.base+(o+i)=pl.base+o+i:=by omega
   rw[e]at hy';have hy2:cs[pl.base+o+i]? = some y:=by simpa using hy
   rw[hy2]at hy';cases hy';rfl
  rw[this];exact hxy
end
noncomputable section
def yd{α:Type}(P:Program):Sem α->Option α
 | .pure a=>some a
 | .program k=>yd P (k P)
 |_=>none
theorem zh{α:Type}{P:Program}{s:Sem α}{a:α}(h:yd P s=some a)(w:World):s.run P w=.ok a w:=by
 induction s with
 |pure b=>simp only[yd,aab]at h;subst h;rfl
 |program k ih=>simp only[yd]at h;exact ih P h
 |_=>cases h
def flat:aaa->Bool
 | .agg a=>a.toList.all plain
 |v=>plain v
theorem Fp{ρ:xA}{v v':aaa}(h:zG ρ v v')(hp:plain v=true):v'=v:=by
 cases h with
 |ry h=>cases hp
 |bool|int|float|string|ptrNil|nilFunc|nilIface|mapNil=>rfl
 |ptr|Y0|slice|sliceOut|iface|agg|map|yield=>simp[plain]at hp
 |sliceNil c=>simp only[plain,aac]at hp;obtain rfl:=aal hp.2;rfl
 |func ha hc _ _=>
  simp only[plain,aac]at hp;obtain rfl:=Ub hp.1;obtain rfl:=Ub hp.2;rw[abA ha.symm,abA hc.symm]
 |tuple ha _=>
  obtain rfl:=Ub hp;rw[abA ha.symm]
theorem pX{xs ys:List aaa}(hl:xs.length=ys.length)(h:∀(i:Nat) x y,xs[i]? = some x->ys[i]? = some y->y=x):ys=xs:=by
 apply abz;intro i;rcases aaI i xs.length with hi|hi
 ·rw[aag hi,aag (hl ▸ hi)]
  congr 1
  exact h i _ _ (aag hi) (aag (hl ▸ hi))
 ·rw[aas hi,aas (by omega)]
theorem kr{ρ:xA}{v v':aaa}(h:zG ρ v v')(hp:flat v=true):v'=v:=by
 cases h with
 |agg ha hv=>
  rename_i a a';simp only[flat,aav]at hp
  congr 1
  apply ab3;refine pX (by simpa using ha) (λi x y hx hy=>?_);exact Fp (hv i x y (by simpa using hx) (by simpa using hy)) (hp x (aax hx))
 |_=>first|rfl|exact Fp (ρ:=ρ) (by constructor <;> assumption) hp
theorem zG.of_flat(ρ:xA){v:aaa}(h:flat v=true):zG ρ v v:=by
 cases v with
 |agg a=>
  simp only[flat,aav]at h
  exact .agg rfl (λi x y hx hy=>by
   rw[hx]at hy;cases hy;exact .ZM ρ (h x (aax (by simpa using hx))))
 |_=>exact .ZM ρ h
def kT(s:Env):Operand->Option aaa
 | .tmp t=>some (s.get t)
 | .const v=>cond (flat v) (some v) none
 | .global g=>some (.pointer (some ⟨g,0,some 0⟩))
 | .func f=>some (.func (.func f) #[] #[])
theorem zW{ρ:xA}{s:Env}{a:Act}(hs:vL ρ s a.tmps){x:Operand}{v:aaa}(h:kT s x=some v):zG ρ v (a.eval x):=by
 cases x with
 |tmp t=>simp only[kT,aab]at h;subst h;exact hs.get t
 |const c=>
  simp only[kT]at h;cases hf:flat c with
  |false=>rw[hf]at h;cases h
  |true=>rw[hf]at h;simp only[aaw,aab]at h;subst h;exact .of_flat ρ hf
 |global g=>simp only[kT,aab]at h;subst h;exact .Y0
 |func f=>simp only[kT,aab]at h;subst h;exact .ZM ρ rfl
def VO(s:Env):List Operand->Option (List aaa)
 |[]=>some []
 |x::xs=>match kT s x with
  |none=>none
  |some v=>match VO s xs with
   |none=>none
   |some vs=>some (v::vs)
theorem jU{ρ:xA}{s:Env}{a:Act}(hs:vL ρ s a.tmps):∀{xs:List Operand} {vs:List aaa},VO s xs=some vs->wI ρ vs (xs.map a.eval)
 |[],vs,h=>by simp only[VO,aab]at h;subst h;exact .nil ρ
 |x::xs,vs,h=>by
  simp only[VO]at h;split at h
  ·cases h
  ·rename_i v hv;split at h
   ·cases h
   ·rename_i vs' hvs;simp only[aab]at h;subst h;exact .cons (zW hs hv) (jU hs hvs)
theorem zG.cells{ρ:xA}{v v':aaa}(h:zG ρ v v'):wI ρ v.cells.toList v'.cells.toList:=by
 cases h with
 |agg ha hv=>exact⟨by simpa [Value.cells] using ha,λi x y hx hy=>hv i x y (by simpa [Value.cells] using hx) (by simpa [Value.cells] using hy)⟩
 |ry h=>cases v' <;> first|exact .cons (.ry h) (.nil ρ)|cases h
 |_=>exact .cons (by constructor <;> assumption) (.nil ρ)
def apart(P:Program)(t:TypeId)(cs:List aaa)(off:Nat):Option aaa :=
 match yd P (isAgg t) with
 |none=>none
 |some true=>(match yd P (sizeOf t) with
  |none=>none
  |some n=>some (.agg ((cs.drop off).take n).toArray))
 |some false=>cs[off]?
theorem D9{P:Program}{ρ:xA}{t:TypeId}{cs:List aaa}{cs':Array aaa}{off:Nat}{v:aaa}(h:apart P t cs off=some v)(hc:wI ρ cs cs'.toList)(w:World) :
  ∃v',(part t cs' off).run P w=.ok v' w/\zG ρ v v':=by
 simp only[apart]at h;split at h
 ·cases h
 ·rename_i hagg;split at h
  ·cases h
  ·rename_i n hn;simp only[aab]at h;subst h;refine⟨_,by simp only[part,aai,zh hagg,aad,abZ,zh hn,aan];rfl,?_⟩;refine .agg ?_ ?_
   ·simp only[List.size_toArray,aa3,abM,Array.size_extract,hc.1,abp];omega
   ·intro i x y hx hy;rw[abt]at hx;rw[Array.getElem?_extract]at hy;split at hy
    ·rename_i hi;rw[aaW (by omega),aaQ]at hx;exact hc.2 _ _ _ hx (by simpa using hy)
    ·cases hy
 ·rename_i hagg;obtain⟨y,hy,hxy⟩:=hc.get h;refine⟨y,?_,hxy⟩;have hy':cs'[off]? = some y:=by simpa using hy
  simp only[part,aai,zh hagg,aad,abh,ab1,hy',aan]
def zd(P:Program)(t:TypeId)(a:aaa)(h:za):Option aaa :=
 match a with
 | .pointer (some ⟨b,off,none⟩)=>(match h.get b with
   |none=>none
   |some (.cells c _)=>(match yd P (isAgg t) with
    |none=>none
    |some true=>(match yd P (sizeOf t) with
     |none=>none
     |some n=>cond (Nat.ble (off+n) c.length) (some (.agg ((c.drop off).take n).toArray)) none)
    |some false=>c[off]?)
   |some _=>none)
 | .pointer (some ⟨b,off,some 0⟩)=>cond (Nat.blt b P.globals.size) (match h.get b with
   |none=>none
   |some (.tab c)=>(match yd P (isAgg t) with
    |none=>none
    |some true=>(match yd P (sizeOf t) with
     |none=>none
     |some n=>cond (Nat.ble (off+n) c.length) (some (.agg ((c.drop off).take n).toArray)) none)
    |some false=>c[off]?)
   |some _=>none) none
 |_=>none
theorem i6{P:Program}{ρ:xA}{t:TypeId}{a a':aaa}{h:za}{v:aaa}{w:World}(he:zd P t a h=some v)(hr:Rel P ρ h w)(ha:zG ρ a a') :
  ∃v',(Instr.loadAt t a').run P w=.ok v' w/\zG ρ v v':=by
 unfold zd at he;split at he
 ·rename_i b off;cases ha with
  |ptr hb hm=>
   rename_i pl;split at he
   ·cases he
   ·rename_i c t' hg;have hc:=hr.place hg hm;split at he
    ·cases he
    ·rename_i hagg;split at he
     ·cases he
     ·rename_i n hn;cases hle:Nat.ble (off+n) c.length with
      |false=>rw[hle]at he;cases he
      |true=>
       rw[hle]at he;simp only[aaw,aab]at he;subst he;obtain⟨ys,hys,hv⟩:=jg hc off n (aaF hle);refine⟨.agg ys.toArray,?_,.agg (by simpa using hv.1) (λi x y hx hy=>hv.2 i x y (by simpa using hx) (by simpa using hy))⟩;simp only[Instr.loadAt,Instr.sureAddr,loadVar,aai,aan,aad,zh hagg,abZ,zh hn,hys]
    ·rename_i hagg;obtain⟨y,hy,hxy⟩:=hc.cell he;refine⟨y,?_,hxy⟩;simp only[Instr.loadAt,Instr.sureAddr,loadVar,aai,aan,aad,zh hagg,abh,ab1,run_load,hy]
   ·cases he
 ·rename_i b off;cases ha with
  |Y0=>
   cases hbl:Nat.blt b P.globals.size with
   |false=>rw[hbl]at he;cases he
   |true=>
    rw[hbl]at he;simp only[aaw]at he;have hbl:b<P.globals.size:=by simpa [aaN] using hbl
    split at he
    ·cases he
    ·rename_i c hg;obtain⟨pl,hm,t',hc⟩:=hr.ok b _ hg;obtain⟨q1,q2⟩:=hr.Y0 b pl hbl hm;split at he
     ·cases he
     ·rename_i hagg;split at he
      ·cases he
      ·rename_i n hn;cases hle:Nat.ble (off+n) c.length with
       |false=>rw[hle]at he;cases he
       |true=>
        rw[hle]at he;simp only[aaw,aab]at he;subst he;obtain⟨ys,hys,hv⟩:=jg hc off n (aaF hle);simp only[q1,q2,abf]at hys;refine⟨.agg ys.toArray,?_,.agg (by simpa using hv.1) (λi x y hx hy=>hv.2 i x y (by simpa using hx) (by simpa using hy))⟩;simp only[Instr.loadAt,Instr.sureAddr,loadVar,aai,aan,aad,zh hagg,abZ,zh hn,hys]
     ·rename_i hagg;obtain⟨y,hy,hxy⟩:=hc.cell he;simp only[q1,q2,abf]at hy;refine⟨y,?_,hxy⟩;simp only[Instr.loadAt,Instr.sureAddr,loadVar,aai,aan,aad,zh hagg,abh,ab1,run_load,hy]
    ·cases he
 ·cases he
def vH(P:Program)(t:TypeId)(a v:aaa)(h:za):Option za :=
 match a with
 | .pointer (some ⟨b,off,none⟩)=>(match h.get b with
   |none=>none
   |some (.cells c t')=>(match yd P (sizeOf t) with
    |none=>none
    |some n=>cond (Nat.beq v.cells.size n&&Nat.ble (off+n) c.length&&Nat.ble h.ro b&&v.cells.toList.all xX) (some (h.set b (some (.cells (zt c off v.cells.toList) t')))) none)
   |some _=>none)
 |_=>none
theorem BJ{P:Program}{ρ:xA}{t:TypeId}{a a' v v':aaa}{h h':za}{w:World}(he:vH P t a v h=some h')(hr:Rel P ρ h w)(ha:zG ρ a a')(hv:zG ρ v v') :
  ∃w',(Instr.storeAt t a' v').run P w=.ok () w'/\Step P ρ h w ρ h' w':=by
 unfold vH at he;split at he
 ·rename_i b off;cases ha with
  |ptr hb hm=>
   rename_i pl;split at he
   ·cases he
   ·rename_i c t' hg;split at he
    ·cases he
    ·rename_i n hn;cases hc:(Nat.beq v.cells.size n&&Nat.ble (off+n) c.length&&Nat.ble h.ro b&&v.cells.toList.all xX) with
     |false=>rw[hc]at he;cases he
     |true=>
      rw[hc]at he;simp only[aaw,aab]at he;subst he;simp only[aac,aav]at hc;obtain⟨⟨⟨h1,h2⟩,h3⟩,h4⟩:=hc;have h1:=aal h1;have h2:=aaF h2;have h3:=aaF h3;have hcells:=hv.cells;have hsz:v'.cells.size=n:=by have:=hcells.1;simp only[abp]at this;omega
      obtain⟨w',e,st⟩:=JH (o:=off) hm v.cells.toList v'.cells.toList h w c 0 hr hg h3 (by simp only[abp];omega) hcells h4;refine⟨w',?_,st⟩;simp only[Instr.storeAt,Instr.sureAddr,storeVar,aai,aan,aad,zh hn,ack,hsz];simp only[acD,not_true,ab1];exact e
   ·cases he
 ·cases he
def zk(P:Program)(s:TypeId)(a:aaa)(i:Nat):Option aaa :=
 match a with
 | .pointer (some ⟨b,off,none⟩)=>(match yd P (underlying s) with
   |some (.struct fields)=>(match fields[i]? with
    |none=>none
    |some f=>(match yd P (sizeOf f.type) with
     |none=>none
     |some n=>cond (Nat.beq n 0) none (some (.pointer (some ⟨b,off+f.offset,none⟩)))))
   |_=>none)
 | .pointer (some ⟨b,off,some 0⟩)=>(match yd P (underlying s) with
   |some (.struct fields)=>(match fields[i]? with
    |none=>none
    |some f=>(match yd P (sizeOf f.type) with
     |none=>none
     |some n=>cond (Nat.beq n 0) none (some (.pointer (some ⟨b,off+f.offset,some 0⟩)))))
   |_=>none)
 |_=>none
theorem BD{P:Program}{ρ:xA}{s:TypeId}{a a' v:aaa}{i:Nat}(he:zk P s a i=some v)(ha:zG ρ a a')(w:World) :
  ∃v',(Instr.fieldAt s a' i).run P w=.ok v' w/\zG ρ v v':=by
 unfold zk at he;split at he
 ·rename_i b off;cases ha with
  |ptr hb hm=>
   rename_i pl;split at he
   ·rename_i fields hu;split at he
    ·cases he
    ·rename_i f hf;split at he
     ·cases he
     ·rename_i n hn;cases hz:Nat.beq n 0 with
      |true=>rw[hz]at he;cases he
      |false=>
       rw[hz]at he;simp only[aaH,aab]at he;subst he;have hne:n≠0:=by intro e;subst e;simp at hz
       refine⟨.pointer (some ⟨pl.c,pl.base+(off+f.offset),none⟩),?_,.ptr hb hm⟩;simp only[Instr.fieldAt,Instr.sureAddr,fieldPlace,aai,aan,aad,zh hu,hf,zh hn,ack,aae hne,j1,abq]
   ·cases he
 ·rename_i b off;cases ha with
  |Y0=>
   split at he
   ·rename_i fields hu;split at he
    ·cases he
    ·rename_i f hf;split at he
     ·cases he
     ·rename_i n hn;cases hz:Nat.beq n 0 with
      |true=>rw[hz]at he;cases he
      |false=>
       rw[hz]at he;simp only[aaH,aab]at he;subst he;have hne:n≠0:=by intro e;subst e;simp at hz
       refine⟨.pointer (some ⟨b,off+f.offset,none⟩),?_,.Y0⟩;simp only[Instr.fieldAt,Instr.sureAddr,fieldPlace,aai,aan,aad,zh hu,hf,zh hn,ack,aae hne,j1]
   ·cases he
 ·cases he
def vG(P:Program)(t:TypeId)(x ix:aaa):Option aaa :=
 match ix with
 | .int _ i=>(match yd P (underlying t),x with
   |some (.array len elem),.pointer (some ⟨b,off,none⟩)=>(match yd P (sizeOf elem) with
    |none=>none
    |some n=>cond (decide (0<=i)&&decide (i<len)) (some (.pointer (some ⟨b,off+i.toNat*n,none⟩))) none)
   |some (.array len elem),.pointer (some ⟨b,off,some 0⟩)=>(match yd P (sizeOf elem) with
    |none=>none
    |some n=>cond (decide (0<=i)&&decide (i<len)) (some (.pointer (some ⟨b,off+i.toNat*n,some 0⟩))) none)
   |some (.slice elem),.slice (some ⟨b,off,none⟩) len _=>(match yd P (sizeOf elem) with
    |none=>none
    |some n=>cond (decide (0<=i)&&decide (i<len)) (some (.pointer (some ⟨b,off+i.toNat*n,none⟩))) none)
   |_,_=>none)
 |_=>none
theorem BE{P:Program}{ρ:xA}{t:TypeId}{x x' ix ix' v:aaa}(he:vG P t x ix=some v)(hx:zG ρ x x')(hi:zG ρ ix ix')(w:World) :
  ∃v',(Instr.indexAt t x' ix').run P w=.ok v' w/\zG ρ v v':=by
 unfold vG at he;split at he
 ·rename_i k i;cases hi;split at he
  ·rename_i hu;cases hx with
   |ptr hb hm=>
    split at he
    ·cases he
    ·rename_i n hn;cases hc:(decide (0<=i)&&decide (i<_)) with
     |false=>rw[hc]at he;cases he
     |true=>
      rw[hc]at he;simp only[aaw,aab]at he;subst he;simp only[aac,aaG]at hc;refine⟨_,?_,.ptr hb hm⟩;simp only[Instr.indexAt,Instr.sureAddr,asIntOf,aai,aan,aad,zh hu,zh hn,ack,aah hc,j1,abq]
  ·rename_i hu;cases hx with
   |Y0=>
    split at he
    ·cases he
    ·rename_i n hn;cases hc:(decide (0<=i)&&decide (i<_)) with
     |false=>rw[hc]at he;cases he
     |true=>
      rw[hc]at he;simp only[aaw,aab]at he;subst he;simp only[aac,aaG]at hc;refine⟨_,?_,.Y0⟩;simp only[Instr.indexAt,Instr.sureAddr,asIntOf,aai,aan,aad,zh hu,zh hn,ack,aah hc,j1]
  ·rename_i hu;cases hx with
   |slice hb hm hl hcap=>
    split at he
    ·cases he
    ·rename_i n hn;cases hc:(decide (0<=i)&&decide (i<_)) with
     |false=>rw[hc]at he;cases he
     |true=>
      rw[hc]at he;simp only[aaw,aab]at he;subst he;simp only[aac,aaG]at hc;refine⟨_,?_,.ptr hb hm⟩;simp only[Instr.indexAt,asIntOf,aai,aan,aad,zh hu,zh hn,ack,aah hc,j1,abq]
   |sliceOut hb hc=>
    split at he
    ·cases he
    ·rename_i n hn;rw[show(decide (0<=i)&&decide (i<((0:Nat):Int)))=false by simp]at he;cases he
  ·cases he
 ·cases he
end
noncomputable section
variable {P:Program}
def fl(x:Option aaa):Option aaa :=
 match x with
 |none=>none
 |some v=>cond (flat v) (some v) none
theorem Ug{x:Option aaa}{v:aaa}(h:fl x=some v):x=some v/\flat v=true:=by
 unfold fl at h;split at h
 ·cases h
 ·rename_i u;cases hf:flat u with
  |false=>rw[hf]at h;cases h
  |true=>rw[hf]at h;simp only[aaw,aab]at h;subst h;exact⟨rfl,hf⟩
def isNil(P:Program)(t:TypeId)(a b:aaa):Option Bool :=
 match yd P (underlying t),a,b with
 |some (.pointer _),.pointer (some _),.pointer none|some (.pointer _),.pointer none,.pointer (some _)=>some false
 |some (.slice _),.slice (some _) _ _,.slice none _ _|some (.slice _),.slice none _ _,.slice (some _) _ _=>some false
 |some (.func _ _ _),.func _ _ _,.nilFunc|some (.func _ _ _),.nilFunc,.func _ _ _=>some false
 |some (.interface _),.iface _ _,.nilIface|some (.interface _),.nilIface,.iface _ _=>some false
 |_,_,_=>none
def zb0(P:Program)(op:BinOp)(t:TypeId)(a b:aaa):Option aaa :=
 match op with
 | .eql=>(isNil P t a b).map .bool
 | .neq=>(isNil P t a b).map λx => .bool (!x)
 |_=>none
theorem Uk{ρ:xA}{t:TypeId}{a b a' b':aaa}{r:Bool}(h:isNil P t a b=some r)(ha:zG ρ a a')(hb:zG ρ b b')(w:World) :
  (∀d,(Op.equalIn (d+1) t a' b').run P w=.ok r w)/\(∀op x y,(eqGuard op t x y a' b').run P w=.ok () w)/\(∀op,op=.eql\/op=.neq->binOp op t a' b'=if op=.eql then (do pure (.bool (<- Op.equal t a' b'))) else (do pure (.bool (!(<- Op.equal t a' b'))))):=by
 unfold isNil at h
 split at h <;> first
  |cases h;done
  |(simp only[aab]at h
    subst h;rename_i hu;cases ha <;> cases hb <;>
    (refine⟨λd=>?_,λop x y=>?_,λop yj=>?_⟩
     ·simp[Op.equalIn,zh hu]
     ·cases op <;> simp[eqGuard]
     ·rcases yj with rfl|rfl <;> rfl))
theorem Mr{ρ:xA}{t:TypeId}{a b a' b':aaa}{r:Bool}(h:isNil P t a b=some r)(ha:zG ρ a a')(hb:zG ρ b b')(w:World) :
  (binOp .eql t a' b').run P w=.ok (.bool r) w:=by
 obtain⟨h1,_,h3⟩:=Uk h ha hb w;rw[h3 .eql (.inl rfl),aah rfl];have h1:(Op.equal t a' b').run P w=.ok r w:=h1 9999;simp only[aai,h1,aad,aan]
theorem Ms{ρ:xA}{t:TypeId}{a b a' b':aaa}{r:Bool}(h:isNil P t a b=some r)(ha:zG ρ a a')(hb:zG ρ b b')(w:World) :
  (binOp .neq t a' b').run P w=.ok (.bool (!r)) w:=by
 obtain⟨h1,_,h3⟩:=Uk h ha hb w;rw[h3 .neq (.inr rfl),aae (by simp)];have h1:(Op.equal t a' b').run P w=.ok r w:=h1 9999;simp only[aai,h1,aad,aan]
def RG(P:Program)(op:BinOp)(t:TypeId)(x y:Operand)(a b:aaa):Option aaa :=
 cond (flat a&&flat b) (fl (yd P (do eqGuard op t x y a b;binOp op t a b))) (zb0 P op t a b)
theorem Ge{ρ:xA}{op:BinOp}{t:TypeId}{x y:Operand}{a b a' b' v:aaa}(h:RG P op t x y a b=some v)(ha:zG ρ a a')(hb:zG ρ b b')(w:World) :
  ∃v',(do eqGuard op t x y a' b';binOp op t a' b':Sem aaa).run P w=.ok v' w/\zG ρ v v':=by
 unfold RG at h;cases hf:(flat a&&flat b) with
 |true=>
  rw[hf]at h;simp only[aac]at hf;obtain rfl:=kr ha hf.1;obtain rfl:=kr hb hf.2;obtain⟨h1,h2⟩:=Ug h;exact⟨v,zh h1 w,.of_flat ρ h2⟩
 |false=>
  rw[hf]at h;simp only[aaH]at h;unfold zb0 at h;split at h
  ·simp only[aau]at h;obtain⟨r,hr,rfl⟩:=h;obtain⟨_,h2,_⟩:=Uk hr ha hb w;have h3:=Mr hr ha hb w;exact⟨.bool r,by simp only[aai,h2,aad,h3],.bool r⟩
  ·simp only[aau]at h;obtain⟨r,hr,rfl⟩:=h;obtain⟨_,h2,_⟩:=Uk hr ha hb w;have h4:=Ms hr ha hb w;exact⟨.bool (!r),by simp only[aai,h2,aad,h4],.bool (!r)⟩
  ·cases h
def mg(ρ:xA)(ps ps':List (Nat×aaa)):Prop:=wI ρ (ps.map (·.2)) (ps'.map (·.2))/\ps.map (·.1)=ps'.map (·.1)
theorem M9{ρ:xA}{xs ys:List aaa}(h:wI ρ xs ys)(i:Nat){x y:aaa}(hv:zG ρ x y):wI ρ (xs.set i x) (ys.set i y):=by
 refine⟨by simp[h.1],λj a b ha hb=>?_⟩;by_cases e:i=j
 ·subst e;rcases aaI i xs.length with hi|hi
  ·rw[aco hi]at ha;rw[aco (h.1 ▸ hi)]at hb;cases ha;cases hb;exact hv
  ·rw[aas (by simpa using hi)]at ha;cases ha
 ·rw[List.getElem?_set_ne e]at ha hb;exact h.2 j a b ha hb
theorem pE{ρ:xA}(off:Nat):∀(l l':List (aaa×Nat)) (c c':Array aaa),wI ρ (l.map (·.1)) (l'.map (·.1))->l.map (·.2)=l'.map (·.2)->wI ρ c.toList c'.toList ->
  wI ρ (l.foldl (λcs x=>cs.setIfInBounds (off+x.2) x.1) c).toList (l'.foldl (λcs x=>cs.setIfInBounds (off+x.2) x.1) c').toList
 |[],l',c,c',hl,hn,hc=>by
  cases l' with
  |nil=>exact hc
  |cons x l'=>simp at hn
 |x::l,l',c,c',hl,hn,hc=>by
  cases l' with
  |nil=>simp at hn
  |cons y l'=>
   simp only[abo,abe]at hl hn;obtain⟨y',ys',e,hv,hr⟩:=hl.cons_inv;simp only[abe]at e;obtain⟨e1,e2⟩:=e;subst e1 e2;simp only[List.foldl_cons];refine pE off l l' _ _ hr hn.2 ?_;rw[Array.toList_setIfInBounds,Array.toList_setIfInBounds,hn.1];exact M9 hc _ hv
theorem eY{ρ:xA}{place:Nat->Option (Nat×Nat)}:∀(ps ps':List (Nat×aaa)) (c c':Array aaa) (r:Array aaa),mg ρ ps ps'->wI ρ c.toList c'.toList->Instr.fill place c ps=some r ->
  ∃r',Instr.fill place c' ps'=some r'/\wI ρ r.toList r'.toList
 |[],ps',c,c',r,hp,hc,he=>by
  have:ps'=[]:=by have:=hp.2;simp at this;cases ps' <;> simp_all
  subst this;simp only[Instr.fill,aab]at he;subst he;exact⟨c',rfl,hc⟩
 |(i,v)::ps,ps',c,c',r,hp,hc,he=>by
  cases ps' with
  |nil=>have:=hp.2;simp at this
  |cons p ps'=>
   obtain⟨i',v'⟩:=p;obtain⟨h1,h2⟩:=hp;simp only[abo,abe]at h1 h2;obtain⟨rfl,h2⟩:=h2;obtain⟨y,ys,e,hv,hr⟩:=h1.cons_inv;simp only[abe]at e;obtain⟨e1,e2⟩:=e;subst e1 e2;simp only[Instr.fill]at he ⊢;cases hpl:place i with
   |none=>rw[hpl]at he;cases he
   |some x=>
    obtain⟨off,size⟩:=x;rw[hpl]at he;simp only at he ⊢;have hcells:=hv.cells;have e1:v'.cells.size=v.cells.size:=by simpa using hcells.1.symm
    have e2:c'.size=c.size:=(by simpa using hc.1.symm);split at he
    ·cases he
    ·rename_i hcond;rw[aae (by rw[e1,e2];exact hcond)];refine eY ps ps' _ _ r ⟨hr,h2⟩ ?_ he;rw[<- Array.foldl_toList,<- Array.foldl_toList];refine pE off _ _ c c' ?_ ?_ hc
     ·simp only[Array.toList_zipIdx];have q:∀(l:List aaa) k,(l.zipIdx k).map (·.1)=l:=λl k=>by simp
      rw[q,q];exact hcells
     ·simp only[Array.toList_zipIdx];have q:∀(l:List aaa) k,(l.zipIdx k).map (·.2)=List.range' k l.length:=λl k=>by simp
      rw[q,q,hcells.1]
def Vk(s:Env):List (Nat×Operand)->Option (List (Nat×aaa))
 |[]=>some []
 |(i,x)::ps=>match kT s x with
  |none=>none
  |some v=>match Vk s ps with
   |none=>none
   |some vs=>some ((i,v)::vs)
theorem QT{ρ:xA}{s:Env}{a:Act}(hs:vL ρ s a.tmps):∀{ps:List (Nat×Operand)} {vs:List (Nat×aaa)},Vk s ps=some vs->mg ρ vs (ps.map λx=>(x.1,a.eval x.2))
 |[],vs,h=>by simp only[Vk,aab]at h;subst h;exact⟨.nil ρ,rfl⟩
 |(i,x)::ps,vs,h=>by
  simp only[Vk]at h;split at h
  ·cases h
  ·rename_i v hv;split at h
   ·cases h
   ·rename_i vs' hvs;simp only[aab]at h;subst h;have:=QT hs hvs;exact⟨.cons (zW hs hv) this.1,by simp[this.2]⟩
def kX(P:Program)(t:TypeId):Option aaa:=fl (yd P (zeroValue t))
theorem ZG{ρ:xA}{t:TypeId}{z:aaa}(h:kX P t=some z)(w:World):(zeroValue t).run P w=.ok z w/\zG ρ z z:=by
 obtain⟨h1,h2⟩:=Ug h;exact⟨zh h1 w,.of_flat ρ h2⟩
def Se(P:Program)(fields:Array Field):Option (Array (Nat×Nat)):=yd P (fields.mapM λf=>do pure (f.offset,<- sizeOf f.type))
def yo(P:Program)(t:TypeId)(parts:List (Nat×aaa)):Option aaa :=
 match kX P t with
 |none=>none
 |some z=>match yd P (underlying t) with
  |some (.struct fields)=>(match Se P fields with
   |none=>none
   |some Ck=>(Instr.fill (Ck[·]?) z.cells parts).map .agg)
  |some (.array _ elem)=>(match yd P (sizeOf elem) with
   |none=>none
   |some n=>(Instr.fill (λi=>some (i*n,n)) z.cells parts).map .agg)
  |_=>none
theorem Bs{ρ:xA}{t:TypeId}{parts parts':List (Nat×aaa)}{v:aaa}(h:yo P t parts=some v)(hp:mg ρ parts parts')(w:World) :
  ∃v',(Instr.build t parts'.toArray).run P w=.ok v' w/\zG ρ v v':=by
 unfold yo at h;split at h
 ·cases h
 ·rename_i z hz;obtain⟨e0,hz⟩:=ZG (ρ:=ρ) hz w;split at h
  ·rename_i fields hu;split at h
   ·cases h
   ·rename_i Ck hpl;simp only[aau]at h;obtain⟨r,hr,rfl⟩:=h;obtain⟨r',hr',hv⟩:=eY _ _ _ _ _ hp hz.cells hr;refine⟨.agg r',?_,.agg (by simpa using hv.1) (λi x y hx hy=>hv.2 i x y (by simpa using hx) (by simpa using hy))⟩;simp only[Instr.build,aai,e0,aad,zh hu,zh hpl,hr',aan]
  ·rename_i n elem hu;split at h
   ·cases h
   ·rename_i n hn;simp only[aau]at h;obtain⟨r,hr,rfl⟩:=h;obtain⟨r',hr',hv⟩:=eY _ _ _ _ _ hp hz.cells hr;refine⟨.agg r',?_,.agg (by simpa using hv.1) (λi x y hx hy=>hv.2 i x y (by simpa using hx) (by simpa using hy))⟩;simp only[Instr.build,aai,e0,aad,zh hu,zh hn,hr',aan]
  ·cases h
def sO(h:za)(c:List aaa)(t:TypeId):aaa×za:=(.pointer (some ⟨h.next,0,none⟩),h.push (.cells c t))
theorem fC{ρ:xA}{h:za}{w:World}(hr:Rel P ρ h w){v v':aaa}(hv:zG ρ v v')(t:TypeId) :
  ∃a' w' ρ',(newVar t v').run P w=.ok a' w'/\Step P ρ h w ρ' (sO h v.cells.toList t).2 w'/\zG ρ' (sO h v.cells.toList t).1 (.pointer (some a')):=by
 have hc:=hv.cells
 obtain⟨e,st⟩:=cX (t:=t) hr (c:=v.cells.toList) (cs:=v'.cells) (by rw[hc.1,abp];exact aaj _) (λi x hx=>by
  obtain⟨y,hy,hxy⟩:=hc.get hx;exact⟨y,by simpa using hy,hxy⟩)
 exact⟨_,_,_,e,st,.new hr _ rfl⟩
def Z9(z:List aaa)(n:Nat):List aaa:=(List.range n).map λi=>(z[i%z.length]?).getD default
theorem Bd(z:Array aaa)(n:Nat):((Array.range n).map λi=>z[i%z.size]!)=(Z9 z.toList n).toArray:=by
 apply ab3;simp only[Array.toList_map,Array.toList_range,Z9];apply List.map_congr_left;intro i _;simp[getElem!_def];cases z[i%z.size]? <;> rfl
theorem rZ{ρ:xA}{z:aaa}(h:zG ρ z z)(hd:z.cells.size≠0)(n:Nat):wI ρ (Z9 z.cells.toList n) (Z9 z.cells.toList n):=by
 refine⟨rfl,λi x y hx hy=>?_⟩;rw[hx]at hy;cases hy;simp only[Z9,aay,aau]at hx;obtain⟨k,_,hk⟩:=hx;have hlt:k%z.cells.toList.length<z.cells.toList.length:=Nat.mod_lt _ (by simp;omega);rw[aag hlt]at hk;simp only[abC]at hk;have:=h.cells.2 _ _ _ (aag hlt) (aag hlt);rw[hk]at this;exact this
def V9(P:Program)(t:TypeId)(len cap:aaa)(h:za):Option (aaa×za) :=
 match len,cap,yd P (underlying t) with
 | .int _ l,.int _ c,some (.slice elem)=>(match yd P (typeInfo elem) with
   |none=>none
   |some i=>(match kX P elem with
    |none=>none
    |some z=>cond (decide (IntKind.i64.wrap l=l)&&decide (IntKind.i64.wrap c=c)&&decide (0<=l)&&decide (l<=c)&&decide (i.bytes*c<=2^48)&&Nat.beq z.cells.size i.size&&Nat.blt 0 i.size)
      (some (.slice (some ⟨h.next,0,none⟩) l.toNat (c.toNat+2),h.push (.cells (Z9 z.cells.toList (c.toNat*i.size)) elem))) none))
 |_,_,_=>none
theorem jh{t:TypeId}{i:TypeInfo}(h:yd P (typeInfo t)=some i):P.cellsOf t=i.size /\ ∀w,(sizeOf t).run P w=.ok i.size w:=by
 have h0:=h
 constructor
 ·simp only[typeInfo,program,Sem.bind,bind,yd]at h;cases hp:P.info? t with
  |none=>rw[hp]at h;cases h
  |some j=>rw[hp]at h;simp only[pure,yd,aab]at h;subst h;simp[Program.cellsOf,hp]
 ·intro w;simp only[sizeOf,aai,zh h0,aad,aan]
theorem D6{ρ:xA}{t:TypeId}{l l' c c' v:aaa}{h h':za}{w:World}(he:V9 P t l c h=some (v,h'))(hr:Rel P ρ h w)(hl:zG ρ l l')(hc:zG ρ c c') :
  ∃v' w' ρ',(Instr.makeSlice t l' c').run P w=.ok v' w'/\Step P ρ h w ρ' h' w'/\zG ρ' v v':=by
 unfold V9 at he;split at he
 ·rename_i kl l kc c elem hu;cases hl;cases hc;split at he
  ·cases he
  ·rename_i i hi;split at he
   ·cases he
   ·rename_i z hz;cases hcond:(decide (IntKind.i64.wrap l=l)&&decide (IntKind.i64.wrap c=c)&&decide (0<=l)&&decide (l<=c)&&decide (i.bytes*c<=2^48)&&Nat.beq z.cells.size i.size&&Nat.blt 0 i.size) with
    |false=>rw[hcond]at he;cases he
    |true=>
     rw[hcond]at he;simp only[aaw,aab,aaf]at he;obtain⟨rfl,rfl⟩:=he;simp only[aac,aaG]at hcond;obtain⟨⟨⟨⟨⟨⟨w1,w2⟩,p1⟩,p2⟩,p3⟩,zs⟩,sp⟩:=hcond;have zs:=aal zs;have sp:0<i.size:=by simpa [aaN] using sp
     obtain⟨e0,hz'⟩:=ZG (ρ:=ρ) hz w;obtain⟨sz1,sz2⟩:=jh hi
     obtain⟨e,st⟩:=cX (t:=elem) hr (c:=Z9 z.cells.toList (c.toNat*i.size)) (cs:=(Array.range (c.toNat*i.size)).map λk=>z.cells[k%z.cells.size]!)
      (by simp[Z9]) (λk x hx=>by
       rw[Bd];obtain⟨y,hy,hxy⟩:=(rZ hz' (by omega) (c.toNat*i.size)).get hx;exact⟨y,by simpa using hy,hxy⟩)
     refine⟨.slice (some ⟨w.heap.size,0,none⟩) l.toNat c.toNat,_,_,?_,st,?_⟩
     ·have b1:¬((i.bytes:Int)*c>2^48):=(by omega);have b2:¬(c<0):=(by omega);have b3:¬(l<0):=(by omega);have b4:¬(l>c):=(by omega);simp only[Instr.makeSlice,asInt,asIntOf,aai,aan,aad,zh hu,zh hi,w1,w2];rw[aae (by simp[b2,b3,b4];omega)];simp only[aai,run_askRoom,aad,sz2];by_cases hn:c.toNat*i.size=0
      ·rw[aah hn];have e1:((Array.range (c.toNat*i.size)).map λk=>(#[]:Array aaa)[k%(#[]:Array aaa).size]!)=((Array.range (c.toNat*i.size)).map λk=>z.cells[k%z.cells.size]!):=by rw[hn];simp
       simp only[aai,aan,aad];rw[e1,e];simp only[aad]
      ·rw[aae hn];simp only[aai,e0,aan,aad,e]
     ·refine zG.slice (ρ:=ρ.ext _) (b:=h.next) (off:=0) (pl:=⟨w.heap.size,0,_,_⟩) (by show h.next<ρ.next+1;rw[hr.next];exact aa6 _) (by rw[<- hr.next];exact ρ.kq _) (by omega) ?_;intro _;refine⟨by simp[sz1],λk hk=>by omega⟩
 ·cases he
end
noncomputable section
variable {P:Program}
def QZ:Nat->Nat->Nat
 |0,_=>0
 |1,_=>1
 |k+2,l=>(k-l)+2
def jc(x:Option aaa)(d:Nat)(most:Nat):Option Nat :=
 match x with
 |none=>some d
 |some (.int _ i)=>cond (decide (0<=i)&&decide (i<=most)) (some i.toNat) none
 |some _=>none
def wide(P:Program)(h:za)(b n:Nat):Bool :=
 match h.get b with
 |some (.cells _ t)=>Nat.beq (P.cellsOf t) n
 |_=>false
def oL(P:Program)(t:TypeId)(x:aaa)(lo hi:Option aaa)(h:za):Option aaa :=
 match yd P (underlying t),x with
 |some (.slice elem),.slice base len c=>(match yd P (sizeOf elem) with
  |none=>none
  |some n=>(match jc hi len len with
   |none=>none
   |some hh=>(match jc lo 0 hh with
    |none=>none
    |some l=>(match base with
     |none=>cond (Nat.beq len 0) (some (.slice none 0 0)) none
     |some ⟨b,off,none⟩=>some (.slice (some ⟨b,off+l*n,none⟩) (hh-l) (cond (wide P h b n) (QZ c l) 0))
     |some _=>none))))
 |some (.array k elem),.pointer (some ⟨b,off,none⟩)=>(match yd P (sizeOf elem) with
  |none=>none
  |some n=>(match jc hi k k with
   |none=>none
   |some hh=>(match jc lo 0 hh with
    |none=>none
    |some l=>some (.slice (some ⟨b,off+(if k=l then 0 else l*n),none⟩) (hh-l) 0))))
 |_,_=>none
theorem aa{x:Option aaa}{d most r:Nat}(h:jc x d most=some r)(hd:d<=most):r<=most:=by
 unfold jc at h;split at h
 ·simp only[aab]at h;omega
 ·rename_i k i;cases hc:(decide (0<=i)&&decide (i<=(most:Int))) with
  |false=>rw[hc]at h;cases h
  |true=>
   rw[hc]at h;simp only[aaw,aab]at h;simp only[aac,aaG]at hc;omega
 ·cases h
theorem ou{ρ:xA}{x x':Option aaa}{d most r:Nat}(h:jc x d most=some r)(hx:∀v,x=some v->∃v',x'=some v'/\zG ρ v v')(hn:x=none->x'=none){y:Nat}(hy:most<=y)(code:BoundsCode)(w:World) :
  (match x' with|some v=>Instr.sliceBound v y code|none=>(pure d:Sem Nat)).run P w=.ok r w:=by
 unfold jc at h;split at h
 ·rw[hn rfl];simp only[aab]at h;subst h;rfl
 ·rename_i k i;obtain⟨v',rfl,hv⟩:=hx _ rfl;cases hv;cases hc:(decide (0<=i)&&decide (i<=(most:Int))) with
  |false=>rw[hc]at h;cases h
  |true=>
   rw[hc]at h;simp only[aaw,aab]at h;simp only[aac,aaG]at hc;subst h;simp only[Instr.sliceBound,asIntOf,aai,aan,aad,ack];rw[aah (by omega)]
 ·cases h
def Lv(ρ:xA)(x x':Option aaa):Prop:=(∀v,x=some v->∃v',x'=some v'/\zG ρ v v')/\(x=none->x'=none)
theorem QX{ρ:xA}{lo lo' hi hi':Option aaa}{len cap hh l:Nat}(hhi:jc hi len len=some hh)(hlo:jc lo 0 hh=some l)(rl:Lv ρ lo lo')(rh:Lv ρ hi hi')(hl:len<=cap)(b:Bool)(w:World) :
  (Instr.sliceBounds b len cap lo' hi' none).run P w=.ok (l,hh,cap) w:=by
 have h1:=ou (P:=P) hhi rh.1 rh.2 hl (if b then .sliceAcap else .sliceAlen) w;have h2:=ou (P:=P) hlo rl.1 rl.2 (aaj hh) (.sliceB) w;unfold Instr.sliceBounds;cases hi' with
 |none=>
  have e1:len=hh:=by simpa using h1
  subst e1;cases lo' with
  |none=>have e2:0=l:=by simpa using h2
         subst e2;rfl
  |some v=>
   simp only at h2;simp only[aai,aan,aad,Option.isSome_none,abh,ab1,h2]
 |some u=>
  simp only at h1;cases lo' with
  |none=>have e2:0=l:=by simpa using h2
         subst e2;simp only[aai,aan,aad,h1]
  |some v=>
   simp only at h2;simp only[aai,aan,aad,Option.isSome_none,abh,ab1,h1,h2]
theorem BI{ρ:xA}{t:TypeId}{x x' v:aaa}{lo lo' hi hi':Option aaa}{h:za}{w:World}(he:oL P t x lo hi h=some v)(hr:Rel P ρ h w)(hx:zG ρ x x')(rl:Lv ρ lo lo')(rh:Lv ρ hi hi') :
  ∃v',(Instr.sliceAt t x' lo' hi' none).run P w=.ok v' w/\zG ρ v v':=by
 unfold oL at he;split at he
 ·rename_i elem base len c hu;split at he
  ·cases he
  ·rename_i n hn;split at he
   ·cases he
   ·rename_i hh hhi;split at he
    ·cases he
    ·rename_i l hlo;have h1:=aa hhi (aaj _);have h2:=aa hlo (aaS _);cases hx with
     |sliceNil=>
      simp only[ab5,aaw,aab]at he;subst he;have:hh=0:=by omega
      subst this;have:l=0:=by omega
      subst this;refine⟨.slice none 0 0,?_,.sliceNil 0⟩;have hb:=QX (P:=P) hhi hlo rl rh (aaj 0) true w;simp only[Instr.sliceAt,Instr.slice,aai,zh hu,aad,hb,zh hn,aan,abZ,acw]
     |slice hb hm hl hc=>
      rename_i b off cap pl;simp only[aab]at he;subst he;have hbd:=QX (P:=P) hhi hlo rl rh hl true w
      have hrun:(Instr.sliceAt t (.slice (some ⟨pl.c,pl.base+off,none⟩) len cap) lo' hi' none).run P w=.ok (.slice (if cap=l then some ⟨pl.c,pl.base+off,none⟩ else some ⟨pl.c,pl.base+off+l*n,none⟩) (hh-l) (cap-l)) w:=by
       simp only[Instr.sliceAt,Instr.slice,aai,zh hu,aad,hbd,zh hn,aan,abn,j1]
      by_cases hcl:cap=l
      ·refine⟨_,hrun,?_⟩;rw[aah hcl];have e1:hh-l=0:=by omega
       have e2:cap-l=0:=(by omega);rw[e1,e2];refine .sliceOut hb ?_;cases hw:wide P h b n with
       |false=>exact aaS _
       |true=>
        simp only[aaw];unfold QZ;split
        ·omega
        ·omega
        ·rename_i k;have:=(hc (by omega)).2 k rfl;omega
      ·refine⟨_,hrun,?_⟩;rw[aae hcl,abq];refine .slice hb hm (by omega) ?_;cases hw:wide P h b n with
       |false=>intro hne;exact absurd rfl hne
       |true=>
        simp only[aaw];intro hne;have hc0:c≠0:=by intro e;subst e;exact hne rfl
        obtain⟨c1,c2⟩:=hc hc0;unfold wide at hw;split at hw
        ·rename_i cs tb hg;have hw:=aal hw;obtain⟨cs',fz,_,_,hesz,_⟩:=hr.place hg hm;rw[hesz.1,hw]at c1 ⊢;refine⟨?_,?_⟩
         ·have:l*n+(cap-l)*n=cap*n:=(by rw[<- acq];congr 1;omega);omega
         ·intro k hk;unfold QZ at hk;split at hk
          ·omega
          ·omega
          ·have:=c2 _ rfl;omega
        ·cases hw
     |sliceOut hb hc=>
      rename_i b off a;simp only[aab]at he;subst he;have:hh=0:=by omega
      subst this;have:l=0:=by omega
      subst this;refine⟨.slice (some a) 0 0,?_,.sliceOut hb ?_⟩
      ·have hbd:=QX (P:=P) hhi hlo rl rh (aaj 0) true w;simp only[Instr.sliceAt,Instr.slice,aai,zh hu,aad,hbd,zh hn,aan,abZ,acw]
      ·cases wide P h b n with
       |false=>exact aaS _
       |true=>simp only[aaw];unfold QZ;split <;> omega
 ·rename_i k elem b off hu;cases hx with
  |ptr hb hm=>
   rename_i pl;split at he
   ·cases he
   ·rename_i n hn;split at he
    ·cases he
    ·rename_i hh hhi;split at he
     ·cases he
     ·rename_i l hlo;simp only[aab]at he;subst he;have h1:=aa hhi (aaj _);have h2:=aa hlo (aaS _);have hbd:=QX (P:=P) hhi hlo rl rh (aaj k) false w;refine⟨_,by simp only[Instr.sliceAt,Instr.sureAddr,aai,zh hu,aan,aad,hbd,zh hn];rfl,?_⟩
      have:(if k=l then (Addr.mk pl.c (pl.base+off) none) else (Addr.mk pl.c (pl.base+off) none).add (l*n))=⟨pl.c,pl.base+(off+(if k=l then 0 else l*n)),none⟩:=by
       split
       ·rfl
       ·rw[j1,abq]
      rw[this];exact .slice hb hm (by omega) (λhne=>absurd rfl hne)
 ·cases he
def lK(P:Program)(t:TypeId)(x:aaa):Option aaa :=
 match yd P (underlying t),x with
 |some (.slice _),.slice _ n _=>some (goInt n)
 |some .string,.string s=>some (goInt s.size)
 |some (.array n _),_=>some (goInt n)
 |_,_=>none
theorem Gi{ρ:xA}{t:TypeId}{x x' v:aaa}(he:lK P t x=some v)(hx:zG ρ x x')(r:TypeId)(w:World):(Builtin.len_ #[t] r #[x']).run P w=.ok v w/\zG ρ v v:=by
 unfold lK at he;split at he
 ·rename_i hu;simp only[aab]at he;subst he;refine⟨?_,.int _ _⟩;cases hx <;> simp[Builtin.len_,zh hu]
 ·rename_i hu;simp only[aab]at he;subst he;refine⟨?_,.int _ _⟩;cases hx;simp[Builtin.len_,zh hu]
 ·rename_i hu;simp only[aab]at he;subst he;refine⟨?_,.int _ _⟩;simp[Builtin.len_,zh hu]
 ·cases he
end
noncomputable section
variable {P:Program}
def qp(h:za)(n size:Nat):aaa->Option (List aaa)
 | .slice (some ⟨b,off,none⟩) _ _=>cond (Nat.beq (n*size) 0) (some []) (match h.get b with
   |some (.cells c _)=>cond (Nat.ble (off+n*size) c.length) (some ((c.drop off).take (n*size))) none
   |_=>none)
 | .slice none _ _=>some []
 | .string s=>some ((s.extract 0 n).data.toList.map λb => .int .u8 b.toNat)
 |_=>none
def U3:aaa->Option Nat
 | .slice _ n _=>some n
 | .string s=>some s.size
 |_=>none
theorem i3{ρ:xA}{x x':aaa}{n:Nat}(h:U3 x=some n)(hx:zG ρ x x')(w:World):(Builtin.lenOf x').run P w=.ok n w:=by
 cases hx with
 |ry _=>cases h
 |_=>simp only[U3,aab,reduceCtorEq]at h <;> subst h <;> rfl
theorem Q3{ρ:xA}{h:za}{w:World}{n size:Nat}{x x':aaa}{c:List aaa}(he:qp h n size x=some c)(hr:Rel P ρ h w)(hx:zG ρ x x')(hn:∀b l cap,x=.slice b l cap->n<=l) :
  ∃c':List aaa,(Builtin.firstCells size n x').run P w=.ok c'.toArray w/\wI ρ c c':=by
 have hzero:n*size=0->∀a:Addr,(loadCells a (n*size)).run P w=.ok ([]:List aaa).toArray w:=by
  intro e a;rw[e];rfl
 cases hx with
 |sliceNil c0=>
  simp only[qp,aab]at he;subst he;exact⟨[],rfl,.nil ρ⟩
 |slice hb hm hl hc=>
  rename_i b off len c0 cap pl;simp only[qp]at he;cases hz:Nat.beq (n*size) 0 with
  |true=>
   rw[hz]at he;simp only[aaw,aab]at he;subst he;exact⟨[],by simp only[Builtin.firstCells];exact hzero (aal hz) _,.nil ρ⟩
  |false=>
   rw[hz]at he;simp only[aaH]at he;split at he
   ·rename_i cs t hg;cases hle:Nat.ble (off+n*size) cs.length with
    |false=>rw[hle]at he;cases he
    |true=>
     rw[hle]at he;simp only[aaw,aab]at he;subst he;obtain⟨ys,hys,hv⟩:=jg (hr.place hg hm) off (n*size) (aaF hle);exact⟨ys,by simpa only[Builtin.firstCells] using hys,hv⟩
   ·cases he
 |sliceOut hb hc=>
  rename_i b off c0 a;have:=hn _ _ _ rfl
  have hz:n*size=0:=by have:n=0:=by omega
                       subst this;simp
  simp only[qp,hz,ab5,aaw,aab]at he;subst he;exact⟨[],by simp only[Builtin.firstCells];exact hzero hz _,.nil ρ⟩
 |string s=>
  simp only[qp,aab]at he;subst he;refine⟨_,?_,⟨rfl,λi x y hx hy=>?_⟩⟩
  ·simp only[Builtin.firstCells,aan]
   congr 1
   apply ab3;simp
  ·rw[hx]at hy;cases hy;simp only[aay,aau]at hx;obtain⟨b,_,rfl⟩:=hx;exact .int _ _
 |_=>cases he
def ig:TypeDesc->Bool
 | .int _=>true
 |_=>false
theorem AE(need:Nat)(hn:255<=need):∀(r c:Nat),c<=2*need->Builtin.growBy need r c<=2*need
 |0,c,h=>h
 |r+1,c,h=>by
  unfold Builtin.growBy;split
  ·exact h
  ·exact AE need hn r _ (by omega)
theorem G3(need cap:Nat)(h:cap<need):Builtin.nextslicecap need cap<=2*need:=by
 unfold Builtin.nextslicecap;split
 ·omega
 ·split
  ·omega
  ·exact AE need (by omega) 4 cap (by omega)
theorem fD(need:Nat)(h:0<need):Builtin.nextslicecap need 0=need:=by
 unfold Builtin.nextslicecap;rw[aah (by omega)]
theorem run_append_grow{ρ:xA}{h:za}{w:World}(hr:Rel P ρ h w){sT xT elem:TypeId}{r:TypeId}{xd:TypeDesc}{i:TypeInfo}{z:aaa}{base:Option Addr}{len cap n:Nat}{x':aaa}{old old' new new':List aaa}
  (h1:yd P (underlying sT)=some (.slice elem)) (h2:yd P (underlying xT)=some xd) (h3:ig xd=false) (hi:yd P (typeInfo elem)=some i) (hz:kX P elem=some z)
  (hb:0<i.bytes) (hzs:z.cells.size=i.size)
  (hlen:∀w,(Builtin.lenOf x').run P w=.ok n w) (hgrow:cap<len+n) (hlim:Builtin.nextslicecap (len+n) cap*i.bytes<=2^48)
  (hold:(Builtin.firstCells i.size len (.slice base len cap)).run P {w with drawn:=w.drawn+1} = .ok old'.toArray {w with drawn:=w.drawn+1}) (hnew:(Builtin.firstCells i.size n x').run P {w with drawn:=w.drawn+1} = .ok new'.toArray {w with drawn:=w.drawn+1})
  (vold:wI ρ old old') (vnew:wI ρ new new') (hol:old.length=len*i.size) (hnl:new.length=n*i.size) :
  ∃cap' w' pl,(Builtin.append_ #[sT,xT] r #[.slice base len cap,x']).run P w=.ok (.slice (some ⟨w.heap.size,0,none⟩) (len+n) cap') w'/\len+n<=cap'/\pl.c=w.heap.size/\pl.base=0/\pl.IC=i.size/\cap' * i.size<=pl.size /\
   Step P ρ h w (ρ.ext pl) (h.push (.cells (old++new) elem)) w':=by
 obtain⟨sz1,sz2⟩:=jh hi;obtain⟨z1,_⟩:=ZG (ρ:=ρ) hz w;have z1:∀w,(zeroValue elem).run P w=.ok z w:=λw=>(ZG (ρ:=ρ) hz w).1
 let q:Question := .appendCap (len+n) cap elem
 let newCap:=q.cut (w.tape w.drawn q)
 let w1:World:={w with drawn:=w.drawn+1}
 have hge:len+n<=newCap:=by show len+n<=(len+n)+_%_;omega
 let cs:Array aaa:=old'.toArray++new'.toArray++Builtin.zeroCells z.cells (newCap-(len+n))
 have hr1:Rel P ρ h w1:=hr.grow (λk _=>rfl)
 have hcs:cs.size=newCap*i.size:=by
  simp only[cs,Builtin.zeroCells,Array.size_append,List.size_toArray,Array.size_map,Array.size_range,<- vold.1,<- vnew.1,hol,hnl,hzs];rw[<- acq,<- acq];congr 1;omega
 have st:=Step.push (t:=elem) hr1 (c:=old++new) (cs:=cs) (fz:=(0,0)) (w':={w1 with heap:=w1.heap.push (.cells cs elem)}) rfl (λi _ hi=>by simp at hi)
  (by simp only[cs,Array.size_append,aaB,List.size_toArray,vold.1,vnew.1];omega)
  (λk x hx=>by
   obtain⟨y,hy,hxy⟩:=(vold.append vnew).get hx;refine⟨y,?_,hxy⟩
   have hlt:k<(old'++new').length:=by
    rcases aaI k (old'++new').length with h|h
    ·exact h
    ·rw[aas h]at hy;cases hy
   have:cs=(old'++new').toArray++Builtin.zeroCells z.cells (newCap-(len+n)):=by
    have e:old'.toArray++new'.toArray=(old'++new').toArray:=(by simp);simp only[cs];rw[e]
   rw[this,Array.getElem?_append_left (by simpa using hlt)];simpa using hy) rfl rfl rfl
 refine⟨newCap,_,⟨w.heap.size,0,cs.size,P.cellsOf elem⟩,?_,hge,rfl,rfl,sz1,by rw[hcs];exact aaj _,⟨st.le,st.rel,st.ro,st.os,st.tape,st.output,st.size,st.frame,st.mo⟩⟩;have e1:¬(len+n<=cap):=by omega
 simp only[Builtin.append_];simp only[abt,aaC,aaR,aai,zh h1,aad,sz2,zh h2,aan];rw[aae (by cases xd <;> first|exact ab7|cases h3)];simp only[aai,hlen,aad];rw[aae e1];simp only[aai,zh hi,aad]
 rw[aae (by
  rintro⟨_,h|h⟩
  ·revert h;cases xd <;> first|exact ab7|cases h3
  ·omega)]
 simp only[aai,zh hi,aad];rw[aae (by omega)];have hq:(choose (.appendCap (len+n) cap elem)).run P w=.ok newCap w1:=by rw[run_choose];rfl
 simp only[aai,hq,aad,zh hi,run_askRoom];rw[show w1 = {w with drawn:=w.drawn+1} from rfl,hold];simp only[aad];rw[aah (by cases xd <;> first|rfl|cases h3)];rw[hnew];simp only[aad,z1,aan];rfl
theorem sR{ρ:xA}{h:za}{w:World}(hr:Rel P ρ h w){sT xT elem:TypeId}{r:TypeId}{xd:TypeDesc}{i:TypeInfo}{b off len cap n:Nat}{cs:List aaa}{pl:Place}{x':aaa}{new new':List aaa}
  (h1:yd P (underlying sT)=some (.slice elem)) (h2:yd P (underlying xT)=some xd) (h3:ig xd=false) (hi:yd P (typeInfo elem)=some i)
  (hlen:∀w,(Builtin.lenOf x').run P w=.ok n w) (hfits:len+n<=cap) (hg:h.get b=some (.cells cs elem)) (hm:ρ.m b=some pl) (hro:h.ro<=b)
  (hnew:(Builtin.firstCells i.size n x').run P w=.ok new'.toArray w) (vnew:wI ρ new new') (hnl:new.length=n*i.size) (hcell:∀x∈new,xX x=true)
  (hroom:pl.base+off+cap*i.size<=pl.size) (hhave:off+len*i.size<=cs.length) (hoff:off%i.size=0) :
  ∃w',(Builtin.append_ #[sT,xT] r #[.slice (some ⟨pl.c,pl.base+off,none⟩) len cap,x']).run P w=.ok (.slice (some ⟨pl.c,pl.base+off,none⟩) (len+n) cap) w' /\
   Step P ρ h w (ρ.ext ⟨pl.c,pl.base+off,pl.size,pl.IC⟩) ((h.set b none).push (.cells (((cs.drop off).take (len*i.size))++new) elem)) w':=by
 obtain⟨sz1,sz2⟩:=jh hi;obtain⟨cs',fz,g1,g2,g3,g4,g5,g6⟩:=hr.place hg hm
 have key:∀(vs vs':List aaa) (w0:World) (cc:Array aaa) (j:Nat),w0.heap[pl.c]? = some (.cells cc elem fz)->cc.size=pl.size->pl.base+off+len*i.size+j+vs.length<=pl.size->wI ρ vs vs'->(∀x∈vs,xX x=true) ->
   ∃w',(storeCells ⟨pl.c,pl.base+off+len*i.size,none⟩ vs' j).run P w0=.ok () w'/\(∃dd:Array aaa,w'.heap[pl.c]? = some (.cells dd elem fz)/\dd.size=cc.size /\
    (∀k,(k<pl.base+off+len*i.size+j)->dd[k]? = cc[k]?)/\(∀k y,vs'[k]? = some y->dd[pl.base+off+len*i.size+j+k]? = some y)) /\
    (∀k,k≠pl.c->w'.heap[k]? = w0.heap[k]?)/\w'.os=w0.os/\w'.tape=w0.tape/\w'.output=w0.output/\w'.heap.size=w0.heap.size:=by
  intro vs
  induction vs with
  |nil=>
   intro vs' w0 cc j hb hsz _ hv _;cases hv.uI;exact⟨w0,rfl,⟨cc,hb,rfl,λ_ _=>rfl,λk y hy=>by simp at hy⟩,λ_ _=>rfl,rfl,rfl,rfl,rfl⟩
  |cons v vs ih=>
   intro vs' w0 cc j hb hsz hle hv hco;obtain⟨v',vs'',rfl,hv1,hv2⟩:=hv.cons_inv;simp only[abc]at hle
   let p:=pl.base+off+len*i.size+j
   have hp:p<pl.size:=by show pl.base+off+len*i.size+j<pl.size;omega
   have hone:v'.oneCell'=true:=by have:=oY hv1;rw[hco v (by simp)]at this;cases v' <;> simp_all [xX,Value.oneCell']
   have hcell0:w0.cell? ⟨pl.c,p,none⟩=some cc[p]!:=by
    simp only[World.cell?,hb];simp[getElem!_def,aaL (show p<cc.size by omega)]
   have hfr:w0.frozen? ⟨pl.c,p,none⟩=false:=by
    have:=g5 (by simpa using hro) p hp;obtain⟨lo,hi'⟩:=fz;simp[World.frozen?,hb]at this ⊢;exact this
   have e1:(store ⟨pl.c,p,none⟩ v').run P w0=.ok () (w0.setCell ⟨pl.c,p,none⟩ v'):=by
    rw[run_store _ _ _ _ _ hone,hcell0];simp[hfr]
   have hb1:(w0.setCell ⟨pl.c,p,none⟩ v').heap[pl.c]? = some (.cells (cc.setIfInBounds p v') elem fz):=by simp[World.setCell,Array.getElem?_modify,hb]
   obtain⟨w',e2,⟨dd,d1,d2,d3,d4⟩,d5,d6,d7,d8,d9⟩:=ih vs'' _ (cc.setIfInBounds p v') (j+1) hb1 (by simpa using hsz) (by omega) hv2 (λx hx=>hco x (by simp[hx]));refine⟨w',?_,⟨dd,d1,by simpa using d2,λk hk=>?_,λk y hy=>?_⟩,λk hk=>(d5 k hk).trans (Kz _ _ _ _ hk),d6,d7,d8,d9.trans (size_setCell _ _ _)⟩
   ·simp only[storeCells,j1,aai];rw[show(⟨pl.c,pl.base+off+len*i.size+j,none⟩:Addr)=⟨pl.c,p,none⟩ from rfl,e1];exact e2
   ·rw[d3 k (by omega),aa5,aae (by show p≠k;omega)]
   ·cases k with
    |zero=>
     simp only[aaC,aab]at hy;subst hy;rw[Nat.add_zero,d3 _ (by omega),aa5,aah rfl,aah (by omega)]
    |succ k=>
     have:=d4 k y (by simpa using hy);rw[show pl.base+off+len*i.size+j+(k+1)=pl.base+off+len*i.size+(j+1)+k by omega];exact this
 have hfit:pl.base+off+len*i.size+0+new.length<=pl.size:=by
  have:len*i.size+n*i.size<=cap*i.size:=by rw[<- acq];exact abJ _ hfits
  omega
 obtain⟨w',e,⟨dd,d1,d2,d3,d4⟩,d5,d6,d7,d8,d9⟩:=key new new' w cs' 0 g1 g2 hfit vnew hcell;refine⟨w',?_,?_⟩
 ·simp only[Builtin.append_];simp only[abt,aaC,aaR,aai,zh h1,aad,sz2,zh h2,aan];rw[aae (by cases xd <;> first|exact ab7|cases h3)];simp only[aai,hlen,aad];rw[aah hfits];rw[aah (by cases xd <;> first|rfl|cases h3)];simp only[aai,hnew,aad,j1,e,aan]
 ·have hr0:=hr.drop b;have hle:=ρ.ij ⟨pl.c,pl.base+off,pl.size,pl.IC⟩
  have hr1:Rel P ρ (h.set b none) w':=⟨hr0.next,hr0.ro,hr0.KJ,λx ox hx=>by
    obtain⟨p,hp,hc⟩:=hr0.ok x ox hx;refine⟨p,hp,hc.other (d5 _ ?_)⟩;intro ec;rw[za.yq]at hx;split at hx
    ·cases hx
    ·rename_i ne;exact ne (hr.inj x b _ _ p pl hx hg hp hm ec),hr0.inj,hr0.lq,hr0.Y0⟩
  refine⟨hle,hr1.push ⟨dd,fz,d1,d2.trans g2,⟨g3.1,by
   show(pl.base+off)%pl.IC=0;rw[Nat.add_mod,g3.2,g3.1,sz1,hoff];simp⟩,?_,λ_=>g5 (by simpa using hro),?_⟩ ?_,rfl,d6,d7,d8,by omega,λk hk hn=>d5 k (λec=>hn ⟨b,_,pl,hg,hro,hm,ec.symm⟩),?_⟩
  ·simp only[aaB,aa3,abM,hnl]at hfit ⊢;have:len*i.size+n*i.size<=cap*i.size:=by rw[<- acq];exact abJ _ hfits
   show pl.base+off+(min (len*i.size) (cs.length-off)+n*i.size)<=dd.size;omega
  ·intro k x hx;rcases aaI k (len*i.size) with hk|hk
   ·have hk':k<((cs.drop off).take (len*i.size)).length:=(by simp only[aa3,abM];omega);rw[aa2 hk',aaW hk,aaQ]at hx;obtain⟨y,hy,hxy⟩:=g6 _ _ hx;exact⟨y,by rw[show(pl.base+off:Nat)+k=pl.base+(off+k) by omega,d3 _ (by omega)];exact hy,hxy.mono hle⟩
   ·have hl0:((cs.drop off).take (len*i.size)).length=len*i.size:=(by simp only[aa3,abM];omega);rw[aaZ (by omega),hl0]at hx;obtain⟨y,hy,hxy⟩:=vnew.get hx;refine⟨y,?_,hxy.mono hle⟩;have:=d4 _ _ hy;rw[show(pl.base+off:Nat)+k=pl.base+off+len*i.size+0+(k-len*i.size) by omega];exact this
  ·intro x o p hx hp ec;rw[za.yq]at hx;split at hx
   ·cases hx
   ·rename_i ne;exact ne (hr.inj x b _ _ p pl hx hg hp hm ec)
  ·rintro k hk ⟨x,o,p,hx,hrx,hp,hpc⟩;rw[za.vJ]at hx;split at hx
   ·rename_i ex;subst ex;rw[show(h.set b none).next=ρ.next from hr.next.symm,xA.kq]at hp;cases hp;exact⟨b,_,pl,hg,hro,hm,hpc⟩
   ·have hlt:=hr0.KJ x o hx;have hp':ρ.m x=some p:=by rw[<- hp];exact(hle.2 x (by rw[hr0.next];exact hlt)).symm
    rw[za.yq]at hx;split at hx
    ·cases hx
    ·exact⟨x,o,p,hx,hrx,hp',hpc⟩
end
noncomputable section
variable {P:Program}
def vW(c need:Nat):Nat :=
 match c with
 |k+2=>cond (Nat.ble need k) (k+2) 1
 |_=>1
theorem Vq{c need k:Nat}(h:vW c need=k+2):c=k+2/\need<=k:=by
 unfold vW at h;split at h
 ·rename_i q;cases hq:Nat.ble need q with
  |true=>rw[hq]at h;simp only[aaw]at h;exact⟨h,by have:=aaF hq;omega⟩
  |false=>rw[hq]at h;simp only[aaH]at h;omega
 ·omega
def roomFor(c need bytes:Nat):Bool:=Nat.ble (need*bytes) (cond (Nat.beq c 2) (2^48) (2^47))
def U0(h:za)(elem:TypeId)(i:TypeInfo)(n:Nat)(new:List aaa)(s:aaa):Option (aaa×za) :=
 match s with
 | .slice none 0 0=>cond (Nat.beq n 0) (some (.slice none 0 0,h)) (cond (Nat.ble (n*i.bytes) (2^48)) (some (.slice (some ⟨h.next,0,none⟩) n 1,h.push (.cells new elem))) none)
 | .slice (some ⟨b,off,none⟩) len c=>cond (Nat.beq n 0) (some (s,h)) (match h.get b with
   |some (.cells cs t)=>cond (!(Nat.beq c 0)&&Nat.beq t elem&&Nat.ble h.ro b&&Nat.ble (off+len*i.size) cs.length&&(roomFor c (len+n) i.bytes&&Nat.beq (off%i.size) 0))
     (some (.slice (some ⟨h.next,0,none⟩) (len+n) (vW c (len+n)),(h.set b none).push (.cells (((cs.drop off).take (len*i.size))++new) elem))) none
   |_=>none)
 |_=>none
def V8(P:Program)(sT xT:TypeId)(s x:aaa)(h:za):Option (aaa×za) :=
 match yd P (underlying sT),yd P (underlying xT),U3 x with
 |some (.slice elem),some xd,some n=>(match yd P (typeInfo elem),kX P elem with
  |some i,some z=>(match qp h n i.size x with
   |some new=>cond (!(ig xd)&&Nat.blt 0 i.bytes&&Nat.beq z.cells.size i.size&&new.all xX&&Nat.beq new.length (n*i.size)) (U0 h elem i n new s) none
   |none=>none)
  |_,_=>none)
 |_,_,_=>none
theorem Step.G6{ρ:xA}{h:za}{w:World}(hr:Rel P ρ h w)(b:Nat):Step P ρ h w ρ (h.set b none) w :=
 ⟨xA.le_refl _,hr.drop b,rfl,rfl,rfl,rfl,aaj _,λ_ _ _=>rfl,λc _ hm=>by
  obtain⟨x,o,pl,hx,h1,h2,h3⟩:=hm;rw[za.yq]at hx;split at hx
  ·cases hx
  ·exact⟨x,o,pl,hx,h1,h2,h3⟩⟩
theorem Wz{sT xT elem:TypeId}{r:TypeId}{xd:TypeDesc}{i:TypeInfo}{len cap:Nat}{base:Option Addr}{x':aaa}{w:World}
  (h1:yd P (underlying sT)=some (.slice elem)) (h2:yd P (underlying xT)=some xd) (h3:ig xd=false) (hi:yd P (typeInfo elem)=some i)
  (hlen:∀w,(Builtin.lenOf x').run P w=.ok 0 w) (hl:len<=cap) (hnew:(Builtin.firstCells i.size 0 x').run P w=.ok ([]:List aaa).toArray w) :
  (Builtin.append_ #[sT,xT] r #[.slice base len cap,x']).run P w=.ok (.slice base len cap) w:=by
 obtain⟨sz1,sz2⟩:=jh hi;simp only[Builtin.append_];simp only[abt,aaC,aaR,aai,zh h1,aad,sz2,zh h2,aan];rw[aae (by cases xd <;> first|exact ab7|cases h3)];simp only[aai,hlen,aad];rw[aah (by omega)];rw[aah (by cases xd <;> first|rfl|cases h3)];simp only[aai,hnew,aad,Nat.add_zero];cases base with
 |none=>simp only[aan]
 |some a=>simp only[storeCells,aan,aad,aai]
set_option maxHeartbeats 1000000 in
theorem sq{ρ:xA}{sT xT r:TypeId}{s s' x x' v:aaa}{h h':za}{w:World}(he:V8 P sT xT s x h=some (v,h'))(hr:Rel P ρ h w)(hs:zG ρ s s')(hx:zG ρ x x') :
  ∃v' w' ρ',(Builtin.append_ #[sT,xT] r #[s',x']).run P w=.ok v' w'/\Step P ρ h w ρ' h' w'/\zG ρ' v v':=by
 unfold V8 at he;split at he
 case h_2=>cases he
 rename_i elem xd n h1 h2 hn;split at he
 case h_2=>cases he
 rename_i i z hi hz;split at he
 case h_2=>cases he
 rename_i new hnew;cases hc:(!(ig xd)&&Nat.blt 0 i.bytes&&Nat.beq z.cells.size i.size&&new.all xX&&Nat.beq new.length (n*i.size)) with
 |false=>rw[hc]at he;cases he
 |true=>
  rw[hc]at he;simp only[aaw]at he;simp only[aac,aao,aav]at hc;obtain⟨⟨⟨⟨h3,hb⟩,hzs⟩,hco⟩,hnl⟩:=hc;have hb:0<i.bytes:=by simpa [aaN] using hb
  have hzs:=aal hzs;have hnl:=aal hnl;have hlen:∀w,(Builtin.lenOf x').run P w=.ok n w:=λw=>i3 hn hx w;have hnx:∀b l cap,x=.slice b l cap->n<=l:=by intro b l cap e;subst e;simp only[U3,aab]at hn;omega
  obtain⟨new',hnew',vnew⟩:=Q3 hnew hr hx hnx
  have hnil:n=0->(Builtin.firstCells i.size 0 x').run P w=.ok ([]:List aaa).toArray w:=by
   intro e;subst e;have:new'=[]:=by have:=vnew.1;rw[hnl,acx]at this;exact abu this.symm
   rw[this]at hnew';exact hnew'
  have hr1:Rel P ρ h {w with drawn:=w.drawn+1}:=hr.grow (λk _=>rfl);obtain⟨new1,hnew1,vnew1⟩:=Q3 (w:={w with drawn:=w.drawn+1}) hnew hr1 hx hnx;unfold U0 at he;split at he
  ·
   cases hs;cases hz0:Nat.beq n 0 with
   |true=>
    obtain rfl:=aal hz0;rw[hz0]at he;simp only[aaw,aab,aaf]at he;obtain⟨rfl,rfl⟩:=he;exact⟨_,w,ρ,Wz h1 h2 h3 hi hlen (aaj 0) (hnil rfl),.refl hr,.sliceNil 0⟩
   |false=>
    rw[hz0]at he
    have hn0:0<n:=by rcases acp n with e|e; · subst e;simp at hz0
                     ·exact e
    cases hlim:Nat.ble (n*i.bytes) (2^48) with
    |false=>rw[hlim]at he;cases he
    |true=>
     rw[hlim]at he;simp only[aaw,aaH,aab,aaf]at he;obtain⟨rfl,rfl⟩:=he;have hlim:=aaF hlim
     obtain⟨cap',w',pl,e1,e2,e3,e4,e5,e6,st⟩:=run_append_grow (r:=r) (base:=none) (len:=0) (cap:=0) (old:=[]) (old':=[]) hr h1 h2 h3 hi hz hb hzs hlen (by omega)
      (by rw[fD _ (by omega)];simpa using hlim) (by simp[Builtin.firstCells]) hnew1 (.nil ρ) vnew1 (by simp) hnl
     rw[abf]at e1 e2;refine⟨_,w',_,e1,st,?_⟩
     have:=zG.slice (ρ:=ρ.ext pl) (b:=h.next) (off:=0) (len:=n) (c:=1) (cap:=cap') (pl:=pl) (by show h.next<ρ.next+1;rw[hr.next];exact aa6 _) (by rw[<- hr.next];exact ρ.kq _) e2
      (λ_=>⟨by rw[e4,e5];simpa using e6,λk hk=>by omega⟩)
     rw[e3,e4]at this;exact this
  ·rename_i b off len c;cases hz0:Nat.beq n 0 with
   |true=>
    obtain rfl:=aal hz0;rw[hz0]at he;simp only[aaw,aab,aaf]at he;obtain⟨rfl,rfl⟩:=he;cases hs with
    |slice hb' hm' hl' hc'=>exact⟨_,w,ρ,Wz h1 h2 h3 hi hlen hl' (hnil rfl),.refl hr,.slice hb' hm' hl' hc'⟩
    |sliceOut hb' hc'=>exact⟨_,w,ρ,Wz h1 h2 h3 hi hlen (aaj 0) (hnil rfl),.refl hr,.sliceOut hb' hc'⟩
   |false=>
    rw[hz0]at he
    have hn0:0<n:=by rcases acp n with e|e; · subst e;simp at hz0
                     ·exact e
    simp only[aaH]at he;split at he
    case h_2=>cases he
    rename_i cs t hg;cases hcc:(!(Nat.beq c 0)&&Nat.beq t elem&&Nat.ble h.ro b&&Nat.ble (off+len*i.size) cs.length&&(roomFor c (len+n) i.bytes&&Nat.beq (off%i.size) 0)) with
    |false=>rw[hcc]at he;cases he
    |true=>
     rw[hcc]at he;simp only[aaw,aab,aaf]at he;obtain⟨rfl,rfl⟩:=he;simp only[aac,aao]at hcc;obtain⟨⟨⟨⟨k1,k2⟩,k3⟩,k4⟩,k5,k6⟩:=hcc;have k1:c≠0:=by intro e;subst e;simp at k1
     obtain rfl:=aal k2;have k3:=aaF k3;have k4:=aaF k4
     have hlim:∀cap,cap<len+n->(c=2->cap=0)->Builtin.nextslicecap (len+n) cap*i.bytes<=2^48:=by
      intro cap hcap h2c;unfold roomFor at k5;by_cases e2:c=2
      ·subst e2;rw[h2c rfl,fD _ (by omega)];simp only[ab5,aaw]at k5;exact aaF k5
      ·rw[show Nat.beq c 2=false from Tr.beq_false e2]at k5;simp only[aaH]at k5;have k5:=aaF k5;have:=G3 (len+n) cap hcap
       calc Builtin.nextslicecap (len+n) cap*i.bytes<=(2*(len+n))*i.bytes:=abJ _ this
        _=2*((len+n)*i.bytes):=Nat.mul_assoc _ _ _
        _<=2*2^47:=Nat.mul_le_mul_left _ k5
        _=2^48:=by decide
     have hdropr:=hr.drop b;cases hs with
     |slice hb' hm' hl' hc'=>
      rename_i cap pl;obtain⟨c1,c2⟩:=hc' k1;obtain⟨sz1,_⟩:=jh hi;have hpl:=hr.place hg hm';have hesz:pl.IC=i.size:=by obtain⟨_,_,_,_,q,_⟩:=hpl;rw[q.1,sz1]
      by_cases hfit:len+n<=cap
      ·obtain⟨w',e1,st⟩:=sR (r:=r) hr h1 h2 h3 hi hlen hfit hg hm' k3 hnew' vnew hnl hco (by rw[<- hesz];exact c1) k4 (aal k6);refine⟨_,w',_,e1,st,?_⟩
       have:=zG.slice (ρ:=ρ.ext ⟨pl.c,pl.base+off,pl.size,pl.IC⟩) (b:=h.next) (off:=0) (len:=len+n) (c:=vW c (len+n)) (cap:=cap) (pl:=⟨pl.c,pl.base+off,pl.size,pl.IC⟩)
        (by show h.next<ρ.next+1;rw[hr.next];exact aa6 _) (by rw[<- hr.next];exact ρ.kq _) hfit
        (λ_=>⟨by simpa using c1,λk hk=>c2 k (Vq hk).1⟩)
       simpa using this
      ·have hfull:(c=2->cap=0):=λe=>c2 0 (by omega);obtain⟨old',hold',vold⟩:=jg (hr1.place hg hm') off (len*i.size) k4
       obtain⟨cap',w',pl',e1,e2,e3,e4,e5,e6,st⟩:=run_append_grow (r:=r) (base:=some ⟨pl.c,pl.base+off,none⟩) (len:=len) (cap:=cap) hdropr h1 h2 h3 hi hz hb hzs hlen (by omega)
        (hlim cap (by omega) hfull) (by simpa only[Builtin.firstCells] using hold') hnew1 vold vnew1 (by simp only[aa3,abM];omega) hnl
       refine⟨_,w',_,e1,(Step.G6 hr b).trans st,?_⟩
       have:=zG.slice (ρ:=ρ.ext pl') (b:=h.next) (off:=0) (len:=len+n) (c:=vW c (len+n)) (cap:=cap') (pl:=pl') (by show h.next<ρ.next+1;rw[hr.next];exact aa6 _) (by rw[<- hr.next];exact ρ.kq _) e2
        (λ_=>⟨by rw[e4,e5];simpa using e6,λk hk=>by
         have q:=Vq hk;have:=c2 k q.1;omega⟩)
       rw[e3,e4]at this;exact this
     |sliceOut hb' hc'=>
      obtain⟨cap',w',pl',e1,e2,e3,e4,e5,e6,st⟩:=run_append_grow (r:=r) (base:=some _) (len:=0) (cap:=0) (old:=(cs.drop off).take (0*i.size)) (old':=[]) hdropr h1 h2 h3 hi hz hb hzs hlen (by omega)
       (hlim 0 (by omega) (λ_=>rfl)) (by simp only[Builtin.firstCells,acx];rfl) hnew1 (by simp[wI]) vnew1 (by simp) hnl
      refine⟨_,w',_,e1,(Step.G6 hr b).trans st,?_⟩
      have:=zG.slice (ρ:=ρ.ext pl') (b:=h.next) (off:=0) (len:=0+n) (c:=vW c (0+n)) (cap:=cap') (pl:=pl') (by show h.next<ρ.next+1;rw[hr.next];exact aa6 _) (by rw[<- hr.next];exact ρ.kq _) e2
       (λ_=>⟨by rw[e4,e5];simpa using e6,λk hk=>by
        have q:=Vq hk;omega⟩)
      rw[e3,e4]at this;exact this
  ·cases he
end
noncomputable section
variable {P:Program}
def QV(h:za)(b off:Nat)(new:List aaa):Option za :=
 cond (Nat.beq new.length 0) (some h) (match h.get b with
  |some (.cells cs t)=>cond (Nat.ble h.ro b&&Nat.ble (off+new.length) cs.length&&new.all xX) (some (h.set b (some (.cells (zt cs off new) t)))) none
  |_=>none)
theorem sB{ρ:xA}{h h':za}{w:World}{b off:Nat}{pl:Place}{new new':List aaa}(he:QV h b off new=some h')(hr:Rel P ρ h w)(hm:ρ.m b=some pl)(hv:wI ρ new new') :
  ∃w',(storeCells ⟨pl.c,pl.base+off,none⟩ new').run P w=.ok () w'/\Step P ρ h w ρ h' w':=by
 unfold QV at he;cases hz:Nat.beq new.length 0 with
 |true=>
  rw[hz]at he;simp only[aaw,aab]at he;subst he;have:new=[]:=abu (aal hz);subst this;cases hv.uI;exact⟨w,rfl,.refl hr⟩
 |false=>
  rw[hz]at he;simp only[aaH]at he;split at he
  case h_2=>cases he
  rename_i cs t hg;cases hc:(Nat.ble h.ro b&&Nat.ble (off+new.length) cs.length&&new.all xX) with
  |false=>rw[hc]at he;cases he
  |true=>
   rw[hc]at he;simp only[aaw,aab]at he;subst he;simp only[aac,aav]at hc;exact JH (o:=off) hm new new' h w cs 0 hr hg (aaF hc.1.1) (by have:=aaF hc.1.2;omega) hv hc.2
def oB(P:Program)(dT:TypeId)(d x:aaa)(h:za):Option (aaa×za) :=
 match yd P (underlying dT),d,U3 x with
 |some (.slice elem),.slice base dl _,some m=>(match yd P (typeInfo elem) with
  |none=>none
  |some i=>(match qp h (Nat.min m dl) i.size x with
   |none=>none
   |some new=>(match base with
    |none=>some (goInt (Nat.min m dl),h)
    |some ⟨b,off,none⟩=>(QV h b off new).map λh'=>(goInt (Nat.min m dl),h')
    |some _=>none)))
 |_,_,_=>none
theorem D1{ρ:xA}{dT r:TypeId}{ts:Array TypeId}{d d' x x' v:aaa}{h h':za}{w:World}(he:oB P dT d x h=some (v,h'))(hr:Rel P ρ h w)(hd:zG ρ d d')(hx:zG ρ x x')(hts:ts[0]? = some dT) :
  ∃v' w',(Builtin.copy_ ts r #[d',x']).run P w=.ok v' w'/\Step P ρ h w ρ h' w'/\zG ρ v v':=by
 unfold oB at he;split at he
 case h_2=>cases he
 rename_i elem base dl c m hu hm;split at he
 case h_1=>cases he
 rename_i i hi;obtain⟨sz1,sz2⟩:=jh hi;split at he
 case h_1=>cases he
 rename_i new hnew;have hlen:=λw=>i3 (P:=P) hm hx w;obtain⟨new',hnew',vnew⟩:=Q3 hnew hr hx (by intro b l cap e;subst e;simp only[U3,aab]at hm;subst hm;exact Nat.min_le_left _ _);cases hd with
 |sliceNil=>
  simp only[aab,aaf]at he;obtain⟨rfl,rfl⟩:=he;refine⟨goInt (Nat.min m 0),w,?_,.refl hr,.int _ _⟩;simp only[Builtin.copy_,hts];simp only[abt,aaC,aaR,aai,zh hu,aad,hlen,sz2,hnew',aan]
 |slice hb hmm hl hc=>
  simp only[aau,aaf]at he;obtain⟨h2,hsp,rfl,rfl⟩:=he;obtain⟨w',e,st⟩:=sB hsp hr hmm vnew;refine⟨_,w',?_,st,.int _ _⟩;simp only[Builtin.copy_,hts];simp only[abt,aaC,aaR,aai,zh hu,aad,hlen,sz2,hnew',e,aan];rfl
 |sliceOut hb hc=>
  simp only[aau,aaf]at he;obtain⟨h2,hsp,rfl,rfl⟩:=he;have hmin:Nat.min m 0=0:=Nat.min_zero m
  have hnil:new=[]:=by
   rw[hmin]at hnew;cases hx with
   |sliceNil=>simp only[qp,aab]at hnew;exact hnew.symm
   |slice=>simp only[qp,acx,ab5,aaw,aab]at hnew;exact hnew.symm
   |sliceOut=>simp only[qp,acx,ab5,aaw,aab]at hnew;exact hnew.symm
   |string=>simp only[qp,aab]at hnew;rw[<- hnew];simp
   |_=>cases hm
  subst hnil;cases vnew.uI;simp only[QV,abH,ab5,aaw,aab]at hsp;subst hsp;refine⟨goInt (Nat.min m 0),w,?_,.refl hr,.int _ _⟩;simp only[Builtin.copy_,hts];simp only[abt,aaC,aaR,aai,zh hu,aad,hlen,sz2,hnew',aan,storeCells]
def oA(P:Program)(t:TypeId)(x:aaa)(h:za):Option za:=none
theorem Bt{ρ:xA}{t r:TypeId}{x x':aaa}{h h':za}{w:World}(he:oA P t x h=some h')(hr:Rel P ρ h w)(hx:zG ρ x x') :
  ∃w',(Builtin.clear_ #[t] r #[x']).run P w=.ok undef w'/\Step P ρ h w ρ h' w':=by
 unfold oA at he;cases he
def bytesOf:List aaa->ByteArray->Option ByteArray
 |[],s=>some s
 | .int .u8 n::l,s=>bytesOf l (s.push (UInt8.ofNat n.toNat))
 |_::_,_=>none
def NQ(h:za)(x:aaa):Option aaa :=
 match x with
 | .slice none _ _=>some (.string .empty)
 | .slice (some ⟨b,off,none⟩) n _=>cond (Nat.beq n 0) (some (.string .empty)) (match h.get b with
   |some (.cells c _)=>cond (Nat.ble (off+n) c.length) ((bytesOf ((c.drop off).take n) .empty).map .string) none
   |_=>none)
 |_=>none
theorem lh{ρ:xA}:∀(l l':List aaa) (s r:ByteArray),bytesOf l s=some r->wI ρ l l'->∀w:World,
  (forIn l' s λc s=>(match c with
   | .int .u8 n=>pure (ForInStep.yield (s.push (UInt8.ofNat n.toNat)))
   |_=>(do stuck "bytesToString: byte expected";pure (ForInStep.yield s)):Sem (ForInStep ByteArray))).run P w=.ok r w
 |[],l',s,r,h,hv,w=>by
  cases hv.uI;simp only[bytesOf,aab]at h;subst h;rfl
 |x::l,l',s,r,h,hv,w=>by
  obtain⟨y,ys,rfl,h1,h2⟩:=hv.cons_inv;unfold bytesOf at h;split at h
  ·rename_i e;cases e
  ·rename_i e;simp only[abe]at e;obtain⟨rfl,rfl⟩:=e;cases h1;rw[List.forIn_cons];simp only[aai,aan,aad];exact lh _ _ _ _ h h2 w
  ·cases h
theorem Gd{ρ:xA}{h:za}{w:World}{x x' v:aaa}(he:NQ h x=some v)(hr:Rel P ρ h w)(hx:zG ρ x x'):(Conv.bytesToString x').run P w=.ok v w/\zG ρ v v:=by
 unfold NQ at he;split at he
 ·simp only[aab]at he;subst he;cases hx;exact⟨rfl,.string _⟩
 ·rename_i b off n c;cases hz:Nat.beq n 0 with
  |true=>
   rw[hz]at he;obtain rfl:=aal hz;simp only[aaw,aab]at he;subst he;refine⟨?_,.string _⟩;cases hx <;> (simp only[Conv.bytesToString,loadCells,loadCellsFrom,aai,aan,aad];rw[<- Array.forIn_toList];rfl)
  |false=>
   rw[hz]at he;simp only[aaH]at he;split at he
   case h_2=>cases he
   rename_i cs t hg;cases hle:Nat.ble (off+n) cs.length with
   |false=>rw[hle]at he;cases he
   |true=>
    rw[hle]at he;simp only[aaw,aau]at he;obtain⟨r,hb,rfl⟩:=he;refine⟨?_,.string _⟩;cases hx with
    |slice hb' hm hl hc=>
     obtain⟨ys,hys,hv⟩:=jg (hr.place hg hm) off n (aaF hle);simp only[Conv.bytesToString,aai,hys,aad];rw[<- Array.forIn_toList];have:=lh (P:=P) _ _ _ _ hb hv w;rw[show ys.toArray.toList=ys from rfl];exact(congrArg (λq:Result ByteArray=>q.andThen λa w'=>Sem.run P (pure (Value.string a)) w') this)
    |sliceOut=>simp at hz
 ·cases he
end
noncomputable section
variable {P:Program}
theorem Kx{α:Type}{b:Bool}{x:Option α}{y:α}(h:cond b x none=some y):b=true/\x=some y:=by
 cases b
 ·cases h
 ·exact⟨rfl,h⟩
abbrev Z7:=aaa×aaa×Nat
def WU(k:aaa):MapEntry:={key:=k,val:=undef,born:=0}
def eI(P:Program)(kt:TypeId)(k:aaa)(es:List Z7):Option (Option Nat) :=
 cond (flat k&&es.all λe=>flat e.1) (match yd P (Instr.findKey kt k (es.map λe=>WU e.1)) with
  |some (some (i,_))=>some (some i)
  |some none=>some none
  |none=>none) none
def Y4(ρ:xA)(es:List Z7)(ms:List MapEntry):Prop:=es.length=ms.length /\ ∀(i:Nat) x m,es[i]? = some x->ms[i]? = some m->zG ρ x.1 m.key/\zG ρ x.2.1 m.val/\m.born=x.2.2
theorem Y4.tail{ρ:xA}{x:Z7}{es:List Z7}{m:MapEntry}{ms:List MapEntry}(h:Y4 ρ (x::es) (m::ms)):(zG ρ x.1 m.key/\zG ρ x.2.1 m.val/\m.born=x.2.2)/\Y4 ρ es ms :=
 ⟨h.2 0 x m rfl rfl,by simpa using h.1,λi a b ha hb=>h.2 (i+1) a b (by simpa using ha) (by simpa using hb)⟩
theorem Y4.nil{ρ:xA}:Y4 ρ [] []:=⟨rfl,λi x m hx=>by simp at hx⟩
theorem Y4.uI{ρ:xA}{ms:List MapEntry}(h:Y4 ρ [] ms):ms=[]:=abu (by have:=h.1;simpa using this.symm)
theorem Y4.cons_inv{ρ:xA}{x:Z7}{es:List Z7}{ms:List MapEntry}(h:Y4 ρ (x::es) ms):∃m ms',ms=m::ms'/\(zG ρ x.1 m.key/\zG ρ x.2.1 m.val/\m.born=x.2.2)/\Y4 ρ es ms':=by
 cases ms with
 |nil=>have:=h.1;simp at this
 |cons m ms=>exact⟨m,ms,rfl,h.tail⟩
theorem Y4.keys{ρ:xA}:∀{es:List Z7} {ms:List MapEntry},Y4 ρ es ms->(es.all λe=>flat e.1)=true->ms.map (·.key)=(es.map λe=>WU e.1).map (·.key)
 |[],ms,h,_=>by rw[h.uI];rfl
 |x::es,ms,h,hf=>by
  obtain⟨m,ms',rfl,h1,h2⟩:=h.cons_inv;simp only[acd,aac]at hf;simp only[abo];rw[kr h1.1 hf.1,Y4.keys h2 hf.2];rfl
theorem fe{kind:TypeDesc}{k:aaa}:∀{ms ns:List MapEntry} {i:Nat} {r:Option (Nat×aaa)},ms.map (·.key)=ns.map (·.key)->Instr.findNow kind k ns i=some r ->
  ∃r',Instr.findNow kind k ms i=some r'/\r'.map (·.1)=r.map (·.1)
 |[],[],i,r,_,h=>by simp only[Instr.findNow,aab]at h;subst h;exact⟨none,rfl,rfl⟩
 |[],_::_,i,r,e,h=>by simp at e
 |_::_,[],i,r,e,h=>by simp at e
 |m::ms,n::ns,i,r,e,h=>by
  simp only[abo,abe]at e;simp only[Instr.findNow]at h ⊢;rw[e.1];split at h
  ·rename_i hs;simp only[aab]at h;subst h;exact⟨_,rfl,rfl⟩
  ·rename_i hs;obtain⟨r',h1,h2⟩:=fe e.2 h;exact⟨r',h1,h2⟩
  ·cases h
theorem fh{kind:TypeDesc}{k:aaa}:∀{ms ns:List MapEntry} {i:Nat},ms.map (·.key)=ns.map (·.key)->Instr.findNow kind k ns i=none->Instr.findNow kind k ms i=none
 |[],[],i,_,h=>h
 |[],_::_,i,e,h=>by simp at e
 |_::_,[],i,e,h=>by simp at e
 |m::ms,n::ns,i,e,h=>by
  simp only[abo,abe]at e;simp only[Instr.findNow]at h ⊢;rw[e.1];split at h
  ·cases h
  ·exact fh e.2 h
  ·rfl
theorem A9{α β:Type}{x:Sem α}{f:α->Sem β}{r:β}(h:yd P (x >>= f)=some r):∃a,yd P x=some a/\yd P (f a)=some r:=by
 induction x with
 |pure a=>exact⟨a,rfl,h⟩
 |program k ih=>exact ih P h
 |_=>cases h
theorem Ky{kt:TypeId}{k:aaa}:∀{ms ns:List MapEntry} {i:Nat} {r:Option (Nat×aaa)},ms.map (·.key)=ns.map (·.key)->yd P (Instr.findAsking kt k ns i)=some r ->
  ∃r',(∀w,(Instr.findAsking kt k ms i).run P w=.ok r' w)/\r'.map (·.1)=r.map (·.1)
 |[],[],i,r,_,h=>by
  have h:some none=some r:=h;simp only[aab]at h;subst h;exact⟨none,λw=>rfl,rfl⟩
 |[],_::_,i,r,e,h=>by simp at e
 |_::_,[],i,r,e,h=>by simp at e
 |m::ms,n::ns,i,r,e,h=>by
  simp only[abo,abe]at e;simp only[Instr.findAsking]at h;obtain⟨b,h1,h2⟩:=A9 h;rw[<- e.1]at h1;cases b with
  |true=>
   simp only[abZ]at h2;have h2:some (some (i,n.val))=some r:=h2;simp only[aab]at h2;subst h2;exact⟨some (i,m.val),λw=>by simp only[Instr.findAsking,aai,zh h1,aad,abZ,aan],rfl⟩
  |false=>
   simp only[abh,ab1]at h2;obtain⟨r',h3,h4⟩:=Ky e.2 h2;exact⟨r',λw=>by simp only[Instr.findAsking,aai,zh h1,aad,abh,ab1,h3],h4⟩
theorem e9{kt:TypeId}{k:aaa}{ms ns:List MapEntry}{r:Option (Nat×aaa)}(e:ms.map (·.key)=ns.map (·.key))(h:yd P (Instr.findKey kt k ns)=some r) :
  ∃r',(∀w,(Instr.findKey kt k ms).run P w=.ok r' w)/\r'.map (·.1)=r.map (·.1):=by
 simp only[Instr.findKey]at h;obtain⟨kind,h1,h2⟩:=A9 h;split at h2
 ·rename_i r0 hn;have h2:some r0=some r:=h2;simp only[aab]at h2;subst h2;obtain⟨r',h3,h4⟩:=fe e hn;exact⟨r',λw=>by simp only[Instr.findKey,aai,zh h1,aad,h3,aan],h4⟩
 ·rename_i hn;obtain⟨r',h3,h4⟩:=Ky e h2;exact⟨r',λw=>by simp only[Instr.findKey,aai,zh h1,aad,fh e hn,h3],h4⟩
theorem pA{kind:TypeDesc}{k:aaa}:∀{ms:List MapEntry} {i j:Nat} {v:aaa},Instr.findNow kind k ms i=some (some (j,v))->i<=j /\ ∃m,ms[j-i]? = some m/\m.val=v
 |[],i,j,v,h=>by simp[Instr.findNow]at h
 |m::ms,i,j,v,h=>by
  simp only[Instr.findNow]at h;split at h
  ·simp only[aab,aaf]at h;obtain⟨rfl,rfl⟩:=h;exact⟨aaj _,m,by simp,rfl⟩
  ·obtain⟨h1,x,h2,h3⟩:=pA h;exact⟨by omega,x,by rw[show j-i=(j-(i+1))+1 by omega,aaR];exact h2,h3⟩
  ·cases h
theorem bE{kt:TypeId}{k:aaa}:∀{ms:List MapEntry} {i j:Nat} {v:aaa} {w w':World},(Instr.findAsking kt k ms i).run P w=.ok (some (j,v)) w'->i<=j /\ ∃m,ms[j-i]? = some m/\m.val=v
 |[],i,j,v,w,w',h=>by simp[Instr.findAsking,aan]at h
 |m::ms,i,j,v,w,w',h=>by
  simp only[Instr.findAsking,aai]at h;cases he:(Op.equal kt k m.key).run P w with
  |halt a b=>rw[he]at h;cases h
  |ok b w1=>
   rw[he]at h;simp only[aad]at h;cases b with
   |true=>
    simp only[abZ,aan,Result.ok.injEq,aab,aaf]at h;obtain⟨⟨rfl,rfl⟩,_⟩:=h;exact⟨aaj _,m,by simp,rfl⟩
   |false=>
    simp only[abh,ab1]at h;obtain⟨h1,x,h2,h3⟩:=bE h;exact⟨by omega,x,by rw[show j-i=(j-(i+1))+1 by omega,aaR];exact h2,h3⟩
theorem GF{kt:TypeId}{k:aaa}{ms:List MapEntry}{j:Nat}{v:aaa}{w w':World}(h:(Instr.findKey kt k ms).run P w=.ok (some (j,v)) w'):∃m,ms[j]? = some m/\m.val=v:=by
 simp only[Instr.findKey,aai]at h;cases he:(underlying kt).run P w with
 |halt a b=>rw[he]at h;cases h
 |ok kind w1=>
  rw[he]at h;simp only[aad]at h;split at h
  ·rename_i r hn;simp only[aan,Result.ok.injEq]at h;rw[h.1]at hn;obtain⟨_,x,h2,h3⟩:=pA hn;exact⟨x,by simpa using h2,h3⟩
  ·obtain⟨_,x,h2,h3⟩:=bE h;exact⟨x,by simpa using h2,h3⟩
theorem YS{ρ:xA}{kt:TypeId}{k k':aaa}{es:List Z7}{ms:List MapEntry}{r:Option Nat}(hk:zG ρ k k')(he:Y4 ρ es ms)(h:eI P kt k es=some r) :
  k'=k /\ ∃r',(∀w,(Instr.findKey kt k' ms).run P w=.ok r' w)/\(match r with
   |none=>r'=none
   |some i=>∃x m,es[i]? = some x/\ms[i]? = some m/\r'=some (i,m.val)/\zG ρ x.2.1 m.val/\m.born=x.2.2/\m.key=x.1):=by
 unfold eI at h;obtain⟨hf,h⟩:=Kx h;simp only[aac]at hf;obtain rfl:=kr hk hf.1;refine⟨rfl,?_⟩;split at h
 ·rename_i i v hs;simp only[aab]at h;subst h;obtain⟨r',h1,h2⟩:=e9 (he.keys hf.2) hs;refine⟨r',h1,?_⟩;cases r' with
  |none=>simp at h2
  |some y=>
   obtain⟨j,u⟩:=y;simp only[abn,aab]at h2;subst h2;obtain⟨m,hm,rfl⟩:=GF (h1 default)
   have hlt:j<es.length:=by
    rw[he.1];rcases aaI j ms.length with hl|hl
    ·exact hl
    ·rw[aas hl]at hm;cases hm
   have hx:=aag hlt;obtain⟨q1,q2,q3⟩:=he.2 j _ m hx hm
   have hfx:flat (es[j]).1=true:=by
    have:=hf.2;simp only[aav]at this;exact this _ (abU hlt)
   exact⟨_,m,hx,hm,rfl,q2,q3,kr q1 hfx⟩
 ·rename_i hs;simp only[aab]at h;subst h;obtain⟨r',h1,h2⟩:=e9 (he.keys hf.2) hs;refine⟨r',h1,?_⟩;cases r' with
  |none=>rfl
  |some y=>simp at h2
 ·cases h
theorem Yw{w:World}{l:Nat}{ms:Array MapEntry}{c:Nat}(h:w.heap[l]? = some (.map ms c)):(getObj l).run P w=.ok (.map ms c) w:=by
 simp only[getObj,Sem.run,h]
theorem Kl{w:World}{l:Nat}{ms:Array MapEntry}{c:Nat}(h:w.heap[l]? = some (.map ms c))(o:Obj):(setObj l o).run P w=.ok () {w with heap:=w.heap.setIfInBounds l o}:=by
 simp only[setObj,Sem.run,h]
theorem Rel.map{ρ:xA}{h:za}{w:World}(hr:Rel P ρ h w){b:Nat}{es:List Z7}{q:Nat}{pl:Place}(hg:h.get b=some (.map es q))(hm:ρ.m b=some pl) :
  ∃ms,w.heap[pl.c]? = some (.map ms q)/\Y4 ρ es ms.toList:=by
 obtain⟨pl',hm',ms,h1,h2,h3⟩:=hr.ok b _ hg;rw[hm]at hm';cases hm';exact⟨ms,h1,by simp[h2],λi x m hx hm=>h3 i x m hx (by simpa using hm)⟩
theorem Y4.size{ρ:xA}{es:List Z7}{ms:Array MapEntry}(h:Y4 ρ es ms.toList):ms.isEmpty=es.isEmpty:=by
 have:=h.1;cases es with
 |nil=>simp at this;rw[abA this.symm];rfl
 |cons x es=>simp at this;cases hs:ms.isEmpty with
  |false=>rfl
  |true=>simp at hs;subst hs;simp at this
def KC(h:za):aaa->Option (List Z7)
 | .map none=>some []
 | .map (some b)=>(match h.get b with
   |some (.map es _)=>some es
   |_=>none)
 |_=>none
def Zg(P:Program)(t:TypeId)(x k:aaa)(commaOk:Bool)(h:za):Option aaa :=
 match yd P (underlying t),KC h x with
 |some (.map kt et),some es=>(match yd P (Instr.checkKey es.isEmpty 10000 kt k) with
  |some _=>(match eI P kt k es with
   |some (some i)=>(match es[i]? with
    |some e=>some (cond commaOk (.tuple #[e.2.1,.bool true]) e.2.1)
    |none=>none)
   |some none=>(match kX P et with
    |some z=>some (cond commaOk (.tuple #[z,.bool false]) z)
    |none=>none)
   |none=>none)
  |none=>none)
 |_,_=>none
theorem Hp{ρ:xA}{a b a' b':aaa}(h:zG ρ a a')(k:zG ρ b b'):zG ρ (.tuple #[a,b]) (.tuple #[a',b']) :=
 .tuple rfl (λi x y hx hy=>by
  rcases i with _|_|i
  ·simp at hx hy;subst hx hy;exact h
  ·simp at hx hy;subst hx hy;exact k
  ·simp at hx)
theorem su{ρ:xA}{t:TypeId}{x x' k k' v:aaa}{ok:Bool}{h:za}{w:World}(he:Zg P t x k ok h=some v)(hr:Rel P ρ h w)(hx:zG ρ x x')(hk:zG ρ k k') :
  ∃v',(Instr.lookup t x' k' ok).run P w=.ok v' w/\zG ρ v v':=by
 unfold Zg at he;split at he
 case h_2=>cases he
 rename_i kt et es ht hes;split at he
 case h_2=>cases he
 rename_i hck
 obtain⟨ms,hx',hrel⟩:∃ms:Array MapEntry,((x'=.map none/\ms = #[]) \/ ∃c q,x'=.map (some c)/\w.heap[c]? = some (.map ms q))/\Y4 ρ es ms.toList:=by
  cases hx with
  |mapNil=>simp only[KC,aab]at hes;subst hes;exact⟨#[],.inl ⟨rfl,rfl⟩,.nil⟩
  |map hb hm=>
   simp only[KC]at hes;split at hes
   ·rename_i g;simp only[aab]at hes;subst hes;obtain⟨ms,h1,h2⟩:=hr.map g hm;exact⟨ms,.inr ⟨_,_,rfl,h1⟩,h2⟩
   ·cases hes
  |_=>cases hes
 have hfin:∀{q q':aaa} {b:Bool},zG ρ q q'->(pure (if ok then .tuple #[q',.bool b] else q'):Sem aaa).run P w=.ok (cond ok (.tuple #[q',.bool b]) q') w/\zG ρ (cond ok (.tuple #[q,.bool b]) q) (cond ok (.tuple #[q',.bool b]) q'):=by
  intro q q' b hq;cases ok
  ·exact⟨rfl,hq⟩
  ·exact⟨rfl,Hp hq (.bool b)⟩
 rw[<- hrel.size]at hck;split at he
 ·rename_i i hf;obtain⟨rfl,r',hr',x0,m,hx0,hm,rfl,q1,q2,q3⟩:=YS hk hrel hf;rw[hx0]at he;simp only[aab]at he;subst he;refine⟨_,?_,(hfin (b:=true) q1).2⟩;rcases hx' with⟨rfl,rfl⟩|⟨c,q,rfl,hg⟩
  ·simp at hm
  ·simp only[Instr.lookup,aai,zh ht,aad,Yw hg,zh hck,hr',aan];exact(hfin (b:=true) q1).1
 ·rename_i hf;split at he
  case h_2=>cases he
  rename_i z hz;simp only[aab]at he;subst he;obtain⟨z1,z2⟩:=ZG (ρ:=ρ) hz w;obtain⟨rfl,r',hr',rfl⟩:=YS hk hrel hf;refine⟨_,?_,(hfin (b:=false) z2).2⟩;rcases hx' with⟨rfl,rfl⟩|⟨c,q,rfl,hg⟩
  ·simp only[Instr.lookup,aai,zh ht,aad,zh hck,hr',z1,aan];exact(hfin (b:=false) z2).1
  ·simp only[Instr.lookup,aai,zh ht,aad,Yw hg,zh hck,hr',z1,aan];exact(hfin (b:=false) z2).1
 ·cases he
def i0(P:Program)(t:TypeId)(x:aaa)(h:za):Option aaa :=
 match lK P t x with
 |some v=>some v
 |none=>(match yd P (underlying t),KC h x with
  |some (.map _ _),some es=>some (goInt es.length)
  |_,_=>none)
theorem D3{ρ:xA}{t:TypeId}{x x' v:aaa}{h:za}{w:World}(he:i0 P t x h=some v)(hr:Rel P ρ h w)(hx:zG ρ x x')(r:TypeId):(Builtin.len_ #[t] r #[x']).run P w=.ok v w/\zG ρ v v:=by
 unfold i0 at he;split at he
 ·rename_i hl;simp only[aab]at he;subst he;exact Gi hl hx r w
 ·split at he
  case h_2=>cases he
  rename_i k e es ht hes;simp only[aab]at he;subst he;refine⟨?_,.int _ _⟩;cases hx with
  |mapNil=>simp only[KC,aab]at hes;subst hes;simp[Builtin.len_,zh ht]
  |map hb hm=>
   simp only[KC]at hes;split at hes
   ·rename_i g;simp only[aab]at hes;subst hes;obtain⟨ms,h1,h2⟩:=hr.map g hm;have hsz:=h2.1;simp only[abp]at hsz;simp[Builtin.len_,zh ht,Yw h1,hsz]
   ·cases hes
  |_=>cases hes
def wV(h:za):aaa×za:=(.map (some h.next),h.push (.map [] 0))
theorem oF{ρ:xA}{h:za}{w:World}(hr:Rel P ρ h w)(t:TypeId) :
  ∃v' w' ρ',(Instr.makeMap t none).run P w=.ok v' w'/\Step P ρ h w ρ' (wV h).2 w'/\zG ρ' (wV h).1 v':=by
 let pl:Place:=⟨w.heap.size,0,0,0⟩
 refine⟨.map (some w.heap.size),{w with heap:=w.heap.push (.map #[] 0)},ρ.ext pl,rfl,Step.aF hr (ob := .map [] 0) (pl:=pl) rfl rfl ⟨#[],by simp[pl],rfl,λi x m hx=>by simp at hx⟩ rfl rfl rfl,?_⟩;exact .map (pl:=pl) (by show h.next<ρ.next+1;rw[hr.next];omega) (by rw[<- hr.next];exact ρ.kq pl)
theorem Step.Cn{ρ:xA}{h:za}{w:World}(hr:Rel P ρ h w){b:Nat}{ob:wS}{pl:Place}{wo:Obj}(g:h.get b=some ob)(hm:ρ.m b=some pl)(hro:h.ro<=b)(hg:w.heap[pl.c]? = some wo){ms':Array MapEntry}{q':Nat}{es':List Z7}(hr':Y4 ρ es' ms'.toList) :
  Step P ρ h w ρ (h.set b (some (.map es' q'))) {w with heap:=w.heap.setIfInBounds pl.c (.map ms' q')}:=by
 refine Step.Hc hr g hm hro (ob' := .map es' q') ⟨ms',?_,by have:=hr'.1;simpa using this.symm,λi x m hx hm=>hr'.2 i x m hx (by simpa using hm)⟩ rfl rfl rfl (by simp) (λk hk=>?_)
 ·show(w.heap.setIfInBounds pl.c _)[pl.c]? = _;rw[aa5,aah rfl,aah (YX hg)]
 ·show(w.heap.setIfInBounds pl.c _)[k]? = _;rw[aa5,aae (Ne.symm hk)]
def qI(P:Program)(t:TypeId)(x k v:aaa)(h:za):Option za :=
 match yd P (underlying t),x with
 |some (.map kt _),.map (some b)=>(match h.get b with
  |some (.map es q)=>(match yd P (Instr.checkKey false 10000 kt k) with
   |some _=>cond (Nat.ble h.ro b)
     (match eI P kt k es with
      |some (some i)=>(match es[i]? with
       |some e=>cond (Instr.sameBits 10000 e.1 k) (some (h.set b (some (.map (es.set i (k,v,e.2.2)) q)))) none
       |none=>none)
      |some none=>some (h.set b (some (.map (es++[(k,v,q)]) (q+1))))
      |none=>none) none
   |none=>none)
  |_=>none)
 |_,_=>none
theorem gS{ρ:xA}{t:TypeId}{x x' k k' v v':aaa}{h h':za}{w:World}(he:qI P t x k v h=some h')(hr:Rel P ρ h w)(hx:zG ρ x x')(hk:zG ρ k k')(hv:zG ρ v v') :
  ∃w',(Instr.mapUpdate t x' k' v').run P w=.ok () w'/\Step P ρ h w ρ h' w':=by
 unfold qI at he;split at he
 case h_2=>cases he
 rename_i kt et b ht;cases hx with
 |map hb hm=>
  rename_i pl;split at he
  case h_2=>cases he
  rename_i es q g;split at he
  case h_2=>cases he
  rename_i hck;obtain⟨hc,he⟩:=Kx he;have hro:=aaF hc;obtain⟨ms,hg,hrel⟩:=hr.map g hm;split at he
  ·rename_i i hf;obtain⟨rfl,r',hr',x0,m,hx0,hm0,rfl,q1,q2,q3⟩:=YS hk hrel hf;rw[hx0]at he;simp only[]at he;obtain⟨hsb,he⟩:=Kx he;simp only[aab]at he;subst he;have f4':ms[i]? = some m:=by simpa using hm0
   have hkey:((ms[i]?).map (·.key)).getD k'=m.key:=by rw[f4'];rfl
   rw[<- q3]at hsb;refine⟨_,?_,Step.Cn hr g hm hro hg (ms':=ms.modify i λe=>{e with key:=k',val:=v'}) ?_⟩
   ·simp only[Instr.mapUpdate,aai,zh ht,aad,Yw hg,zh hck,hr',hkey,Instr.keyThatStays,hsb,abZ,aan,Kl hg]
   ·refine⟨by simpa using hrel.1,λj x m1 hx hm1=>?_⟩;simp only[Array.toList_modify,List.getElem?_modify]at hm1;rw[List.getElem?_set]at hx;by_cases e:i=j
    ·subst e;rw[aah rfl]at hx;split at hx
     ·simp only[aab]at hx;subst hx;rw[hm0]at hm1;simp only[abZ,Option.map_eq_map,abn,aab]at hm1;subst hm1;exact⟨hk,hv,q2⟩
     ·cases hx
    ·rw[aae e]at hx;simp only[aae e,Option.map_eq_map,Option.map_id']at hm1;exact hrel.2 j x m1 hx hm1
  ·rename_i hf;simp only[aab]at he;subst he;obtain⟨rfl,r',hr',rfl⟩:=YS hk hrel hf;refine⟨_,?_,Step.Cn hr g hm hro hg (ms':=ms.push {key:=k',val:=v',born:=q}) (q':=q+1) ?_⟩
   ·simp only[Instr.mapUpdate,aai,zh ht,aad,Yw hg,zh hck,hr',Kl hg]
   ·refine⟨by simpa using hrel.1,λi x m1 hx hm1=>?_⟩;have hl:=hrel.1;simp only[Array.toList_push]at hm1;rcases aaI i es.length with hi|hi
    ·rw[aa2 hi]at hx;rw[aa2 (by omega)]at hm1;exact hrel.2 i x m1 hx hm1
    ·rw[aaZ hi]at hx;rw[aaZ (by omega),<- hl]at hm1;cases hn:i-es.length with
     |zero=>
      rw[hn]at hx hm1;simp only[aaC,aab]at hx hm1;subst hx hm1;exact⟨hk,hv,rfl⟩
     |succ n=>rw[hn]at hx;simp at hx
  ·cases he
def Yr(P:Program)(t:TypeId)(x k:aaa)(h:za):Option za :=
 match yd P (underlying t),x with
 |some (.map kt _),.map (some b)=>(match h.get b with
  |some (.map es q)=>(match yd P (Instr.checkKey es.isEmpty 10000 kt k) with
   |some _=>cond (Nat.ble h.ro b)
     (match eI P kt k es with
      |some (some i)=>some (h.set b (some (.map (es.eraseIdx i) q)))
      |some none=>some h
      |none=>none) none
   |none=>none)
  |_=>none)
 |_,_=>none
theorem gR{ρ:xA}{ts:Array TypeId}{t:TypeId}{r:TypeId}{x x' k k':aaa}{h h':za}{w:World}(he:Yr P t x k h=some h')(hts:ts[0]? = some t)(hr:Rel P ρ h w)(hx:zG ρ x x')(hk:zG ρ k k') :
  ∃w',(Builtin.delete_ ts r #[x',k']).run P w=.ok undef w'/\Step P ρ h w ρ h' w':=by
 unfold Yr at he;split at he
 case h_2=>cases he
 rename_i kt et b ht;cases hx with
 |map hb hm=>
  rename_i pl;split at he
  case h_2=>cases he
  rename_i es q g;split at he
  case h_2=>cases he
  rename_i hck;obtain⟨hc,he⟩:=Kx he;have hro:=aaF hc;obtain⟨ms,hg,hrel⟩:=hr.map g hm;rw[<- hrel.size]at hck;split at he
  ·rename_i i hf;simp only[aab]at he;subst he;obtain⟨rfl,r',hr',x0,m,hx0,hm0,rfl,q1,q2,q3⟩:=YS hk hrel hf;refine⟨_,?_,Step.Cn hr g hm hro hg (ms':=ms.eraseIdxIfInBounds i) ?_⟩
   ·simp only[Builtin.delete_,hts,abt,aaC,aaR,aai,zh ht,aad,Yw hg,zh hck,hr',Kl hg,aan];rfl
   ·have e:(ms.eraseIdxIfInBounds i).toList=ms.toList.eraseIdx i:=(by simp);rw[e];refine⟨by have:=hrel.1;simp only[List.length_eraseIdx,this],λi x m1 hx hm1=>?_⟩;rw[List.getElem?_eraseIdx]at hx hm1;split at hx
    ·rename_i hi;rw[aah hi]at hm1;exact hrel.2 _ x m1 hx hm1
    ·rename_i hi;rw[aae hi]at hm1;exact hrel.2 _ x m1 hx hm1
  ·rename_i hf;simp only[aab]at he;subst he;obtain⟨rfl,r',hr',rfl⟩:=YS hk hrel hf;refine⟨_,?_,(Step.Cn hr g hm hro hg (ms':=ms) (q':=q) hrel).same ⟨rfl,rfl,λz=>?_⟩⟩
   ·simp only[Builtin.delete_,hts,abt,aaC,aaR,aai,zh ht,aad,Yw hg,zh hck,hr',Kl hg,aan];rfl
   ·rw[za.yq];split
    ·rename_i e;subst e;exact g
    ·rfl
  ·cases he
def gT(P:Program)(t:TypeId)(x:aaa)(h:za):Option (aaa×za):=none
theorem BG{ρ:xA}{t:TypeId}{x x' v:aaa}{h h':za}{w:World}(he:gT P t x h=some (v,h'))(hr:Rel P ρ h w)(hx:zG ρ x x') :
  ∃v' w' ρ',(Instr.range t x').run P w=.ok v' w'/\Step P ρ h w ρ' h' w'/\zG ρ' v v':=by
 unfold gT at he;cases he
def leftOf(es:List Z7)(seen:List Nat):List Z7:=es.filter λe => !seen.contains e.2.2
def Ag(P:Program)(x:aaa)(str:Bool)(h:za):Option (aaa×za):=none
theorem Y4.left{ρ:xA}(seen:List Nat):∀{es:List Z7} {ms:List MapEntry},Y4 ρ es ms->Y4 ρ (leftOf es seen) (ms.filter λe => !seen.toArray.contains e.born)
 |[],ms,h=>by rw[h.uI];exact .nil
 |x::es,ms,h=>by
  obtain⟨m,ms',rfl,h1,h2⟩:=h.cons_inv;have ih:=Y4.left seen h2;have e:(!seen.toArray.contains m.born) = !seen.contains x.2.2:=by rw[h1.2.2];simp
  simp only[leftOf,abL,e];split
  ·refine⟨by have:=ih.1;simp only[leftOf]at this;simp only[abc,this],λi a b ha hb=>?_⟩;cases i with
   |zero=>simp at ha hb;subst ha hb;exact h1
   |succ i=>exact ih.2 i a b (by simpa [leftOf] using ha) (by simpa using hb)
  ·exact ih
theorem Y4.all{ρ:xA}(last:Nat):∀{es:List Z7} {ms:List MapEntry},Y4 ρ es ms->(ms.all λe=>decide (e.born ≥ last))=es.all λe=>Nat.ble last e.2.2
 |[],ms,h=>by rw[h.uI];rfl
 |x::es,ms,h=>by
  obtain⟨m,ms',rfl,h1,h2⟩:=h.cons_inv;simp only[acd,Y4.all last h2,h1.2.2]
  congr 1
  rw[ab9];simp
theorem D8{ρ:xA}{t:TypeId}{x x' v:aaa}{str:Bool}{h h':za}{w:World}(he:Ag P x str h=some (v,h'))(hr:Rel P ρ h w)(hx:zG ρ x x') :
  ∃v' w' ρ',(Instr.next x' str t).run P w=.ok v' w'/\Step P ρ h w ρ' h' w'/\zG ρ' v v':=by
 unfold Ag at he;cases he
def By(x:aaa)(h:za):Option aaa:=none
theorem Y4.find{ρ:xA}(stamp:Nat):∀{es:List Z7} {ms:List MapEntry} {e:Z7},Y4 ρ es ms->(es.find? λe=>Nat.beq e.2.2 stamp)=some e->∃m,(ms.find? λe=>e.born == stamp)=some m/\zG ρ e.1 m.key/\zG ρ e.2.1 m.val
 |[],ms,e,h,he=>by simp at he
 |x::es,ms,e,h,he=>by
  obtain⟨m,ms',rfl,h1,h2⟩:=h.cons_inv;rw[List.find?_cons]at he ⊢;rw[h1.2.2];cases hb:Nat.beq x.2.2 stamp with
  |true=>
   rw[hb]at he;simp only[aab]at he;subst he;have:(x.2.2 == stamp)=true:=by simpa using aal hb
   rw[this];exact⟨m,rfl,h1.1,h1.2.1⟩
  |false=>
   rw[hb]at he
   have:(x.2.2 == stamp)=false:=by
    cases hq:x.2.2 == stamp with
    |false=>rfl
    |true=>have:=beq_iff_eq.1 hq;rw[this,ab5]at hb;cases hb
   rw[this];exact Y4.find stamp h2 he
theorem Bz{ρ:xA}{x x' v:aaa}{h:za}{w:World}(he:By x h=some v)(hr:Rel P ρ h w)(hx:zG ρ x x'):∃v',(Instr.entry x').run P w=.ok v' w/\zG ρ v v':=by
 unfold By at he;cases he
end
end Go.Ai
