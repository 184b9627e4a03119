import Derived.Calls
import Derived.Below
import Derived.Laws.Sem
import Derived.Laws.Cells
import Derived.Laws.Entries
import GoSem.Builtin.Delete
set_option linter.unusedVariables false
set_option linter.unusedSimpArgs false
set_option maxRecDepth 100000
namespace Go
abbrev pi(b:Nat):Value:=.pointer (some ⟨b,0,none⟩)
abbrev pm(z:Int):Value:=.int .i64 z
abbrev pp:Value:=.slice none 0 0
abbrev aaa:=Value
theorem aab:type_of% @Option.some.injEq:=@Option.some.injEq
theorem aac:type_of% @Go.Result.andThen_ok:=@Go.Result.andThen_ok
theorem aad:type_of% @Bool.and_eq_true:=@Bool.and_eq_true
theorem aae:type_of% @Prod.mk.injEq:=@Prod.mk.injEq
theorem aaf:type_of% @List.getElem?_eq_getElem:=@List.getElem?_eq_getElem
theorem aag:type_of% @if_neg:=@if_neg
theorem aah:type_of% @Go.Sem.run_bind:=@Go.Sem.run_bind
theorem aai:type_of% @if_pos:=@if_pos
theorem aaj:type_of% @Nat.le_refl:=@Nat.le_refl
theorem aak:type_of% @Nat.eq_of_beq_eq_true:=@Nat.eq_of_beq_eq_true
theorem aal:type_of% @Go.Sem.run_pure:=@Go.Sem.run_pure
theorem aam:type_of% @decide_eq_false_iff_not:=@decide_eq_false_iff_not
theorem aan:type_of% @Bool.not_eq_true':=@Bool.not_eq_true'
theorem aao:type_of% @List.mem_cons_self:=@List.mem_cons_self
theorem aap:type_of% @Nat.lt_of_lt_of_le:=@Nat.lt_of_lt_of_le
theorem aaq:type_of% @List.mem_singleton:=@List.mem_singleton
theorem aar:type_of% @List.length_append:=@List.length_append
theorem aas:type_of% @Option.map_eq_some_iff:=@Option.map_eq_some_iff
theorem aat:type_of% @List.getElem?_eq_none:=@List.getElem?_eq_none
theorem aau:type_of% @List.length_map:=@List.length_map
theorem aav:type_of% @cond_true:=@cond_true
theorem aaw:type_of% @Array.getD_eq_getD_getElem?:=@Array.getD_eq_getD_getElem?
theorem aax:type_of% @List.mem_of_getElem?:=@List.mem_of_getElem?
theorem aay:type_of% @List.getElem?_cons_zero:=@List.getElem?_cons_zero
theorem aaz:type_of% @List.mem_cons_of_mem:=@List.mem_cons_of_mem
theorem aaA:type_of% @List.getElem?_map:=@List.getElem?_map
theorem aaB:type_of% @cond_false:=@cond_false
theorem aaC:type_of% @List.contains_eq_mem:=@List.contains_eq_mem
theorem aaD:type_of% @List.all_eq_true:=@List.all_eq_true
theorem aaE:type_of% @Nat.le_of_ble_eq_true:=@Nat.le_of_ble_eq_true
theorem aaF:type_of% @decide_eq_true_eq:=@decide_eq_true_eq
theorem aaG:type_of% @List.mem_append:=@List.mem_append
theorem aaH:type_of% @Array.getElem?_eq_none:=@Array.getElem?_eq_none
theorem aaI:type_of% @Array.getElem?_eq_getElem:=@Array.getElem?_eq_getElem
theorem aaJ:type_of% @beq_self_eq_true:=@beq_self_eq_true
theorem aaK:type_of% @List.mem_append_left:=@List.mem_append_left
theorem aaL:type_of% @Nat.lt_or_ge:=@Nat.lt_or_ge
theorem aaM:type_of% @Nat.blt_eq:=@Nat.blt_eq
theorem aaN:type_of% @Nat.zero_le:=@Nat.zero_le
theorem aaO:type_of% @List.filter_append:=@List.filter_append
theorem aaP:type_of% @List.mem_cons:=@List.mem_cons
theorem aaQ:type_of% @List.length_take:=@List.length_take
theorem aaR:type_of% @List.append_of_mem:=@List.append_of_mem
theorem aaS:type_of% @List.getElem?_drop:=@List.getElem?_drop
theorem aaT:type_of% @List.getElem?_cons_succ:=@List.getElem?_cons_succ
theorem aaU:type_of% @List.getElem?_eq_some_iff:=@List.getElem?_eq_some_iff
theorem aaV:type_of% @Nat.le_trans:=@Nat.le_trans
theorem aaW:type_of% @Bool.or_eq_true:=@Bool.or_eq_true
theorem aaX:type_of% @decide_eq_false:=@decide_eq_false
theorem aaY:type_of% @decide_eq_true:=@decide_eq_true
theorem aaZ:type_of% @Nat.lt_succ_self:=@Nat.lt_succ_self
theorem aa0:type_of% @List.getElem?_take_of_lt:=@List.getElem?_take_of_lt
theorem aa1:type_of% @of_decide_eq_true:=@of_decide_eq_true
theorem aa2:type_of% @Array.getElem?_setIfInBounds:=@Array.getElem?_setIfInBounds
theorem aa3:type_of% @List.length_cons:=@List.length_cons
theorem aa4:type_of% @List.mem_map:=@List.mem_map
theorem aa5:type_of% @List.mem_append_right:=@List.mem_append_right
theorem aa6:type_of% @List.cons.injEq:=@List.cons.injEq
theorem aa7:type_of% @List.append_assoc:=@List.append_assoc
theorem aa8:type_of% @List.append_nil:=@List.append_nil
theorem aa9:type_of% @Bool.false_eq_true:=@Bool.false_eq_true
theorem aba:type_of% @Bool.or_eq_false_iff:=@Bool.or_eq_false_iff
theorem abb:type_of% @List.take_add_one:=@List.take_add_one
theorem abc:type_of% @Array.mem_of_getElem?:=@Array.mem_of_getElem?
theorem abd:type_of% @List.getD_eq_getElem?_getD:=@List.getD_eq_getElem?_getD
theorem abe:type_of% @List.mem_range:=@List.mem_range
theorem abf:type_of% @Option.bind_some:=@Option.bind_some
theorem abg:type_of% @Array.length_toList:=@Array.length_toList
theorem abh:type_of% @List.length_drop:=@List.length_drop
theorem abj:type_of% @List.getElem?_append_right:=@List.getElem?_append_right
theorem abk:type_of% @List.getElem?_append_left:=@List.getElem?_append_left
theorem abl:type_of% @Int.toNat_natCast:=@Int.toNat_natCast
theorem abm:type_of% @List.map_append:=@List.map_append
theorem abn:type_of% @Option.some.inj:=@Option.some.inj
theorem abo:type_of% @List.mem_of_mem_take:=@List.mem_of_mem_take
theorem abp:type_of% @List.map_cons:=@List.map_cons
theorem abq:type_of% @Bool.true_and:=@Bool.true_and
theorem abr:type_of% @List.length_nil:=@List.length_nil
theorem abt:type_of% @List.getElem?_toArray:=@List.getElem?_toArray
theorem abu:type_of% @List.eq_nil_of_length_eq_zero:=@List.eq_nil_of_length_eq_zero
theorem abv:type_of% @List.take_length:=@List.take_length
theorem abw:type_of% @List.drop_eq_getElem_cons:=@List.drop_eq_getElem_cons
theorem abx:type_of% @Nat.mul_le_mul_right:=@Nat.mul_le_mul_right
theorem aby:type_of% @List.mem_of_mem_drop:=@List.mem_of_mem_drop
theorem abz:type_of% @Nat.zero_add:=@Nat.zero_add
theorem abA:type_of% @List.take_append_drop:=@List.take_append_drop
theorem abB:type_of% @List.filter_congr:=@List.filter_congr
theorem abC:type_of% @List.length_eq_zero_iff:=@List.length_eq_zero_iff
theorem abD:type_of% @Array.eq_empty_of_size_eq_zero:=@Array.eq_empty_of_size_eq_zero
theorem abE:type_of% @List.range_succ:=@List.range_succ
theorem abF:type_of% @List.nil_append:=@List.nil_append
theorem abG:type_of% @List.not_mem_nil:=@List.not_mem_nil
theorem abH:type_of% @List.drop_zero:=@List.drop_zero
theorem abI:type_of% @Nat.le_succ:=@Nat.le_succ
theorem abJ:type_of% @Nat.add_assoc:=@Nat.add_assoc
theorem abK:type_of% @Array.toArray_toList:=@Array.toArray_toList
theorem abL:type_of% @List.filter_cons:=@List.filter_cons
theorem abM:type_of% @List.mem_filter:=@List.mem_filter
theorem abN:type_of% @Option.map_some:=@Option.map_some
theorem abO:type_of% @Array.getElem?_replicate:=@Array.getElem?_replicate
theorem abP:type_of% @List.filter_filter:=@List.filter_filter
theorem abQ:type_of% @Option.getD_some:=@Option.getD_some
theorem abR:type_of% @Nat.le_of_not_lt:=@Nat.le_of_not_lt
theorem abS:type_of% @if_true:=@if_true
theorem abT:type_of% @Go.Steps.trans:=@Go.Steps.trans
theorem abU:type_of% @Nat.ble_eq:=@Nat.ble_eq
theorem abV:type_of% @List.ext_getElem?:=@List.ext_getElem?
theorem abW:type_of% @Nat.min_eq_left:=@Nat.min_eq_left
theorem abX:type_of% @List.getElem?_set_self:=@List.getElem?_set_self
theorem abY:type_of% @Array.ext':=@Array.ext'
theorem abZ:type_of% @Bool.not_eq_true:=@Bool.not_eq_true
theorem ab0:type_of% @Nat.beq_refl:=@Nat.beq_refl
theorem ab1:type_of% @if_false:=@if_false
theorem ab2:type_of% @Bool.false_ne_true:=@Bool.false_ne_true
theorem ab3:type_of% @Nat.eq_zero_or_pos:=@Nat.eq_zero_or_pos
theorem ab4:type_of% @Bool.not_false:=@Bool.not_false
theorem ab5:type_of% @List.getElem?_set_ne:=@List.getElem?_set_ne
theorem ab6:type_of% @Bool.eq_iff_iff:=@Bool.eq_iff_iff
theorem ab7:type_of% @Bool.and_true:=@Bool.and_true
theorem ab8:type_of% @List.all_cons:=@List.all_cons
theorem ab9:type_of% @List.take_succ_cons:=@List.take_succ_cons
theorem aca:type_of% @List.drop_succ_cons:=@List.drop_succ_cons
theorem acb:type_of% @List.getElem_of_mem:=@List.getElem_of_mem
theorem acd:type_of% @Int.toNat_of_nonneg:=@Int.toNat_of_nonneg
theorem ace:type_of% @Bool.and_self:=@Bool.and_self
theorem acf:type_of% @Go.Addr.mk.injEq:=@Go.Addr.mk.injEq
theorem acg:type_of% @Go.Checked.mixed:=@Go.Checked.mixed
theorem ach:type_of% @Go.Sem.run_ite:=@Go.Sem.run_ite
theorem aci:type_of% @List.tail_drop:=@List.tail_drop
theorem acj:type_of% @List.filter_eq_nil_iff:=@List.filter_eq_nil_iff
theorem ack:type_of% @Go.Value.pointer.injEq:=@Go.Value.pointer.injEq
theorem acm:type_of% @List.foldl_cons:=@List.foldl_cons
theorem acn:type_of% @Nat.add_mul:=@Nat.add_mul
theorem aco:type_of% @List.length_set:=@List.length_set
theorem acp:type_of% @Nat.mul_one:=@Nat.mul_one
theorem acq:type_of% @Nat.beq_eq:=@Nat.beq_eq
theorem acr:type_of% @Nat.lt_succ_of_lt:=@Nat.lt_succ_of_lt
theorem acs:type_of% @List.flatten_cons:=@List.flatten_cons
theorem acu:type_of% @ne_eq:=@ne_eq
theorem acv:type_of% @and_true:=@and_true
theorem acw:type_of% @List.nodup_range:=@List.nodup_range
theorem acx:type_of% @List.cons_append:=@List.cons_append
theorem acy:type_of% @Nat.zero_mul:=@Nat.zero_mul
theorem acz:type_of% @Bool.false_or:=@Bool.false_or
theorem acA:type_of% @or_false:=@or_false
end Go
namespace Go.Ai
noncomputable section
inductive Tr (α:Type) where
 |e
 |n (v:Option α) (l r:Tr α)
namespace Tr
variable {α:Type}
def get(t:Tr α)(k:Nat):Option α :=
 @Tr.rec α (λ_=>Nat->Option α) (λ_=>none)
  (λv _ _ gl gr k=>@Bool.rec (λ_=>Option α) (@Bool.rec (λ_=>Option α) (gr (Nat.sub (Nat.div k 2) 1)) (gl (Nat.div k 2)) (Nat.beq (Nat.mod k 2) 1)) v (Nat.beq k 0)) t k
def sl(f:Nat):Tr α->Nat->Option α->Tr α :=
 @Nat.rec (λ_=>Tr α->Nat->Option α->Tr α) (λt _ _=>t)
  (λ_ ih t k x=>@Tr.rec α (λ_=>Tr α)
   (@Bool.rec (λ_=>Tr α) (@Bool.rec (λ_=>Tr α) (.n none .e (ih .e (Nat.sub (Nat.div k 2) 1) x)) (.n none (ih .e (Nat.div k 2) x) .e) (Nat.beq (Nat.mod k 2) 1)) (.n x .e .e) (Nat.beq k 0))
   (λv l r _ _=>@Bool.rec (λ_=>Tr α) (@Bool.rec (λ_=>Tr α) (.n v l (ih r (Nat.sub (Nat.div k 2) 1) x)) (.n v (ih l (Nat.div k 2) x) r) (Nat.beq (Nat.mod k 2) 1)) (.n x l r) (Nat.beq k 0)) t) f
def set(t:Tr α)(k:Nat)(x:Option α):Tr α:=sl (Nat.succ k) t k x
@[simp] theorem Tc (k:Nat):(Tr.e:Tr α).get k=none:=rfl
theorem beq_false{a b:Nat}(h:a≠b):Nat.beq a b=false:=by
 cases e:Nat.beq a b
 ·rfl
 ·exact absurd (aak e) h
theorem beq_true{a b:Nat}(h:a=b):Nat.beq a b=true:=by subst h;exact ab0 a
theorem pr(v:Option α)(l r:Tr α)(k:Nat):(Tr.n v l r).get k=if k=0 then v else if k%2=1 then l.get (k/2) else r.get (k/2-1):=by
 show @Bool.rec (λ_=>Option α) (@Bool.rec (λ_=>Option α) (r.get (k/2-1)) (l.get (k/2)) (Nat.beq (k%2) 1)) v (Nat.beq k 0)=_;by_cases h:k=0
 ·rw[beq_true h,aai h]
 ·rw[beq_false h,aag h];by_cases h2:k%2=1
  ·rw[beq_true h2,aai h2]
  ·rw[beq_false h2,aag h2]
theorem zaK(f:Nat)(k:Nat)(x:Option α):sl (f+1) .e k x=sl (f+1) (.n none .e .e) k x:=rfl
theorem zaL(f:Nat)(v:Option α)(l r:Tr α)(k:Nat)(x:Option α) :
  sl (f+1) (.n v l r) k x=if k=0 then .n x l r else if k%2=1 then .n v (sl f l (k/2) x) r else .n v l (sl f r (k/2-1) x):=by
 show @Bool.rec (λ_=>Tr α) (@Bool.rec (λ_=>Tr α) (.n v l (sl f r (k/2-1) x)) (.n v (sl f l (k/2) x) r) (Nat.beq (k%2) 1)) (.n x l r) (Nat.beq k 0)=_;by_cases h:k=0
 ·rw[beq_true h,aai h]
 ·rw[beq_false h,aag h];by_cases h2:k%2=1
  ·rw[beq_true h2,aai h2]
  ·rw[beq_false h2,aag h2]
theorem Ob(f:Nat):∀(t:Tr α) (k j:Nat) (x:Option α),k<f->(sl f t k x).get j=if j=k then x else t.get j:=by
 induction f with
 |zero=>intro t k j x h;omega
 |succ f ih=>
  have node:∀(v:Option α) (l r:Tr α) (k j:Nat) (x:Option α),k<f+1->(sl (f+1) (.n v l r) k x).get j=if j=k then x else (Tr.n v l r).get j:=by
   intro v l r k j x h;rw[zaL];by_cases h0:k=0
   ·subst h0;rw[aai rfl,pr,pr];by_cases hj:j=0
    ·simp[hj]
    ·simp[hj]
   ·rw[aag h0];by_cases h1:k%2=1
    ·rw[aai h1,pr,pr,ih _ _ _ _ (by omega)];by_cases hj:j=0
     ·subst hj;simp[Ne.symm h0]
     ·rw[aag hj,aag hj];by_cases hj2:j%2=1
      ·rw[aai hj2,aai hj2];by_cases e:j=k
       ·subst e;simp
       ·rw[aag e,aag (by omega)]
      ·rw[aag hj2,aag hj2,aag (by intro e;subst e;exact hj2 h1)]
    ·rw[aag h1,pr,pr,ih _ _ _ _ (by omega)];by_cases hj:j=0
     ·subst hj;simp[Ne.symm h0]
     ·rw[aag hj,aag hj];by_cases hj2:j%2=1
      ·rw[aai hj2,aai hj2,aag (by intro e;subst e;exact h1 hj2)]
      ·rw[aag hj2,aag hj2];by_cases e:j=k
       ·subst e;simp
       ·rw[aag e,aag (by omega)]
  intro t k j x h;cases t with
  |e=>
   rw[zaK,node _ _ _ _ _ _ h];by_cases e:j=k
   ·simp[e]
   ·simp only[aag e,pr,Tc];split <;> (try split) <;> rfl
  |n v l r=>exact node v l r k j x h
theorem yy(t:Tr α)(k j:Nat)(x:Option α):(t.set k x).get j=if j=k then x else t.get j :=
 Ob (k+1) t k j x (aaZ k)
def ofList(t:Tr α)(i:Nat):List α->Tr α
 |[]=>t
 |a::l=>ofList (t.set i (some a)) (i+1) l
theorem Gf(l:List α):∀(t:Tr α) (i j:Nat),(ofList t i l).get j=if i<=j/\j<i+l.length then l[j-i]? else t.get j:=by
 induction l with
 |nil=>intro t i j;simp[ofList];omega
 |cons a l ih=>
  intro t i j;rw[ofList,ih,yy];by_cases h:j=i
  ·subst h;rw[aag (by omega),aai rfl,aai (by simp),Nat.sub_self];rfl
  ·by_cases h2:i+1<=j/\j<i+1+l.length
   ·rw[aai h2,aai (by simp;omega)];have:j-i=(j-(i+1))+1:=by omega
    rw[this];rfl
   ·rw[aag h2,aag h,aag (by simp;omega)]
end Tr
structure Env where
 t:Tr Value
 size:Nat
def Env.get(s:Env)(i:Nat):Value := @Option.rec Value (λ_=>Value) undef (λv=>v) (s.t.get i)
theorem Env.get_eq(s:Env)(i:Nat):s.get i=(s.t.get i).getD undef:=by
 unfold Env.get;cases s.t.get i <;> rfl
def Env.set(s:Env)(i:Nat)(v:Value):Env := @Env.rec (λ_=>Env) (λt n=>⟨t.set i (some v),n⟩) s
theorem Env.zcj(s:Env)(i:Nat)(v:Value):(s.set i v).t=s.t.set i (some v):=rfl
def Env.put(s:Env)(d:Option Nat)(v:Value):Option Env :=
 match d with
 |none=>some s
 |some d=>cond (Nat.blt d s.size) (some (s.set d v)) none
theorem Env.yy(s:Env)(i j:Nat)(v:Value):(s.set i v).get j=if j=i then v else s.get j:=by
 simp only[Env.get_eq,Env.zcj,Tr.yy];split <;> rfl
@[simp] theorem Env.size_set (s:Env) (i:Nat) (v:Value):(s.set i v).size=s.size:=rfl
def IL{α:Type}(n:Nat)(f:Nat->α):α := @Nat.rec (λ_=>α) (f 0) (λm _=>f (Nat.succ m)) n
theorem GR{α:Type}(n:Nat)(f:Nat->α):IL n f=f n:=by cases n <;> rfl
def Env.enter(args:List Value)(n:Nat):Env:=IL (max args.length n) λk=>{t:=Tr.ofList .e 0 args,size:=k}
theorem Env.D8(args:List Value)(n:Nat):Env.enter args n = {t:=Tr.ofList .e 0 args,size:=max args.length n}:=GR _ _
theorem Env.LQ(args:List Value)(n j:Nat):(Env.enter args n).get j=(args[j]?).getD undef:=by
 simp only[Env.get_eq,Env.D8,Tr.Gf,Tr.Tc];by_cases h:j<args.length
 ·rw[aai (by omega)];rfl
 ·rw[aag (by omega),aat (by omega)]
structure aJ where
 state:LoopState
 pending:Option Code
 s:Env
 params:Array Tmp
 assign:Code
 body:Code
inductive vl where
 |cells (c:List Value) (elem:TypeId)
 |map (es:List (Value×Value×Nat)) (clock:Nat)
 |iter (m:Option Nat) (since:Nat) (seen:List Nat) (last:Nat)
 |siter (s:ByteArray) (pos:Nat)
 |tab (c:List Value)
 |loop (l:aJ)
structure za where
 t:Tr vl
 next:Nat
 ro:Nat
def za.get(h:za)(b:Nat):Option vl:=h.t.get b
def za.set(h:za)(b:Nat)(o:Option vl):za := @za.rec (λ_=>za) (λt n r=>⟨t.set b o,n,r⟩) h
def za.push(h:za)(o:vl):za := @za.rec (λ_=>za) (λt n r=>⟨t.set n (some o),Nat.succ n,r⟩) h
theorem za.yy(h:za)(b c:Nat)(o:Option vl):(h.set b o).get c=if c=b then o else h.get c:=Tr.yy _ _ _ _
theorem za.vT(h:za)(c:Nat)(o:vl):(h.push o).get c=if c=h.next then some o else h.get c:=Tr.yy _ _ _ _
@[simp] theorem za.zb5 (h:za) (b:Nat) (o:Option vl):(h.set b o).next=h.next:=rfl
@[simp] theorem za.zc1 (h:za) (b:Nat) (o:Option vl):(h.set b o).ro=h.ro:=rfl
@[simp] theorem za.ai (h:za) (o:vl):(h.push o).next=h.next+1:=rfl
@[simp] theorem za.zcs (h:za) (o:vl):(h.push o).ro=h.ro:=rfl
def za.lock(h:za):za := @za.rec (λ_=>za) (λt n _=>⟨t,n,n⟩) h
structure Place where
 c:Nat
 base:Nat
 size:Nat
 H6:Nat
structure xo where
 next:Nat
 m:Nat->Option Place
def za1(pl:Place)(off cap:Nat)(c:Nat):Prop:=c≠0->off+cap*pl.H6<=pl.size /\ ∀k,c=k+2->cap=k
def bot:Value := .complex .f32 0 0
def pW:Value->Bool
 | .bool _ | .agg _ | .tuple _=>false
 |_=>true
inductive zH (ρ:xo):Value->Value->Prop
 |pW {v:Value} (h:pW v=true):zH ρ bot v
 |bool (b:Bool):zH ρ (.bool b) (.bool b)
 |int (k:IntKind) (n:Int):zH ρ (.int k n) (.int k n)
 |float (k:FloatKind) (n:Nat):zH ρ (.float k n) (.float k n)
 |string (s:ByteArray):zH ρ (.string s) (.string s)
 |ptrNil:zH ρ (.pointer none) (.pointer none)
 |ptr {b off:Nat} {pl:Place} (hb:b<ρ.next) (hm:ρ.m b=some pl):zH ρ (.pointer (some ⟨b,off,none⟩)) (.pointer (some ⟨pl.c,pl.base+off,none⟩))
 |Yn {g off:Nat}:zH ρ (.pointer (some ⟨g,off,some 0⟩)) (.pointer (some ⟨g,off,none⟩))
 |sliceNil (c:Nat):zH ρ (.slice none 0 c) (.slice none 0 0)
 |slice {b off len c cap:Nat} {pl:Place} (hb:b<ρ.next) (hm:ρ.m b=some pl) (hl:len<=cap) (hc:za1 pl (pl.base+off) cap c) :
   zH ρ (.slice (some ⟨b,off,none⟩) len c) (.slice (some ⟨pl.c,pl.base+off,none⟩) len cap)
 |sliceOut {b off c:Nat} {a:Addr} (hb:b<ρ.next) (hc:c<=2):zH ρ (.slice (some ⟨b,off,none⟩) 0 c) (.slice (some a) 0 0)
 |nilFunc:zH ρ .nilFunc .nilFunc
 |nilIface:zH ρ .nilIface .nilIface
 |mapNil:zH ρ (.map none) (.map none)
 |map {b:Nat} {pl:Place} (hb:b<ρ.next) (hm:ρ.m b=some pl):zH ρ (.map (some b)) (.map (some pl.c))
 |yield {b:Nat} {pl:Place} (hb:b<ρ.next) (hm:ρ.m b=some pl):zH ρ (.func (.yield b) #[] #[]) (.func (.yield pl.c) #[] #[])
 |iface {t:TypeId} {x y:Value} (h:zH ρ x y):zH ρ (.iface t x) (.iface t y)
 |func {f:FuncId} {a c a' c':Array Value} (ha:a.size=a'.size) (hc:c.size=c'.size)
   (h:∀(i:Nat) x y,a[i]? = some x->a'[i]? = some y->zH ρ x y) (h':∀(i:Nat) x y,c[i]? = some x->c'[i]? = some y->zH ρ x y):zH ρ (.func (.func f) a c) (.func (.func f) a' c')
 |agg {a a':Array Value} (ha:a.size=a'.size) (h:∀(i:Nat) x y,a[i]? = some x->a'[i]? = some y->zH ρ x y):zH ρ (.agg a) (.agg a')
 |tuple {a a':Array Value} (ha:a.size=a'.size) (h:∀(i:Nat) x y,a[i]? = some x->a'[i]? = some y->zH ρ x y):zH ρ (.tuple a) (.tuple a')
def xo.le(ρ ρ':xo):Prop:=ρ.next<=ρ'.next /\ ∀b,b<ρ.next->ρ'.m b=ρ.m b
theorem xo.le_refl(ρ:xo):ρ.le ρ:=⟨aaj _,λ_ _=>rfl⟩
theorem xo.le_trans{a b c:xo}(h:a.le b)(k:b.le c):a.le c:=⟨aaV h.1 k.1,λx hx=>(k.2 x (aap hx h.1)).trans (h.2 x hx)⟩
theorem zH.mono{ρ ρ':xo}(hle:ρ.le ρ'){v v':Value}(h:zH ρ v v'):zH ρ' v v':=by
 induction h with
 |pW h=>exact .pW h
 |bool b=>exact .bool b
 |int k n=>exact .int k n
 |float k n=>exact .float k n
 |string s=>exact .string s
 |ptrNil=>exact .ptrNil
 |ptr hb hm=>exact .ptr (aap hb hle.1) ((hle.2 _ hb).trans hm)
 |Yn=>exact .Yn
 |sliceNil c=>exact .sliceNil c
 |slice hb hm hl hc=>exact .slice (aap hb hle.1) ((hle.2 _ hb).trans hm) hl hc
 |sliceOut hb hc=>exact .sliceOut (aap hb hle.1) hc
 |nilFunc=>exact .nilFunc
 |nilIface=>exact .nilIface
 |mapNil=>exact .mapNil
 |map hb hm=>exact .map (aap hb hle.1) ((hle.2 _ hb).trans hm)
 |yield hb hm=>exact .yield (aap hb hle.1) ((hle.2 _ hb).trans hm)
 |iface _ ih=>exact .iface ih
 |func ha hc _ _ ih ih'=>exact .func ha hc ih ih'
 |agg ha _ ih=>exact .agg ha ih
 |tuple ha _ ih=>exact .tuple ha ih
def wG(ρ:xo)(xs ys:List Value):Prop:=xs.length=ys.length /\ ∀(i:Nat) x y,xs[i]? = some x->ys[i]? = some y->zH ρ x y
theorem wG.nil(ρ:xo):wG ρ [] []:=⟨rfl,λi x y h=>by simp at h⟩
theorem wG.cons{ρ:xo}{x y:Value}{xs ys:List Value}(h:zH ρ x y)(hs:wG ρ xs ys):wG ρ (x::xs) (y::ys) :=
 ⟨by simp[hs.1],λi a b ha hb=>by
  cases i with
  |zero=>simp at ha hb;subst ha hb;exact h
  |succ i=>exact hs.2 i a b (by simpa using ha) (by simpa using hb)⟩
theorem wG.cons_inv{ρ:xo}{x:Value}{xs ys:List Value}(h:wG ρ (x::xs) ys):∃y ys',ys=y::ys'/\zH ρ x y/\wG ρ xs ys':=by
 cases ys with
 |nil=>simp[wG]at h
 |cons y ys=>exact⟨y,ys,rfl,h.2 0 x y rfl rfl,by simpa using h.1,λi a b ha hb=>h.2 (i+1) a b (by simpa using ha) (by simpa using hb)⟩
theorem wG.uG{ρ:xo}{ys:List Value}(h:wG ρ [] ys):ys=[]:=by
 have:=h.1;simp at this;exact abu this.symm
theorem wG.append{ρ:xo}{a b c d:List Value}(h:wG ρ a b)(k:wG ρ c d):wG ρ (a++c) (b++d):=by
 refine⟨by simp[h.1,k.1],λi x y hx hy=>?_⟩;by_cases hi:i<a.length
 ·rw[abk hi]at hx;rw[abk (by rw[<- h.1];exact hi)]at hy;exact h.2 i x y hx hy
 ·rw[abj (by omega)]at hx;rw[abj (by rw[<- h.1];omega),<- h.1]at hy;exact k.2 _ x y hx hy
theorem wG.get{ρ:xo}{xs ys:List Value}(h:wG ρ xs ys){i:Nat}{x:Value}(hx:xs[i]? = some x):∃y,ys[i]? = some y/\zH ρ x y:=by
 have hi:i<xs.length:=by
  rcases aaL i xs.length with h|h
  ·exact h
  ·rw[aat h]at hx;cases hx
 have hj:i<ys.length:=h.1 ▸ hi;exact⟨ys[i],aaf hj,h.2 i x _ hx (aaf hj)⟩
def plain:Value->Bool
 | .bool _ | .int _ _ | .float _ _ | .string _ | .pointer none | .nilFunc | .nilIface | .map none=>true
 | .slice none n c=>Nat.beq n 0&&Nat.beq c 0
 | .func (.func _) a c=>Nat.beq a.size 0&&Nat.beq c.size 0
 | .tuple a=>Nat.beq a.size 0
 |_=>false
theorem VP{a:Array Value}(h:Nat.beq a.size 0=true):a = #[]:=abD (aak h)
theorem zH.Zk(ρ:xo){v:Value}(h:plain v=true):zH ρ v v:=by
 cases v with
 |bool b=>exact .bool _
 |int k n=>exact .int _ _
 |float k n=>exact .float _ _
 |string s=>exact .string _
 |nilFunc=>exact .nilFunc
 |nilIface=>exact .nilIface
 |pointer a=>cases a <;> first|exact .ptrNil|cases h
 |map a=>cases a <;> first|exact .mapNil|cases h
 |slice a n c=>
  cases a with
  |some a=>cases h
  |none=>
   simp only[plain,aad]at h;obtain rfl:=aak h.1;obtain rfl:=aak h.2;exact .sliceNil _
 |func f a c=>
  cases f with
  |func f=>
   simp only[plain,aad]at h;obtain rfl:=VP h.1;obtain rfl:=VP h.2;exact .func rfl rfl (λi x y hx=>by simp at hx) (λi x y hx=>by simp at hx)
  |_=>cases h
 |tuple a=>
  obtain rfl:=VP h;exact .tuple rfl (λi x y hx=>by simp at hx)
 |_=>cases h
def xj:Value->Bool
 | .agg _ | .tuple _=>false
 |_=>true
theorem oP{ρ:xo}{v v':Value}(h:zH ρ v v'):xj v'=xj v:=by
 cases h with
 |pW h=>cases v' <;> first|rfl|cases h
 |_=>rfl
def xJ(P:Program)(ρ:xo)(wr:Bool)(c:List Value)(elem:TypeId)(pl:Place)(w:World):Prop :=
 ∃cs fz,w.heap[pl.c]? = some (.cells cs elem fz)/\cs.size=pl.size/\(pl.H6=P.cellsOf elem/\pl.base%pl.H6=0)/\pl.base+c.length<=cs.size /\
  (wr=true->∀i,i<pl.size->¬(fz.1<=i/\i<fz.2)) /\ ∀i x,c[i]? = some x->∃y,cs[pl.base+i]? = some y/\zH ρ x y
structure vG (ρ:xo) (s:Env) (tm:Array Value):Prop where
 size:s.size=tm.size
 get:∀i,zH ρ (s.get i) (tm.getD i undef)
theorem vG.mono{ρ ρ':xo}(hle:ρ.le ρ'){s:Env}{tm:Array Value}(h:vG ρ s tm):vG ρ' s tm:=⟨h.size,λi=>(h.get i).mono hle⟩
def za4(ρ:xo)(es:List (Value×Value×Nat))(clock:Nat)(pl:Place)(w:World):Prop :=
 ∃ms,w.heap[pl.c]? = some (.map ms clock)/\ms.size=es.length /\ ∀(i:Nat) x m,es[i]? = some x->ms[i]? = some m->zH ρ x.1 m.key/\zH ρ x.2.1 m.val/\m.born=x.2.2
def Ts(ρ:xo)(m:Option Nat)(since:Nat)(seen:List Nat)(last:Nat)(pl:Place)(w:World):Prop :=
 ∃m',w.heap[pl.c]? = some (.mapIter m' since seen.toArray last)/\pl.base=0/\zH ρ (.map m) (.map m')
def Tt(ρ:xo)(l:aJ)(pl:Place)(w:World):Prop :=
 ∃tm d fn,w.heap[pl.c]? = some (.loop {state:=l.state,pending:=l.pending,fn:=fn,tmps:=tm,params:=l.params,assign:=l.assign,body:=l.body,defers:=d})/\vG ρ l.s tm
def vS(P:Program)(ρ:xo)(wr:Bool)(o:vl)(pl:Place)(w:World):Prop :=
 match o with
 | .cells c t=>xJ P ρ wr c t pl w
 | .map es q=>za4 ρ es q pl w
 | .iter m since seen last=>Ts ρ m since seen last pl w
 | .siter s pos=>w.heap[pl.c]? = some (.stringIter s pos)/\pl.base=0
 | .tab c=>∃t,xJ P ρ false c t {pl with H6:=P.cellsOf t} w
 | .loop l=>Tt ρ l pl w
structure Rel (P:Program) (ρ:xo) (h:za) (w:World):Prop where
 next:ρ.next=h.next
 ro:h.ro<=h.next
 Ko:∀b o,h.get b=some o->b<h.next
 ok:∀b o,h.get b=some o->∃pl,ρ.m b=some pl/\vS P ρ (decide (h.ro<=b)) o pl w
 inj:∀b1 b2 o1 o2 p1 p2,h.get b1=some o1->h.get b2=some o2->ρ.m b1=some p1->ρ.m b2=some p2->p1.c=p2.c->b1=b2
 lh:P.globals.size<=h.ro
 Yn:∀b pl,b<P.globals.size->ρ.m b=some pl->pl.c=b/\pl.base=0
def mq(ρ:xo)(h:za)(c:Nat):Prop := ∃b o pl,h.get b=some o/\h.ro<=b/\ρ.m b=some pl/\pl.c=c
structure Step (P:Program) (ρ:xo) (h:za) (w:World) (ρ':xo) (h':za) (w':World):Prop where
 le:ρ.le ρ'
 rel:Rel P ρ' h' w'
 ro:h'.ro=h.ro
 os:w'.os=w.os
 tape:w'.tape=w.tape
 output:w'.output=w.output
 size:w.heap.size<=w'.heap.size
 frame:∀c,c<w.heap.size->¬mq ρ h c->w'.heap[c]? = w.heap[c]?
 l9:∀c,c<w.heap.size->mq ρ' h' c->mq ρ h c
theorem Step.refl{P:Program}{ρ:xo}{h:za}{w:World}(hr:Rel P ρ h w):Step P ρ h w ρ h w :=
 ⟨xo.le_refl _,hr,rfl,rfl,rfl,rfl,aaj _,λ_ _ _=>rfl,λ_ _ h=>h⟩
theorem Step.trans{P:Program}{ρ ρ' ρ'':xo}{h h' h'':za}{w w' w'':World}(a:Step P ρ h w ρ' h' w')(b:Step P ρ' h' w' ρ'' h'' w'') :
  Step P ρ h w ρ'' h'' w'' :=
 ⟨xo.le_trans a.le b.le,b.rel,b.ro.trans a.ro,b.os.trans a.os,b.tape.trans a.tape,b.output.trans a.output,aaV a.size b.size,
  λc hc hn=>(b.frame c (aap hc a.size) (λhm=>hn (a.l9 c hc hm))).trans (a.frame c hc hn),
  λc hc hm=>a.l9 c hc (b.l9 c (aap hc a.size) hm)⟩
def qo(tm:Array Value)(d:Option Nat)(v:Value):Array Value :=
 match d with
 |some d=>tm.setIfInBounds d v
 |none=>tm
theorem vG.put{ρ:xo}{s s':Env}{tm:Array Value}{d:Option Nat}{v v':Value}(h:vG ρ s tm)(hv:zH ρ v v')(hp:s.put d v=some s') :
  vG ρ s' (qo tm d v'):=by
 cases d with
 |none=>simp only[Env.put,aab]at hp;subst hp;exact h
 |some d=>
  simp only[Env.put]at hp;cases hb:Nat.blt d s.size with
  |false=>rw[hb]at hp;cases hp
  |true=>
   rw[hb]at hp;simp only[aav,aab]at hp;subst hp;have hd:d<s.size:=by simpa [aaM] using hb
   refine⟨by simp[qo,h.size],λi=>?_⟩;rw[Env.yy];simp only[qo];by_cases e:i=d
   ·subst e;rw[aai rfl]
    have:(tm.setIfInBounds i v').getD i undef=v':=by
     simp[aaw,<- h.size,hd]
    rw[this];exact hv
   ·rw[aag e]
    have:(tm.setIfInBounds d v').getD i undef=tm.getD i undef:=by
     simp[aaw,Ne.symm e]
    rw[this];exact h.get i
end
end Go.Ai
namespace Go.Ai
noncomputable section
variable {P:Program}
theorem Rel.place{ρ:xo}{h:za}{w:World}(hr:Rel P ρ h w){b:Nat}{c:List aaa}{t:TypeId}{pl:Place}(hg:h.get b=some (.cells c t))(hm:ρ.m b=some pl) :
  xJ P ρ (decide (h.ro<=b)) c t pl w:=by
 obtain⟨pl',hm',hc⟩:=hr.ok b _ hg;rw[hm]at hm';cases hm';exact hc
theorem Rel.OJ{ρ:xo}{h:za}{w:World}(hr:Rel P ρ h w){b:Nat}{o:vl}{pl:Place}(hg:h.get b=some o)(hm:ρ.m b=some pl):vS P ρ (decide (h.ro<=b)) o pl w:=by
 obtain⟨pl',hm',hc⟩:=hr.ok b _ hg;rw[hm]at hm';cases hm';exact hc
theorem xJ.cell{ρ:xo}{wr:Bool}{c:List aaa}{t:TypeId}{pl:Place}{w:World}(hc:xJ P ρ wr c t pl w){i:Nat}{x:aaa}(hx:c[i]? = some x) :
  ∃y,w.cell? ⟨pl.c,pl.base+i,none⟩=some y/\zH ρ x y:=by
 obtain⟨cs,fz,hb,_,_,_,_,hv⟩:=hc;obtain⟨y,hy,hxy⟩:=hv i x hx;exact⟨y,by simp[World.cell?,hb,hy],hxy⟩
theorem xJ.Pl{ρ:xo}{c:List aaa}{t:TypeId}{pl:Place}{w:World}(hc:xJ P ρ true c t pl w){i:Nat}(hi:i<pl.size) :
  w.frozen? ⟨pl.c,i,none⟩=false:=by
 obtain⟨cs,fz,hb,_,_,_,hf,_⟩:=hc;have:=hf rfl i hi;obtain⟨lo,hi'⟩:=fz;simp[World.frozen?,hb]at this ⊢;exact this
theorem xJ.other{ρ:xo}{wr:Bool}{c:List aaa}{t:TypeId}{pl:Place}{w w':World}(hc:xJ P ρ wr c t pl w)(hb:w'.heap[pl.c]? = w.heap[pl.c]?):xJ P ρ wr c t pl w':=by
 obtain⟨cs,fz,h1,h2⟩:=hc;exact⟨cs,fz,hb.trans h1,h2⟩
theorem xJ.mono{ρ ρ':xo}(hle:ρ.le ρ'){wr:Bool}{c:List aaa}{t:TypeId}{pl:Place}{w:World}(hc:xJ P ρ wr c t pl w):xJ P ρ' wr c t pl w:=by
 obtain⟨cs,fz,h1,h2,h3,h4,h5,h6⟩:=hc;exact⟨cs,fz,h1,h2,h3,h4,h5,λi x hx=>by obtain⟨y,hy,hv⟩:=h6 i x hx;exact⟨y,hy,hv.mono hle⟩⟩
theorem xJ.lt{ρ:xo}{wr:Bool}{c:List aaa}{t:TypeId}{pl:Place}{w:World}(hc:xJ P ρ wr c t pl w):pl.c<w.heap.size:=by
 obtain⟨cs,fz,h1,_⟩:=hc;rcases aaL pl.c w.heap.size with h|h
 ·exact h
 ·rw[aaH h]at h1;cases h1
theorem xJ.Mr{ρ:xo}{c:List aaa}{t:TypeId}{pl:Place}{w:World}{wr wr':Bool}(hw:wr'=true->wr=true)(hc:xJ P ρ wr c t pl w):xJ P ρ wr' c t pl w:=by
 obtain⟨cs,fz,h1,h2,h3,h4,h5,h6⟩:=hc;exact⟨cs,fz,h1,h2,h3,h4,λe=>h5 (hw e),h6⟩
theorem vS.other{ρ:xo}{wr:Bool}{o:vl}{pl:Place}{w w':World}(hc:vS P ρ wr o pl w)(hb:w'.heap[pl.c]? = w.heap[pl.c]?):vS P ρ wr o pl w':=by
 cases o with
 |cells c t=>exact xJ.other hc hb
 |map es q=>obtain⟨ms,h1,h2⟩:=hc;exact⟨ms,hb.trans h1,h2⟩
 |iter m a b c=>obtain⟨m',h1,h2⟩:=hc;exact⟨m',hb.trans h1,h2⟩
 |siter s pos=>exact⟨hb.trans hc.1,hc.2⟩
 |tab c=>obtain⟨t,h1⟩:=hc;exact⟨t,xJ.other h1 hb⟩
 |loop l=>obtain⟨tm,d,fn,h1,h2⟩:=hc;exact⟨tm,d,fn,hb.trans h1,h2⟩
theorem vS.mono{ρ ρ':xo}(hle:ρ.le ρ'){wr:Bool}{o:vl}{pl:Place}{w:World}(hc:vS P ρ wr o pl w):vS P ρ' wr o pl w:=by
 cases o with
 |cells c t=>exact xJ.mono hle hc
 |map es q=>obtain⟨ms,h1,h2,h3⟩:=hc;exact⟨ms,h1,h2,λi x m hx hm=>⟨(h3 i x m hx hm).1.mono hle,(h3 i x m hx hm).2.1.mono hle,(h3 i x m hx hm).2.2⟩⟩
 |iter m a b c=>obtain⟨m',h1,h0,h2⟩:=hc;exact⟨m',h1,h0,h2.mono hle⟩
 |tab c=>obtain⟨t,h1⟩:=hc;exact⟨t,xJ.mono hle h1⟩
 |siter s pos=>exact hc
 |loop l=>obtain⟨tm,d,fn,h1,h2⟩:=hc;exact⟨tm,d,fn,h1,h2.mono hle⟩
theorem Yj{w:World}{r:Nat}{o:Obj}(h:w.heap[r]? = some o):r<w.heap.size:=by
 rcases aaL r w.heap.size with hl|hl
 ·exact hl
 ·rw[aaH hl]at h;cases h
theorem vS.lt{ρ:xo}{wr:Bool}{o:vl}{pl:Place}{w:World}(hc:vS P ρ wr o pl w):pl.c<w.heap.size:=by
 cases o with
 |cells c t=>exact xJ.lt hc
 |map es q=>obtain⟨ms,h1,_⟩:=hc;exact Yj h1
 |iter m a b c=>obtain⟨m',h1,_⟩:=hc;exact Yj h1
 |siter s pos=>exact Yj hc.1
 |tab c=>obtain⟨t,h1⟩:=hc;exact h1.lt
 |loop l=>obtain⟨tm,d,fn,h1,_⟩:=hc;exact Yj h1
theorem vS.Mr{ρ:xo}{o:vl}{pl:Place}{w:World}{wr wr':Bool}(hw:wr'=true->wr=true)(hc:vS P ρ wr o pl w):vS P ρ wr' o pl w:=by
 cases o with
 |cells c t=>exact xJ.Mr hw hc
 |map es q=>exact hc
 |tab c=>exact hc
 |iter m a b c=>exact hc
 |siter s pos=>exact hc
 |loop l=>exact hc
theorem Rel.drop{ρ:xo}{h:za}{w:World}(hr:Rel P ρ h w)(b:Nat):Rel P ρ (h.set b none) w:=by
 have hsub:∀x o,(h.set b none).get x=some o->h.get x=some o:=by
  intro x o hx;rw[za.yy]at hx;split at hx
  ·cases hx
  ·exact hx
 exact⟨hr.next,hr.ro,λx o hx=>hr.Ko x o (hsub x o hx),λx o hx=>hr.ok x o (hsub x _ hx),
  λb1 b2 o1 o2 p1 p2 h1 h2=>hr.inj b1 b2 o1 o2 p1 p2 (hsub _ _ h1) (hsub _ _ h2),hr.lh,hr.Yn⟩
theorem Step.GH{ρ:xo}{h:za}{w w':World}(hr:Rel P ρ h w){b:Nat}{ob ob':vl}{pl:Place}(hg:h.get b=some ob)(hm:ρ.m b=some pl)(hro:h.ro<=b)
  (hok:vS P ρ true ob' pl w') (hos:w'.os=w.os) (htape:w'.tape=w.tape) (hout:w'.output=w.output) (hsz:w'.heap.size=w.heap.size)
  (hfr:∀k,k≠pl.c->w'.heap[k]? = w.heap[k]?):Step P ρ h w ρ (h.set b (some ob')) w':=by
 have hold:∀x o,(h.set b (some ob')).get x=some o->∃o',h.get x=some o':=by
  intro x o hx;rw[za.yy]at hx;split at hx
  ·rename_i e;subst e;exact⟨_,hg⟩
  ·exact⟨o,hx⟩
 refine⟨xo.le_refl _,⟨hr.next,hr.ro,?_,?_,?_,hr.lh,hr.Yn⟩,rfl,hos,htape,hout,by omega,?_,?_⟩
 ·intro x o hx;obtain⟨o',ho'⟩:=hold x o hx;exact hr.Ko x o' ho'
 ·intro x ox hx;rw[za.yy]at hx;split at hx
  ·rename_i e;subst e;cases hx;exact⟨pl,hm,hok.Mr (λ_=>rfl)⟩
  ·rename_i e;obtain⟨p,hp,hc⟩:=hr.ok x ox hx;refine⟨p,hp,hc.other (hfr _ ?_)⟩;intro e2;exact e (hr.inj x b _ _ p pl hx hg hp hm e2)
 ·intro b1 b2 o1 o2 p1 p2 h1 h2;obtain⟨o1',h1'⟩:=hold _ _ h1;obtain⟨o2',h2'⟩:=hold _ _ h2;exact hr.inj b1 b2 o1' o2' p1 p2 h1' h2'
 ·intro k hk hn;refine hfr k ?_;intro e;exact hn ⟨b,_,pl,hg,hro,hm,e.symm⟩
 ·rintro k hk ⟨x,o,p,hx,hrx,hp,hpc⟩;obtain⟨o',ho'⟩:=hold x o hx;exact⟨x,o',p,ho',hrx,hp,hpc⟩
theorem Step.write{ρ:xo}{h:za}{w w':World}(hr:Rel P ρ h w){b:Nat}{c c':List aaa}{t:TypeId}{pl:Place}(hg:h.get b=some (.cells c t))(hm:ρ.m b=some pl)(hro:h.ro<=b)
  (hok:xJ P ρ true c' t pl w') (hos:w'.os=w.os) (htape:w'.tape=w.tape) (hout:w'.output=w.output) (hsz:w'.heap.size=w.heap.size)
  (hfr:∀k,k≠pl.c->w'.heap[k]? = w.heap[k]?):Step P ρ h w ρ (h.set b (some (.cells c' t))) w' :=
 Step.GH hr hg hm hro (ob' := .cells c' t) hok hos htape hout hsz hfr
theorem size_setCell(w:World)(a:Addr)(v:aaa):(w.setCell a v).heap.size=w.heap.size:=by simp[World.setCell]
theorem Kl(w:World)(a:Addr)(v:aaa)(k:Nat)(h:k≠a.block):(w.setCell a v).heap[k]? = w.heap[k]?:=RowKit.Below.heap_setCell w a v k h
theorem xJ.setCell{ρ:xo}{wr:Bool}{c:List aaa}{t:TypeId}{pl:Place}{w:World}(hc:xJ P ρ wr c t pl w){i:Nat}{v v':aaa}(hi:i<c.length)(hv:zH ρ v v') :
  xJ P ρ wr (c.set i v) t pl (w.setCell ⟨pl.c,pl.base+i,none⟩ v'):=by
 obtain⟨cs,fz,h1,h2,h3,h4,h5,h6⟩:=hc;refine⟨cs.setIfInBounds (pl.base+i) v',fz,?_,by simpa using h2,h3,by simpa using h4,h5,?_⟩
 ·simp[World.setCell,Array.getElem?_modify,h1]
 ·intro j x hx;by_cases e:j=i
  ·subst e;rw[abX hi]at hx;cases hx;exact⟨v',by rw[aa2,aai rfl,aai (by omega)],hv⟩
  ·rw[ab5 (λh=>e h.symm)]at hx;obtain⟨y,hy,hxy⟩:=h6 j x hx;exact⟨y,by rw[aa2,aag (by omega)];exact hy,hxy⟩
theorem rk{ρ:xo}{h:za}{w:World}(hr:Rel P ρ h w){b:Nat}{c:List aaa}{t:TypeId}{pl:Place}(hg:h.get b=some (.cells c t))(hm:ρ.m b=some pl)(hro:h.ro<=b)
  {i:Nat} (hi:i<c.length) {v v':aaa} (hv:zH ρ v v') (hcell:xj v=true) :
  (store ⟨pl.c,pl.base+i,none⟩ v').run P w=.ok () (w.setCell ⟨pl.c,pl.base+i,none⟩ v') /\
   Step P ρ h w ρ (h.set b (some (.cells (c.set i v) t))) (w.setCell ⟨pl.c,pl.base+i,none⟩ v'):=by
 have hc:=hr.place hg hm;rw[show decide (h.ro<=b)=true by simpa using hro]at hc;obtain⟨y,hy,_⟩:=hc.cell (i:=i) (aaf hi);have hsz:pl.base+i<pl.size:=by obtain⟨cs,fz,_,h2,_,h4,_⟩:=hc;omega
 have hone:v'.oneCell'=true:=by have:=oP hv;rw[hcell]at this;cases v' <;> simp_all [xj,Value.oneCell']
 refine⟨?_,Step.write hr hg hm hro (hc.setCell hi hv) rfl rfl rfl (size_setCell _ _ _) (λk hk=>Kl _ _ _ _ hk)⟩;rw[run_store _ _ _ _ _ hone,hy];simp[hc.Pl hsz]
def zu(c:List aaa)(i:Nat):List aaa->List aaa
 |[]=>c
 |v::vs=>zu (c.set i v) (i+1) vs
theorem xK(vs:List aaa):∀(c:List aaa) (i:Nat),(zu c i vs).length=c.length:=by
 induction vs with
 |nil=>intro c i;rfl
 |cons v vs ih=>intro c i;simp[zu,ih]
theorem za.set_set(h:za)(b:Nat)(x y:Option vl)(k:Nat):((h.set b x).set b y).get k=(h.set b y).get k:=by
 simp only[za.yy];split <;> rfl
structure za5 (h h':za):Prop where
 next:h'.next=h.next
 ro:h'.ro=h.ro
 get:∀b,h'.get b=h.get b
theorem Rel.same{ρ:xo}{h h':za}{w:World}(hr:Rel P ρ h w)(e:za5 h h'):Rel P ρ h' w :=
 ⟨hr.next.trans e.next.symm,by rw[e.ro,e.next];exact hr.ro,λb o hb=>by rw[e.next];exact hr.Ko b o ((e.get b) ▸ hb),
  λb o hb=>by rw[e.ro];exact hr.ok b o ((e.get b) ▸ hb),
  λb1 b2 o1 o2 p1 p2 h1 h2=>hr.inj b1 b2 o1 o2 p1 p2 ((e.get b1) ▸ h1) ((e.get b2) ▸ h2),by rw[e.ro];exact hr.lh,hr.Yn⟩
theorem Step.same{ρ ρ':xo}{h h' h'':za}{w w':World}(s:Step P ρ h w ρ' h' w')(e:za5 h' h''):Step P ρ h w ρ' h'' w' :=
 ⟨s.le,s.rel.same e,e.ro.trans s.ro,s.os,s.tape,s.output,s.size,s.frame,λc hc hm=>s.l9 c hc (by
  obtain⟨b,o,pl,hb,hro,hp⟩:=hm;exact⟨b,o,pl,by rw[<- e.get];exact hb,by rw[<- e.ro];exact hro,hp⟩)⟩
theorem jG(c o i:Nat):(Addr.mk c o none).add i=⟨c,o+i,none⟩:=by
 unfold Addr.add;split
 ·rename_i h;subst h;rfl
 ·rfl
theorem Jt{ρ:xo}{t:TypeId}{pl:Place}{b:Nat}{o:Nat}(hm:ρ.m b=some pl):∀(vs vs':List aaa) (h:za) (w:World) (c:List aaa) (j:Nat),Rel P ρ h w->h.get b=some (.cells c t)->h.ro<=b ->
  o+j+vs.length<=c.length->wG ρ vs vs'->(∀x∈vs,xj x=true) ->
  ∃w',(storeCells ⟨pl.c,pl.base+o,none⟩ vs' j).run P w=.ok () w'/\Step P ρ h w ρ (h.set b (some (.cells (zu c (o+j) vs) t))) w':=by
 intro vs
 induction vs with
 |nil=>
  intro vs' h w c j hr hg hro hl hv hcell;cases hv.uG;refine⟨w,rfl,(Step.refl hr).same ⟨rfl,rfl,λx=>?_⟩⟩;rw[za.yy];split
  ·rename_i e;subst e;exact hg.symm
  ·rfl
 |cons v vs ih=>
  intro vs' h w c j hr hg hro hl hv hcell;obtain⟨v',vs'',rfl,hv1,hv2⟩:=hv.cons_inv;simp only[aa3]at hl;obtain⟨e1,s1⟩:=rk hr hg hm hro (i:=o+j) (by omega) hv1 (hcell v (by simp));obtain⟨w',e2,s2⟩:=ih vs'' _ _ (c.set (o+j) v) (j+1) s1.rel (by rw[za.yy,aai rfl]) hro (by simp;omega) hv2 (λx hx=>hcell x (by simp[hx]));refine⟨w',?_,(s1.trans s2).same ⟨rfl,rfl,λx=>?_⟩⟩
  ·simp only[storeCells,jG,aah,abJ]at e1 ⊢;rw[e1];exact e2
  ·rw[za.set_set];rfl
def xo.ext(ρ:xo)(pl:Place):xo:={next:=ρ.next+1,m:=λb=>if b=ρ.next then some pl else ρ.m b}
theorem xo.gV(ρ:xo)(pl:Place):ρ.le (ρ.ext pl):=⟨abI _,λ_ hb=>aag (Nat.ne_of_lt hb)⟩
theorem xo.ko(ρ:xo)(pl:Place):(ρ.ext pl).m ρ.next=some pl:=aai rfl
theorem Rel.au{ρ:xo}{h:za}{w:World}(hr:Rel P ρ h w){ob:vl}{pl:Place}(hc:vS P (ρ.ext pl) true ob pl w)
  (hfresh:∀b o p,h.get b=some o->ρ.m b=some p->p.c≠pl.c):Rel P (ρ.ext pl) (h.push ob) w:=by
 have hle:=ρ.gV pl
 have hcase:∀x o,(h.push ob).get x=some o->(x=h.next/\o=ob)\/(x<h.next/\h.get x=some o):=by
  intro x o hx;rw[za.vT]at hx;split at hx
  ·rename_i e;cases hx;exact .inl ⟨e,rfl⟩
  ·exact .inr ⟨hr.Ko x o hx,hx⟩
 have hold:∀x,x<h.next->(ρ.ext pl).m x=ρ.m x:=λx hx=>hle.2 x (by rw[hr.next];exact hx);have hnew:(ρ.ext pl).m h.next=some pl:=by rw[<- hr.next];exact ρ.ko pl
 refine⟨by show ρ.next+1=h.next+1;rw[hr.next],aaV hr.ro (abI _),?_,?_,?_,hr.lh,λb p hb hm=>hr.Yn b p hb (by rw[<- hold b (aap hb (aaV hr.lh hr.ro))];exact hm)⟩
 ·intro x o hx;rcases hcase x o hx with⟨e,_⟩|⟨hlt,_⟩
  ·subst e;exact aaZ _
  ·exact acr hlt
 ·intro x ox hx;rcases hcase x _ hx with⟨e,eo⟩|⟨hlt,hx'⟩
  ·cases eo;subst e;exact⟨pl,hnew,hc.Mr (λ_=>rfl)⟩
  ·obtain⟨p,hp,hcx⟩:=hr.ok x ox hx';exact⟨p,(hold x hlt).trans hp,hcx.mono hle⟩
 ·intro b1 b2 o1 o2 p1 p2 h1 h2 m1 m2 e;rcases hcase b1 o1 h1 with⟨e1,_⟩|⟨l1,g1⟩ <;> rcases hcase b2 o2 h2 with⟨e2,_⟩|⟨l2,g2⟩
  ·omega
  ·subst e1;rw[hnew]at m1;cases m1;rw[hold _ l2]at m2;exact absurd e.symm (hfresh b2 o2 p2 g2 m2)
  ·subst e2;rw[hnew]at m2;cases m2;rw[hold _ l1]at m1;exact absurd e (hfresh b1 o1 p1 g1 m1)
  ·rw[hold _ l1]at m1;rw[hold _ l2]at m2;exact hr.inj b1 b2 o1 o2 p1 p2 g1 g2 m1 m2 e
theorem Rel.push{ρ:xo}{h:za}{w:World}(hr:Rel P ρ h w){c:List aaa}{t:TypeId}{pl:Place}(hc:xJ P (ρ.ext pl) true c t pl w)
  (hfresh:∀b o p,h.get b=some o->ρ.m b=some p->p.c≠pl.c):Rel P (ρ.ext pl) (h.push (.cells c t)) w:=hr.au (ob := .cells c t) hc hfresh
theorem Rel.grow{ρ:xo}{h:za}{w w':World}(hr:Rel P ρ h w)(hold:∀k,k<w.heap.size->w'.heap[k]? = w.heap[k]?):Rel P ρ h w' :=
 ⟨hr.next,hr.ro,hr.Ko,λb o hb=>by obtain⟨pl,hp,hc⟩:=hr.ok b o hb;exact⟨pl,hp,hc.other (hold _ hc.lt)⟩,hr.inj,hr.lh,hr.Yn⟩
theorem Step.au{ρ:xo}{h:za}{w w':World}(hr:Rel P ρ h w){ob:vl}{pl:Place}{wo:Obj}(hpl:pl.c=w.heap.size)
  (hnew:w'.heap=w.heap.push wo) (hok:vS P (ρ.ext pl) true ob pl w')
  (hos:w'.os=w.os) (htape:w'.tape=w.tape) (hout:w'.output=w.output) :
  Step P ρ h w (ρ.ext pl) (h.push ob) w':=by
 have hold:∀k,k<w.heap.size->w'.heap[k]? = w.heap[k]?:=by
  intro k hk;rw[hnew,Array.getElem?_push,aag (by omega)]
 have hle:=ρ.gV pl;have hr':=hr.grow hold;refine⟨hle,hr'.au hok ?_,rfl,hos,htape,hout,by rw[hnew];simp,λk hk _=>hold k hk,?_⟩
 ·intro b o p hg hm e;obtain⟨p',hp',hcx⟩:=hr.ok b o hg;rw[hm]at hp';cases hp';have:=hcx.lt;omega
 ·rintro k hk ⟨b,o,p,hg,hro,hm,e⟩;rw[za.vT]at hg;split at hg
  ·rename_i eb;subst eb;rw[<- hr.next,xo.ko]at hm;cases hm;omega
  ·have hlt:=hr.Ko b o hg;refine⟨b,o,p,hg,hro,?_,e⟩;rw[<- hm];exact(hle.2 b (by rw[hr.next];exact hlt)).symm
theorem Step.push{ρ:xo}{h:za}{w w':World}(hr:Rel P ρ h w){c:List aaa}{t:TypeId}{cs:Array aaa}{fz:Nat×Nat}
  (hnew:w'.heap=w.heap.push (.cells cs t fz)) (hfz:∀i,i<cs.size->¬(fz.1<=i/\i<fz.2)) (hlen:c.length<=cs.size) (hv:∀(i:Nat) x,c[i]? = some x->∃y,cs[i]? = some y/\zH ρ x y)
  (hos:w'.os=w.os) (htape:w'.tape=w.tape) (hout:w'.output=w.output) :
  Step P ρ h w (ρ.ext ⟨w.heap.size,0,cs.size,P.cellsOf t⟩) (h.push (.cells c t)) w':=by
 refine Step.au hr (ob := .cells c t) rfl hnew ⟨cs,fz,by rw[hnew];simp,rfl,⟨rfl,Nat.zero_mod _⟩,by simpa using hlen,λ_=>hfz,?_⟩ hos htape hout;intro i x hx;obtain⟨y,hy,hxy⟩:=hv i x hx;exact⟨y,by simpa using hy,hxy.mono (ρ.gV _)⟩
theorem cQ{ρ:xo}{h:za}{w:World}(hr:Rel P ρ h w){c:List aaa}{t:TypeId}{cs:Array aaa}(hlen:c.length<=cs.size)(hv:∀(i:Nat) x,c[i]? = some x->∃y,cs[i]? = some y/\zH ρ x y) :
  (newRow t cs).run P w=.ok ⟨w.heap.size,0,none⟩ {w with heap:=w.heap.push (.cells cs t)} /\
   Step P ρ h w (ρ.ext ⟨w.heap.size,0,cs.size,P.cellsOf t⟩) (h.push (.cells c t)) {w with heap:=w.heap.push (.cells cs t)} :=
 ⟨rfl,Step.push hr rfl (λi _ hi=>by simp at hi) hlen hv rfl rfl rfl⟩
theorem zH.new{ρ:xo}{h:za}{w:World}(hr:Rel P ρ h w)(pl:Place)(hb:pl.base=0):zH (ρ.ext pl) (.pointer (some ⟨h.next,0,none⟩)) (.pointer (some ⟨pl.c,0,none⟩)):=by
 have:=zH.ptr (ρ:=ρ.ext pl) (b:=h.next) (off:=0) (pl:=pl) (by show h.next<ρ.next+1;rw[hr.next];exact aaZ _) (by rw[<- hr.next];exact ρ.ko pl);rw[hb]at this;exact this
theorem kS{ρ:xo}{wr:Bool}{c:List aaa}{t:TypeId}{pl:Place}{w:World}(hc:xJ P ρ wr c t pl w)(o n:Nat)(h:o+n<=c.length) :
  ∃ys:List aaa,(loadCells ⟨pl.c,pl.base+o,none⟩ n).run P w=.ok ys.toArray w/\wG ρ ((c.drop o).take n) ys:=by
 obtain⟨cs,fz,h1,h2,h3,h4,h5,h6⟩:=hc;refine⟨((cs.toList.drop (pl.base+o)).take n),?_,?_,?_⟩
 ·have hlen:((cs.toList.drop (pl.base+o)).take n).length=n:=by simp;omega
  have:=run_loadCells_list (P:=P) w ⟨pl.c,pl.base+o,none⟩ ((cs.toList.drop (pl.base+o)).take n) (λj v hj=>by
   have hjn:j<n:=by
    rcases aaL j n with h|h
    ·exact h
    ·rw[aat (by omega)]at hj;cases hj
   rw[aa0 hjn,aaS]at hj;rw[jG];simp[World.cell?,h1];simpa using hj)
  rw[hlen]at this;exact this
 ·simp;omega
 ·intro i x y hx hy
  have hi:i<n:=by
   rcases aaL i n with h|h
   ·exact h
   ·rw[aat (by simp;omega)]at hx;cases hx
  rw[aa0 hi,aaS]at hx hy;obtain⟨y',hy',hxy⟩:=h6 _ _ hx
  have:y=y':=by
   have e:pl.base+(o+i)=pl.base+o+i:=by omega
   rw[e]at hy';have hy2:cs[pl.base+o+i]? = some y:=by simpa using hy
   rw[hy2]at hy';cases hy';rfl
  rw[this];exact hxy
end
noncomputable section
def yg{α:Type}(P:Program):Sem α->Option α
 | .pure a=>some a
 | .program k=>yg P (k P)
 |_=>none
theorem zh{α:Type}{P:Program}{s:Sem α}{a:α}(h:yg P s=some a)(w:World):s.run P w=.ok a w:=by
 induction s with
 |pure b=>simp only[yg,aab]at h;subst h;rfl
 |program k ih=>simp only[yg]at h;exact ih P h
 |_=>cases h
def flat:aaa->Bool
 | .agg a=>a.toList.all plain
 |v=>plain v
theorem EV{ρ:xo}{v v':aaa}(h:zH ρ v v')(hp:plain v=true):v'=v:=by
 cases h with
 |pW h=>cases hp
 |bool|int|float|string|ptrNil|nilFunc|nilIface|mapNil=>rfl
 |ptr|Yn|slice|sliceOut|iface|agg|map|yield=>simp[plain]at hp
 |sliceNil c=>simp only[plain,aad]at hp;obtain rfl:=aak hp.2;rfl
 |func ha hc _ _=>
  simp only[plain,aad]at hp;obtain rfl:=VP hp.1;obtain rfl:=VP hp.2;rw[abD ha.symm,abD hc.symm]
 |tuple ha _=>
  obtain rfl:=VP hp;rw[abD ha.symm]
theorem pL{xs ys:List aaa}(hl:xs.length=ys.length)(h:∀(i:Nat) x y,xs[i]? = some x->ys[i]? = some y->y=x):ys=xs:=by
 apply abV;intro i;rcases aaL i xs.length with hi|hi
 ·rw[aaf hi,aaf (hl ▸ hi)]
  congr 1
  exact h i _ _ (aaf hi) (aaf (hl ▸ hi))
 ·rw[aat hi,aat (by omega)]
theorem kp{ρ:xo}{v v':aaa}(h:zH ρ v v')(hp:flat v=true):v'=v:=by
 cases h with
 |agg ha hv=>
  rename_i a a';simp only[flat,aaD]at hp
  congr 1
  apply abY;refine pL (by simpa using ha) (λi x y hx hy=>?_);exact EV (hv i x y (by simpa using hx) (by simpa using hy)) (hp x (aax hx))
 |_=>first|rfl|exact EV (ρ:=ρ) (by constructor <;> assumption) hp
theorem zH.of_flat(ρ:xo){v:aaa}(h:flat v=true):zH ρ v v:=by
 cases v with
 |agg a=>
  simp only[flat,aaD]at h
  exact .agg rfl (λi x y hx hy=>by
   rw[hx]at hy;cases hy;exact .Zk ρ (h x (aax (by simpa using hx))))
 |_=>exact .Zk ρ h
def kG(s:Env):Operand->Option aaa
 | .tmp t=>some (s.get t)
 | .const v=>cond (flat v) (some v) none
 | .global g=>some (.pointer (some ⟨g,0,some 0⟩))
 | .func f=>some (.func (.func f) #[] #[])
theorem zY{ρ:xo}{s:Env}{a:Act}(hs:vG ρ s a.tmps){x:Operand}{v:aaa}(h:kG s x=some v):zH ρ v (a.eval x):=by
 cases x with
 |tmp t=>simp only[kG,aab]at h;subst h;exact hs.get t
 |const c=>
  simp only[kG]at h;cases hf:flat c with
  |false=>rw[hf]at h;cases h
  |true=>rw[hf]at h;simp only[aav,aab]at h;subst h;exact .of_flat ρ hf
 |global g=>simp only[kG,aab]at h;subst h;exact .Yn
 |func f=>simp only[kG,aab]at h;subst h;exact .Zk ρ rfl
def Vq(s:Env):List Operand->Option (List aaa)
 |[]=>some []
 |x::xs=>match kG s x with
  |none=>none
  |some v=>match Vq s xs with
   |none=>none
   |some vs=>some (v::vs)
theorem jy{ρ:xo}{s:Env}{a:Act}(hs:vG ρ s a.tmps):∀{xs:List Operand} {vs:List aaa},Vq s xs=some vs->wG ρ vs (xs.map a.eval)
 |[],vs,h=>by simp only[Vq,aab]at h;subst h;exact .nil ρ
 |x::xs,vs,h=>by
  simp only[Vq]at h;split at h
  ·cases h
  ·rename_i v hv;split at h
   ·cases h
   ·rename_i vs' hvs;simp only[aab]at h;subst h;exact .cons (zY hs hv) (jy hs hvs)
theorem zH.cells{ρ:xo}{v v':aaa}(h:zH ρ v v'):wG ρ v.cells.toList v'.cells.toList:=by
 cases h with
 |agg ha hv=>exact⟨by simpa [Value.cells] using ha,λi x y hx hy=>hv i x y (by simpa [Value.cells] using hx) (by simpa [Value.cells] using hy)⟩
 |pW h=>cases v' <;> first|exact .cons (.pW h) (.nil ρ)|cases h
 |_=>exact .cons (by constructor <;> assumption) (.nil ρ)
def apart(P:Program)(t:TypeId)(cs:List aaa)(off:Nat):Option aaa :=
 match yg P (isAgg t) with
 |none=>none
 |some true=>(match yg P (sizeOf t) with
  |none=>none
  |some n=>some (.agg ((cs.drop off).take n).toArray))
 |some false=>cs[off]?
theorem DK{P:Program}{ρ:xo}{t:TypeId}{cs:List aaa}{cs':Array aaa}{off:Nat}{v:aaa}(h:apart P t cs off=some v)(hc:wG ρ cs cs'.toList)(w:World) :
  ∃v',(part t cs' off).run P w=.ok v' w/\zH ρ v v':=by
 simp only[apart]at h;split at h
 ·cases h
 ·rename_i hagg;split at h
  ·cases h
  ·rename_i n hn;simp only[aab]at h;subst h;refine⟨_,by simp only[part,aah,zh hagg,aac,abS,zh hn,aal];rfl,?_⟩;refine .agg ?_ ?_
   ·simp only[List.size_toArray,aaQ,abh,Array.size_extract,hc.1,abg];omega
   ·intro i x y hx hy;rw[abt]at hx;rw[Array.getElem?_extract]at hy;split at hy
    ·rename_i hi;rw[aa0 (by omega),aaS]at hx;exact hc.2 _ _ _ hx (by simpa using hy)
    ·cases hy
 ·rename_i hagg;obtain⟨y,hy,hxy⟩:=hc.get h;refine⟨y,?_,hxy⟩;have hy':cs'[off]? = some y:=by simpa using hy
  simp only[part,aah,zh hagg,aac,aa9,ab1,hy',aal]
def zd(P:Program)(t:TypeId)(a:aaa)(h:za):Option aaa :=
 match a with
 | .pointer (some ⟨b,off,none⟩)=>(match h.get b with
   |none=>none
   |some (.cells c _)=>(match yg P (isAgg t) with
    |none=>none
    |some true=>(match yg P (sizeOf t) with
     |none=>none
     |some n=>cond (Nat.ble (off+n) c.length) (some (.agg ((c.drop off).take n).toArray)) none)
    |some false=>c[off]?)
   |some _=>none)
 | .pointer (some ⟨b,off,some 0⟩)=>cond (Nat.blt b P.globals.size) (match h.get b with
   |none=>none
   |some (.tab c)=>(match yg P (isAgg t) with
    |none=>none
    |some true=>(match yg P (sizeOf t) with
     |none=>none
     |some n=>cond (Nat.ble (off+n) c.length) (some (.agg ((c.drop off).take n).toArray)) none)
    |some false=>c[off]?)
   |some _=>none) none
 |_=>none
theorem iV{P:Program}{ρ:xo}{t:TypeId}{a a':aaa}{h:za}{v:aaa}{w:World}(he:zd P t a h=some v)(hr:Rel P ρ h w)(ha:zH ρ a a') :
  ∃v',(Instr.loadAt t a').run P w=.ok v' w/\zH ρ v v':=by
 unfold zd at he;split at he
 ·rename_i b off;cases ha with
  |ptr hb hm=>
   rename_i pl;split at he
   ·cases he
   ·rename_i c t' hg;have hc:=hr.place hg hm;split at he
    ·cases he
    ·rename_i hagg;split at he
     ·cases he
     ·rename_i n hn;cases hle:Nat.ble (off+n) c.length with
      |false=>rw[hle]at he;cases he
      |true=>
       rw[hle]at he;simp only[aav,aab]at he;subst he;obtain⟨ys,hys,hv⟩:=kS hc off n (aaE hle);refine⟨.agg ys.toArray,?_,.agg (by simpa using hv.1) (λi x y hx hy=>hv.2 i x y (by simpa using hx) (by simpa using hy))⟩;simp only[Instr.loadAt,Instr.sureAddr,loadVar,aah,aal,aac,zh hagg,abS,zh hn,hys]
    ·rename_i hagg;obtain⟨y,hy,hxy⟩:=hc.cell he;refine⟨y,?_,hxy⟩;simp only[Instr.loadAt,Instr.sureAddr,loadVar,aah,aal,aac,zh hagg,aa9,ab1,run_load,hy]
   ·cases he
 ·rename_i b off;cases ha with
  |Yn=>
   cases hbl:Nat.blt b P.globals.size with
   |false=>rw[hbl]at he;cases he
   |true=>
    rw[hbl]at he;simp only[aav]at he;have hbl:b<P.globals.size:=by simpa [aaM] using hbl
    split at he
    ·cases he
    ·rename_i c hg;obtain⟨pl,hm,t',hc⟩:=hr.ok b _ hg;obtain⟨q1,q2⟩:=hr.Yn b pl hbl hm;split at he
     ·cases he
     ·rename_i hagg;split at he
      ·cases he
      ·rename_i n hn;cases hle:Nat.ble (off+n) c.length with
       |false=>rw[hle]at he;cases he
       |true=>
        rw[hle]at he;simp only[aav,aab]at he;subst he;obtain⟨ys,hys,hv⟩:=kS hc off n (aaE hle);simp only[q1,q2,abz]at hys;refine⟨.agg ys.toArray,?_,.agg (by simpa using hv.1) (λi x y hx hy=>hv.2 i x y (by simpa using hx) (by simpa using hy))⟩;simp only[Instr.loadAt,Instr.sureAddr,loadVar,aah,aal,aac,zh hagg,abS,zh hn,hys]
     ·rename_i hagg;obtain⟨y,hy,hxy⟩:=hc.cell he;simp only[q1,q2,abz]at hy;refine⟨y,?_,hxy⟩;simp only[Instr.loadAt,Instr.sureAddr,loadVar,aah,aal,aac,zh hagg,aa9,ab1,run_load,hy]
    ·cases he
 ·cases he
def ux(P:Program)(t:TypeId)(a v:aaa)(h:za):Option za :=
 match a with
 | .pointer (some ⟨b,off,none⟩)=>(match h.get b with
   |none=>none
   |some (.cells c t')=>(match yg P (sizeOf t) with
    |none=>none
    |some n=>cond (Nat.beq v.cells.size n&&Nat.ble (off+n) c.length&&Nat.ble h.ro b&&v.cells.toList.all xj) (some (h.set b (some (.cells (zu c off v.cells.toList) t')))) none)
   |some _=>none)
 |_=>none
theorem Bs{P:Program}{ρ:xo}{t:TypeId}{a a' v v':aaa}{h h':za}{w:World}(he:ux P t a v h=some h')(hr:Rel P ρ h w)(ha:zH ρ a a')(hv:zH ρ v v') :
  ∃w',(Instr.storeAt t a' v').run P w=.ok () w'/\Step P ρ h w ρ h' w':=by
 unfold ux at he;split at he
 ·rename_i b off;cases ha with
  |ptr hb hm=>
   rename_i pl;split at he
   ·cases he
   ·rename_i c t' hg;split at he
    ·cases he
    ·rename_i n hn;cases hc:(Nat.beq v.cells.size n&&Nat.ble (off+n) c.length&&Nat.ble h.ro b&&v.cells.toList.all xj) with
     |false=>rw[hc]at he;cases he
     |true=>
      rw[hc]at he;simp only[aav,aab]at he;subst he;simp only[aad,aaD]at hc;obtain⟨⟨⟨h1,h2⟩,h3⟩,h4⟩:=hc;have h1:=aak h1;have h2:=aaE h2;have h3:=aaE h3;have hcells:=hv.cells;have hsz:v'.cells.size=n:=by have:=hcells.1;simp only[abg]at this;omega
      obtain⟨w',e,st⟩:=Jt (o:=off) hm v.cells.toList v'.cells.toList h w c 0 hr hg h3 (by simp only[abg];omega) hcells h4;refine⟨w',?_,st⟩;simp only[Instr.storeAt,Instr.sureAddr,storeVar,aah,aal,aac,zh hn,ach,hsz];simp only[acu,not_true,ab1];exact e
   ·cases he
 ·cases he
def zp(P:Program)(s:TypeId)(a:aaa)(i:Nat):Option aaa :=
 match a with
 | .pointer (some ⟨b,off,none⟩)=>(match yg P (underlying s) with
   |some (.struct fields)=>(match fields[i]? with
    |none=>none
    |some f=>(match yg P (sizeOf f.type) with
     |none=>none
     |some n=>cond (Nat.beq n 0) none (some (.pointer (some ⟨b,off+f.offset,none⟩)))))
   |_=>none)
 | .pointer (some ⟨b,off,some 0⟩)=>(match yg P (underlying s) with
   |some (.struct fields)=>(match fields[i]? with
    |none=>none
    |some f=>(match yg P (sizeOf f.type) with
     |none=>none
     |some n=>cond (Nat.beq n 0) none (some (.pointer (some ⟨b,off+f.offset,some 0⟩)))))
   |_=>none)
 |_=>none
theorem Bj{P:Program}{ρ:xo}{s:TypeId}{a a' v:aaa}{i:Nat}(he:zp P s a i=some v)(ha:zH ρ a a')(w:World) :
  ∃v',(Instr.fieldAt s a' i).run P w=.ok v' w/\zH ρ v v':=by
 unfold zp at he;split at he
 ·rename_i b off;cases ha with
  |ptr hb hm=>
   rename_i pl;split at he
   ·rename_i fields hu;split at he
    ·cases he
    ·rename_i f hf;split at he
     ·cases he
     ·rename_i n hn;cases hz:Nat.beq n 0 with
      |true=>rw[hz]at he;cases he
      |false=>
       rw[hz]at he;simp only[aaB,aab]at he;subst he;have hne:n≠0:=by intro e;subst e;simp at hz
       refine⟨.pointer (some ⟨pl.c,pl.base+(off+f.offset),none⟩),?_,.ptr hb hm⟩;simp only[Instr.fieldAt,Instr.sureAddr,fieldPlace,aah,aal,aac,zh hu,hf,zh hn,ach,aag hne,jG,abJ]
   ·cases he
 ·rename_i b off;cases ha with
  |Yn=>
   split at he
   ·rename_i fields hu;split at he
    ·cases he
    ·rename_i f hf;split at he
     ·cases he
     ·rename_i n hn;cases hz:Nat.beq n 0 with
      |true=>rw[hz]at he;cases he
      |false=>
       rw[hz]at he;simp only[aaB,aab]at he;subst he;have hne:n≠0:=by intro e;subst e;simp at hz
       refine⟨.pointer (some ⟨b,off+f.offset,none⟩),?_,.Yn⟩;simp only[Instr.fieldAt,Instr.sureAddr,fieldPlace,aah,aal,aac,zh hu,hf,zh hn,ach,aag hne,jG]
   ·cases he
 ·cases he
def xR(P:Program)(t:TypeId)(x ix:aaa):Option aaa :=
 match ix with
 | .int _ i=>(match yg P (underlying t),x with
   |some (.array len elem),.pointer (some ⟨b,off,none⟩)=>(match yg P (sizeOf elem) with
    |none=>none
    |some n=>cond (decide (0<=i)&&decide (i<len)) (some (.pointer (some ⟨b,off+i.toNat*n,none⟩))) none)
   |some (.array len elem),.pointer (some ⟨b,off,some 0⟩)=>(match yg P (sizeOf elem) with
    |none=>none
    |some n=>cond (decide (0<=i)&&decide (i<len)) (some (.pointer (some ⟨b,off+i.toNat*n,some 0⟩))) none)
   |some (.slice elem),.slice (some ⟨b,off,none⟩) len _=>(match yg P (sizeOf elem) with
    |none=>none
    |some n=>cond (decide (0<=i)&&decide (i<len)) (some (.pointer (some ⟨b,off+i.toNat*n,none⟩))) none)
   |_,_=>none)
 |_=>none
theorem Bl{P:Program}{ρ:xo}{t:TypeId}{x x' ix ix' v:aaa}(he:xR P t x ix=some v)(hx:zH ρ x x')(hi:zH ρ ix ix')(w:World) :
  ∃v',(Instr.indexAt t x' ix').run P w=.ok v' w/\zH ρ v v':=by
 unfold xR at he;split at he
 ·rename_i k i;cases hi;split at he
  ·rename_i hu;cases hx with
   |ptr hb hm=>
    split at he
    ·cases he
    ·rename_i n hn;cases hc:(decide (0<=i)&&decide (i<_)) with
     |false=>rw[hc]at he;cases he
     |true=>
      rw[hc]at he;simp only[aav,aab]at he;subst he;simp only[aad,aaF]at hc;refine⟨_,?_,.ptr hb hm⟩;simp only[Instr.indexAt,Instr.sureAddr,asIntOf,aah,aal,aac,zh hu,zh hn,ach,aai hc,jG,abJ]
  ·rename_i hu;cases hx with
   |Yn=>
    split at he
    ·cases he
    ·rename_i n hn;cases hc:(decide (0<=i)&&decide (i<_)) with
     |false=>rw[hc]at he;cases he
     |true=>
      rw[hc]at he;simp only[aav,aab]at he;subst he;simp only[aad,aaF]at hc;refine⟨_,?_,.Yn⟩;simp only[Instr.indexAt,Instr.sureAddr,asIntOf,aah,aal,aac,zh hu,zh hn,ach,aai hc,jG]
  ·rename_i hu;cases hx with
   |slice hb hm hl hcap=>
    split at he
    ·cases he
    ·rename_i n hn;cases hc:(decide (0<=i)&&decide (i<_)) with
     |false=>rw[hc]at he;cases he
     |true=>
      rw[hc]at he;simp only[aav,aab]at he;subst he;simp only[aad,aaF]at hc;refine⟨_,?_,.ptr hb hm⟩;simp only[Instr.indexAt,asIntOf,aah,aal,aac,zh hu,zh hn,ach,aai hc,jG,abJ]
   |sliceOut hb hc=>
    split at he
    ·cases he
    ·rename_i n hn;rw[show(decide (0<=i)&&decide (i<((0:Nat):Int)))=false by simp]at he;cases he
  ·cases he
 ·cases he
end
noncomputable section
variable {P:Program}
def fl(x:Option aaa):Option aaa :=
 match x with
 |none=>none
 |some v=>cond (flat v) (some v) none
theorem VS{x:Option aaa}{v:aaa}(h:fl x=some v):x=some v/\flat v=true:=by
 unfold fl at h;split at h
 ·cases h
 ·rename_i u;cases hf:flat u with
  |false=>rw[hf]at h;cases h
  |true=>rw[hf]at h;simp only[aav,aab]at h;subst h;exact⟨rfl,hf⟩
def isNil(P:Program)(t:TypeId)(a b:aaa):Option Bool :=
 match yg P (underlying t),a,b with
 |some (.pointer _),.pointer (some _),.pointer none|some (.pointer _),.pointer none,.pointer (some _)=>some false
 |some (.slice _),.slice (some _) _ _,.slice none _ _|some (.slice _),.slice none _ _,.slice (some _) _ _=>some false
 |some (.func _ _ _),.func _ _ _,.nilFunc|some (.func _ _ _),.nilFunc,.func _ _ _=>some false
 |some (.interface _),.iface _ _,.nilIface|some (.interface _),.nilIface,.iface _ _=>some false
 |_,_,_=>none
def zbb(P:Program)(op:BinOp)(t:TypeId)(a b:aaa):Option aaa :=
 match op with
 | .eql=>(isNil P t a b).map .bool
 | .neq=>(isNil P t a b).map λx => .bool (!x)
 |_=>none
theorem VY{ρ:xo}{t:TypeId}{a b a' b':aaa}{r:Bool}(h:isNil P t a b=some r)(ha:zH ρ a a')(hb:zH ρ b b')(w:World) :
  (∀d,(Op.equalIn (d+1) t a' b').run P w=.ok r w)/\(∀op x y,(eqGuard op t x y a' b').run P w=.ok () w)/\(∀op,op=.eql\/op=.neq->binOp op t a' b'=if op=.eql then (do pure (.bool (<- Op.equal t a' b'))) else (do pure (.bool (!(<- Op.equal t a' b'))))):=by
 unfold isNil at h
 split at h <;> first
  |cases h;done
  |(simp only[aab]at h
    subst h;rename_i hu;cases ha <;> cases hb <;>
    (refine⟨λd=>?_,λop x y=>?_,λop yk=>?_⟩
     ·simp[Op.equalIn,zh hu]
     ·cases op <;> simp[eqGuard]
     ·rcases yk with rfl|rfl <;> rfl))
theorem LX{ρ:xo}{t:TypeId}{a b a' b':aaa}{r:Bool}(h:isNil P t a b=some r)(ha:zH ρ a a')(hb:zH ρ b b')(w:World) :
  (binOp .eql t a' b').run P w=.ok (.bool r) w:=by
 obtain⟨h1,_,h3⟩:=VY h ha hb w;rw[h3 .eql (.inl rfl),aai rfl];have h1:(Op.equal t a' b').run P w=.ok r w:=h1 9999;simp only[aah,h1,aac,aal]
theorem LY{ρ:xo}{t:TypeId}{a b a' b':aaa}{r:Bool}(h:isNil P t a b=some r)(ha:zH ρ a a')(hb:zH ρ b b')(w:World) :
  (binOp .neq t a' b').run P w=.ok (.bool (!r)) w:=by
 obtain⟨h1,_,h3⟩:=VY h ha hb w;rw[h3 .neq (.inr rfl),aag (by simp)];have h1:(Op.equal t a' b').run P w=.ok r w:=h1 9999;simp only[aah,h1,aac,aal]
def M8(P:Program)(op:BinOp)(t:TypeId)(x y:Operand)(a b:aaa):Option aaa :=
 cond (flat a&&flat b) (fl (yg P (do eqGuard op t x y a b;binOp op t a b))) (zbb P op t a b)
theorem FD{ρ:xo}{op:BinOp}{t:TypeId}{x y:Operand}{a b a' b' v:aaa}(h:M8 P op t x y a b=some v)(ha:zH ρ a a')(hb:zH ρ b b')(w:World) :
  ∃v',(do eqGuard op t x y a' b';binOp op t a' b':Sem aaa).run P w=.ok v' w/\zH ρ v v':=by
 unfold M8 at h;cases hf:(flat a&&flat b) with
 |true=>
  rw[hf]at h;simp only[aad]at hf;obtain rfl:=kp ha hf.1;obtain rfl:=kp hb hf.2;obtain⟨h1,h2⟩:=VS h;exact⟨v,zh h1 w,.of_flat ρ h2⟩
 |false=>
  rw[hf]at h;simp only[aaB]at h;unfold zbb at h;split at h
  ·simp only[aas]at h;obtain⟨r,hr,rfl⟩:=h;obtain⟨_,h2,_⟩:=VY hr ha hb w;have h3:=LX hr ha hb w;exact⟨.bool r,by simp only[aah,h2,aac,h3],.bool r⟩
  ·simp only[aas]at h;obtain⟨r,hr,rfl⟩:=h;obtain⟨_,h2,_⟩:=VY hr ha hb w;have h4:=LY hr ha hb w;exact⟨.bool (!r),by simp only[aah,h2,aac,h4],.bool (!r)⟩
  ·cases h
def l6(ρ:xo)(ps ps':List (Nat×aaa)):Prop:=wG ρ (ps.map (·.2)) (ps'.map (·.2))/\ps.map (·.1)=ps'.map (·.1)
theorem Mq{ρ:xo}{xs ys:List aaa}(h:wG ρ xs ys)(i:Nat){x y:aaa}(hv:zH ρ x y):wG ρ (xs.set i x) (ys.set i y):=by
 refine⟨by simp[h.1],λj a b ha hb=>?_⟩;by_cases e:i=j
 ·subst e;rcases aaL i xs.length with hi|hi
  ·rw[abX hi]at ha;rw[abX (h.1 ▸ hi)]at hb;cases ha;cases hb;exact hv
  ·rw[aat (by simpa using hi)]at ha;cases ha
 ·rw[ab5 e]at ha hb;exact h.2 j a b ha hb
theorem ph{ρ:xo}(off:Nat):∀(l l':List (aaa×Nat)) (c c':Array aaa),wG ρ (l.map (·.1)) (l'.map (·.1))->l.map (·.2)=l'.map (·.2)->wG ρ c.toList c'.toList ->
  wG ρ (l.foldl (λcs x=>cs.setIfInBounds (off+x.2) x.1) c).toList (l'.foldl (λcs x=>cs.setIfInBounds (off+x.2) x.1) c').toList
 |[],l',c,c',hl,hn,hc=>by
  cases l' with
  |nil=>exact hc
  |cons x l'=>simp at hn
 |x::l,l',c,c',hl,hn,hc=>by
  cases l' with
  |nil=>simp at hn
  |cons y l'=>
   simp only[abp,aa6]at hl hn;obtain⟨y',ys',e,hv,hr⟩:=hl.cons_inv;simp only[aa6]at e;obtain⟨e1,e2⟩:=e;subst e1 e2;simp only[acm];refine ph off l l' _ _ hr hn.2 ?_;rw[Array.toList_setIfInBounds,Array.toList_setIfInBounds,hn.1];exact Mq hc _ hv
theorem eK{ρ:xo}{place:Nat->Option (Nat×Nat)}:∀(ps ps':List (Nat×aaa)) (c c':Array aaa) (r:Array aaa),l6 ρ ps ps'->wG ρ c.toList c'.toList->Instr.fill place c ps=some r ->
  ∃r',Instr.fill place c' ps'=some r'/\wG ρ r.toList r'.toList
 |[],ps',c,c',r,hp,hc,he=>by
  have:ps'=[]:=by have:=hp.2;simp at this;cases ps' <;> simp_all
  subst this;simp only[Instr.fill,aab]at he;subst he;exact⟨c',rfl,hc⟩
 |(i,v)::ps,ps',c,c',r,hp,hc,he=>by
  cases ps' with
  |nil=>have:=hp.2;simp at this
  |cons p ps'=>
   obtain⟨i',v'⟩:=p;obtain⟨h1,h2⟩:=hp;simp only[abp,aa6]at h1 h2;obtain⟨rfl,h2⟩:=h2;obtain⟨y,ys,e,hv,hr⟩:=h1.cons_inv;simp only[aa6]at e;obtain⟨e1,e2⟩:=e;subst e1 e2;simp only[Instr.fill]at he ⊢;cases hpl:place i with
   |none=>rw[hpl]at he;cases he
   |some x=>
    obtain⟨off,size⟩:=x;rw[hpl]at he;simp only at he ⊢;have hcells:=hv.cells;have e1:v'.cells.size=v.cells.size:=by simpa using hcells.1.symm
    have e2:c'.size=c.size:=(by simpa using hc.1.symm);split at he
    ·cases he
    ·rename_i hcond;rw[aag (by rw[e1,e2];exact hcond)];refine eK ps ps' _ _ r ⟨hr,h2⟩ ?_ he;rw[<- Array.foldl_toList,<- Array.foldl_toList];refine ph off _ _ c c' ?_ ?_ hc
     ·simp only[Array.toList_zipIdx];have q:∀(l:List aaa) k,(l.zipIdx k).map (·.1)=l:=λl k=>by simp
      rw[q,q];exact hcells
     ·simp only[Array.toList_zipIdx];have q:∀(l:List aaa) k,(l.zipIdx k).map (·.2)=List.range' k l.length:=λl k=>by simp
      rw[q,q,hcells.1]
def W5(s:Env):List (Nat×Operand)->Option (List (Nat×aaa))
 |[]=>some []
 |(i,x)::ps=>match kG s x with
  |none=>none
  |some v=>match W5 s ps with
   |none=>none
   |some vs=>some ((i,v)::vs)
theorem QF{ρ:xo}{s:Env}{a:Act}(hs:vG ρ s a.tmps):∀{ps:List (Nat×Operand)} {vs:List (Nat×aaa)},W5 s ps=some vs->l6 ρ vs (ps.map λx=>(x.1,a.eval x.2))
 |[],vs,h=>by simp only[W5,aab]at h;subst h;exact⟨.nil ρ,rfl⟩
 |(i,x)::ps,vs,h=>by
  simp only[W5]at h;split at h
  ·cases h
  ·rename_i v hv;split at h
   ·cases h
   ·rename_i vs' hvs;simp only[aab]at h;subst h;have:=QF hs hvs;exact⟨.cons (zY hs hv) this.1,by simp[this.2]⟩
def YT(P:Program)(t:TypeId):Option aaa:=fl (yg P (zeroValue t))
theorem Zg{ρ:xo}{t:TypeId}{z:aaa}(h:YT P t=some z)(w:World):(zeroValue t).run P w=.ok z w/\zH ρ z z:=by
 obtain⟨h1,h2⟩:=VS h;exact⟨zh h1 w,.of_flat ρ h2⟩
def PX(P:Program)(fields:Array Field):Option (Array (Nat×Nat)):=yg P (fields.mapM λf=>do pure (f.offset,<- sizeOf f.type))
def zM(P:Program)(t:TypeId)(parts:List (Nat×aaa)):Option aaa :=
 match YT P t with
 |none=>none
 |some z=>match yg P (underlying t) with
  |some (.struct fields)=>(match PX P fields with
   |none=>none
   |some BW=>(Instr.fill (BW[·]?) z.cells parts).map .agg)
  |some (.array _ elem)=>(match yg P (sizeOf elem) with
   |none=>none
   |some n=>(Instr.fill (λi=>some (i*n,n)) z.cells parts).map .agg)
  |_=>none
theorem A8{ρ:xo}{t:TypeId}{parts parts':List (Nat×aaa)}{v:aaa}(h:zM P t parts=some v)(hp:l6 ρ parts parts')(w:World) :
  ∃v',(Instr.build t parts'.toArray).run P w=.ok v' w/\zH ρ v v':=by
 unfold zM at h;split at h
 ·cases h
 ·rename_i z hz;obtain⟨e0,hz⟩:=Zg (ρ:=ρ) hz w;split at h
  ·rename_i fields hu;split at h
   ·cases h
   ·rename_i BW hpl;simp only[aas]at h;obtain⟨r,hr,rfl⟩:=h;obtain⟨r',hr',hv⟩:=eK _ _ _ _ _ hp hz.cells hr;refine⟨.agg r',?_,.agg (by simpa using hv.1) (λi x y hx hy=>hv.2 i x y (by simpa using hx) (by simpa using hy))⟩;simp only[Instr.build,aah,e0,aac,zh hu,zh hpl,hr',aal]
  ·rename_i n elem hu;split at h
   ·cases h
   ·rename_i n hn;simp only[aas]at h;obtain⟨r,hr,rfl⟩:=h;obtain⟨r',hr',hv⟩:=eK _ _ _ _ _ hp hz.cells hr;refine⟨.agg r',?_,.agg (by simpa using hv.1) (λi x y hx hy=>hv.2 i x y (by simpa using hx) (by simpa using hy))⟩;simp only[Instr.build,aah,e0,aac,zh hu,zh hn,hr',aal]
  ·cases h
def r9(h:za)(c:List aaa)(t:TypeId):aaa×za:=(.pointer (some ⟨h.next,0,none⟩),h.push (.cells c t))
theorem eY{ρ:xo}{h:za}{w:World}(hr:Rel P ρ h w){v v':aaa}(hv:zH ρ v v')(t:TypeId) :
  ∃a' w' ρ',(newVar t v').run P w=.ok a' w'/\Step P ρ h w ρ' (r9 h v.cells.toList t).2 w'/\zH ρ' (r9 h v.cells.toList t).1 (.pointer (some a')):=by
 have hc:=hv.cells
 obtain⟨e,st⟩:=cQ (t:=t) hr (c:=v.cells.toList) (cs:=v'.cells) (by rw[hc.1,abg];exact aaj _) (λi x hx=>by
  obtain⟨y,hy,hxy⟩:=hc.get hx;exact⟨y,by simpa using hy,hxy⟩)
 exact⟨_,_,_,e,st,.new hr _ rfl⟩
def YK(z:List aaa)(n:Nat):List aaa:=(List.range n).map λi=>(z[i%z.length]?).getD default
theorem AN(z:Array aaa)(n:Nat):((Array.range n).map λi=>z[i%z.size]!)=(YK z.toList n).toArray:=by
 apply abY;simp only[Array.toList_map,Array.toList_range,YK];apply List.map_congr_left;intro i _;simp[getElem!_def];cases z[i%z.size]? <;> rfl
theorem rH{ρ:xo}{z:aaa}(h:zH ρ z z)(hd:z.cells.size≠0)(n:Nat):wG ρ (YK z.cells.toList n) (YK z.cells.toList n):=by
 refine⟨rfl,λi x y hx hy=>?_⟩;rw[hx]at hy;cases hy;simp only[YK,aaA,aas]at hx;obtain⟨k,_,hk⟩:=hx;have hlt:k%z.cells.toList.length<z.cells.toList.length:=Nat.mod_lt _ (by simp;omega);rw[aaf hlt]at hk;simp only[abQ]at hk;have:=h.cells.2 _ _ _ (aaf hlt) (aaf hlt);rw[hk]at this;exact this
def YS(P:Program)(t:TypeId)(len cap:aaa)(h:za):Option (aaa×za) :=
 match len,cap,yg P (underlying t) with
 | .int _ l,.int _ c,some (.slice elem)=>(match yg P (typeInfo elem) with
   |none=>none
   |some i=>(match YT P elem with
    |none=>none
    |some z=>cond (decide (IntKind.i64.wrap l=l)&&decide (IntKind.i64.wrap c=c)&&decide (0<=l)&&decide (l<=c)&&decide (i.bytes*c<=2^48)&&Nat.beq z.cells.size i.size&&Nat.blt 0 i.size)
      (some (.slice (some ⟨h.next,0,none⟩) l.toNat (c.toNat+2),h.push (.cells (YK z.cells.toList (c.toNat*i.size)) elem))) none))
 |_,_,_=>none
theorem kT{t:TypeId}{i:TypeInfo}(h:yg P (typeInfo t)=some i):P.cellsOf t=i.size /\ ∀w,(sizeOf t).run P w=.ok i.size w:=by
 have h0:=h
 constructor
 ·simp only[typeInfo,program,Sem.bind,bind,yg]at h;cases hp:P.info? t with
  |none=>rw[hp]at h;cases h
  |some j=>rw[hp]at h;simp only[pure,yg,aab]at h;subst h;simp[Program.cellsOf,hp]
 ·intro w;simp only[sizeOf,aah,zh h0,aac,aal]
theorem DH{ρ:xo}{t:TypeId}{l l' c c' v:aaa}{h h':za}{w:World}(he:YS P t l c h=some (v,h'))(hr:Rel P ρ h w)(hl:zH ρ l l')(hc:zH ρ c c') :
  ∃v' w' ρ',(Instr.makeSlice t l' c').run P w=.ok v' w'/\Step P ρ h w ρ' h' w'/\zH ρ' v v':=by
 unfold YS at he;split at he
 ·rename_i kl l kc c elem hu;cases hl;cases hc;split at he
  ·cases he
  ·rename_i i hi;split at he
   ·cases he
   ·rename_i z hz;cases hcond:(decide (IntKind.i64.wrap l=l)&&decide (IntKind.i64.wrap c=c)&&decide (0<=l)&&decide (l<=c)&&decide (i.bytes*c<=2^48)&&Nat.beq z.cells.size i.size&&Nat.blt 0 i.size) with
    |false=>rw[hcond]at he;cases he
    |true=>
     rw[hcond]at he;simp only[aav,aab,aae]at he;obtain⟨rfl,rfl⟩:=he;simp only[aad,aaF]at hcond;obtain⟨⟨⟨⟨⟨⟨w1,w2⟩,p1⟩,p2⟩,p3⟩,zs⟩,sp⟩:=hcond;have zs:=aak zs;have sp:0<i.size:=by simpa [aaM] using sp
     obtain⟨e0,hz'⟩:=Zg (ρ:=ρ) hz w;obtain⟨sz1,sz2⟩:=kT hi
     obtain⟨e,st⟩:=cQ (t:=elem) hr (c:=YK z.cells.toList (c.toNat*i.size)) (cs:=(Array.range (c.toNat*i.size)).map λk=>z.cells[k%z.cells.size]!)
      (by simp[YK]) (λk x hx=>by
       rw[AN];obtain⟨y,hy,hxy⟩:=(rH hz' (by omega) (c.toNat*i.size)).get hx;exact⟨y,by simpa using hy,hxy⟩)
     refine⟨.slice (some ⟨w.heap.size,0,none⟩) l.toNat c.toNat,_,_,?_,st,?_⟩
     ·have b1:¬((i.bytes:Int)*c>2^48):=(by omega);have b2:¬(c<0):=(by omega);have b3:¬(l<0):=(by omega);have b4:¬(l>c):=(by omega);simp only[Instr.makeSlice,asInt,asIntOf,aah,aal,aac,zh hu,zh hi,w1,w2];rw[aag (by simp[b2,b3,b4];omega)];simp only[aah,run_askRoom,aac,sz2];by_cases hn:c.toNat*i.size=0
      ·rw[aai hn];have e1:((Array.range (c.toNat*i.size)).map λk=>(#[]:Array aaa)[k%(#[]:Array aaa).size]!)=((Array.range (c.toNat*i.size)).map λk=>z.cells[k%z.cells.size]!):=by rw[hn];simp
       simp only[aah,aal,aac];rw[e1,e];simp only[aac]
      ·rw[aag hn];simp only[aah,e0,aal,aac,e]
     ·refine zH.slice (ρ:=ρ.ext _) (b:=h.next) (off:=0) (pl:=⟨w.heap.size,0,_,_⟩) (by show h.next<ρ.next+1;rw[hr.next];exact aaZ _) (by rw[<- hr.next];exact ρ.ko _) (by omega) ?_;intro _;refine⟨by simp[sz1],λk hk=>by omega⟩
 ·cases he
end
noncomputable section
variable {P:Program}
def Uc:Nat->Nat->Nat
 |0,_=>0
 |1,_=>1
 |k+2,l=>(k-l)+2
def uB(x:Option aaa)(d:Nat)(most:Nat):Option Nat :=
 match x with
 |none=>some d
 |some (.int _ i)=>cond (decide (0<=i)&&decide (i<=most)) (some i.toNat) none
 |some _=>none
def wide(P:Program)(h:za)(b n:Nat):Bool :=
 match h.get b with
 |some (.cells _ t)=>Nat.beq (P.cellsOf t) n
 |_=>false
def gD(P:Program)(t:TypeId)(x:aaa)(lo hi:Option aaa)(h:za):Option aaa :=
 match yg P (underlying t),x with
 |some (.slice elem),.slice base len c=>(match yg P (sizeOf elem) with
  |none=>none
  |some n=>(match uB hi len len with
   |none=>none
   |some hh=>(match uB lo 0 hh with
    |none=>none
    |some l=>(match base with
     |none=>cond (Nat.beq len 0) (some (.slice none 0 0)) none
     |some ⟨b,off,none⟩=>some (.slice (some ⟨b,off+l*n,none⟩) (hh-l) (cond (wide P h b n) (Uc c l) 0))
     |some _=>none))))
 |some (.array k elem),.pointer (some ⟨b,off,none⟩)=>(match yg P (sizeOf elem) with
  |none=>none
  |some n=>(match uB hi k k with
   |none=>none
   |some hh=>(match uB lo 0 hh with
    |none=>none
    |some l=>some (.slice (some ⟨b,off+(if k=l then 0 else l*n),none⟩) (hh-l) 0))))
 |_,_=>none
theorem J5{x:Option aaa}{d most r:Nat}(h:uB x d most=some r)(hd:d<=most):r<=most:=by
 unfold uB at h;split at h
 ·simp only[aab]at h;omega
 ·rename_i k i;cases hc:(decide (0<=i)&&decide (i<=(most:Int))) with
  |false=>rw[hc]at h;cases h
  |true=>
   rw[hc]at h;simp only[aav,aab]at h;simp only[aad,aaF]at hc;omega
 ·cases h
theorem ot{ρ:xo}{x x':Option aaa}{d most r:Nat}(h:uB x d most=some r)(hx:∀v,x=some v->∃v',x'=some v'/\zH ρ v v')(hn:x=none->x'=none){y:Nat}(hy:most<=y)(code:BoundsCode)(w:World) :
  (match x' with|some v=>Instr.sliceBound v y code|none=>(pure d:Sem Nat)).run P w=.ok r w:=by
 unfold uB at h;split at h
 ·rw[hn rfl];simp only[aab]at h;subst h;rfl
 ·rename_i k i;obtain⟨v',rfl,hv⟩:=hx _ rfl;cases hv;cases hc:(decide (0<=i)&&decide (i<=(most:Int))) with
  |false=>rw[hc]at h;cases h
  |true=>
   rw[hc]at h;simp only[aav,aab]at h;simp only[aad,aaF]at hc;subst h;simp only[Instr.sliceBound,asIntOf,aah,aal,aac,ach];rw[aai (by omega)]
 ·cases h
def IV(ρ:xo)(x x':Option aaa):Prop:=(∀v,x=some v->∃v',x'=some v'/\zH ρ v v')/\(x=none->x'=none)
theorem QI{ρ:xo}{lo lo' hi hi':Option aaa}{len cap hh l:Nat}(hhi:uB hi len len=some hh)(hlo:uB lo 0 hh=some l)(rl:IV ρ lo lo')(rh:IV ρ hi hi')(hl:len<=cap)(b:Bool)(w:World) :
  (Instr.sliceBounds b len cap lo' hi' none).run P w=.ok (l,hh,cap) w:=by
 have h1:=ot (P:=P) hhi rh.1 rh.2 hl (if b then .sliceAcap else .sliceAlen) w;have h2:=ot (P:=P) hlo rl.1 rl.2 (aaj hh) (.sliceB) w;unfold Instr.sliceBounds;cases hi' with
 |none=>
  have e1:len=hh:=by simpa using h1
  subst e1;cases lo' with
  |none=>have e2:0=l:=by simpa using h2
         subst e2;rfl
  |some v=>
   simp only at h2;simp only[aah,aal,aac,Option.isSome_none,aa9,ab1,h2]
 |some u=>
  simp only at h1;cases lo' with
  |none=>have e2:0=l:=by simpa using h2
         subst e2;simp only[aah,aal,aac,h1]
  |some v=>
   simp only at h2;simp only[aah,aal,aac,Option.isSome_none,aa9,ab1,h1,h2]
theorem Br{ρ:xo}{t:TypeId}{x x' v:aaa}{lo lo' hi hi':Option aaa}{h:za}{w:World}(he:gD P t x lo hi h=some v)(hr:Rel P ρ h w)(hx:zH ρ x x')(rl:IV ρ lo lo')(rh:IV ρ hi hi') :
  ∃v',(Instr.sliceAt t x' lo' hi' none).run P w=.ok v' w/\zH ρ v v':=by
 unfold gD at he;split at he
 ·rename_i elem base len c hu;split at he
  ·cases he
  ·rename_i n hn;split at he
   ·cases he
   ·rename_i hh hhi;split at he
    ·cases he
    ·rename_i l hlo;have h1:=J5 hhi (aaj _);have h2:=J5 hlo (aaN _);cases hx with
     |sliceNil=>
      simp only[ab0,aav,aab]at he;subst he;have:hh=0:=by omega
      subst this;have:l=0:=by omega
      subst this;refine⟨.slice none 0 0,?_,.sliceNil 0⟩;have hb:=QI (P:=P) hhi hlo rl rh (aaj 0) true w;simp only[Instr.sliceAt,Instr.slice,aah,zh hu,aac,hb,zh hn,aal,abS,Nat.sub_self]
     |slice hb hm hl hc=>
      rename_i b off cap pl;simp only[aab]at he;subst he;have hbd:=QI (P:=P) hhi hlo rl rh hl true w
      have hrun:(Instr.sliceAt t (.slice (some ⟨pl.c,pl.base+off,none⟩) len cap) lo' hi' none).run P w=.ok (.slice (if cap=l then some ⟨pl.c,pl.base+off,none⟩ else some ⟨pl.c,pl.base+off+l*n,none⟩) (hh-l) (cap-l)) w:=by
       simp only[Instr.sliceAt,Instr.slice,aah,zh hu,aac,hbd,zh hn,aal,abN,jG]
      by_cases hcl:cap=l
      ·refine⟨_,hrun,?_⟩;rw[aai hcl];have e1:hh-l=0:=by omega
       have e2:cap-l=0:=(by omega);rw[e1,e2];refine .sliceOut hb ?_;cases hw:wide P h b n with
       |false=>exact aaN _
       |true=>
        simp only[aav];unfold Uc;split
        ·omega
        ·omega
        ·rename_i k;have:=(hc (by omega)).2 k rfl;omega
      ·refine⟨_,hrun,?_⟩;rw[aag hcl,abJ];refine .slice hb hm (by omega) ?_;cases hw:wide P h b n with
       |false=>intro hne;exact absurd rfl hne
       |true=>
        simp only[aav];intro hne;have hc0:c≠0:=by intro e;subst e;exact hne rfl
        obtain⟨c1,c2⟩:=hc hc0;unfold wide at hw;split at hw
        ·rename_i cs tb hg;have hw:=aak hw;obtain⟨cs',fz,_,_,hesz,_⟩:=hr.place hg hm;rw[hesz.1,hw]at c1 ⊢;refine⟨?_,?_⟩
         ·have:l*n+(cap-l)*n=cap*n:=(by rw[<- acn];congr 1;omega);omega
         ·intro k hk;unfold Uc at hk;split at hk
          ·omega
          ·omega
          ·have:=c2 _ rfl;omega
        ·cases hw
     |sliceOut hb hc=>
      rename_i b off a;simp only[aab]at he;subst he;have:hh=0:=by omega
      subst this;have:l=0:=by omega
      subst this;refine⟨.slice (some a) 0 0,?_,.sliceOut hb ?_⟩
      ·have hbd:=QI (P:=P) hhi hlo rl rh (aaj 0) true w;simp only[Instr.sliceAt,Instr.slice,aah,zh hu,aac,hbd,zh hn,aal,abS,Nat.sub_self]
      ·cases wide P h b n with
       |false=>exact aaN _
       |true=>simp only[aav];unfold Uc;split <;> omega
 ·rename_i k elem b off hu;cases hx with
  |ptr hb hm=>
   rename_i pl;split at he
   ·cases he
   ·rename_i n hn;split at he
    ·cases he
    ·rename_i hh hhi;split at he
     ·cases he
     ·rename_i l hlo;simp only[aab]at he;subst he;have h1:=J5 hhi (aaj _);have h2:=J5 hlo (aaN _);have hbd:=QI (P:=P) hhi hlo rl rh (aaj k) false w;refine⟨_,by simp only[Instr.sliceAt,Instr.sureAddr,aah,zh hu,aal,aac,hbd,zh hn];rfl,?_⟩
      have:(if k=l then (Addr.mk pl.c (pl.base+off) none) else (Addr.mk pl.c (pl.base+off) none).add (l*n))=⟨pl.c,pl.base+(off+(if k=l then 0 else l*n)),none⟩:=by
       split
       ·rfl
       ·rw[jG,abJ]
      rw[this];exact .slice hb hm (by omega) (λhne=>absurd rfl hne)
 ·cases he
def oB(P:Program)(t:TypeId)(x:aaa):Option aaa :=
 match yg P (underlying t),x with
 |some (.slice _),.slice _ n _=>some (goInt n)
 |some .string,.string s=>some (goInt s.size)
 |some (.array n _),_=>some (goInt n)
 |_,_=>none
theorem FH{ρ:xo}{t:TypeId}{x x' v:aaa}(he:oB P t x=some v)(hx:zH ρ x x')(r:TypeId)(w:World):(Builtin.len_ #[t] r #[x']).run P w=.ok v w/\zH ρ v v:=by
 unfold oB at he;split at he
 ·rename_i hu;simp only[aab]at he;subst he;refine⟨?_,.int _ _⟩;cases hx <;> simp[Builtin.len_,zh hu]
 ·rename_i hu;simp only[aab]at he;subst he;refine⟨?_,.int _ _⟩;cases hx;simp[Builtin.len_,zh hu]
 ·rename_i hu;simp only[aab]at he;subst he;refine⟨?_,.int _ _⟩;simp[Builtin.len_,zh hu]
 ·cases he
end
noncomputable section
variable {P:Program}
def qP(h:za)(n size:Nat):aaa->Option (List aaa)
 | .slice (some ⟨b,off,none⟩) _ _=>cond (Nat.beq (n*size) 0) (some []) (match h.get b with
   |some (.cells c _)=>cond (Nat.ble (off+n*size) c.length) (some ((c.drop off).take (n*size))) none
   |_=>none)
 | .slice none _ _=>some []
 | .string s=>some ((s.extract 0 n).data.toList.map λb => .int .u8 b.toNat)
 |_=>none
def KZ:aaa->Option Nat
 | .slice _ n _=>some n
 | .string s=>some s.size
 |_=>none
theorem iT{ρ:xo}{x x':aaa}{n:Nat}(h:KZ x=some n)(hx:zH ρ x x')(w:World):(Builtin.lenOf x').run P w=.ok n w:=by
 cases hx with
 |pW _=>cases h
 |_=>simp only[KZ,aab,reduceCtorEq]at h <;> subst h <;> rfl
theorem QL{ρ:xo}{h:za}{w:World}{n size:Nat}{x x':aaa}{c:List aaa}(he:qP h n size x=some c)(hr:Rel P ρ h w)(hx:zH ρ x x')(hn:∀b l cap,x=.slice b l cap->n<=l) :
  ∃c':List aaa,(Builtin.firstCells size n x').run P w=.ok c'.toArray w/\wG ρ c c':=by
 have hzero:n*size=0->∀a:Addr,(loadCells a (n*size)).run P w=.ok ([]:List aaa).toArray w:=by
  intro e a;rw[e];rfl
 cases hx with
 |sliceNil c0=>
  simp only[qP,aab]at he;subst he;exact⟨[],rfl,.nil ρ⟩
 |slice hb hm hl hc=>
  rename_i b off len c0 cap pl;simp only[qP]at he;cases hz:Nat.beq (n*size) 0 with
  |true=>
   rw[hz]at he;simp only[aav,aab]at he;subst he;exact⟨[],by simp only[Builtin.firstCells];exact hzero (aak hz) _,.nil ρ⟩
  |false=>
   rw[hz]at he;simp only[aaB]at he;split at he
   ·rename_i cs t hg;cases hle:Nat.ble (off+n*size) cs.length with
    |false=>rw[hle]at he;cases he
    |true=>
     rw[hle]at he;simp only[aav,aab]at he;subst he;obtain⟨ys,hys,hv⟩:=kS (hr.place hg hm) off (n*size) (aaE hle);exact⟨ys,by simpa only[Builtin.firstCells] using hys,hv⟩
   ·cases he
 |sliceOut hb hc=>
  rename_i b off c0 a;have:=hn _ _ _ rfl
  have hz:n*size=0:=by have:n=0:=by omega
                       subst this;simp
  simp only[qP,hz,ab0,aav,aab]at he;subst he;exact⟨[],by simp only[Builtin.firstCells];exact hzero hz _,.nil ρ⟩
 |string s=>
  simp only[qP,aab]at he;subst he;refine⟨_,?_,⟨rfl,λi x y hx hy=>?_⟩⟩
  ·simp only[Builtin.firstCells,aal]
   congr 1
   apply abY;simp
  ·rw[hx]at hy;cases hy;simp only[aaA,aas]at hx;obtain⟨b,_,rfl⟩:=hx;exact .int _ _
 |_=>cases he
def gU:TypeDesc->Bool
 | .int _=>true
 |_=>false
theorem Ah(need:Nat)(hn:255<=need):∀(r c:Nat),c<=2*need->Builtin.growBy need r c<=2*need
 |0,c,h=>h
 |r+1,c,h=>by
  unfold Builtin.growBy;split
  ·exact h
  ·exact Ah need hn r _ (by omega)
theorem Gx(need cap:Nat)(h:cap<need):Builtin.nextslicecap need cap<=2*need:=by
 unfold Builtin.nextslicecap;split
 ·omega
 ·split
  ·omega
  ·exact Ah need (by omega) 4 cap (by omega)
theorem eZ(need:Nat)(h:0<need):Builtin.nextslicecap need 0=need:=by
 unfold Builtin.nextslicecap;rw[aai (by omega)]
theorem run_append_grow{ρ:xo}{h:za}{w:World}(hr:Rel P ρ h w){sT xT elem:TypeId}{r:TypeId}{xd:TypeDesc}{i:TypeInfo}{z:aaa}{base:Option Addr}{len cap n:Nat}{x':aaa}{old old' new new':List aaa}
  (h1:yg P (underlying sT)=some (.slice elem)) (h2:yg P (underlying xT)=some xd) (h3:gU xd=false) (hi:yg P (typeInfo elem)=some i) (hz:YT P elem=some z)
  (hb:0<i.bytes) (hzs:z.cells.size=i.size)
  (hlen:∀w,(Builtin.lenOf x').run P w=.ok n w) (hgrow:cap<len+n) (hlim:Builtin.nextslicecap (len+n) cap*i.bytes<=2^48)
  (hold:(Builtin.firstCells i.size len (.slice base len cap)).run P {w with drawn:=w.drawn+1} = .ok old'.toArray {w with drawn:=w.drawn+1}) (hnew:(Builtin.firstCells i.size n x').run P {w with drawn:=w.drawn+1} = .ok new'.toArray {w with drawn:=w.drawn+1})
  (vold:wG ρ old old') (vnew:wG ρ new new') (hol:old.length=len*i.size) (hnl:new.length=n*i.size) :
  ∃cap' w' pl,(Builtin.append_ #[sT,xT] r #[.slice base len cap,x']).run P w=.ok (.slice (some ⟨w.heap.size,0,none⟩) (len+n) cap') w'/\len+n<=cap'/\pl.c=w.heap.size/\pl.base=0/\pl.H6=i.size/\cap' * i.size<=pl.size /\
   Step P ρ h w (ρ.ext pl) (h.push (.cells (old++new) elem)) w':=by
 obtain⟨sz1,sz2⟩:=kT hi;obtain⟨z1,_⟩:=Zg (ρ:=ρ) hz w;have z1:∀w,(zeroValue elem).run P w=.ok z w:=λw=>(Zg (ρ:=ρ) hz w).1
 let q:Question := .appendCap (len+n) cap elem
 let newCap:=q.cut (w.tape w.drawn q)
 let w1:World:={w with drawn:=w.drawn+1}
 have hge:len+n<=newCap:=by show len+n<=(len+n)+_%_;omega
 let cs:Array aaa:=old'.toArray++new'.toArray++Builtin.zeroCells z.cells (newCap-(len+n))
 have hr1:Rel P ρ h w1:=hr.grow (λk _=>rfl)
 have hcs:cs.size=newCap*i.size:=by
  simp only[cs,Builtin.zeroCells,Array.size_append,List.size_toArray,Array.size_map,Array.size_range,<- vold.1,<- vnew.1,hol,hnl,hzs];rw[<- acn,<- acn];congr 1;omega
 have st:=Step.push (t:=elem) hr1 (c:=old++new) (cs:=cs) (fz:=(0,0)) (w':={w1 with heap:=w1.heap.push (.cells cs elem)}) rfl (λi _ hi=>by simp at hi)
  (by simp only[cs,Array.size_append,aar,List.size_toArray,vold.1,vnew.1];omega)
  (λk x hx=>by
   obtain⟨y,hy,hxy⟩:=(vold.append vnew).get hx;refine⟨y,?_,hxy⟩
   have hlt:k<(old'++new').length:=by
    rcases aaL k (old'++new').length with h|h
    ·exact h
    ·rw[aat h]at hy;cases hy
   have:cs=(old'++new').toArray++Builtin.zeroCells z.cells (newCap-(len+n)):=by
    have e:old'.toArray++new'.toArray=(old'++new').toArray:=(by simp);simp only[cs];rw[e]
   rw[this,Array.getElem?_append_left (by simpa using hlt)];simpa using hy) rfl rfl rfl
 refine⟨newCap,_,⟨w.heap.size,0,cs.size,P.cellsOf elem⟩,?_,hge,rfl,rfl,sz1,by rw[hcs];exact aaj _,⟨st.le,st.rel,st.ro,st.os,st.tape,st.output,st.size,st.frame,st.l9⟩⟩;have e1:¬(len+n<=cap):=by omega
 simp only[Builtin.append_];simp only[abt,aay,aaT,aah,zh h1,aac,sz2,zh h2,aal];rw[aag (by cases xd <;> first|exact ab2|cases h3)];simp only[aah,hlen,aac];rw[aag e1];simp only[aah,zh hi,aac]
 rw[aag (by
  rintro⟨_,h|h⟩
  ·revert h;cases xd <;> first|exact ab2|cases h3
  ·omega)]
 simp only[aah,zh hi,aac];rw[aag (by omega)];have hq:(choose (.appendCap (len+n) cap elem)).run P w=.ok newCap w1:=by rw[run_choose];rfl
 simp only[aah,hq,aac,zh hi,run_askRoom];rw[show w1 = {w with drawn:=w.drawn+1} from rfl,hold];simp only[aac];rw[aai (by cases xd <;> first|rfl|cases h3)];rw[hnew];simp only[aac,z1,aal];rfl
theorem sk{ρ:xo}{h:za}{w:World}(hr:Rel P ρ h w){sT xT elem:TypeId}{r:TypeId}{xd:TypeDesc}{i:TypeInfo}{b off len cap n:Nat}{cs:List aaa}{pl:Place}{x':aaa}{new new':List aaa}
  (h1:yg P (underlying sT)=some (.slice elem)) (h2:yg P (underlying xT)=some xd) (h3:gU xd=false) (hi:yg P (typeInfo elem)=some i)
  (hlen:∀w,(Builtin.lenOf x').run P w=.ok n w) (hfits:len+n<=cap) (hg:h.get b=some (.cells cs elem)) (hm:ρ.m b=some pl) (hro:h.ro<=b)
  (hnew:(Builtin.firstCells i.size n x').run P w=.ok new'.toArray w) (vnew:wG ρ new new') (hnl:new.length=n*i.size) (hcell:∀x∈new,xj x=true)
  (hroom:pl.base+off+cap*i.size<=pl.size) (hhave:off+len*i.size<=cs.length) (hoff:off%i.size=0) :
  ∃w',(Builtin.append_ #[sT,xT] r #[.slice (some ⟨pl.c,pl.base+off,none⟩) len cap,x']).run P w=.ok (.slice (some ⟨pl.c,pl.base+off,none⟩) (len+n) cap) w' /\
   Step P ρ h w (ρ.ext ⟨pl.c,pl.base+off,pl.size,pl.H6⟩) ((h.set b none).push (.cells (((cs.drop off).take (len*i.size))++new) elem)) w':=by
 obtain⟨sz1,sz2⟩:=kT hi;obtain⟨cs',fz,g1,g2,g3,g4,g5,g6⟩:=hr.place hg hm
 have key:∀(vs vs':List aaa) (w0:World) (cc:Array aaa) (j:Nat),w0.heap[pl.c]? = some (.cells cc elem fz)->cc.size=pl.size->pl.base+off+len*i.size+j+vs.length<=pl.size->wG ρ vs vs'->(∀x∈vs,xj x=true) ->
   ∃w',(storeCells ⟨pl.c,pl.base+off+len*i.size,none⟩ vs' j).run P w0=.ok () w'/\(∃dd:Array aaa,w'.heap[pl.c]? = some (.cells dd elem fz)/\dd.size=cc.size /\
    (∀k,(k<pl.base+off+len*i.size+j)->dd[k]? = cc[k]?)/\(∀k y,vs'[k]? = some y->dd[pl.base+off+len*i.size+j+k]? = some y)) /\
    (∀k,k≠pl.c->w'.heap[k]? = w0.heap[k]?)/\w'.os=w0.os/\w'.tape=w0.tape/\w'.output=w0.output/\w'.heap.size=w0.heap.size:=by
  intro vs
  induction vs with
  |nil=>
   intro vs' w0 cc j hb hsz _ hv _;cases hv.uG;exact⟨w0,rfl,⟨cc,hb,rfl,λ_ _=>rfl,λk y hy=>by simp at hy⟩,λ_ _=>rfl,rfl,rfl,rfl,rfl⟩
  |cons v vs ih=>
   intro vs' w0 cc j hb hsz hle hv hco;obtain⟨v',vs'',rfl,hv1,hv2⟩:=hv.cons_inv;simp only[aa3]at hle
   let p:=pl.base+off+len*i.size+j
   have hp:p<pl.size:=by show pl.base+off+len*i.size+j<pl.size;omega
   have hone:v'.oneCell'=true:=by have:=oP hv1;rw[hco v (by simp)]at this;cases v' <;> simp_all [xj,Value.oneCell']
   have hcell0:w0.cell? ⟨pl.c,p,none⟩=some cc[p]!:=by
    simp only[World.cell?,hb];simp[getElem!_def,aaI (show p<cc.size by omega)]
   have hfr:w0.frozen? ⟨pl.c,p,none⟩=false:=by
    have:=g5 (by simpa using hro) p hp;obtain⟨lo,hi'⟩:=fz;simp[World.frozen?,hb]at this ⊢;exact this
   have e1:(store ⟨pl.c,p,none⟩ v').run P w0=.ok () (w0.setCell ⟨pl.c,p,none⟩ v'):=by
    rw[run_store _ _ _ _ _ hone,hcell0];simp[hfr]
   have hb1:(w0.setCell ⟨pl.c,p,none⟩ v').heap[pl.c]? = some (.cells (cc.setIfInBounds p v') elem fz):=by simp[World.setCell,Array.getElem?_modify,hb]
   obtain⟨w',e2,⟨dd,d1,d2,d3,d4⟩,d5,d6,d7,d8,d9⟩:=ih vs'' _ (cc.setIfInBounds p v') (j+1) hb1 (by simpa using hsz) (by omega) hv2 (λx hx=>hco x (by simp[hx]));refine⟨w',?_,⟨dd,d1,by simpa using d2,λk hk=>?_,λk y hy=>?_⟩,λk hk=>(d5 k hk).trans (Kl _ _ _ _ hk),d6,d7,d8,d9.trans (size_setCell _ _ _)⟩
   ·simp only[storeCells,jG,aah];rw[show(⟨pl.c,pl.base+off+len*i.size+j,none⟩:Addr)=⟨pl.c,p,none⟩ from rfl,e1];exact e2
   ·rw[d3 k (by omega),aa2,aag (by show p≠k;omega)]
   ·cases k with
    |zero=>
     simp only[aay,aab]at hy;subst hy;rw[Nat.add_zero,d3 _ (by omega),aa2,aai rfl,aai (by omega)]
    |succ k=>
     have:=d4 k y (by simpa using hy);rw[show pl.base+off+len*i.size+j+(k+1)=pl.base+off+len*i.size+(j+1)+k by omega];exact this
 have hfit:pl.base+off+len*i.size+0+new.length<=pl.size:=by
  have:len*i.size+n*i.size<=cap*i.size:=by rw[<- acn];exact abx _ hfits
  omega
 obtain⟨w',e,⟨dd,d1,d2,d3,d4⟩,d5,d6,d7,d8,d9⟩:=key new new' w cs' 0 g1 g2 hfit vnew hcell;refine⟨w',?_,?_⟩
 ·simp only[Builtin.append_];simp only[abt,aay,aaT,aah,zh h1,aac,sz2,zh h2,aal];rw[aag (by cases xd <;> first|exact ab2|cases h3)];simp only[aah,hlen,aac];rw[aai hfits];rw[aai (by cases xd <;> first|rfl|cases h3)];simp only[aah,hnew,aac,jG,e,aal]
 ·have hr0:=hr.drop b;have hle:=ρ.gV ⟨pl.c,pl.base+off,pl.size,pl.H6⟩
  have hr1:Rel P ρ (h.set b none) w':=⟨hr0.next,hr0.ro,hr0.Ko,λx ox hx=>by
    obtain⟨p,hp,hc⟩:=hr0.ok x ox hx;refine⟨p,hp,hc.other (d5 _ ?_)⟩;intro ec;rw[za.yy]at hx;split at hx
    ·cases hx
    ·rename_i ne;exact ne (hr.inj x b _ _ p pl hx hg hp hm ec),hr0.inj,hr0.lh,hr0.Yn⟩
  refine⟨hle,hr1.push ⟨dd,fz,d1,d2.trans g2,⟨g3.1,by
   show(pl.base+off)%pl.H6=0;rw[Nat.add_mod,g3.2,g3.1,sz1,hoff];simp⟩,?_,λ_=>g5 (by simpa using hro),?_⟩ ?_,rfl,d6,d7,d8,by omega,λk hk hn=>d5 k (λec=>hn ⟨b,_,pl,hg,hro,hm,ec.symm⟩),?_⟩
  ·simp only[aar,aaQ,abh,hnl]at hfit ⊢;have:len*i.size+n*i.size<=cap*i.size:=by rw[<- acn];exact abx _ hfits
   show pl.base+off+(min (len*i.size) (cs.length-off)+n*i.size)<=dd.size;omega
  ·intro k x hx;rcases aaL k (len*i.size) with hk|hk
   ·have hk':k<((cs.drop off).take (len*i.size)).length:=(by simp only[aaQ,abh];omega);rw[abk hk',aa0 hk,aaS]at hx;obtain⟨y,hy,hxy⟩:=g6 _ _ hx;exact⟨y,by rw[show(pl.base+off:Nat)+k=pl.base+(off+k) by omega,d3 _ (by omega)];exact hy,hxy.mono hle⟩
   ·have hl0:((cs.drop off).take (len*i.size)).length=len*i.size:=(by simp only[aaQ,abh];omega);rw[abj (by omega),hl0]at hx;obtain⟨y,hy,hxy⟩:=vnew.get hx;refine⟨y,?_,hxy.mono hle⟩;have:=d4 _ _ hy;rw[show(pl.base+off:Nat)+k=pl.base+off+len*i.size+0+(k-len*i.size) by omega];exact this
  ·intro x o p hx hp ec;rw[za.yy]at hx;split at hx
   ·cases hx
   ·rename_i ne;exact ne (hr.inj x b _ _ p pl hx hg hp hm ec)
  ·rintro k hk ⟨x,o,p,hx,hrx,hp,hpc⟩;rw[za.vT]at hx;split at hx
   ·rename_i ex;subst ex;rw[show(h.set b none).next=ρ.next from hr.next.symm,xo.ko]at hp;cases hp;exact⟨b,_,pl,hg,hro,hm,hpc⟩
   ·have hlt:=hr0.Ko x o hx;have hp':ρ.m x=some p:=by rw[<- hp];exact(hle.2 x (by rw[hr0.next];exact hlt)).symm
    rw[za.yy]at hx;split at hx
    ·cases hx
    ·exact⟨x,o,p,hx,hrx,hp',hpc⟩
end
noncomputable section
variable {P:Program}
def uF(c need:Nat):Nat :=
 match c with
 |k+2=>cond (Nat.ble need k) (k+2) 1
 |_=>1
theorem Vb{c need k:Nat}(h:uF c need=k+2):c=k+2/\need<=k:=by
 unfold uF at h;split at h
 ·rename_i q;cases hq:Nat.ble need q with
  |true=>rw[hq]at h;simp only[aav]at h;exact⟨h,by have:=aaE hq;omega⟩
  |false=>rw[hq]at h;simp only[aaB]at h;omega
 ·omega
def roomFor(c need bytes:Nat):Bool:=Nat.ble (need*bytes) (cond (Nat.beq c 2) (2^48) (2^47))
def UA(h:za)(elem:TypeId)(i:TypeInfo)(n:Nat)(new:List aaa)(s:aaa):Option (aaa×za) :=
 match s with
 | .slice none 0 0=>cond (Nat.beq n 0) (some (.slice none 0 0,h)) (cond (Nat.ble (n*i.bytes) (2^48)) (some (.slice (some ⟨h.next,0,none⟩) n 1,h.push (.cells new elem))) none)
 | .slice (some ⟨b,off,none⟩) len c=>cond (Nat.beq n 0) (some (s,h)) (match h.get b with
   |some (.cells cs t)=>cond (!(Nat.beq c 0)&&Nat.beq t elem&&Nat.ble h.ro b&&Nat.ble (off+len*i.size) cs.length&&(roomFor c (len+n) i.bytes&&Nat.beq (off%i.size) 0))
     (some (.slice (some ⟨h.next,0,none⟩) (len+n) (uF c (len+n)),(h.set b none).push (.cells (((cs.drop off).take (len*i.size))++new) elem))) none
   |_=>none)
 |_=>none
def VN(P:Program)(sT xT:TypeId)(s x:aaa)(h:za):Option (aaa×za) :=
 match yg P (underlying sT),yg P (underlying xT),KZ x with
 |some (.slice elem),some xd,some n=>(match yg P (typeInfo elem),YT P elem with
  |some i,some z=>(match qP h n i.size x with
   |some new=>cond (!(gU xd)&&Nat.blt 0 i.bytes&&Nat.beq z.cells.size i.size&&new.all xj&&Nat.beq new.length (n*i.size)) (UA h elem i n new s) none
   |none=>none)
  |_,_=>none)
 |_,_,_=>none
theorem Step.GA{ρ:xo}{h:za}{w:World}(hr:Rel P ρ h w)(b:Nat):Step P ρ h w ρ (h.set b none) w :=
 ⟨xo.le_refl _,hr.drop b,rfl,rfl,rfl,rfl,aaj _,λ_ _ _=>rfl,λc _ hm=>by
  obtain⟨x,o,pl,hx,h1,h2,h3⟩:=hm;rw[za.yy]at hx;split at hx
  ·cases hx
  ·exact⟨x,o,pl,hx,h1,h2,h3⟩⟩
theorem Wf{sT xT elem:TypeId}{r:TypeId}{xd:TypeDesc}{i:TypeInfo}{len cap:Nat}{base:Option Addr}{x':aaa}{w:World}
  (h1:yg P (underlying sT)=some (.slice elem)) (h2:yg P (underlying xT)=some xd) (h3:gU xd=false) (hi:yg P (typeInfo elem)=some i)
  (hlen:∀w,(Builtin.lenOf x').run P w=.ok 0 w) (hl:len<=cap) (hnew:(Builtin.firstCells i.size 0 x').run P w=.ok ([]:List aaa).toArray w) :
  (Builtin.append_ #[sT,xT] r #[.slice base len cap,x']).run P w=.ok (.slice base len cap) w:=by
 obtain⟨sz1,sz2⟩:=kT hi;simp only[Builtin.append_];simp only[abt,aay,aaT,aah,zh h1,aac,sz2,zh h2,aal];rw[aag (by cases xd <;> first|exact ab2|cases h3)];simp only[aah,hlen,aac];rw[aai (by omega)];rw[aai (by cases xd <;> first|rfl|cases h3)];simp only[aah,hnew,aac,Nat.add_zero];cases base with
 |none=>simp only[aal]
 |some a=>simp only[storeCells,aal,aac,aah]
set_option maxHeartbeats 1000000 in
theorem rN{ρ:xo}{sT xT r:TypeId}{s s' x x' v:aaa}{h h':za}{w:World}(he:VN P sT xT s x h=some (v,h'))(hr:Rel P ρ h w)(hs:zH ρ s s')(hx:zH ρ x x') :
  ∃v' w' ρ',(Builtin.append_ #[sT,xT] r #[s',x']).run P w=.ok v' w'/\Step P ρ h w ρ' h' w'/\zH ρ' v v':=by
 unfold VN at he;split at he
 case h_2=>cases he
 rename_i elem xd n h1 h2 hn;split at he
 case h_2=>cases he
 rename_i i z hi hz;split at he
 case h_2=>cases he
 rename_i new hnew;cases hc:(!(gU xd)&&Nat.blt 0 i.bytes&&Nat.beq z.cells.size i.size&&new.all xj&&Nat.beq new.length (n*i.size)) with
 |false=>rw[hc]at he;cases he
 |true=>
  rw[hc]at he;simp only[aav]at he;simp only[aad,aan,aaD]at hc;obtain⟨⟨⟨⟨h3,hb⟩,hzs⟩,hco⟩,hnl⟩:=hc;have hb:0<i.bytes:=by simpa [aaM] using hb
  have hzs:=aak hzs;have hnl:=aak hnl;have hlen:∀w,(Builtin.lenOf x').run P w=.ok n w:=λw=>iT hn hx w;have hnx:∀b l cap,x=.slice b l cap->n<=l:=by intro b l cap e;subst e;simp only[KZ,aab]at hn;omega
  obtain⟨new',hnew',vnew⟩:=QL hnew hr hx hnx
  have hnil:n=0->(Builtin.firstCells i.size 0 x').run P w=.ok ([]:List aaa).toArray w:=by
   intro e;subst e;have:new'=[]:=by have:=vnew.1;rw[hnl,acy]at this;exact abu this.symm
   rw[this]at hnew';exact hnew'
  have hr1:Rel P ρ h {w with drawn:=w.drawn+1}:=hr.grow (λk _=>rfl);obtain⟨new1,hnew1,vnew1⟩:=QL (w:={w with drawn:=w.drawn+1}) hnew hr1 hx hnx;unfold UA at he;split at he
  ·
   cases hs;cases hz0:Nat.beq n 0 with
   |true=>
    obtain rfl:=aak hz0;rw[hz0]at he;simp only[aav,aab,aae]at he;obtain⟨rfl,rfl⟩:=he;exact⟨_,w,ρ,Wf h1 h2 h3 hi hlen (aaj 0) (hnil rfl),.refl hr,.sliceNil 0⟩
   |false=>
    rw[hz0]at he
    have hn0:0<n:=by rcases ab3 n with e|e; · subst e;simp at hz0
                     ·exact e
    cases hlim:Nat.ble (n*i.bytes) (2^48) with
    |false=>rw[hlim]at he;cases he
    |true=>
     rw[hlim]at he;simp only[aav,aaB,aab,aae]at he;obtain⟨rfl,rfl⟩:=he;have hlim:=aaE hlim
     obtain⟨cap',w',pl,e1,e2,e3,e4,e5,e6,st⟩:=run_append_grow (r:=r) (base:=none) (len:=0) (cap:=0) (old:=[]) (old':=[]) hr h1 h2 h3 hi hz hb hzs hlen (by omega)
      (by rw[eZ _ (by omega)];simpa using hlim) (by simp[Builtin.firstCells]) hnew1 (.nil ρ) vnew1 (by simp) hnl
     rw[abz]at e1 e2;refine⟨_,w',_,e1,st,?_⟩
     have:=zH.slice (ρ:=ρ.ext pl) (b:=h.next) (off:=0) (len:=n) (c:=1) (cap:=cap') (pl:=pl) (by show h.next<ρ.next+1;rw[hr.next];exact aaZ _) (by rw[<- hr.next];exact ρ.ko _) e2
      (λ_=>⟨by rw[e4,e5];simpa using e6,λk hk=>by omega⟩)
     rw[e3,e4]at this;exact this
  ·rename_i b off len c;cases hz0:Nat.beq n 0 with
   |true=>
    obtain rfl:=aak hz0;rw[hz0]at he;simp only[aav,aab,aae]at he;obtain⟨rfl,rfl⟩:=he;cases hs with
    |slice hb' hm' hl' hc'=>exact⟨_,w,ρ,Wf h1 h2 h3 hi hlen hl' (hnil rfl),.refl hr,.slice hb' hm' hl' hc'⟩
    |sliceOut hb' hc'=>exact⟨_,w,ρ,Wf h1 h2 h3 hi hlen (aaj 0) (hnil rfl),.refl hr,.sliceOut hb' hc'⟩
   |false=>
    rw[hz0]at he
    have hn0:0<n:=by rcases ab3 n with e|e; · subst e;simp at hz0
                     ·exact e
    simp only[aaB]at he;split at he
    case h_2=>cases he
    rename_i cs t hg;cases hcc:(!(Nat.beq c 0)&&Nat.beq t elem&&Nat.ble h.ro b&&Nat.ble (off+len*i.size) cs.length&&(roomFor c (len+n) i.bytes&&Nat.beq (off%i.size) 0)) with
    |false=>rw[hcc]at he;cases he
    |true=>
     rw[hcc]at he;simp only[aav,aab,aae]at he;obtain⟨rfl,rfl⟩:=he;simp only[aad,aan]at hcc;obtain⟨⟨⟨⟨k1,k2⟩,k3⟩,k4⟩,k5,k6⟩:=hcc;have k1:c≠0:=by intro e;subst e;simp at k1
     obtain rfl:=aak k2;have k3:=aaE k3;have k4:=aaE k4
     have hlim:∀cap,cap<len+n->(c=2->cap=0)->Builtin.nextslicecap (len+n) cap*i.bytes<=2^48:=by
      intro cap hcap h2c;unfold roomFor at k5;by_cases e2:c=2
      ·subst e2;rw[h2c rfl,eZ _ (by omega)];simp only[ab0,aav]at k5;exact aaE k5
      ·rw[show Nat.beq c 2=false from Tr.beq_false e2]at k5;simp only[aaB]at k5;have k5:=aaE k5;have:=Gx (len+n) cap hcap
       calc Builtin.nextslicecap (len+n) cap*i.bytes<=(2*(len+n))*i.bytes:=abx _ this
        _=2*((len+n)*i.bytes):=Nat.mul_assoc _ _ _
        _<=2*2^47:=Nat.mul_le_mul_left _ k5
        _=2^48:=by decide
     have hdropr:=hr.drop b;cases hs with
     |slice hb' hm' hl' hc'=>
      rename_i cap pl;obtain⟨c1,c2⟩:=hc' k1;obtain⟨sz1,_⟩:=kT hi;have hpl:=hr.place hg hm';have hesz:pl.H6=i.size:=by obtain⟨_,_,_,_,q,_⟩:=hpl;rw[q.1,sz1]
      by_cases hfit:len+n<=cap
      ·obtain⟨w',e1,st⟩:=sk (r:=r) hr h1 h2 h3 hi hlen hfit hg hm' k3 hnew' vnew hnl hco (by rw[<- hesz];exact c1) k4 (aak k6);refine⟨_,w',_,e1,st,?_⟩
       have:=zH.slice (ρ:=ρ.ext ⟨pl.c,pl.base+off,pl.size,pl.H6⟩) (b:=h.next) (off:=0) (len:=len+n) (c:=uF c (len+n)) (cap:=cap) (pl:=⟨pl.c,pl.base+off,pl.size,pl.H6⟩)
        (by show h.next<ρ.next+1;rw[hr.next];exact aaZ _) (by rw[<- hr.next];exact ρ.ko _) hfit
        (λ_=>⟨by simpa using c1,λk hk=>c2 k (Vb hk).1⟩)
       simpa using this
      ·have hfull:(c=2->cap=0):=λe=>c2 0 (by omega);obtain⟨old',hold',vold⟩:=kS (hr1.place hg hm') off (len*i.size) k4
       obtain⟨cap',w',pl',e1,e2,e3,e4,e5,e6,st⟩:=run_append_grow (r:=r) (base:=some ⟨pl.c,pl.base+off,none⟩) (len:=len) (cap:=cap) hdropr h1 h2 h3 hi hz hb hzs hlen (by omega)
        (hlim cap (by omega) hfull) (by simpa only[Builtin.firstCells] using hold') hnew1 vold vnew1 (by simp only[aaQ,abh];omega) hnl
       refine⟨_,w',_,e1,(Step.GA hr b).trans st,?_⟩
       have:=zH.slice (ρ:=ρ.ext pl') (b:=h.next) (off:=0) (len:=len+n) (c:=uF c (len+n)) (cap:=cap') (pl:=pl') (by show h.next<ρ.next+1;rw[hr.next];exact aaZ _) (by rw[<- hr.next];exact ρ.ko _) e2
        (λ_=>⟨by rw[e4,e5];simpa using e6,λk hk=>by
         have q:=Vb hk;have:=c2 k q.1;omega⟩)
       rw[e3,e4]at this;exact this
     |sliceOut hb' hc'=>
      obtain⟨cap',w',pl',e1,e2,e3,e4,e5,e6,st⟩:=run_append_grow (r:=r) (base:=some _) (len:=0) (cap:=0) (old:=(cs.drop off).take (0*i.size)) (old':=[]) hdropr h1 h2 h3 hi hz hb hzs hlen (by omega)
       (hlim 0 (by omega) (λ_=>rfl)) (by simp only[Builtin.firstCells,acy];rfl) hnew1 (by simp[wG]) vnew1 (by simp) hnl
      refine⟨_,w',_,e1,(Step.GA hr b).trans st,?_⟩
      have:=zH.slice (ρ:=ρ.ext pl') (b:=h.next) (off:=0) (len:=0+n) (c:=uF c (0+n)) (cap:=cap') (pl:=pl') (by show h.next<ρ.next+1;rw[hr.next];exact aaZ _) (by rw[<- hr.next];exact ρ.ko _) e2
       (λ_=>⟨by rw[e4,e5];simpa using e6,λk hk=>by
        have q:=Vb hk;omega⟩)
      rw[e3,e4]at this;exact this
  ·cases he
end
noncomputable section
variable {P:Program}
def J7(h:za)(b off:Nat)(new:List aaa):Option za :=
 cond (Nat.beq new.length 0) (some h) (match h.get b with
  |some (.cells cs t)=>cond (Nat.ble h.ro b&&Nat.ble (off+new.length) cs.length&&new.all xj) (some (h.set b (some (.cells (zu cs off new) t)))) none
  |_=>none)
theorem rU{ρ:xo}{h h':za}{w:World}{b off:Nat}{pl:Place}{new new':List aaa}(he:J7 h b off new=some h')(hr:Rel P ρ h w)(hm:ρ.m b=some pl)(hv:wG ρ new new') :
  ∃w',(storeCells ⟨pl.c,pl.base+off,none⟩ new').run P w=.ok () w'/\Step P ρ h w ρ h' w':=by
 unfold J7 at he;cases hz:Nat.beq new.length 0 with
 |true=>
  rw[hz]at he;simp only[aav,aab]at he;subst he;have:new=[]:=abu (aak hz);subst this;cases hv.uG;exact⟨w,rfl,.refl hr⟩
 |false=>
  rw[hz]at he;simp only[aaB]at he;split at he
  case h_2=>cases he
  rename_i cs t hg;cases hc:(Nat.ble h.ro b&&Nat.ble (off+new.length) cs.length&&new.all xj) with
  |false=>rw[hc]at he;cases he
  |true=>
   rw[hc]at he;simp only[aav,aab]at he;subst he;simp only[aad,aaD]at hc;exact Jt (o:=off) hm new new' h w cs 0 hr hg (aaE hc.1.1) (by have:=aaE hc.1.2;omega) hv hc.2
def DA(P:Program)(dT:TypeId)(d x:aaa)(h:za):Option (aaa×za) :=
 match yg P (underlying dT),d,KZ x with
 |some (.slice elem),.slice base dl _,some m=>(match yg P (typeInfo elem) with
  |none=>none
  |some i=>(match qP h (Nat.min m dl) i.size x with
   |none=>none
   |some new=>(match base with
    |none=>some (goInt (Nat.min m dl),h)
    |some ⟨b,off,none⟩=>(J7 h b off new).map λh'=>(goInt (Nat.min m dl),h')
    |some _=>none)))
 |_,_,_=>none
theorem DB{ρ:xo}{dT r:TypeId}{ts:Array TypeId}{d d' x x' v:aaa}{h h':za}{w:World}(he:DA P dT d x h=some (v,h'))(hr:Rel P ρ h w)(hd:zH ρ d d')(hx:zH ρ x x')(hts:ts[0]? = some dT) :
  ∃v' w',(Builtin.copy_ ts r #[d',x']).run P w=.ok v' w'/\Step P ρ h w ρ h' w'/\zH ρ v v':=by
 unfold DA at he;split at he
 case h_2=>cases he
 rename_i elem base dl c m hu hm;split at he
 case h_1=>cases he
 rename_i i hi;obtain⟨sz1,sz2⟩:=kT hi;split at he
 case h_1=>cases he
 rename_i new hnew;have hlen:=λw=>iT (P:=P) hm hx w;obtain⟨new',hnew',vnew⟩:=QL hnew hr hx (by intro b l cap e;subst e;simp only[KZ,aab]at hm;subst hm;exact Nat.min_le_left _ _);cases hd with
 |sliceNil=>
  simp only[aab,aae]at he;obtain⟨rfl,rfl⟩:=he;refine⟨goInt (Nat.min m 0),w,?_,.refl hr,.int _ _⟩;simp only[Builtin.copy_,hts];simp only[abt,aay,aaT,aah,zh hu,aac,hlen,sz2,hnew',aal]
 |slice hb hmm hl hc=>
  simp only[aas,aae]at he;obtain⟨h2,hsp,rfl,rfl⟩:=he;obtain⟨w',e,st⟩:=rU hsp hr hmm vnew;refine⟨_,w',?_,st,.int _ _⟩;simp only[Builtin.copy_,hts];simp only[abt,aay,aaT,aah,zh hu,aac,hlen,sz2,hnew',e,aal];rfl
 |sliceOut hb hc=>
  simp only[aas,aae]at he;obtain⟨h2,hsp,rfl,rfl⟩:=he;have hmin:Nat.min m 0=0:=Nat.min_zero m
  have hnil:new=[]:=by
   rw[hmin]at hnew;cases hx with
   |sliceNil=>simp only[qP,aab]at hnew;exact hnew.symm
   |slice=>simp only[qP,acy,ab0,aav,aab]at hnew;exact hnew.symm
   |sliceOut=>simp only[qP,acy,ab0,aav,aab]at hnew;exact hnew.symm
   |string=>simp only[qP,aab]at hnew;rw[<- hnew];simp
   |_=>cases hm
  subst hnil;cases vnew.uG;simp only[J7,abr,ab0,aav,aab]at hsp;subst hsp;refine⟨goInt (Nat.min m 0),w,?_,.refl hr,.int _ _⟩;simp only[Builtin.copy_,hts];simp only[abt,aay,aaT,aah,zh hu,aac,hlen,sz2,hnew',aal,storeCells]
def ow(P:Program)(t:TypeId)(x:aaa)(h:za):Option za:=none
theorem A9{ρ:xo}{t r:TypeId}{x x':aaa}{h h':za}{w:World}(he:ow P t x h=some h')(hr:Rel P ρ h w)(hx:zH ρ x x') :
  ∃w',(Builtin.clear_ #[t] r #[x']).run P w=.ok undef w'/\Step P ρ h w ρ h' w':=by
 unfold ow at he;cases he
def bytesOf:List aaa->ByteArray->Option ByteArray
 |[],s=>some s
 | .int .u8 n::l,s=>bytesOf l (s.push (UInt8.ofNat n.toNat))
 |_::_,_=>none
def M7(h:za)(x:aaa):Option aaa :=
 match x with
 | .slice none _ _=>some (.string .empty)
 | .slice (some ⟨b,off,none⟩) n _=>cond (Nat.beq n 0) (some (.string .empty)) (match h.get b with
   |some (.cells c _)=>cond (Nat.ble (off+n) c.length) ((bytesOf ((c.drop off).take n) .empty).map .string) none
   |_=>none)
 |_=>none
theorem i4{ρ:xo}:∀(l l':List aaa) (s r:ByteArray),bytesOf l s=some r->wG ρ l l'->∀w:World,
  (forIn l' s λc s=>(match c with
   | .int .u8 n=>pure (ForInStep.yield (s.push (UInt8.ofNat n.toNat)))
   |_=>(do stuck "bytesToString: byte expected";pure (ForInStep.yield s)):Sem (ForInStep ByteArray))).run P w=.ok r w
 |[],l',s,r,h,hv,w=>by
  cases hv.uG;simp only[bytesOf,aab]at h;subst h;rfl
 |x::l,l',s,r,h,hv,w=>by
  obtain⟨y,ys,rfl,h1,h2⟩:=hv.cons_inv;unfold bytesOf at h;split at h
  ·rename_i e;cases e
  ·rename_i e;simp only[aa6]at e;obtain⟨rfl,rfl⟩:=e;cases h1;rw[List.forIn_cons];simp only[aah,aal,aac];exact i4 _ _ _ _ h h2 w
  ·cases h
theorem FC{ρ:xo}{h:za}{w:World}{x x' v:aaa}(he:M7 h x=some v)(hr:Rel P ρ h w)(hx:zH ρ x x'):(Conv.bytesToString x').run P w=.ok v w/\zH ρ v v:=by
 unfold M7 at he;split at he
 ·simp only[aab]at he;subst he;cases hx;exact⟨rfl,.string _⟩
 ·rename_i b off n c;cases hz:Nat.beq n 0 with
  |true=>
   rw[hz]at he;obtain rfl:=aak hz;simp only[aav,aab]at he;subst he;refine⟨?_,.string _⟩;cases hx <;> (simp only[Conv.bytesToString,loadCells,loadCellsFrom,aah,aal,aac];rw[<- Array.forIn_toList];rfl)
  |false=>
   rw[hz]at he;simp only[aaB]at he;split at he
   case h_2=>cases he
   rename_i cs t hg;cases hle:Nat.ble (off+n) cs.length with
   |false=>rw[hle]at he;cases he
   |true=>
    rw[hle]at he;simp only[aav,aas]at he;obtain⟨r,hb,rfl⟩:=he;refine⟨?_,.string _⟩;cases hx with
    |slice hb' hm hl hc=>
     obtain⟨ys,hys,hv⟩:=kS (hr.place hg hm) off n (aaE hle);simp only[Conv.bytesToString,aah,hys,aac];rw[<- Array.forIn_toList];have:=i4 (P:=P) _ _ _ _ hb hv w;rw[show ys.toArray.toList=ys from rfl];exact(congrArg (λq:Result ByteArray=>q.andThen λa w'=>Sem.run P (pure (Value.string a)) w') this)
    |sliceOut=>simp at hz
 ·cases he
end
noncomputable section
variable {P:Program}
theorem Kj{α:Type}{b:Bool}{x:Option α}{y:α}(h:cond b x none=some y):b=true/\x=some y:=by
 cases b
 ·cases h
 ·exact⟨rfl,h⟩
abbrev Km:=aaa×aaa×Nat
def HD(k:aaa):MapEntry:={key:=k,val:=undef,born:=0}
def DD(P:Program)(kt:TypeId)(k:aaa)(es:List Km):Option (Option Nat) :=
 cond (flat k&&es.all λe=>flat e.1) (match yg P (Instr.findKey kt k (es.map λe=>HD e.1)) with
  |some (some (i,_))=>some (some i)
  |some none=>some none
  |none=>none) none
def Yo(ρ:xo)(es:List Km)(ms:List MapEntry):Prop:=es.length=ms.length /\ ∀(i:Nat) x m,es[i]? = some x->ms[i]? = some m->zH ρ x.1 m.key/\zH ρ x.2.1 m.val/\m.born=x.2.2
theorem Yo.tail{ρ:xo}{x:Km}{es:List Km}{m:MapEntry}{ms:List MapEntry}(h:Yo ρ (x::es) (m::ms)):(zH ρ x.1 m.key/\zH ρ x.2.1 m.val/\m.born=x.2.2)/\Yo ρ es ms :=
 ⟨h.2 0 x m rfl rfl,by simpa using h.1,λi a b ha hb=>h.2 (i+1) a b (by simpa using ha) (by simpa using hb)⟩
theorem Yo.nil{ρ:xo}:Yo ρ [] []:=⟨rfl,λi x m hx=>by simp at hx⟩
theorem Yo.uG{ρ:xo}{ms:List MapEntry}(h:Yo ρ [] ms):ms=[]:=abu (by have:=h.1;simpa using this.symm)
theorem Yo.cons_inv{ρ:xo}{x:Km}{es:List Km}{ms:List MapEntry}(h:Yo ρ (x::es) ms):∃m ms',ms=m::ms'/\(zH ρ x.1 m.key/\zH ρ x.2.1 m.val/\m.born=x.2.2)/\Yo ρ es ms':=by
 cases ms with
 |nil=>have:=h.1;simp at this
 |cons m ms=>exact⟨m,ms,rfl,h.tail⟩
theorem Yo.keys{ρ:xo}:∀{es:List Km} {ms:List MapEntry},Yo ρ es ms->(es.all λe=>flat e.1)=true->ms.map (·.key)=(es.map λe=>HD e.1).map (·.key)
 |[],ms,h,_=>by rw[h.uG];rfl
 |x::es,ms,h,hf=>by
  obtain⟨m,ms',rfl,h1,h2⟩:=h.cons_inv;simp only[ab8,aad]at hf;simp only[abp];rw[kp h1.1 hf.1,Yo.keys h2 hf.2];rfl
theorem eN{kind:TypeDesc}{k:aaa}:∀{ms ns:List MapEntry} {i:Nat} {r:Option (Nat×aaa)},ms.map (·.key)=ns.map (·.key)->Instr.findNow kind k ns i=some r ->
  ∃r',Instr.findNow kind k ms i=some r'/\r'.map (·.1)=r.map (·.1)
 |[],[],i,r,_,h=>by simp only[Instr.findNow,aab]at h;subst h;exact⟨none,rfl,rfl⟩
 |[],_::_,i,r,e,h=>by simp at e
 |_::_,[],i,r,e,h=>by simp at e
 |m::ms,n::ns,i,r,e,h=>by
  simp only[abp,aa6]at e;simp only[Instr.findNow]at h ⊢;rw[e.1];split at h
  ·rename_i hs;simp only[aab]at h;subst h;exact⟨_,rfl,rfl⟩
  ·rename_i hs;obtain⟨r',h1,h2⟩:=eN e.2 h;exact⟨r',h1,h2⟩
  ·cases h
theorem eO{kind:TypeDesc}{k:aaa}:∀{ms ns:List MapEntry} {i:Nat},ms.map (·.key)=ns.map (·.key)->Instr.findNow kind k ns i=none->Instr.findNow kind k ms i=none
 |[],[],i,_,h=>h
 |[],_::_,i,e,h=>by simp at e
 |_::_,[],i,e,h=>by simp at e
 |m::ms,n::ns,i,e,h=>by
  simp only[abp,aa6]at e;simp only[Instr.findNow]at h ⊢;rw[e.1];split at h
  ·cases h
  ·exact eO e.2 h
  ·rfl
theorem AI{α β:Type}{x:Sem α}{f:α->Sem β}{r:β}(h:yg P (x >>= f)=some r):∃a,yg P x=some a/\yg P (f a)=some r:=by
 induction x with
 |pure a=>exact⟨a,rfl,h⟩
 |program k ih=>exact ih P h
 |_=>cases h
theorem Kk{kt:TypeId}{k:aaa}:∀{ms ns:List MapEntry} {i:Nat} {r:Option (Nat×aaa)},ms.map (·.key)=ns.map (·.key)->yg P (Instr.findAsking kt k ns i)=some r ->
  ∃r',(∀w,(Instr.findAsking kt k ms i).run P w=.ok r' w)/\r'.map (·.1)=r.map (·.1)
 |[],[],i,r,_,h=>by
  have h:some none=some r:=h;simp only[aab]at h;subst h;exact⟨none,λw=>rfl,rfl⟩
 |[],_::_,i,r,e,h=>by simp at e
 |_::_,[],i,r,e,h=>by simp at e
 |m::ms,n::ns,i,r,e,h=>by
  simp only[abp,aa6]at e;simp only[Instr.findAsking]at h;obtain⟨b,h1,h2⟩:=AI h;rw[<- e.1]at h1;cases b with
  |true=>
   simp only[abS]at h2;have h2:some (some (i,n.val))=some r:=h2;simp only[aab]at h2;subst h2;exact⟨some (i,m.val),λw=>by simp only[Instr.findAsking,aah,zh h1,aac,abS,aal],rfl⟩
  |false=>
   simp only[aa9,ab1]at h2;obtain⟨r',h3,h4⟩:=Kk e.2 h2;exact⟨r',λw=>by simp only[Instr.findAsking,aah,zh h1,aac,aa9,ab1,h3],h4⟩
theorem eM{kt:TypeId}{k:aaa}{ms ns:List MapEntry}{r:Option (Nat×aaa)}(e:ms.map (·.key)=ns.map (·.key))(h:yg P (Instr.findKey kt k ns)=some r) :
  ∃r',(∀w,(Instr.findKey kt k ms).run P w=.ok r' w)/\r'.map (·.1)=r.map (·.1):=by
 simp only[Instr.findKey]at h;obtain⟨kind,h1,h2⟩:=AI h;split at h2
 ·rename_i r0 hn;have h2:some r0=some r:=h2;simp only[aab]at h2;subst h2;obtain⟨r',h3,h4⟩:=eN e hn;exact⟨r',λw=>by simp only[Instr.findKey,aah,zh h1,aac,h3,aal],h4⟩
 ·rename_i hn;obtain⟨r',h3,h4⟩:=Kk e h2;exact⟨r',λw=>by simp only[Instr.findKey,aah,zh h1,aac,eO e hn,h3],h4⟩
theorem pd{kind:TypeDesc}{k:aaa}:∀{ms:List MapEntry} {i j:Nat} {v:aaa},Instr.findNow kind k ms i=some (some (j,v))->i<=j /\ ∃m,ms[j-i]? = some m/\m.val=v
 |[],i,j,v,h=>by simp[Instr.findNow]at h
 |m::ms,i,j,v,h=>by
  simp only[Instr.findNow]at h;split at h
  ·simp only[aab,aae]at h;obtain⟨rfl,rfl⟩:=h;exact⟨aaj _,m,by simp,rfl⟩
  ·obtain⟨h1,x,h2,h3⟩:=pd h;exact⟨by omega,x,by rw[show j-i=(j-(i+1))+1 by omega,aaT];exact h2,h3⟩
  ·cases h
theorem bg{kt:TypeId}{k:aaa}:∀{ms:List MapEntry} {i j:Nat} {v:aaa} {w w':World},(Instr.findAsking kt k ms i).run P w=.ok (some (j,v)) w'->i<=j /\ ∃m,ms[j-i]? = some m/\m.val=v
 |[],i,j,v,w,w',h=>by simp[Instr.findAsking,aal]at h
 |m::ms,i,j,v,w,w',h=>by
  simp only[Instr.findAsking,aah]at h;cases he:(Op.equal kt k m.key).run P w with
  |halt a b=>rw[he]at h;cases h
  |ok b w1=>
   rw[he]at h;simp only[aac]at h;cases b with
   |true=>
    simp only[abS,aal,Result.ok.injEq,aab,aae]at h;obtain⟨⟨rfl,rfl⟩,_⟩:=h;exact⟨aaj _,m,by simp,rfl⟩
   |false=>
    simp only[aa9,ab1]at h;obtain⟨h1,x,h2,h3⟩:=bg h;exact⟨by omega,x,by rw[show j-i=(j-(i+1))+1 by omega,aaT];exact h2,h3⟩
theorem F5{kt:TypeId}{k:aaa}{ms:List MapEntry}{j:Nat}{v:aaa}{w w':World}(h:(Instr.findKey kt k ms).run P w=.ok (some (j,v)) w'):∃m,ms[j]? = some m/\m.val=v:=by
 simp only[Instr.findKey,aah]at h;cases he:(underlying kt).run P w with
 |halt a b=>rw[he]at h;cases h
 |ok kind w1=>
  rw[he]at h;simp only[aac]at h;split at h
  ·rename_i r hn;simp only[aal,Result.ok.injEq]at h;rw[h.1]at hn;obtain⟨_,x,h2,h3⟩:=pd hn;exact⟨x,by simpa using h2,h3⟩
  ·obtain⟨_,x,h2,h3⟩:=bg h;exact⟨x,by simpa using h2,h3⟩
theorem Yd{ρ:xo}{kt:TypeId}{k k':aaa}{es:List Km}{ms:List MapEntry}{r:Option Nat}(hk:zH ρ k k')(he:Yo ρ es ms)(h:DD P kt k es=some r) :
  k'=k /\ ∃r',(∀w,(Instr.findKey kt k' ms).run P w=.ok r' w)/\(match r with
   |none=>r'=none
   |some i=>∃x m,es[i]? = some x/\ms[i]? = some m/\r'=some (i,m.val)/\zH ρ x.2.1 m.val/\m.born=x.2.2/\m.key=x.1):=by
 unfold DD at h;obtain⟨hf,h⟩:=Kj h;simp only[aad]at hf;obtain rfl:=kp hk hf.1;refine⟨rfl,?_⟩;split at h
 ·rename_i i v hs;simp only[aab]at h;subst h;obtain⟨r',h1,h2⟩:=eM (he.keys hf.2) hs;refine⟨r',h1,?_⟩;cases r' with
  |none=>simp at h2
  |some y=>
   obtain⟨j,u⟩:=y;simp only[abN,aab]at h2;subst h2;obtain⟨m,hm,rfl⟩:=F5 (h1 default)
   have hlt:j<es.length:=by
    rw[he.1];rcases aaL j ms.length with hl|hl
    ·exact hl
    ·rw[aat hl]at hm;cases hm
   have hx:=aaf hlt;obtain⟨q1,q2,q3⟩:=he.2 j _ m hx hm
   have hfx:flat (es[j]).1=true:=by
    have:=hf.2;simp only[aaD]at this;exact this _ (List.getElem_mem hlt)
   exact⟨_,m,hx,hm,rfl,q2,q3,kp q1 hfx⟩
 ·rename_i hs;simp only[aab]at h;subst h;obtain⟨r',h1,h2⟩:=eM (he.keys hf.2) hs;refine⟨r',h1,?_⟩;cases r' with
  |none=>rfl
  |some y=>simp at h2
 ·cases h
theorem Z3{w:World}{l:Nat}{ms:Array MapEntry}{c:Nat}(h:w.heap[l]? = some (.map ms c)):(getObj l).run P w=.ok (.map ms c) w:=by
 simp only[getObj,Sem.run,h]
theorem Q0{w:World}{l:Nat}{ms:Array MapEntry}{c:Nat}(h:w.heap[l]? = some (.map ms c))(o:Obj):(setObj l o).run P w=.ok () {w with heap:=w.heap.setIfInBounds l o}:=by
 simp only[setObj,Sem.run,h]
theorem Rel.map{ρ:xo}{h:za}{w:World}(hr:Rel P ρ h w){b:Nat}{es:List Km}{q:Nat}{pl:Place}(hg:h.get b=some (.map es q))(hm:ρ.m b=some pl) :
  ∃ms,w.heap[pl.c]? = some (.map ms q)/\Yo ρ es ms.toList:=by
 obtain⟨pl',hm',ms,h1,h2,h3⟩:=hr.ok b _ hg;rw[hm]at hm';cases hm';exact⟨ms,h1,by simp[h2],λi x m hx hm=>h3 i x m hx (by simpa using hm)⟩
theorem Yo.size{ρ:xo}{es:List Km}{ms:Array MapEntry}(h:Yo ρ es ms.toList):ms.isEmpty=es.isEmpty:=by
 have:=h.1;cases es with
 |nil=>simp at this;rw[abD this.symm];rfl
 |cons x es=>simp at this;cases hs:ms.isEmpty with
  |false=>rfl
  |true=>simp at hs;subst hs;simp at this
def Am(h:za):aaa->Option (List Km)
 | .map none=>some []
 | .map (some b)=>(match h.get b with
   |some (.map es _)=>some es
   |_=>none)
 |_=>none
def lY(P:Program)(t:TypeId)(x k:aaa)(commaOk:Bool)(h:za):Option aaa :=
 match yg P (underlying t),Am h x with
 |some (.map kt et),some es=>(match yg P (Instr.checkKey es.isEmpty 10000 kt k) with
  |some _=>(match DD P kt k es with
   |some (some i)=>(match es[i]? with
    |some e=>some (cond commaOk (.tuple #[e.2.1,.bool true]) e.2.1)
    |none=>none)
   |some none=>(match YT P et with
    |some z=>some (cond commaOk (.tuple #[z,.bool false]) z)
    |none=>none)
   |none=>none)
  |none=>none)
 |_,_=>none
theorem GV{ρ:xo}{a b a' b':aaa}(h:zH ρ a a')(k:zH ρ b b'):zH ρ (.tuple #[a,b]) (.tuple #[a',b']) :=
 .tuple rfl (λi x y hx hy=>by
  rcases i with _|_|i
  ·simp at hx hy;subst hx hy;exact h
  ·simp at hx hy;subst hx hy;exact k
  ·simp at hx)
theorem rP{ρ:xo}{t:TypeId}{x x' k k' v:aaa}{ok:Bool}{h:za}{w:World}(he:lY P t x k ok h=some v)(hr:Rel P ρ h w)(hx:zH ρ x x')(hk:zH ρ k k') :
  ∃v',(Instr.lookup t x' k' ok).run P w=.ok v' w/\zH ρ v v':=by
 unfold lY at he;split at he
 case h_2=>cases he
 rename_i kt et es ht hes;split at he
 case h_2=>cases he
 rename_i hck
 obtain⟨ms,hx',hrel⟩:∃ms:Array MapEntry,((x'=.map none/\ms = #[]) \/ ∃c q,x'=.map (some c)/\w.heap[c]? = some (.map ms q))/\Yo ρ es ms.toList:=by
  cases hx with
  |mapNil=>simp only[Am,aab]at hes;subst hes;exact⟨#[],.inl ⟨rfl,rfl⟩,.nil⟩
  |map hb hm=>
   simp only[Am]at hes;split at hes
   ·rename_i g;simp only[aab]at hes;subst hes;obtain⟨ms,h1,h2⟩:=hr.map g hm;exact⟨ms,.inr ⟨_,_,rfl,h1⟩,h2⟩
   ·cases hes
  |_=>cases hes
 have hfin:∀{q q':aaa} {b:Bool},zH ρ q q'->(pure (if ok then .tuple #[q',.bool b] else q'):Sem aaa).run P w=.ok (cond ok (.tuple #[q',.bool b]) q') w/\zH ρ (cond ok (.tuple #[q,.bool b]) q) (cond ok (.tuple #[q',.bool b]) q'):=by
  intro q q' b hq;cases ok
  ·exact⟨rfl,hq⟩
  ·exact⟨rfl,GV hq (.bool b)⟩
 rw[<- hrel.size]at hck;split at he
 ·rename_i i hf;obtain⟨rfl,r',hr',x0,m,hx0,hm,rfl,q1,q2,q3⟩:=Yd hk hrel hf;rw[hx0]at he;simp only[aab]at he;subst he;refine⟨_,?_,(hfin (b:=true) q1).2⟩;rcases hx' with⟨rfl,rfl⟩|⟨c,q,rfl,hg⟩
  ·simp at hm
  ·simp only[Instr.lookup,aah,zh ht,aac,Z3 hg,zh hck,hr',aal];exact(hfin (b:=true) q1).1
 ·rename_i hf;split at he
  case h_2=>cases he
  rename_i z hz;simp only[aab]at he;subst he;obtain⟨z1,z2⟩:=Zg (ρ:=ρ) hz w;obtain⟨rfl,r',hr',rfl⟩:=Yd hk hrel hf;refine⟨_,?_,(hfin (b:=false) z2).2⟩;rcases hx' with⟨rfl,rfl⟩|⟨c,q,rfl,hg⟩
  ·simp only[Instr.lookup,aah,zh ht,aac,zh hck,hr',z1,aal];exact(hfin (b:=false) z2).1
  ·simp only[Instr.lookup,aah,zh ht,aac,Z3 hg,zh hck,hr',z1,aal];exact(hfin (b:=false) z2).1
 ·cases he
def tN(P:Program)(t:TypeId)(x:aaa)(h:za):Option aaa :=
 match oB P t x with
 |some v=>some v
 |none=>(match yg P (underlying t),Am h x with
  |some (.map _ _),some es=>some (goInt es.length)
  |_,_=>none)
theorem DF{ρ:xo}{t:TypeId}{x x' v:aaa}{h:za}{w:World}(he:tN P t x h=some v)(hr:Rel P ρ h w)(hx:zH ρ x x')(r:TypeId):(Builtin.len_ #[t] r #[x']).run P w=.ok v w/\zH ρ v v:=by
 unfold tN at he;split at he
 ·rename_i hl;simp only[aab]at he;subst he;exact FH hl hx r w
 ·split at he
  case h_2=>cases he
  rename_i k e es ht hes;simp only[aab]at he;subst he;refine⟨?_,.int _ _⟩;cases hx with
  |mapNil=>simp only[Am,aab]at hes;subst hes;simp[Builtin.len_,zh ht]
  |map hb hm=>
   simp only[Am]at hes;split at hes
   ·rename_i g;simp only[aab]at hes;subst hes;obtain⟨ms,h1,h2⟩:=hr.map g hm;have hsz:=h2.1;simp only[abg]at hsz;simp[Builtin.len_,zh ht,Z3 h1,hsz]
   ·cases hes
  |_=>cases hes
def UE(h:za):aaa×za:=(.map (some h.next),h.push (.map [] 0))
theorem oC{ρ:xo}{h:za}{w:World}(hr:Rel P ρ h w)(t:TypeId) :
  ∃v' w' ρ',(Instr.makeMap t none).run P w=.ok v' w'/\Step P ρ h w ρ' (UE h).2 w'/\zH ρ' (UE h).1 v':=by
 let pl:Place:=⟨w.heap.size,0,0,0⟩
 refine⟨.map (some w.heap.size),{w with heap:=w.heap.push (.map #[] 0)},ρ.ext pl,rfl,Step.au hr (ob := .map [] 0) (pl:=pl) rfl rfl ⟨#[],by simp[pl],rfl,λi x m hx=>by simp at hx⟩ rfl rfl rfl,?_⟩;exact .map (pl:=pl) (by show h.next<ρ.next+1;rw[hr.next];omega) (by rw[<- hr.next];exact ρ.ko pl)
theorem Step.BY{ρ:xo}{h:za}{w:World}(hr:Rel P ρ h w){b:Nat}{ob:vl}{pl:Place}{wo:Obj}(g:h.get b=some ob)(hm:ρ.m b=some pl)(hro:h.ro<=b)(hg:w.heap[pl.c]? = some wo){ms':Array MapEntry}{q':Nat}{es':List Km}(hr':Yo ρ es' ms'.toList) :
  Step P ρ h w ρ (h.set b (some (.map es' q'))) {w with heap:=w.heap.setIfInBounds pl.c (.map ms' q')}:=by
 refine Step.GH hr g hm hro (ob' := .map es' q') ⟨ms',?_,by have:=hr'.1;simpa using this.symm,λi x m hx hm=>hr'.2 i x m hx (by simpa using hm)⟩ rfl rfl rfl (by simp) (λk hk=>?_)
 ·show(w.heap.setIfInBounds pl.c _)[pl.c]? = _;rw[aa2,aai rfl,aai (Yj hg)]
 ·show(w.heap.setIfInBounds pl.c _)[k]? = _;rw[aa2,aag (Ne.symm hk)]
def Xe(P:Program)(t:TypeId)(x k v:aaa)(h:za):Option za :=
 match yg P (underlying t),x with
 |some (.map kt _),.map (some b)=>(match h.get b with
  |some (.map es q)=>(match yg P (Instr.checkKey false 10000 kt k) with
   |some _=>cond (Nat.ble h.ro b)
     (match DD P kt k es with
      |some (some i)=>(match es[i]? with
       |some e=>cond (Instr.sameBits 10000 e.1 k) (some (h.set b (some (.map (es.set i (k,v,e.2.2)) q)))) none
       |none=>none)
      |some none=>some (h.set b (some (.map (es++[(k,v,q)]) (q+1))))
      |none=>none) none
   |none=>none)
  |_=>none)
 |_,_=>none
theorem gB{ρ:xo}{t:TypeId}{x x' k k' v v':aaa}{h h':za}{w:World}(he:Xe P t x k v h=some h')(hr:Rel P ρ h w)(hx:zH ρ x x')(hk:zH ρ k k')(hv:zH ρ v v') :
  ∃w',(Instr.mapUpdate t x' k' v').run P w=.ok () w'/\Step P ρ h w ρ h' w':=by
 unfold Xe at he;split at he
 case h_2=>cases he
 rename_i kt et b ht;cases hx with
 |map hb hm=>
  rename_i pl;split at he
  case h_2=>cases he
  rename_i es q g;split at he
  case h_2=>cases he
  rename_i hck;obtain⟨hc,he⟩:=Kj he;have hro:=aaE hc;obtain⟨ms,hg,hrel⟩:=hr.map g hm;split at he
  ·rename_i i hf;obtain⟨rfl,r',hr',x0,m,hx0,hm0,rfl,q1,q2,q3⟩:=Yd hk hrel hf;rw[hx0]at he;simp only[]at he;obtain⟨hsb,he⟩:=Kj he;simp only[aab]at he;subst he;have f4':ms[i]? = some m:=by simpa using hm0
   have hkey:((ms[i]?).map (·.key)).getD k'=m.key:=by rw[f4'];rfl
   rw[<- q3]at hsb;refine⟨_,?_,Step.BY hr g hm hro hg (ms':=ms.modify i λe=>{e with key:=k',val:=v'}) ?_⟩
   ·simp only[Instr.mapUpdate,aah,zh ht,aac,Z3 hg,zh hck,hr',hkey,Instr.keyThatStays,hsb,abS,aal,Q0 hg]
   ·refine⟨by simpa using hrel.1,λj x m1 hx hm1=>?_⟩;simp only[Array.toList_modify,List.getElem?_modify]at hm1;rw[List.getElem?_set]at hx;by_cases e:i=j
    ·subst e;rw[aai rfl]at hx;split at hx
     ·simp only[aab]at hx;subst hx;rw[hm0]at hm1;simp only[abS,Option.map_eq_map,abN,aab]at hm1;subst hm1;exact⟨hk,hv,q2⟩
     ·cases hx
    ·rw[aag e]at hx;simp only[aag e,Option.map_eq_map,Option.map_id']at hm1;exact hrel.2 j x m1 hx hm1
  ·rename_i hf;simp only[aab]at he;subst he;obtain⟨rfl,r',hr',rfl⟩:=Yd hk hrel hf;refine⟨_,?_,Step.BY hr g hm hro hg (ms':=ms.push {key:=k',val:=v',born:=q}) (q':=q+1) ?_⟩
   ·simp only[Instr.mapUpdate,aah,zh ht,aac,Z3 hg,zh hck,hr',Q0 hg]
   ·refine⟨by simpa using hrel.1,λi x m1 hx hm1=>?_⟩;have hl:=hrel.1;simp only[Array.toList_push]at hm1;rcases aaL i es.length with hi|hi
    ·rw[abk hi]at hx;rw[abk (by omega)]at hm1;exact hrel.2 i x m1 hx hm1
    ·rw[abj hi]at hx;rw[abj (by omega),<- hl]at hm1;cases hn:i-es.length with
     |zero=>
      rw[hn]at hx hm1;simp only[aay,aab]at hx hm1;subst hx hm1;exact⟨hk,hv,rfl⟩
     |succ n=>rw[hn]at hx;simp at hx
  ·cases he
def W4(P:Program)(t:TypeId)(x k:aaa)(h:za):Option za :=
 match yg P (underlying t),x with
 |some (.map kt _),.map (some b)=>(match h.get b with
  |some (.map es q)=>(match yg P (Instr.checkKey es.isEmpty 10000 kt k) with
   |some _=>cond (Nat.ble h.ro b)
     (match DD P kt k es with
      |some (some i)=>some (h.set b (some (.map (es.eraseIdx i) q)))
      |some none=>some h
      |none=>none) none
   |none=>none)
  |_=>none)
 |_,_=>none
theorem gz{ρ:xo}{ts:Array TypeId}{t:TypeId}{r:TypeId}{x x' k k':aaa}{h h':za}{w:World}(he:W4 P t x k h=some h')(hts:ts[0]? = some t)(hr:Rel P ρ h w)(hx:zH ρ x x')(hk:zH ρ k k') :
  ∃w',(Builtin.delete_ ts r #[x',k']).run P w=.ok undef w'/\Step P ρ h w ρ h' w':=by
 unfold W4 at he;split at he
 case h_2=>cases he
 rename_i kt et b ht;cases hx with
 |map hb hm=>
  rename_i pl;split at he
  case h_2=>cases he
  rename_i es q g;split at he
  case h_2=>cases he
  rename_i hck;obtain⟨hc,he⟩:=Kj he;have hro:=aaE hc;obtain⟨ms,hg,hrel⟩:=hr.map g hm;rw[<- hrel.size]at hck;split at he
  ·rename_i i hf;simp only[aab]at he;subst he;obtain⟨rfl,r',hr',x0,m,hx0,hm0,rfl,q1,q2,q3⟩:=Yd hk hrel hf;refine⟨_,?_,Step.BY hr g hm hro hg (ms':=ms.eraseIdxIfInBounds i) ?_⟩
   ·simp only[Builtin.delete_,hts,abt,aay,aaT,aah,zh ht,aac,Z3 hg,zh hck,hr',Q0 hg,aal];rfl
   ·have e:(ms.eraseIdxIfInBounds i).toList=ms.toList.eraseIdx i:=(by simp);rw[e];refine⟨by have:=hrel.1;simp only[List.length_eraseIdx,this],λi x m1 hx hm1=>?_⟩;rw[List.getElem?_eraseIdx]at hx hm1;split at hx
    ·rename_i hi;rw[aai hi]at hm1;exact hrel.2 _ x m1 hx hm1
    ·rename_i hi;rw[aag hi]at hm1;exact hrel.2 _ x m1 hx hm1
  ·rename_i hf;simp only[aab]at he;subst he;obtain⟨rfl,r',hr',rfl⟩:=Yd hk hrel hf;refine⟨_,?_,(Step.BY hr g hm hro hg (ms':=ms) (q':=q) hrel).same ⟨rfl,rfl,λz=>?_⟩⟩
   ·simp only[Builtin.delete_,hts,abt,aay,aaT,aah,zh ht,aac,Z3 hg,zh hck,hr',Q0 hg,aal];rfl
   ·rw[za.yy];split
    ·rename_i e;subst e;exact g
    ·rfl
  ·cases he
def gC(P:Program)(t:TypeId)(x:aaa)(h:za):Option (aaa×za):=none
theorem Bp{ρ:xo}{t:TypeId}{x x' v:aaa}{h h':za}{w:World}(he:gC P t x h=some (v,h'))(hr:Rel P ρ h w)(hx:zH ρ x x') :
  ∃v' w' ρ',(Instr.range t x').run P w=.ok v' w'/\Step P ρ h w ρ' h' w'/\zH ρ' v v':=by
 unfold gC at he;cases he
def leftOf(es:List Km)(seen:List Nat):List Km:=es.filter λe => !seen.contains e.2.2
def tP(P:Program)(x:aaa)(str:Bool)(h:za):Option (aaa×za):=none
theorem Yo.left{ρ:xo}(seen:List Nat):∀{es:List Km} {ms:List MapEntry},Yo ρ es ms->Yo ρ (leftOf es seen) (ms.filter λe => !seen.toArray.contains e.born)
 |[],ms,h=>by rw[h.uG];exact .nil
 |x::es,ms,h=>by
  obtain⟨m,ms',rfl,h1,h2⟩:=h.cons_inv;have ih:=Yo.left seen h2;have e:(!seen.toArray.contains m.born) = !seen.contains x.2.2:=by rw[h1.2.2];simp
  simp only[leftOf,abL,e];split
  ·refine⟨by have:=ih.1;simp only[leftOf]at this;simp only[aa3,this],λi a b ha hb=>?_⟩;cases i with
   |zero=>simp at ha hb;subst ha hb;exact h1
   |succ i=>exact ih.2 i a b (by simpa [leftOf] using ha) (by simpa using hb)
  ·exact ih
theorem Yo.all{ρ:xo}(last:Nat):∀{es:List Km} {ms:List MapEntry},Yo ρ es ms->(ms.all λe=>decide (e.born ≥ last))=es.all λe=>Nat.ble last e.2.2
 |[],ms,h=>by rw[h.uG];rfl
 |x::es,ms,h=>by
  obtain⟨m,ms',rfl,h1,h2⟩:=h.cons_inv;simp only[ab8,Yo.all last h2,h1.2.2]
  congr 1
  rw[ab6];simp
theorem DJ{ρ:xo}{t:TypeId}{x x' v:aaa}{str:Bool}{h h':za}{w:World}(he:tP P x str h=some (v,h'))(hr:Rel P ρ h w)(hx:zH ρ x x') :
  ∃v' w' ρ',(Instr.next x' str t).run P w=.ok v' w'/\Step P ρ h w ρ' h' w'/\zH ρ' v v':=by
 unfold tP at he;cases he
def Be(x:aaa)(h:za):Option aaa:=none
theorem Yo.find{ρ:xo}(stamp:Nat):∀{es:List Km} {ms:List MapEntry} {e:Km},Yo ρ es ms->(es.find? λe=>Nat.beq e.2.2 stamp)=some e->∃m,(ms.find? λe=>e.born == stamp)=some m/\zH ρ e.1 m.key/\zH ρ e.2.1 m.val
 |[],ms,e,h,he=>by simp at he
 |x::es,ms,e,h,he=>by
  obtain⟨m,ms',rfl,h1,h2⟩:=h.cons_inv;rw[List.find?_cons]at he ⊢;rw[h1.2.2];cases hb:Nat.beq x.2.2 stamp with
  |true=>
   rw[hb]at he;simp only[aab]at he;subst he;have:(x.2.2 == stamp)=true:=by simpa using aak hb
   rw[this];exact⟨m,rfl,h1.1,h1.2.1⟩
  |false=>
   rw[hb]at he
   have:(x.2.2 == stamp)=false:=by
    cases hq:x.2.2 == stamp with
    |false=>rfl
    |true=>have:=beq_iff_eq.1 hq;rw[this,ab0]at hb;cases hb
   rw[this];exact Yo.find stamp h2 he
theorem Bf{ρ:xo}{x x' v:aaa}{h:za}{w:World}(he:Be x h=some v)(hr:Rel P ρ h w)(hx:zH ρ x x'):∃v',(Instr.entry x').run P w=.ok v' w/\zH ρ v v':=by
 unfold Be at he;cases he
end
end Go.Ai
