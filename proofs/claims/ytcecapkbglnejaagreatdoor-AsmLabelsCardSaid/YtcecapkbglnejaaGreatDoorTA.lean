/- A part of the proof. -/
import Derived.Calls
import Derived.Below
import Derived.Laws.Sem
import Derived.Laws.Cells
import Derived.Laws.Entries
set_option linter.unusedVariables false
set_option linter.unusedSimpArgs false
set_option maxRecDepth 100000
namespace Go
theorem aab:type_of% @Option.some.injEq:=@Option.some.injEq
theorem aac:type_of% @if_true:=@if_true
theorem aad:type_of% @Go.Result.andThen_ok:=@Go.Result.andThen_ok
theorem aae:type_of% @List.getElem?_eq_getElem:=@List.getElem?_eq_getElem
theorem aaf:type_of% @List.getElem?_cons_zero:=@List.getElem?_cons_zero
theorem aag:type_of% @Prod.mk.injEq:=@Prod.mk.injEq
theorem aah:type_of% @Bool.and_eq_true:=@Bool.and_eq_true
theorem aai:type_of% @Go.Sem.run_bind:=@Go.Sem.run_bind
theorem aaj:type_of% @List.getElem?_cons_succ:=@List.getElem?_cons_succ
theorem aak:type_of% @if_neg:=@if_neg
theorem aal:type_of% @Nat.le_refl:=@Nat.le_refl
theorem aam:type_of% @if_pos:=@if_pos
theorem aan:type_of% @Nat.lt_of_lt_of_le:=@Nat.lt_of_lt_of_le
theorem aao:type_of% @List.getElem?_eq_none:=@List.getElem?_eq_none
theorem aap:type_of% @Go.Sem.run_pure:=@Go.Sem.run_pure
theorem aaq:type_of% @not_false_eq_true:=@not_false_eq_true
theorem aar:type_of% @Nat.eq_of_beq_eq_true:=@Nat.eq_of_beq_eq_true
theorem aas:type_of% @Option.map_eq_some_iff:=@Option.map_eq_some_iff
theorem aat:type_of% @if_false:=@if_false
theorem aau:type_of% @Nat.zero_add:=@Nat.zero_add
theorem aav:type_of% @Bool.not_eq_true':=@Bool.not_eq_true'
theorem aaw:type_of% @List.getElem?_map:=@List.getElem?_map
theorem aax:type_of% @cond_true:=@cond_true
theorem aay:type_of% @Array.getD_eq_getD_getElem?:=@Array.getD_eq_getD_getElem?
theorem aaz:type_of% @List.length_nil:=@List.length_nil
theorem aaA:type_of% @Nat.lt_or_ge:=@Nat.lt_or_ge
theorem aaB:type_of% @List.length_cons:=@List.length_cons
theorem aaC:type_of% @or_false:=@or_false
theorem aaD:type_of% @List.length_map:=@List.length_map
theorem aaE:type_of% @Int.toNat_natCast:=@Int.toNat_natCast
theorem aaF:type_of% @List.toList_toArray:=@List.toList_toArray
theorem aaG:type_of% @List.mem_of_getElem?:=@List.mem_of_getElem?
theorem aaH:type_of% @Nat.le_of_ble_eq_true:=@Nat.le_of_ble_eq_true
theorem aaI:type_of% @decide_eq_false_iff_not:=@decide_eq_false_iff_not
theorem aaJ:type_of% @List.all_eq_true:=@List.all_eq_true
theorem aaK:type_of% @cond_false:=@cond_false
theorem aaL:type_of% @List.contains_eq_mem:=@List.contains_eq_mem
theorem aaM:type_of% @Array.getElem?_eq_none:=@Array.getElem?_eq_none
theorem aaN:type_of% @Array.getElem?_eq_getElem:=@Array.getElem?_eq_getElem
theorem aaO:type_of% @or_true:=@or_true
theorem aaP:type_of% @or_self:=@or_self
theorem aaQ:type_of% @Option.bind_some:=@Option.bind_some
theorem aaR:type_of% @List.getD_eq_getElem?_getD:=@List.getD_eq_getElem?_getD
theorem aaS:type_of% @List.filter_append:=@List.filter_append
theorem aaT:type_of% @List.take_succ_cons:=@List.take_succ_cons
theorem aaU:type_of% @decide_eq_true_eq:=@decide_eq_true_eq
theorem aaV:type_of% @List.append_of_mem:=@List.append_of_mem
theorem aaW:type_of% @List.getElem?_drop:=@List.getElem?_drop
theorem aaX:type_of% @List.getElem?_take_of_lt:=@List.getElem?_take_of_lt
theorem aaY:type_of% @Nat.le_trans:=@Nat.le_trans
theorem aaZ:type_of% @List.getElem?_set_self:=@List.getElem?_set_self
theorem aa0:type_of% @Nat.blt_eq:=@Nat.blt_eq
theorem aa1:type_of% @Bool.not_false:=@Bool.not_false
theorem aa2:type_of% @List.mem_append:=@List.mem_append
theorem aa3:type_of% @List.set_cons_succ:=@List.set_cons_succ
theorem aa4:type_of% @Nat.lt_succ_self:=@Nat.lt_succ_self
theorem aa5:type_of% @Nat.zero_le:=@Nat.zero_le
theorem aa6:type_of% @Bool.or_eq_true:=@Bool.or_eq_true
theorem aa7:type_of% @Array.getElem?_setIfInBounds:=@Array.getElem?_setIfInBounds
theorem aa8:type_of% @List.set_cons_zero:=@List.set_cons_zero
theorem aa9:type_of% @Bool.and_true:=@Bool.and_true
theorem aba:type_of% @List.all_cons:=@List.all_cons
theorem abb:type_of% @Option.bind_none:=@Option.bind_none
theorem abc:type_of% @Bool.false_eq_true:=@Bool.false_eq_true
theorem abd:type_of% @of_decide_eq_true:=@of_decide_eq_true
theorem abe:type_of% @List.ext_getElem?:=@List.ext_getElem?
theorem abf:type_of% @List.length_set:=@List.length_set
theorem abg:type_of% @and_true:=@and_true
theorem abh:type_of% @List.getElem?_append_left:=@List.getElem?_append_left
theorem abj:type_of% @List.cons.injEq:=@List.cons.injEq
theorem abk:type_of% @Array.mem_of_getElem?:=@Array.mem_of_getElem?
theorem abl:type_of% @List.getElem?_append_right:=@List.getElem?_append_right
theorem abm:type_of% @List.mem_cons:=@List.mem_cons
theorem abn:type_of% @List.mem_singleton:=@List.mem_singleton
theorem abo:type_of% @List.getElem?_set_ne:=@List.getElem?_set_ne
theorem abp:type_of% @Bool.not_true:=@Bool.not_true
theorem abq:type_of% @Option.map_some:=@Option.map_some
theorem abr:type_of% @List.take_nil:=@List.take_nil
theorem abt:type_of% @List.drop_zero:=@List.drop_zero
theorem abu:type_of% @List.all_nil:=@List.all_nil
theorem abv:type_of% @List.eq_nil_of_length_eq_zero:=@List.eq_nil_of_length_eq_zero
theorem abw:type_of% @List.length_eq_zero_iff:=@List.length_eq_zero_iff
theorem abx:type_of% @Array.length_toList:=@Array.length_toList
theorem aby:type_of% @List.getElem?_eq_some_iff:=@List.getElem?_eq_some_iff
theorem abz:type_of% @List.map_cons:=@List.map_cons
theorem abA:type_of% @Nat.mul_le_mul_right:=@Nat.mul_le_mul_right
theorem abB:type_of% @List.prefix_refl:=@List.prefix_refl
theorem abC:type_of% @Nat.le_succ:=@Nat.le_succ
theorem abD:type_of% @List.mem_range:=@List.mem_range
theorem abE:type_of% @List.mem_map:=@List.mem_map
theorem abF:type_of% @List.filter_cons:=@List.filter_cons
theorem abG:type_of% @Nat.le_succ_of_le:=@Nat.le_succ_of_le
theorem abH:type_of% @Nat.mul_one:=@Nat.mul_one
theorem abI:type_of% @List.getElem_of_mem:=@List.getElem_of_mem
theorem abJ:type_of% @List.filter_congr:=@List.filter_congr
theorem abK:type_of% @Int.tmod_eq_emod_of_nonneg:=@Int.tmod_eq_emod_of_nonneg
theorem abL:type_of% @List.getElem?_mapIdx:=@List.getElem?_mapIdx
theorem abM:type_of% @Array.eq_empty_of_size_eq_zero:=@Array.eq_empty_of_size_eq_zero
theorem abN:type_of% @List.map_append:=@List.map_append
theorem abO:type_of% @Bool.true_and:=@Bool.true_and
theorem abP:type_of% @List.getElem?_toArray:=@List.getElem?_toArray
theorem abQ:type_of% @decide_eq_false:=@decide_eq_false
theorem abR:type_of% @Array.toArray_toList:=@Array.toArray_toList
theorem abS:type_of% @Go.Value.slice.injEq:=@Go.Value.slice.injEq
theorem abT:type_of% @List.take_add_one:=@List.take_add_one
theorem abU:type_of% @List.mem_filter:=@List.mem_filter
theorem abV:type_of% @Array.getElem?_replicate:=@Array.getElem?_replicate
theorem abW:type_of% @List.filter_filter:=@List.filter_filter
theorem abX:type_of% @List.take_length:=@List.take_length
theorem abY:type_of% @Bool.or_eq_false_iff:=@Bool.or_eq_false_iff
theorem abZ:type_of% @List.dropLast_concat:=@List.dropLast_concat
theorem ab0:type_of% @Option.bind_eq_some_iff:=@Option.bind_eq_some_iff
theorem ab1:type_of% @Go.Steps.trans:=@Go.Steps.trans
theorem ab2:type_of% @Nat.ble_eq:=@Nat.ble_eq
theorem ab3:type_of% @Bool.eq_iff_iff:=@Bool.eq_iff_iff
theorem ab4:type_of% @List.drop_succ_cons:=@List.drop_succ_cons
theorem ab5:type_of% @List.take_of_length_le:=@List.take_of_length_le
theorem ab6:type_of% @Go.Checked.mixed:=@Go.Checked.mixed
theorem ab7:type_of% @Option.getD_some:=@Option.getD_some
theorem ab8:type_of% @Array.ext':=@Array.ext'
theorem ab9:type_of% @beq_self_eq_true:=@beq_self_eq_true
theorem aca:type_of% @List.length_drop:=@List.length_drop
theorem acb:type_of% @Go.Addr.mk.injEq:=@Go.Addr.mk.injEq
theorem acd:type_of% @Nat.beq_refl:=@Nat.beq_refl
theorem ace:type_of% @true_and:=@true_and
theorem acf:type_of% @Nat.add_zero:=@Nat.add_zero
theorem acg:type_of% @Nat.eq_zero_or_pos:=@Nat.eq_zero_or_pos
theorem ach:type_of% @decide_eq_true:=@decide_eq_true
theorem aci:type_of% @List.flatten_cons:=@List.flatten_cons
theorem acj:type_of% @List.getElem?_set:=@List.getElem?_set
theorem ack:type_of% @List.nil_append:=@List.nil_append
theorem acm:type_of% @Nat.succ_le_of_lt:=@Nat.succ_le_of_lt
theorem acn:type_of% @Nat.add_assoc:=@Nat.add_assoc
theorem aco:type_of% @Nat.le_of_not_lt:=@Nat.le_of_not_lt
theorem acp:type_of% @Bool.not_eq_true:=@Bool.not_eq_true
theorem acq:type_of% @List.length_take:=@List.length_take
theorem acr:type_of% @Go.Sem.run_ite:=@Go.Sem.run_ite
theorem acs:type_of% @List.filter_eq_nil_iff:=@List.filter_eq_nil_iff
theorem acu:type_of% @List.length_append:=@List.length_append
theorem acv:type_of% @Bool.false_ne_true:=@Bool.false_ne_true
theorem acw:type_of% @Option.some.inj:=@Option.some.inj
theorem acx:type_of% @Nat.succ_mul:=@Nat.succ_mul
theorem acy:type_of% @Nat.beq_eq:=@Nat.beq_eq
theorem acz:type_of% @Nat.lt_succ_of_lt:=@Nat.lt_succ_of_lt
theorem acA:type_of% @List.tail_drop:=@List.tail_drop
theorem acB:type_of% @Nat.add_mul:=@Nat.add_mul
theorem acC:type_of% @Int.le_refl:=@Int.le_refl
theorem acD:type_of% @Nat.zero_mul:=@Nat.zero_mul
end Go
namespace Go.Ai
noncomputable section
inductive Tr (α:Type) where
 |e
 |n (v:Option α) (l r:Tr α)
namespace Tr
variable {α:Type}
def get(t:Tr α)(k:Nat):Option α :=
 @Tr.rec α (λ_=>Nat->Option α) (λ_=>none)
  (λv _ _ gl gr k=>@Bool.rec (λ_=>Option α) (@Bool.rec (λ_=>Option α) (gr (Nat.sub (Nat.div k 2) 1)) (gl (Nat.div k 2)) (Nat.beq (Nat.mod k 2) 1)) v (Nat.beq k 0)) t k
def mW(f:Nat):Tr α->Nat->Option α->Tr α :=
 @Nat.rec (λ_=>Tr α->Nat->Option α->Tr α) (λt _ _=>t)
  (λ_ ih t k x=>@Tr.rec α (λ_=>Tr α)
   (@Bool.rec (λ_=>Tr α) (@Bool.rec (λ_=>Tr α) (.n none .e (ih .e (Nat.sub (Nat.div k 2) 1) x)) (.n none (ih .e (Nat.div k 2) x) .e) (Nat.beq (Nat.mod k 2) 1)) (.n x .e .e) (Nat.beq k 0))
   (λv l r _ _=>@Bool.rec (λ_=>Tr α) (@Bool.rec (λ_=>Tr α) (.n v l (ih r (Nat.sub (Nat.div k 2) 1) x)) (.n v (ih l (Nat.div k 2) x) r) (Nat.beq (Nat.mod k 2) 1)) (.n x l r) (Nat.beq k 0)) t) f
def set(t:Tr α)(k:Nat)(x:Option α):Tr α:=mW (Nat.succ k) t k x
@[simp] theorem NP (k:Nat):(Tr.e:Tr α).get k=none:=rfl
theorem beq_false{a b:Nat}(h:a≠b):Nat.beq a b=false:=by
 cases e:Nat.beq a b
 ·rfl
 ·exact absurd (aar e) h
theorem beq_true{a b:Nat}(h:a=b):Nat.beq a b=true:=by subst h;exact acd a
theorem lh(v:Option α)(l r:Tr α)(k:Nat):(Tr.n v l r).get k=if k=0 then v else if k%2=1 then l.get (k/2) else r.get (k/2-1):=by
 show @Bool.rec (λ_=>Option α) (@Bool.rec (λ_=>Option α) (r.get (k/2-1)) (l.get (k/2)) (Nat.beq (k%2) 1)) v (Nat.beq k 0)=_;by_cases h:k=0
 ·rw[beq_true h,aam h]
 ·rw[beq_false h,aak h];by_cases h2:k%2=1
  ·rw[beq_true h2,aam h2]
  ·rw[beq_false h2,aak h2]
theorem Pq(f:Nat)(k:Nat)(x:Option α):mW (f+1) .e k x=mW (f+1) (.n none .e .e) k x:=rfl
theorem Pr(f:Nat)(v:Option α)(l r:Tr α)(k:Nat)(x:Option α) :
  mW (f+1) (.n v l r) k x=if k=0 then .n x l r else if k%2=1 then .n v (mW f l (k/2) x) r else .n v l (mW f r (k/2-1) x):=by
 show @Bool.rec (λ_=>Tr α) (@Bool.rec (λ_=>Tr α) (.n v l (mW f r (k/2-1) x)) (.n v (mW f l (k/2) x) r) (Nat.beq (k%2) 1)) (.n x l r) (Nat.beq k 0)=_;by_cases h:k=0
 ·rw[beq_true h,aam h]
 ·rw[beq_false h,aak h];by_cases h2:k%2=1
  ·rw[beq_true h2,aam h2]
  ·rw[beq_false h2,aak h2]
theorem IZ(f:Nat):∀(t:Tr α) (k j:Nat) (x:Option α),k<f->(mW f t k x).get j=if j=k then x else t.get j:=by
 induction f with
 |zero=>intro t k j x h;omega
 |succ f ih=>
  have node:∀(v:Option α) (l r:Tr α) (k j:Nat) (x:Option α),k<f+1->(mW (f+1) (.n v l r) k x).get j=if j=k then x else (Tr.n v l r).get j:=by
   intro v l r k j x h;rw[Pr];by_cases h0:k=0
   ·subst h0;rw[aam rfl,lh,lh];by_cases hj:j=0
    ·simp[hj]
    ·simp[hj]
   ·rw[aak h0];by_cases h1:k%2=1
    ·rw[aam h1,lh,lh,ih _ _ _ _ (by omega)];by_cases hj:j=0
     ·subst hj;simp[Ne.symm h0]
     ·rw[aak hj,aak hj];by_cases hj2:j%2=1
      ·rw[aam hj2,aam hj2];by_cases e:j=k
       ·subst e;simp
       ·rw[aak e,aak (by omega)]
      ·rw[aak hj2,aak hj2,aak (by intro e;subst e;exact hj2 h1)]
    ·rw[aak h1,lh,lh,ih _ _ _ _ (by omega)];by_cases hj:j=0
     ·subst hj;simp[Ne.symm h0]
     ·rw[aak hj,aak hj];by_cases hj2:j%2=1
      ·rw[aam hj2,aam hj2,aak (by intro e;subst e;exact h1 hj2)]
      ·rw[aak hj2,aak hj2];by_cases e:j=k
       ·subst e;simp
       ·rw[aak e,aak (by omega)]
  intro t k j x h;cases t with
  |e=>
   rw[Pq,node _ _ _ _ _ _ h];by_cases e:j=k
   ·simp[e]
   ·simp only[aak e,lh,NP];split <;> (try split) <;> rfl
  |n v l r=>exact node v l r k j x h
theorem yD(t:Tr α)(k j:Nat)(x:Option α):(t.set k x).get j=if j=k then x else t.get j :=
 IZ (k+1) t k j x (aa4 k)
def ofList(t:Tr α)(i:Nat):List α->Tr α
 |[]=>t
 |a::l=>ofList (t.set i (some a)) (i+1) l
theorem Dn(l:List α):∀(t:Tr α) (i j:Nat),(ofList t i l).get j=if i<=j/\j<i+l.length then l[j-i]? else t.get j:=by
 induction l with
 |nil=>intro t i j;simp[ofList];omega
 |cons a l ih=>
  intro t i j;rw[ofList,ih,yD];by_cases h:j=i
  ·subst h;rw[aak (by omega),aam rfl,aam (by simp),Nat.sub_self];rfl
  ·by_cases h2:i+1<=j/\j<i+1+l.length
   ·rw[aam h2,aam (by simp;omega)];have:j-i=(j-(i+1))+1:=by omega
    rw[this];rfl
   ·rw[aak h2,aak h,aak (by simp;omega)]
end Tr
structure Env where
 t:Tr Value
 size:Nat
def Env.get(s:Env)(i:Nat):Value := @Option.rec Value (λ_=>Value) undef (λv=>v) (s.t.get i)
theorem Env.get_eq(s:Env)(i:Nat):s.get i=(s.t.get i).getD undef:=by
 unfold Env.get;cases s.t.get i <;> rfl
def Env.set(s:Env)(i:Nat)(v:Value):Env := @Env.rec (λ_=>Env) (λt n=>⟨t.set i (some v),n⟩) s
theorem Env.SE(s:Env)(i:Nat)(v:Value):(s.set i v).t=s.t.set i (some v):=rfl
def Env.put(s:Env)(d:Option Nat)(v:Value):Option Env :=
 match d with
 |none=>some s
 |some d=>cond (Nat.blt d s.size) (some (s.set d v)) none
theorem Env.yD(s:Env)(i j:Nat)(v:Value):(s.set i v).get j=if j=i then v else s.get j:=by
 simp only[Env.get_eq,Env.SE,Tr.yD];split <;> rfl
@[simp] theorem Env.size_set (s:Env) (i:Nat) (v:Value):(s.set i v).size=s.size:=rfl
def E8{α:Type}(n:Nat)(f:Nat->α):α := @Nat.rec (λ_=>α) (f 0) (λm _=>f (Nat.succ m)) n
theorem DX{α:Type}(n:Nat)(f:Nat->α):E8 n f=f n:=by cases n <;> rfl
def Env.enter(args:List Value)(n:Nat):Env:=E8 (max args.length n) λk=>{t:=Tr.ofList .e 0 args,size:=k}
theorem Env.AY(args:List Value)(n:Nat):Env.enter args n = {t:=Tr.ofList .e 0 args,size:=max args.length n}:=DX _ _
theorem Env.Gt(args:List Value)(n j:Nat):(Env.enter args n).get j=(args[j]?).getD undef:=by
 simp only[Env.get_eq,Env.AY,Tr.Dn,Tr.NP];by_cases h:j<args.length
 ·rw[aam (by omega)];rfl
 ·rw[aak (by omega),aao (by omega)]
structure K1 where
 state:LoopState
 pending:Option Code
 s:Env
 params:Array Tmp
 assign:Code
 body:Code
inductive vg where
 |cells (c:List Value) (elem:TypeId)
 |map (es:List (Value×Value×Nat)) (clock:Nat)
 |iter (m:Option Nat) (since:Nat) (seen:List Nat) (last:Nat)
 |siter (s:ByteArray) (pos:Nat)
 |tab (c:List Value)
 |loop (l:K1)
structure za where
 t:Tr vg
 next:Nat
 ro:Nat
def za.get(h:za)(b:Nat):Option vg:=h.t.get b
def za.set(h:za)(b:Nat)(o:Option vg):za := @za.rec (λ_=>za) (λt n r=>⟨t.set b o,n,r⟩) h
def za.push(h:za)(o:vg):za := @za.rec (λ_=>za) (λt n r=>⟨t.set n (some o),Nat.succ n,r⟩) h
theorem za.yD(h:za)(b c:Nat)(o:Option vg):(h.set b o).get c=if c=b then o else h.get c:=Tr.yD _ _ _ _
theorem za.vK(h:za)(c:Nat)(o:vg):(h.push o).get c=if c=h.next then some o else h.get c:=Tr.yD _ _ _ _
@[simp] theorem za.R1 (h:za) (b:Nat) (o:Option vg):(h.set b o).next=h.next:=rfl
@[simp] theorem za.TJ (h:za) (b:Nat) (o:Option vg):(h.set b o).ro=h.ro:=rfl
@[simp] theorem za.KQ (h:za) (o:vg):(h.push o).next=h.next+1:=rfl
@[simp] theorem za.SS (h:za) (o:vg):(h.push o).ro=h.ro:=rfl
def za.lock(h:za):za := @za.rec (λ_=>za) (λt n _=>⟨t,n,n⟩) h
structure Place where
 c:Nat
 base:Nat
 size:Nat
 EG:Nat
structure xr where
 next:Nat
 m:Nat->Option Place
def PL(pl:Place)(off cap:Nat)(c:Nat):Prop:=c≠0->off+cap*pl.EG<=pl.size /\ ∀k,c=k+2->cap=k
def bot:Value := .complex .f32 0 0
def sP:Value->Bool
 | .bool _ | .agg _ | .tuple _=>false
 |_=>true
inductive zI (ρ:xr):Value->Value->Prop
 |sP {v:Value} (h:sP v=true):zI ρ bot v
 |bool (b:Bool):zI ρ (.bool b) (.bool b)
 |int (k:IntKind) (n:Int):zI ρ (.int k n) (.int k n)
 |float (k:FloatKind) (n:Nat):zI ρ (.float k n) (.float k n)
 |string (s:ByteArray):zI ρ (.string s) (.string s)
 |ptrNil:zI ρ (.pointer none) (.pointer none)
 |ptr {b off:Nat} {pl:Place} (hb:b<ρ.next) (hm:ρ.m b=some pl):zI ρ (.pointer (some ⟨b,off,none⟩)) (.pointer (some ⟨pl.c,pl.base+off,none⟩))
 |Yt {g off:Nat}:zI ρ (.pointer (some ⟨g,off,some 0⟩)) (.pointer (some ⟨g,off,none⟩))
 |sliceNil (c:Nat):zI ρ (.slice none 0 c) (.slice none 0 0)
 |slice {b off len c cap:Nat} {pl:Place} (hb:b<ρ.next) (hm:ρ.m b=some pl) (hl:len<=cap) (hc:PL pl (pl.base+off) cap c) :
   zI ρ (.slice (some ⟨b,off,none⟩) len c) (.slice (some ⟨pl.c,pl.base+off,none⟩) len cap)
 |sliceOut {b off c:Nat} {a:Addr} (hb:b<ρ.next) (hc:c<=2):zI ρ (.slice (some ⟨b,off,none⟩) 0 c) (.slice (some a) 0 0)
 |nilFunc:zI ρ .nilFunc .nilFunc
 |nilIface:zI ρ .nilIface .nilIface
 |mapNil:zI ρ (.map none) (.map none)
 |map {b:Nat} {pl:Place} (hb:b<ρ.next) (hm:ρ.m b=some pl):zI ρ (.map (some b)) (.map (some pl.c))
 |yield {b:Nat} {pl:Place} (hb:b<ρ.next) (hm:ρ.m b=some pl):zI ρ (.func (.yield b) #[] #[]) (.func (.yield pl.c) #[] #[])
 |iface {t:TypeId} {x y:Value} (h:zI ρ x y):zI ρ (.iface t x) (.iface t y)
 |func {f:FuncId} {a c a' c':Array Value} (ha:a.size=a'.size) (hc:c.size=c'.size)
   (h:∀(i:Nat) x y,a[i]? = some x->a'[i]? = some y->zI ρ x y) (h':∀(i:Nat) x y,c[i]? = some x->c'[i]? = some y->zI ρ x y):zI ρ (.func (.func f) a c) (.func (.func f) a' c')
 |agg {a a':Array Value} (ha:a.size=a'.size) (h:∀(i:Nat) x y,a[i]? = some x->a'[i]? = some y->zI ρ x y):zI ρ (.agg a) (.agg a')
 |tuple {a a':Array Value} (ha:a.size=a'.size) (h:∀(i:Nat) x y,a[i]? = some x->a'[i]? = some y->zI ρ x y):zI ρ (.tuple a) (.tuple a')
def xr.le(ρ ρ':xr):Prop:=ρ.next<=ρ'.next /\ ∀b,b<ρ.next->ρ'.m b=ρ.m b
theorem xr.le_refl(ρ:xr):ρ.le ρ:=⟨aal _,λ_ _=>rfl⟩
theorem xr.le_trans{a b c:xr}(h:a.le b)(k:b.le c):a.le c:=⟨aaY h.1 k.1,λx hx=>(k.2 x (aan hx h.1)).trans (h.2 x hx)⟩
theorem zI.mono{ρ ρ':xr}(hle:ρ.le ρ'){v v':Value}(h:zI ρ v v'):zI ρ' v v':=by
 induction h with
 |sP h=>exact .sP h
 |bool b=>exact .bool b
 |int k n=>exact .int k n
 |float k n=>exact .float k n
 |string s=>exact .string s
 |ptrNil=>exact .ptrNil
 |ptr hb hm=>exact .ptr (aan hb hle.1) ((hle.2 _ hb).trans hm)
 |Yt=>exact .Yt
 |sliceNil c=>exact .sliceNil c
 |slice hb hm hl hc=>exact .slice (aan hb hle.1) ((hle.2 _ hb).trans hm) hl hc
 |sliceOut hb hc=>exact .sliceOut (aan hb hle.1) hc
 |nilFunc=>exact .nilFunc
 |nilIface=>exact .nilIface
 |mapNil=>exact .mapNil
 |map hb hm=>exact .map (aan hb hle.1) ((hle.2 _ hb).trans hm)
 |yield hb hm=>exact .yield (aan hb hle.1) ((hle.2 _ hb).trans hm)
 |iface _ ih=>exact .iface ih
 |func ha hc _ _ ih ih'=>exact .func ha hc ih ih'
 |agg ha _ ih=>exact .agg ha ih
 |tuple ha _ ih=>exact .tuple ha ih
def wC(ρ:xr)(xs ys:List Value):Prop:=xs.length=ys.length /\ ∀(i:Nat) x y,xs[i]? = some x->ys[i]? = some y->zI ρ x y
theorem wC.nil(ρ:xr):wC ρ [] []:=⟨rfl,λi x y h=>by simp at h⟩
theorem wC.cons{ρ:xr}{x y:Value}{xs ys:List Value}(h:zI ρ x y)(hs:wC ρ xs ys):wC ρ (x::xs) (y::ys) :=
 ⟨by simp[hs.1],λi a b ha hb=>by
  cases i with
  |zero=>simp at ha hb;subst ha hb;exact h
  |succ i=>exact hs.2 i a b (by simpa using ha) (by simpa using hb)⟩
theorem wC.cons_inv{ρ:xr}{x:Value}{xs ys:List Value}(h:wC ρ (x::xs) ys):∃y ys',ys=y::ys'/\zI ρ x y/\wC ρ xs ys':=by
 cases ys with
 |nil=>simp[wC]at h
 |cons y ys=>exact⟨y,ys,rfl,h.2 0 x y rfl rfl,by simpa using h.1,λi a b ha hb=>h.2 (i+1) a b (by simpa using ha) (by simpa using hb)⟩
theorem wC.uT{ρ:xr}{ys:List Value}(h:wC ρ [] ys):ys=[]:=by
 have:=h.1;simp at this;exact abv this.symm
theorem wC.mono{ρ ρ':xr}(hle:ρ.le ρ'){xs ys:List Value}(h:wC ρ xs ys):wC ρ' xs ys:=⟨h.1,λi x y hx hy=>(h.2 i x y hx hy).mono hle⟩
theorem wC.append{ρ:xr}{a b c d:List Value}(h:wC ρ a b)(k:wC ρ c d):wC ρ (a++c) (b++d):=by
 refine⟨by simp[h.1,k.1],λi x y hx hy=>?_⟩;by_cases hi:i<a.length
 ·rw[abh hi]at hx;rw[abh (by rw[<- h.1];exact hi)]at hy;exact h.2 i x y hx hy
 ·rw[abl (by omega)]at hx;rw[abl (by rw[<- h.1];omega),<- h.1]at hy;exact k.2 _ x y hx hy
theorem wC.get{ρ:xr}{xs ys:List Value}(h:wC ρ xs ys){i:Nat}{x:Value}(hx:xs[i]? = some x):∃y,ys[i]? = some y/\zI ρ x y:=by
 have hi:i<xs.length:=by
  rcases aaA i xs.length with h|h
  ·exact h
  ·rw[aao h]at hx;cases hx
 have hj:i<ys.length:=h.1 ▸ hi;exact⟨ys[i],aae hj,h.2 i x _ hx (aae hj)⟩
def plain:Value->Bool
 | .bool _ | .int _ _ | .float _ _ | .string _ | .pointer none | .nilFunc | .nilIface | .map none=>true
 | .slice none n c=>Nat.beq n 0&&Nat.beq c 0
 | .func (.func _) a c=>Nat.beq a.size 0&&Nat.beq c.size 0
 | .tuple a=>Nat.beq a.size 0
 |_=>false
theorem VO{a:Array Value}(h:Nat.beq a.size 0=true):a = #[]:=abM (aar h)
theorem zI.ZM(ρ:xr){v:Value}(h:plain v=true):zI ρ v v:=by
 cases v with
 |bool b=>exact .bool _
 |int k n=>exact .int _ _
 |float k n=>exact .float _ _
 |string s=>exact .string _
 |nilFunc=>exact .nilFunc
 |nilIface=>exact .nilIface
 |pointer a=>cases a <;> first|exact .ptrNil|cases h
 |map a=>cases a <;> first|exact .mapNil|cases h
 |slice a n c=>
  cases a with
  |some a=>cases h
  |none=>
   simp only[plain,aah]at h;obtain rfl:=aar h.1;obtain rfl:=aar h.2;exact .sliceNil _
 |func f a c=>
  cases f with
  |func f=>
   simp only[plain,aah]at h;obtain rfl:=VO h.1;obtain rfl:=VO h.2;exact .func rfl rfl (λi x y hx=>by simp at hx) (λi x y hx=>by simp at hx)
  |_=>cases h
 |tuple a=>
  obtain rfl:=VO h;exact .tuple rfl (λi x y hx=>by simp at hx)
 |_=>cases h
def wi:Value->Bool
 | .agg _ | .tuple _=>false
 |_=>true
theorem iG{ρ:xr}{v v':Value}(h:zI ρ v v'):wi v'=wi v:=by
 cases h with
 |sP h=>cases v' <;> first|rfl|cases h
 |_=>rfl
def xw(P:Program)(ρ:xr)(wr:Bool)(c:List Value)(elem:TypeId)(pl:Place)(w:World):Prop :=
 ∃cs fz,w.heap[pl.c]? = some (.cells cs elem fz)/\cs.size=pl.size/\(pl.EG=P.cellsOf elem/\pl.base%pl.EG=0)/\pl.base+c.length<=cs.size /\
  (wr=true->∀i,i<pl.size->¬(fz.1<=i/\i<fz.2)) /\ ∀i x,c[i]? = some x->∃y,cs[pl.base+i]? = some y/\zI ρ x y
structure vV (ρ:xr) (s:Env) (tm:Array Value):Prop where
 size:s.size=tm.size
 get:∀i,zI ρ (s.get i) (tm.getD i undef)
theorem vV.mono{ρ ρ':xr}(hle:ρ.le ρ'){s:Env}{tm:Array Value}(h:vV ρ s tm):vV ρ' s tm:=⟨h.size,λi=>(h.get i).mono hle⟩
def PO(ρ:xr)(es:List (Value×Value×Nat))(clock:Nat)(pl:Place)(w:World):Prop :=
 ∃ms,w.heap[pl.c]? = some (.map ms clock)/\ms.size=es.length /\ ∀(i:Nat) x m,es[i]? = some x->ms[i]? = some m->zI ρ x.1 m.key/\zI ρ x.2.1 m.val/\m.born=x.2.2
def Oa(ρ:xr)(m:Option Nat)(since:Nat)(seen:List Nat)(last:Nat)(pl:Place)(w:World):Prop :=
 ∃m',w.heap[pl.c]? = some (.mapIter m' since seen.toArray last)/\pl.base=0/\zI ρ (.map m) (.map m')
def Ob(ρ:xr)(l:K1)(pl:Place)(w:World):Prop :=
 ∃tm d fn,w.heap[pl.c]? = some (.loop {state:=l.state,pending:=l.pending,fn:=fn,tmps:=tm,params:=l.params,assign:=l.assign,body:=l.body,defers:=d})/\vV ρ l.s tm
def ue(P:Program)(ρ:xr)(wr:Bool)(o:vg)(pl:Place)(w:World):Prop :=
 match o with
 | .cells c t=>xw P ρ wr c t pl w
 | .map es q=>PO ρ es q pl w
 | .iter m since seen last=>Oa ρ m since seen last pl w
 | .siter s pos=>w.heap[pl.c]? = some (.stringIter s pos)/\pl.base=0
 | .tab c=>∃t,xw P ρ false c t {pl with EG:=P.cellsOf t} w
 | .loop l=>Ob ρ l pl w
structure Rel (P:Program) (ρ:xr) (h:za) (w:World):Prop where
 next:ρ.next=h.next
 ro:h.ro<=h.next
 Qv:∀b o,h.get b=some o->b<h.next
 ok:∀b o,h.get b=some o->∃pl,ρ.m b=some pl/\ue P ρ (decide (h.ro<=b)) o pl w
 inj:∀b1 b2 o1 o2 p1 p2,h.get b1=some o1->h.get b2=some o2->ρ.m b1=some p1->ρ.m b2=some p2->p1.c=p2.c->b1=b2
 dQ:P.globals.size<=h.ro
 Yt:∀b pl,b<P.globals.size->ρ.m b=some pl->pl.c=b/\pl.base=0
def J0(ρ:xr)(h:za)(c:Nat):Prop := ∃b o pl,h.get b=some o/\h.ro<=b/\ρ.m b=some pl/\pl.c=c
structure Step (P:Program) (ρ:xr) (h:za) (w:World) (ρ':xr) (h':za) (w':World):Prop where
 le:ρ.le ρ'
 rel:Rel P ρ' h' w'
 ro:h'.ro=h.ro
 os:w'.os=w.os
 tape:w'.tape=w.tape
 output:w'.output=w.output
 size:w.heap.size<=w'.heap.size
 frame:∀c,c<w.heap.size->¬J0 ρ h c->w'.heap[c]? = w.heap[c]?
 fy:∀c,c<w.heap.size->J0 ρ' h' c->J0 ρ h c
theorem Step.refl{P:Program}{ρ:xr}{h:za}{w:World}(hr:Rel P ρ h w):Step P ρ h w ρ h w :=
 ⟨xr.le_refl _,hr,rfl,rfl,rfl,rfl,aal _,λ_ _ _=>rfl,λ_ _ h=>h⟩
theorem Step.trans{P:Program}{ρ ρ' ρ'':xr}{h h' h'':za}{w w' w'':World}(a:Step P ρ h w ρ' h' w')(b:Step P ρ' h' w' ρ'' h'' w'') :
  Step P ρ h w ρ'' h'' w'' :=
 ⟨xr.le_trans a.le b.le,b.rel,b.ro.trans a.ro,b.os.trans a.os,b.tape.trans a.tape,b.output.trans a.output,aaY a.size b.size,
  λc hc hn=>(b.frame c (aan hc a.size) (λhm=>hn (a.fy c hc hm))).trans (a.frame c hc hn),
  λc hc hm=>a.fy c hc (b.fy c (aan hc a.size) hm)⟩
def qH(tm:Array Value)(d:Option Nat)(v:Value):Array Value :=
 match d with
 |some d=>tm.setIfInBounds d v
 |none=>tm
theorem vV.put{ρ:xr}{s s':Env}{tm:Array Value}{d:Option Nat}{v v':Value}(h:vV ρ s tm)(hv:zI ρ v v')(hp:s.put d v=some s') :
  vV ρ s' (qH tm d v'):=by
 cases d with
 |none=>simp only[Env.put,aab]at hp;subst hp;exact h
 |some d=>
  simp only[Env.put]at hp;cases hb:Nat.blt d s.size with
  |false=>rw[hb]at hp;cases hp
  |true=>
   rw[hb]at hp;simp only[aax,aab]at hp;subst hp;have hd:d<s.size:=by simpa [aa0] using hb
   refine⟨by simp[qH,h.size],λi=>?_⟩;rw[Env.yD];simp only[qH];by_cases e:i=d
   ·subst e;rw[aam rfl]
    have:(tm.setIfInBounds i v').getD i undef=v':=by
     simp[aay,<- h.size,hd]
    rw[this];exact hv
   ·rw[aak e]
    have:(tm.setIfInBounds d v').getD i undef=tm.getD i undef:=by
     simp[aay,Ne.symm e]
    rw[this];exact h.get i
end
end Go.Ai
namespace Go.Ai
noncomputable section
variable {P:Program}
theorem Rel.place{ρ:xr}{h:za}{w:World}(hr:Rel P ρ h w){b:Nat}{c:List Value}{t:TypeId}{pl:Place}(hg:h.get b=some (.cells c t))(hm:ρ.m b=some pl) :
  xw P ρ (decide (h.ro<=b)) c t pl w:=by
 obtain⟨pl',hm',hc⟩:=hr.ok b _ hg;rw[hm]at hm';cases hm';exact hc
theorem Rel.cells{ρ:xr}{h:za}{w:World}(hr:Rel P ρ h w)(b:Nat)(c:List Value)(t:TypeId)(hg:h.get b=some (.cells c t)):∃pl,ρ.m b=some pl/\xw P ρ (decide (h.ro<=b)) c t pl w:=hr.ok b _ hg
theorem Rel.Lp{ρ:xr}{h:za}{w:World}(hr:Rel P ρ h w){b:Nat}{o:vg}{pl:Place}(hg:h.get b=some o)(hm:ρ.m b=some pl):ue P ρ (decide (h.ro<=b)) o pl w:=by
 obtain⟨pl',hm',hc⟩:=hr.ok b _ hg;rw[hm]at hm';cases hm';exact hc
theorem xw.cell{ρ:xr}{wr:Bool}{c:List Value}{t:TypeId}{pl:Place}{w:World}(hc:xw P ρ wr c t pl w){i:Nat}{x:Value}(hx:c[i]? = some x) :
  ∃y,w.cell? ⟨pl.c,pl.base+i,none⟩=some y/\zI ρ x y:=by
 obtain⟨cs,fz,hb,_,_,_,_,hv⟩:=hc;obtain⟨y,hy,hxy⟩:=hv i x hx;exact⟨y,by simp[World.cell?,hb,hy],hxy⟩
theorem xw.LV{ρ:xr}{c:List Value}{t:TypeId}{pl:Place}{w:World}(hc:xw P ρ true c t pl w){i:Nat}(hi:i<pl.size) :
  w.frozen? ⟨pl.c,i,none⟩=false:=by
 obtain⟨cs,fz,hb,_,_,_,hf,_⟩:=hc;have:=hf rfl i hi;obtain⟨lo,hi'⟩:=fz;simp[World.frozen?,hb]at this ⊢;exact this
theorem xw.other{ρ:xr}{wr:Bool}{c:List Value}{t:TypeId}{pl:Place}{w w':World}(hc:xw P ρ wr c t pl w)(hb:w'.heap[pl.c]? = w.heap[pl.c]?):xw P ρ wr c t pl w':=by
 obtain⟨cs,fz,h1,h2⟩:=hc;exact⟨cs,fz,hb.trans h1,h2⟩
theorem xw.mono{ρ ρ':xr}(hle:ρ.le ρ'){wr:Bool}{c:List Value}{t:TypeId}{pl:Place}{w:World}(hc:xw P ρ wr c t pl w):xw P ρ' wr c t pl w:=by
 obtain⟨cs,fz,h1,h2,h3,h4,h5,h6⟩:=hc;exact⟨cs,fz,h1,h2,h3,h4,h5,λi x hx=>by obtain⟨y,hy,hv⟩:=h6 i x hx;exact⟨y,hy,hv.mono hle⟩⟩
theorem xw.lt{ρ:xr}{wr:Bool}{c:List Value}{t:TypeId}{pl:Place}{w:World}(hc:xw P ρ wr c t pl w):pl.c<w.heap.size:=by
 obtain⟨cs,fz,h1,_⟩:=hc;rcases aaA pl.c w.heap.size with h|h
 ·exact h
 ·rw[aaM h]at h1;cases h1
theorem xw.Ha{ρ:xr}{c:List Value}{t:TypeId}{pl:Place}{w:World}{wr wr':Bool}(hw:wr'=true->wr=true)(hc:xw P ρ wr c t pl w):xw P ρ wr' c t pl w:=by
 obtain⟨cs,fz,h1,h2,h3,h4,h5,h6⟩:=hc;exact⟨cs,fz,h1,h2,h3,h4,λe=>h5 (hw e),h6⟩
theorem ue.other{ρ:xr}{wr:Bool}{o:vg}{pl:Place}{w w':World}(hc:ue P ρ wr o pl w)(hb:w'.heap[pl.c]? = w.heap[pl.c]?):ue P ρ wr o pl w':=by
 cases o with
 |cells c t=>exact xw.other hc hb
 |map es q=>obtain⟨ms,h1,h2⟩:=hc;exact⟨ms,hb.trans h1,h2⟩
 |iter m a b c=>obtain⟨m',h1,h2⟩:=hc;exact⟨m',hb.trans h1,h2⟩
 |siter s pos=>exact⟨hb.trans hc.1,hc.2⟩
 |tab c=>obtain⟨t,h1⟩:=hc;exact⟨t,xw.other h1 hb⟩
 |loop l=>obtain⟨tm,d,fn,h1,h2⟩:=hc;exact⟨tm,d,fn,hb.trans h1,h2⟩
theorem ue.mono{ρ ρ':xr}(hle:ρ.le ρ'){wr:Bool}{o:vg}{pl:Place}{w:World}(hc:ue P ρ wr o pl w):ue P ρ' wr o pl w:=by
 cases o with
 |cells c t=>exact xw.mono hle hc
 |map es q=>obtain⟨ms,h1,h2,h3⟩:=hc;exact⟨ms,h1,h2,λi x m hx hm=>⟨(h3 i x m hx hm).1.mono hle,(h3 i x m hx hm).2.1.mono hle,(h3 i x m hx hm).2.2⟩⟩
 |iter m a b c=>obtain⟨m',h1,h0,h2⟩:=hc;exact⟨m',h1,h0,h2.mono hle⟩
 |tab c=>obtain⟨t,h1⟩:=hc;exact⟨t,xw.mono hle h1⟩
 |siter s pos=>exact hc
 |loop l=>obtain⟨tm,d,fn,h1,h2⟩:=hc;exact⟨tm,d,fn,h1,h2.mono hle⟩
theorem YV{w:World}{r:Nat}{o:Obj}(h:w.heap[r]? = some o):r<w.heap.size:=by
 rcases aaA r w.heap.size with hl|hl
 ·exact hl
 ·rw[aaM hl]at h;cases h
theorem ue.lt{ρ:xr}{wr:Bool}{o:vg}{pl:Place}{w:World}(hc:ue P ρ wr o pl w):pl.c<w.heap.size:=by
 cases o with
 |cells c t=>exact xw.lt hc
 |map es q=>obtain⟨ms,h1,_⟩:=hc;exact YV h1
 |iter m a b c=>obtain⟨m',h1,_⟩:=hc;exact YV h1
 |siter s pos=>exact YV hc.1
 |tab c=>obtain⟨t,h1⟩:=hc;exact h1.lt
 |loop l=>obtain⟨tm,d,fn,h1,_⟩:=hc;exact YV h1
theorem ue.Ha{ρ:xr}{o:vg}{pl:Place}{w:World}{wr wr':Bool}(hw:wr'=true->wr=true)(hc:ue P ρ wr o pl w):ue P ρ wr' o pl w:=by
 cases o with
 |cells c t=>exact xw.Ha hw hc
 |map es q=>exact hc
 |tab c=>exact hc
 |iter m a b c=>exact hc
 |siter s pos=>exact hc
 |loop l=>exact hc
theorem Rel.drop{ρ:xr}{h:za}{w:World}(hr:Rel P ρ h w)(b:Nat):Rel P ρ (h.set b none) w:=by
 have hsub:∀x o,(h.set b none).get x=some o->h.get x=some o:=by
  intro x o hx;rw[za.yD]at hx;split at hx
  ·cases hx
  ·exact hx
 exact⟨hr.next,hr.ro,λx o hx=>hr.Qv x o (hsub x o hx),λx o hx=>hr.ok x o (hsub x _ hx),
  λb1 b2 o1 o2 p1 p2 h1 h2=>hr.inj b1 b2 o1 o2 p1 p2 (hsub _ _ h1) (hsub _ _ h2),hr.dQ,hr.Yt⟩
theorem Step.DK{ρ:xr}{h:za}{w w':World}(hr:Rel P ρ h w){b:Nat}{ob ob':vg}{pl:Place}(hg:h.get b=some ob)(hm:ρ.m b=some pl)(hro:h.ro<=b)
  (hok:ue P ρ true ob' pl w') (hos:w'.os=w.os) (htape:w'.tape=w.tape) (hout:w'.output=w.output) (hsz:w'.heap.size=w.heap.size)
  (hfr:∀k,k≠pl.c->w'.heap[k]? = w.heap[k]?):Step P ρ h w ρ (h.set b (some ob')) w':=by
 have hold:∀x o,(h.set b (some ob')).get x=some o->∃o',h.get x=some o':=by
  intro x o hx;rw[za.yD]at hx;split at hx
  ·rename_i e;subst e;exact⟨_,hg⟩
  ·exact⟨o,hx⟩
 refine⟨xr.le_refl _,⟨hr.next,hr.ro,?_,?_,?_,hr.dQ,hr.Yt⟩,rfl,hos,htape,hout,by omega,?_,?_⟩
 ·intro x o hx;obtain⟨o',ho'⟩:=hold x o hx;exact hr.Qv x o' ho'
 ·intro x ox hx;rw[za.yD]at hx;split at hx
  ·rename_i e;subst e;cases hx;exact⟨pl,hm,hok.Ha (λ_=>rfl)⟩
  ·rename_i e;obtain⟨p,hp,hc⟩:=hr.ok x ox hx;refine⟨p,hp,hc.other (hfr _ ?_)⟩;intro e2;exact e (hr.inj x b _ _ p pl hx hg hp hm e2)
 ·intro b1 b2 o1 o2 p1 p2 h1 h2;obtain⟨o1',h1'⟩:=hold _ _ h1;obtain⟨o2',h2'⟩:=hold _ _ h2;exact hr.inj b1 b2 o1' o2' p1 p2 h1' h2'
 ·intro k hk hn;refine hfr k ?_;intro e;exact hn ⟨b,_,pl,hg,hro,hm,e.symm⟩
 ·rintro k hk ⟨x,o,p,hx,hrx,hp,hpc⟩;obtain⟨o',ho'⟩:=hold x o hx;exact⟨x,o',p,ho',hrx,hp,hpc⟩
theorem Step.write{ρ:xr}{h:za}{w w':World}(hr:Rel P ρ h w){b:Nat}{c c':List Value}{t:TypeId}{pl:Place}(hg:h.get b=some (.cells c t))(hm:ρ.m b=some pl)(hro:h.ro<=b)
  (hok:xw P ρ true c' t pl w') (hos:w'.os=w.os) (htape:w'.tape=w.tape) (hout:w'.output=w.output) (hsz:w'.heap.size=w.heap.size)
  (hfr:∀k,k≠pl.c->w'.heap[k]? = w.heap[k]?):Step P ρ h w ρ (h.set b (some (.cells c' t))) w' :=
 Step.DK hr hg hm hro (ob' := .cells c' t) hok hos htape hout hsz hfr
theorem size_setCell(w:World)(a:Addr)(v:Value):(w.setCell a v).heap.size=w.heap.size:=by simp[World.setCell]
theorem Qx(w:World)(a:Addr)(v:Value)(k:Nat)(h:k≠a.block):(w.setCell a v).heap[k]? = w.heap[k]?:=RowKit.Below.heap_setCell w a v k h
theorem xw.setCell{ρ:xr}{wr:Bool}{c:List Value}{t:TypeId}{pl:Place}{w:World}(hc:xw P ρ wr c t pl w){i:Nat}{v v':Value}(hi:i<c.length)(hv:zI ρ v v') :
  xw P ρ wr (c.set i v) t pl (w.setCell ⟨pl.c,pl.base+i,none⟩ v'):=by
 obtain⟨cs,fz,h1,h2,h3,h4,h5,h6⟩:=hc;refine⟨cs.setIfInBounds (pl.base+i) v',fz,?_,by simpa using h2,h3,by simpa using h4,h5,?_⟩
 ·simp[World.setCell,Array.getElem?_modify,h1]
 ·intro j x hx;by_cases e:j=i
  ·subst e;rw[aaZ hi]at hx;cases hx;exact⟨v',by rw[aa7,aam rfl,aam (by omega)],hv⟩
  ·rw[abo (λh=>e h.symm)]at hx;obtain⟨y,hy,hxy⟩:=h6 j x hx;exact⟨y,by rw[aa7,aak (by omega)];exact hy,hxy⟩
theorem l9{ρ:xr}{h:za}{w:World}(hr:Rel P ρ h w){b:Nat}{c:List Value}{t:TypeId}{pl:Place}(hg:h.get b=some (.cells c t))(hm:ρ.m b=some pl)(hro:h.ro<=b)
  {i:Nat} (hi:i<c.length) {v v':Value} (hv:zI ρ v v') (hcell:wi v=true) :
  (store ⟨pl.c,pl.base+i,none⟩ v').run P w=.ok () (w.setCell ⟨pl.c,pl.base+i,none⟩ v') /\
   Step P ρ h w ρ (h.set b (some (.cells (c.set i v) t))) (w.setCell ⟨pl.c,pl.base+i,none⟩ v'):=by
 have hc:=hr.place hg hm;rw[show decide (h.ro<=b)=true by simpa using hro]at hc;obtain⟨y,hy,_⟩:=hc.cell (i:=i) (aae hi);have hsz:pl.base+i<pl.size:=by obtain⟨cs,fz,_,h2,_,h4,_⟩:=hc;omega
 have hone:v'.oneCell'=true:=by have:=iG hv;rw[hcell]at this;cases v' <;> simp_all [wi,Value.oneCell']
 refine⟨?_,Step.write hr hg hm hro (hc.setCell hi hv) rfl rfl rfl (size_setCell _ _ _) (λk hk=>Qx _ _ _ _ hk)⟩;rw[run_store _ _ _ _ _ hone,hy];simp[hc.LV hsz]
def zf(c:List Value)(i:Nat):List Value->List Value
 |[]=>c
 |v::vs=>zf (c.set i v) (i+1) vs
theorem ju(vs:List Value):∀(c:List Value) (i:Nat),(zf c i vs).length=c.length:=by
 induction vs with
 |nil=>intro c i;rfl
 |cons v vs ih=>intro c i;simp[zf,ih]
theorem za.set_set(h:za)(b:Nat)(x y:Option vg)(k:Nat):((h.set b x).set b y).get k=(h.set b y).get k:=by
 simp only[za.yD];split <;> rfl
structure PQ (h h':za):Prop where
 next:h'.next=h.next
 ro:h'.ro=h.ro
 get:∀b,h'.get b=h.get b
theorem Rel.same{ρ:xr}{h h':za}{w:World}(hr:Rel P ρ h w)(e:PQ h h'):Rel P ρ h' w :=
 ⟨hr.next.trans e.next.symm,by rw[e.ro,e.next];exact hr.ro,λb o hb=>by rw[e.next];exact hr.Qv b o ((e.get b) ▸ hb),
  λb o hb=>by rw[e.ro];exact hr.ok b o ((e.get b) ▸ hb),
  λb1 b2 o1 o2 p1 p2 h1 h2=>hr.inj b1 b2 o1 o2 p1 p2 ((e.get b1) ▸ h1) ((e.get b2) ▸ h2),by rw[e.ro];exact hr.dQ,hr.Yt⟩
theorem Step.same{ρ ρ':xr}{h h' h'':za}{w w':World}(s:Step P ρ h w ρ' h' w')(e:PQ h' h''):Step P ρ h w ρ' h'' w' :=
 ⟨s.le,s.rel.same e,e.ro.trans s.ro,s.os,s.tape,s.output,s.size,s.frame,λc hc hm=>s.fy c hc (by
  obtain⟨b,o,pl,hb,hro,hp⟩:=hm;exact⟨b,o,pl,by rw[<- e.get];exact hb,by rw[<- e.ro];exact hro,hp⟩)⟩
theorem Zb(c o i:Nat):(Addr.mk c o none).add i=⟨c,o+i,none⟩:=by
 unfold Addr.add;split
 ·rename_i h;subst h;rfl
 ·rfl
theorem Ke{ρ:xr}{t:TypeId}{pl:Place}{b:Nat}{o:Nat}(hm:ρ.m b=some pl):∀(vs vs':List Value) (h:za) (w:World) (c:List Value) (j:Nat),Rel P ρ h w->h.get b=some (.cells c t)->h.ro<=b ->
  o+j+vs.length<=c.length->wC ρ vs vs'->(∀x∈vs,wi x=true) ->
  ∃w',(storeCells ⟨pl.c,pl.base+o,none⟩ vs' j).run P w=.ok () w'/\Step P ρ h w ρ (h.set b (some (.cells (zf c (o+j) vs) t))) w':=by
 intro vs
 induction vs with
 |nil=>
  intro vs' h w c j hr hg hro hl hv hcell;cases hv.uT;refine⟨w,rfl,(Step.refl hr).same ⟨rfl,rfl,λx=>?_⟩⟩;rw[za.yD];split
  ·rename_i e;subst e;exact hg.symm
  ·rfl
 |cons v vs ih=>
  intro vs' h w c j hr hg hro hl hv hcell;obtain⟨v',vs'',rfl,hv1,hv2⟩:=hv.cons_inv;simp only[aaB]at hl;obtain⟨e1,s1⟩:=l9 hr hg hm hro (i:=o+j) (by omega) hv1 (hcell v (by simp));obtain⟨w',e2,s2⟩:=ih vs'' _ _ (c.set (o+j) v) (j+1) s1.rel (by rw[za.yD,aam rfl]) hro (by simp;omega) hv2 (λx hx=>hcell x (by simp[hx]));refine⟨w',?_,(s1.trans s2).same ⟨rfl,rfl,λx=>?_⟩⟩
  ·simp only[storeCells,Zb,aai,acn]at e1 ⊢;rw[e1];exact e2
  ·rw[za.set_set];rfl
def xr.ext(ρ:xr)(pl:Place):xr:={next:=ρ.next+1,m:=λb=>if b=ρ.next then some pl else ρ.m b}
theorem xr.dU(ρ:xr)(pl:Place):ρ.le (ρ.ext pl):=⟨abC _,λ_ hb=>aak (Nat.ne_of_lt hb)⟩
theorem xr.kP(ρ:xr)(pl:Place):(ρ.ext pl).m ρ.next=some pl:=aam rfl
theorem Rel.KT{ρ:xr}{h:za}{w:World}(hr:Rel P ρ h w){ob:vg}{pl:Place}(hc:ue P (ρ.ext pl) true ob pl w)
  (hfresh:∀b o p,h.get b=some o->ρ.m b=some p->p.c≠pl.c):Rel P (ρ.ext pl) (h.push ob) w:=by
 have hle:=ρ.dU pl
 have hcase:∀x o,(h.push ob).get x=some o->(x=h.next/\o=ob)\/(x<h.next/\h.get x=some o):=by
  intro x o hx;rw[za.vK]at hx;split at hx
  ·rename_i e;cases hx;exact .inl ⟨e,rfl⟩
  ·exact .inr ⟨hr.Qv x o hx,hx⟩
 have hold:∀x,x<h.next->(ρ.ext pl).m x=ρ.m x:=λx hx=>hle.2 x (by rw[hr.next];exact hx);have hnew:(ρ.ext pl).m h.next=some pl:=by rw[<- hr.next];exact ρ.kP pl
 refine⟨by show ρ.next+1=h.next+1;rw[hr.next],aaY hr.ro (abC _),?_,?_,?_,hr.dQ,λb p hb hm=>hr.Yt b p hb (by rw[<- hold b (aan hb (aaY hr.dQ hr.ro))];exact hm)⟩
 ·intro x o hx;rcases hcase x o hx with⟨e,_⟩|⟨hlt,_⟩
  ·subst e;exact aa4 _
  ·exact acz hlt
 ·intro x ox hx;rcases hcase x _ hx with⟨e,eo⟩|⟨hlt,hx'⟩
  ·cases eo;subst e;exact⟨pl,hnew,hc.Ha (λ_=>rfl)⟩
  ·obtain⟨p,hp,hcx⟩:=hr.ok x ox hx';exact⟨p,(hold x hlt).trans hp,hcx.mono hle⟩
 ·intro b1 b2 o1 o2 p1 p2 h1 h2 m1 m2 e;rcases hcase b1 o1 h1 with⟨e1,_⟩|⟨l1,g1⟩ <;> rcases hcase b2 o2 h2 with⟨e2,_⟩|⟨l2,g2⟩
  ·omega
  ·subst e1;rw[hnew]at m1;cases m1;rw[hold _ l2]at m2;exact absurd e.symm (hfresh b2 o2 p2 g2 m2)
  ·subst e2;rw[hnew]at m2;cases m2;rw[hold _ l1]at m1;exact absurd e (hfresh b1 o1 p1 g1 m1)
  ·rw[hold _ l1]at m1;rw[hold _ l2]at m2;exact hr.inj b1 b2 o1 o2 p1 p2 g1 g2 m1 m2 e
theorem Rel.push{ρ:xr}{h:za}{w:World}(hr:Rel P ρ h w){c:List Value}{t:TypeId}{pl:Place}(hc:xw P (ρ.ext pl) true c t pl w)
  (hfresh:∀b o p,h.get b=some o->ρ.m b=some p->p.c≠pl.c):Rel P (ρ.ext pl) (h.push (.cells c t)) w:=hr.KT (ob := .cells c t) hc hfresh
theorem Rel.grow{ρ:xr}{h:za}{w w':World}(hr:Rel P ρ h w)(hold:∀k,k<w.heap.size->w'.heap[k]? = w.heap[k]?):Rel P ρ h w' :=
 ⟨hr.next,hr.ro,hr.Qv,λb o hb=>by obtain⟨pl,hp,hc⟩:=hr.ok b o hb;exact⟨pl,hp,hc.other (hold _ hc.lt)⟩,hr.inj,hr.dQ,hr.Yt⟩
theorem Step.KT{ρ:xr}{h:za}{w w':World}(hr:Rel P ρ h w){ob:vg}{pl:Place}{wo:Obj}(hpl:pl.c=w.heap.size)
  (hnew:w'.heap=w.heap.push wo) (hok:ue P (ρ.ext pl) true ob pl w')
  (hos:w'.os=w.os) (htape:w'.tape=w.tape) (hout:w'.output=w.output) :
  Step P ρ h w (ρ.ext pl) (h.push ob) w':=by
 have hold:∀k,k<w.heap.size->w'.heap[k]? = w.heap[k]?:=by
  intro k hk;rw[hnew,Array.getElem?_push,aak (by omega)]
 have hle:=ρ.dU pl;have hr':=hr.grow hold;refine⟨hle,hr'.KT hok ?_,rfl,hos,htape,hout,by rw[hnew];simp,λk hk _=>hold k hk,?_⟩
 ·intro b o p hg hm e;obtain⟨p',hp',hcx⟩:=hr.ok b o hg;rw[hm]at hp';cases hp';have:=hcx.lt;omega
 ·rintro k hk ⟨b,o,p,hg,hro,hm,e⟩;rw[za.vK]at hg;split at hg
  ·rename_i eb;subst eb;rw[<- hr.next,xr.kP]at hm;cases hm;omega
  ·have hlt:=hr.Qv b o hg;refine⟨b,o,p,hg,hro,?_,e⟩;rw[<- hm];exact(hle.2 b (by rw[hr.next];exact hlt)).symm
theorem Step.push{ρ:xr}{h:za}{w w':World}(hr:Rel P ρ h w){c:List Value}{t:TypeId}{cs:Array Value}{fz:Nat×Nat}
  (hnew:w'.heap=w.heap.push (.cells cs t fz)) (hfz:∀i,i<cs.size->¬(fz.1<=i/\i<fz.2)) (hlen:c.length<=cs.size) (hv:∀(i:Nat) x,c[i]? = some x->∃y,cs[i]? = some y/\zI ρ x y)
  (hos:w'.os=w.os) (htape:w'.tape=w.tape) (hout:w'.output=w.output) :
  Step P ρ h w (ρ.ext ⟨w.heap.size,0,cs.size,P.cellsOf t⟩) (h.push (.cells c t)) w':=by
 refine Step.KT hr (ob := .cells c t) rfl hnew ⟨cs,fz,by rw[hnew];simp,rfl,⟨rfl,Nat.zero_mod _⟩,by simpa using hlen,λ_=>hfz,?_⟩ hos htape hout;intro i x hx;obtain⟨y,hy,hxy⟩:=hv i x hx;exact⟨y,by simpa using hy,hxy.mono (ρ.dU _)⟩
theorem JU{ρ:xr}{h:za}{w:World}(hr:Rel P ρ h w){c:List Value}{t:TypeId}{cs:Array Value}(hlen:c.length<=cs.size)(hv:∀(i:Nat) x,c[i]? = some x->∃y,cs[i]? = some y/\zI ρ x y) :
  (newRow t cs).run P w=.ok ⟨w.heap.size,0,none⟩ {w with heap:=w.heap.push (.cells cs t)} /\
   Step P ρ h w (ρ.ext ⟨w.heap.size,0,cs.size,P.cellsOf t⟩) (h.push (.cells c t)) {w with heap:=w.heap.push (.cells cs t)} :=
 ⟨rfl,Step.push hr rfl (λi _ hi=>by simp at hi) hlen hv rfl rfl rfl⟩
theorem zI.new{ρ:xr}{h:za}{w:World}(hr:Rel P ρ h w)(pl:Place)(hb:pl.base=0):zI (ρ.ext pl) (.pointer (some ⟨h.next,0,none⟩)) (.pointer (some ⟨pl.c,0,none⟩)):=by
 have:=zI.ptr (ρ:=ρ.ext pl) (b:=h.next) (off:=0) (pl:=pl) (by show h.next<ρ.next+1;rw[hr.next];exact aa4 _) (by rw[<- hr.next];exact ρ.kP pl);rw[hb]at this;exact this
theorem jw{ρ:xr}{wr:Bool}{c:List Value}{t:TypeId}{pl:Place}{w:World}(hc:xw P ρ wr c t pl w)(o n:Nat)(h:o+n<=c.length) :
  ∃ys:List Value,(loadCells ⟨pl.c,pl.base+o,none⟩ n).run P w=.ok ys.toArray w/\wC ρ ((c.drop o).take n) ys:=by
 obtain⟨cs,fz,h1,h2,h3,h4,h5,h6⟩:=hc;refine⟨((cs.toList.drop (pl.base+o)).take n),?_,?_,?_⟩
 ·have hlen:((cs.toList.drop (pl.base+o)).take n).length=n:=by simp;omega
  have:=run_loadCells_list (P:=P) w ⟨pl.c,pl.base+o,none⟩ ((cs.toList.drop (pl.base+o)).take n) (λj v hj=>by
   have hjn:j<n:=by
    rcases aaA j n with h|h
    ·exact h
    ·rw[aao (by omega)]at hj;cases hj
   rw[aaX hjn,aaW]at hj;rw[Zb];simp[World.cell?,h1];simpa using hj)
  rw[hlen]at this;exact this
 ·simp;omega
 ·intro i x y hx hy
  have hi:i<n:=by
   rcases aaA i n with h|h
   ·exact h
   ·rw[aao (by simp;omega)]at hx;cases hx
  rw[aaX hi,aaW]at hx hy;obtain⟨y',hy',hxy⟩:=h6 _ _ hx
  have:y=y':=by
   have e:pl.base+(o+i)=pl.base+o+i:=by omega
   rw[e]at hy';have hy2:cs[pl.base+o+i]? = some y:=by simpa using hy
   rw[hy2]at hy';cases hy';rfl
  rw[this];exact hxy
end
noncomputable section
def z9{α:Type}(P:Program):Sem α->Option α
 | .pure a=>some a
 | .program k=>z9 P (k P)
 |_=>none
theorem zj{α:Type}{P:Program}{s:Sem α}{a:α}(h:z9 P s=some a)(w:World):s.run P w=.ok a w:=by
 induction s with
 |pure b=>simp only[z9,aab]at h;subst h;rfl
 |program k ih=>simp only[z9]at h;exact ih P h
 |_=>cases h
def flat:Value->Bool
 | .agg a=>a.toList.all plain
 |v=>plain v
theorem BF{ρ:xr}{v v':Value}(h:zI ρ v v')(hp:plain v=true):v'=v:=by
 cases h with
 |sP h=>cases hp
 |bool|int|float|string|ptrNil|nilFunc|nilIface|mapNil=>rfl
 |ptr|Yt|slice|sliceOut|iface|agg|map|yield=>simp[plain]at hp
 |sliceNil c=>simp only[plain,aah]at hp;obtain rfl:=aar hp.2;rfl
 |func ha hc _ _=>
  simp only[plain,aah]at hp;obtain rfl:=VO hp.1;obtain rfl:=VO hp.2;rw[abM ha.symm,abM hc.symm]
 |tuple ha _=>
  obtain rfl:=VO hp;rw[abM ha.symm]
theorem lG{xs ys:List Value}(hl:xs.length=ys.length)(h:∀(i:Nat) x y,xs[i]? = some x->ys[i]? = some y->y=x):ys=xs:=by
 apply abe;intro i;rcases aaA i xs.length with hi|hi
 ·rw[aae hi,aae (hl ▸ hi)]
  congr 1
  exact h i _ _ (aae hi) (aae (hl ▸ hi))
 ·rw[aao hi,aao (by omega)]
theorem kR{ρ:xr}{v v':Value}(h:zI ρ v v')(hp:flat v=true):v'=v:=by
 cases h with
 |agg ha hv=>
  rename_i a a';simp only[flat,aaJ]at hp
  congr 1
  apply ab8;refine lG (by simpa using ha) (λi x y hx hy=>?_);exact BF (hv i x y (by simpa using hx) (by simpa using hy)) (hp x (aaG hx))
 |_=>first|rfl|exact BF (ρ:=ρ) (by constructor <;> assumption) hp
theorem zI.of_flat(ρ:xr){v:Value}(h:flat v=true):zI ρ v v:=by
 cases v with
 |agg a=>
  simp only[flat,aaJ]at h
  exact .agg rfl (λi x y hx hy=>by
   rw[hx]at hy;cases hy;exact .ZM ρ (h x (aaG (by simpa using hx))))
 |_=>exact .ZM ρ h
def jk(s:Env):Operand->Option Value
 | .tmp t=>some (s.get t)
 | .const v=>cond (flat v) (some v) none
 | .global g=>some (.pointer (some ⟨g,0,some 0⟩))
 | .func f=>some (.func (.func f) #[] #[])
theorem zX{ρ:xr}{s:Env}{a:Act}(hs:vV ρ s a.tmps){x:Operand}{v:Value}(h:jk s x=some v):zI ρ v (a.eval x):=by
 cases x with
 |tmp t=>simp only[jk,aab]at h;subst h;exact hs.get t
 |const c=>
  simp only[jk]at h;cases hf:flat c with
  |false=>rw[hf]at h;cases h
  |true=>rw[hf]at h;simp only[aax,aab]at h;subst h;exact .of_flat ρ hf
 |global g=>simp only[jk,aab]at h;subst h;exact .Yt
 |func f=>simp only[jk,aab]at h;subst h;exact .ZM ρ rfl
def Um(s:Env):List Operand->Option (List Value)
 |[]=>some []
 |x::xs=>match jk s x with
  |none=>none
  |some v=>match Um s xs with
   |none=>none
   |some vs=>some (v::vs)
theorem j2{ρ:xr}{s:Env}{a:Act}(hs:vV ρ s a.tmps):∀{xs:List Operand} {vs:List Value},Um s xs=some vs->wC ρ vs (xs.map a.eval)
 |[],vs,h=>by simp only[Um,aab]at h;subst h;exact .nil ρ
 |x::xs,vs,h=>by
  simp only[Um]at h;split at h
  ·cases h
  ·rename_i v hv;split at h
   ·cases h
   ·rename_i vs' hvs;simp only[aab]at h;subst h;exact .cons (zX hs hv) (j2 hs hvs)
theorem zI.cells{ρ:xr}{v v':Value}(h:zI ρ v v'):wC ρ v.cells.toList v'.cells.toList:=by
 cases h with
 |agg ha hv=>exact⟨by simpa [Value.cells] using ha,λi x y hx hy=>hv i x y (by simpa [Value.cells] using hx) (by simpa [Value.cells] using hy)⟩
 |sP h=>cases v' <;> first|exact .cons (.sP h) (.nil ρ)|cases h
 |_=>exact .cons (by constructor <;> assumption) (.nil ρ)
def apart(P:Program)(t:TypeId)(cs:List Value)(off:Nat):Option Value :=
 match z9 P (isAgg t) with
 |none=>none
 |some true=>(match z9 P (sizeOf t) with
  |none=>none
  |some n=>some (.agg ((cs.drop off).take n).toArray))
 |some false=>cs[off]?
theorem AE{P:Program}{ρ:xr}{t:TypeId}{cs:List Value}{cs':Array Value}{off:Nat}{v:Value}(h:apart P t cs off=some v)(hc:wC ρ cs cs'.toList)(w:World) :
  ∃v',(part t cs' off).run P w=.ok v' w/\zI ρ v v':=by
 simp only[apart]at h;split at h
 ·cases h
 ·rename_i hagg;split at h
  ·cases h
  ·rename_i n hn;simp only[aab]at h;subst h;refine⟨_,by simp only[part,aai,zj hagg,aad,aac,zj hn,aap];rfl,?_⟩;refine .agg ?_ ?_
   ·simp only[List.size_toArray,acq,aca,Array.size_extract,hc.1,abx];omega
   ·intro i x y hx hy;rw[abP]at hx;rw[Array.getElem?_extract]at hy;split at hy
    ·rename_i hi;rw[aaX (by omega),aaW]at hx;exact hc.2 _ _ _ hx (by simpa using hy)
    ·cases hy
 ·rename_i hagg;obtain⟨y,hy,hxy⟩:=hc.get h;refine⟨y,?_,hxy⟩;have hy':cs'[off]? = some y:=by simpa using hy
  simp only[part,aai,zj hagg,aad,abc,aat,hy',aap]
def zd(P:Program)(t:TypeId)(a:Value)(h:za):Option Value :=
 match a with
 | .pointer (some ⟨b,off,none⟩)=>(match h.get b with
   |none=>none
   |some (.cells c _)=>(match z9 P (isAgg t) with
    |none=>none
    |some true=>(match z9 P (sizeOf t) with
     |none=>none
     |some n=>cond (Nat.ble (off+n) c.length) (some (.agg ((c.drop off).take n).toArray)) none)
    |some false=>c[off]?)
   |some _=>none)
 | .pointer (some ⟨b,off,some 0⟩)=>cond (Nat.blt b P.globals.size) (match h.get b with
   |none=>none
   |some (.tab c)=>(match z9 P (isAgg t) with
    |none=>none
    |some true=>(match z9 P (sizeOf t) with
     |none=>none
     |some n=>cond (Nat.ble (off+n) c.length) (some (.agg ((c.drop off).take n).toArray)) none)
    |some false=>c[off]?)
   |some _=>none) none
 |_=>none
theorem eP{P:Program}{ρ:xr}{t:TypeId}{a a':Value}{h:za}{v:Value}{w:World}(he:zd P t a h=some v)(hr:Rel P ρ h w)(ha:zI ρ a a') :
  ∃v',(Instr.loadAt t a').run P w=.ok v' w/\zI ρ v v':=by
 unfold zd at he;split at he
 ·rename_i b off;cases ha with
  |ptr hb hm=>
   rename_i pl;split at he
   ·cases he
   ·rename_i c t' hg;have hc:=hr.place hg hm;split at he
    ·cases he
    ·rename_i hagg;split at he
     ·cases he
     ·rename_i n hn;cases hle:Nat.ble (off+n) c.length with
      |false=>rw[hle]at he;cases he
      |true=>
       rw[hle]at he;simp only[aax,aab]at he;subst he;obtain⟨ys,hys,hv⟩:=jw hc off n (aaH hle);refine⟨.agg ys.toArray,?_,.agg (by simpa using hv.1) (λi x y hx hy=>hv.2 i x y (by simpa using hx) (by simpa using hy))⟩;simp only[Instr.loadAt,Instr.sureAddr,loadVar,aai,aap,aad,zj hagg,aac,zj hn,hys]
    ·rename_i hagg;obtain⟨y,hy,hxy⟩:=hc.cell he;refine⟨y,?_,hxy⟩;simp only[Instr.loadAt,Instr.sureAddr,loadVar,aai,aap,aad,zj hagg,abc,aat,run_load,hy]
   ·cases he
 ·rename_i b off;cases ha with
  |Yt=>
   cases hbl:Nat.blt b P.globals.size with
   |false=>rw[hbl]at he;cases he
   |true=>
    rw[hbl]at he;simp only[aax]at he;have hbl:b<P.globals.size:=by simpa [aa0] using hbl
    split at he
    ·cases he
    ·rename_i c hg;obtain⟨pl,hm,t',hc⟩:=hr.ok b _ hg;obtain⟨q1,q2⟩:=hr.Yt b pl hbl hm;split at he
     ·cases he
     ·rename_i hagg;split at he
      ·cases he
      ·rename_i n hn;cases hle:Nat.ble (off+n) c.length with
       |false=>rw[hle]at he;cases he
       |true=>
        rw[hle]at he;simp only[aax,aab]at he;subst he;obtain⟨ys,hys,hv⟩:=jw hc off n (aaH hle);simp only[q1,q2,aau]at hys;refine⟨.agg ys.toArray,?_,.agg (by simpa using hv.1) (λi x y hx hy=>hv.2 i x y (by simpa using hx) (by simpa using hy))⟩;simp only[Instr.loadAt,Instr.sureAddr,loadVar,aai,aap,aad,zj hagg,aac,zj hn,hys]
     ·rename_i hagg;obtain⟨y,hy,hxy⟩:=hc.cell he;simp only[q1,q2,aau]at hy;refine⟨y,?_,hxy⟩;simp only[Instr.loadAt,Instr.sureAddr,loadVar,aai,aap,aad,zj hagg,abc,aat,run_load,hy]
    ·cases he
 ·cases he
def zn(P:Program)(t:TypeId)(a v:Value)(h:za):Option za :=
 match a with
 | .pointer (some ⟨b,off,none⟩)=>(match h.get b with
   |none=>none
   |some (.cells c t')=>(match z9 P (sizeOf t) with
    |none=>none
    |some n=>cond (Nat.beq v.cells.size n&&Nat.ble (off+n) c.length&&Nat.ble h.ro b&&v.cells.toList.all wi) (some (h.set b (some (.cells (zf c off v.cells.toList) t')))) none)
   |some _=>none)
 |_=>none
theorem rM{P:Program}{ρ:xr}{t:TypeId}{a a' v v':Value}{h h':za}{w:World}(he:zn P t a v h=some h')(hr:Rel P ρ h w)(ha:zI ρ a a')(hv:zI ρ v v') :
  ∃w',(Instr.storeAt t a' v').run P w=.ok () w'/\Step P ρ h w ρ h' w':=by
 unfold zn at he;split at he
 ·rename_i b off;cases ha with
  |ptr hb hm=>
   rename_i pl;split at he
   ·cases he
   ·rename_i c t' hg;split at he
    ·cases he
    ·rename_i n hn;cases hc:(Nat.beq v.cells.size n&&Nat.ble (off+n) c.length&&Nat.ble h.ro b&&v.cells.toList.all wi) with
     |false=>rw[hc]at he;cases he
     |true=>
      rw[hc]at he;simp only[aax,aab]at he;subst he;simp only[aah,aaJ]at hc;obtain⟨⟨⟨h1,h2⟩,h3⟩,h4⟩:=hc;have h1:=aar h1;have h2:=aaH h2;have h3:=aaH h3;have hcells:=hv.cells;have hsz:v'.cells.size=n:=by have:=hcells.1;simp only[abx]at this;omega
      obtain⟨w',e,st⟩:=Ke (o:=off) hm v.cells.toList v'.cells.toList h w c 0 hr hg h3 (by simp only[abx];omega) hcells h4;refine⟨w',?_,st⟩;simp only[Instr.storeAt,Instr.sureAddr,storeVar,aai,aap,aad,zj hn,acr,hsz];simp only[ne_eq,not_true,aat];exact e
   ·cases he
 ·cases he
def zb(P:Program)(s:TypeId)(a:Value)(i:Nat):Option Value :=
 match a with
 | .pointer (some ⟨b,off,none⟩)=>(match z9 P (underlying s) with
   |some (.struct fields)=>(match fields[i]? with
    |none=>none
    |some f=>(match z9 P (sizeOf f.type) with
     |none=>none
     |some n=>cond (Nat.beq n 0) none (some (.pointer (some ⟨b,off+f.offset,none⟩)))))
   |_=>none)
 | .pointer (some ⟨b,off,some 0⟩)=>(match z9 P (underlying s) with
   |some (.struct fields)=>(match fields[i]? with
    |none=>none
    |some f=>(match z9 P (sizeOf f.type) with
     |none=>none
     |some n=>cond (Nat.beq n 0) none (some (.pointer (some ⟨b,off+f.offset,some 0⟩)))))
   |_=>none)
 |_=>none
theorem rF{P:Program}{ρ:xr}{s:TypeId}{a a' v:Value}{i:Nat}(he:zb P s a i=some v)(ha:zI ρ a a')(w:World) :
  ∃v',(Instr.fieldAt s a' i).run P w=.ok v' w/\zI ρ v v':=by
 unfold zb at he;split at he
 ·rename_i b off;cases ha with
  |ptr hb hm=>
   rename_i pl;split at he
   ·rename_i fields hu;split at he
    ·cases he
    ·rename_i f hf;split at he
     ·cases he
     ·rename_i n hn;cases hz:Nat.beq n 0 with
      |true=>rw[hz]at he;cases he
      |false=>
       rw[hz]at he;simp only[aaK,aab]at he;subst he;have hne:n≠0:=by intro e;subst e;simp at hz
       refine⟨.pointer (some ⟨pl.c,pl.base+(off+f.offset),none⟩),?_,.ptr hb hm⟩;simp only[Instr.fieldAt,Instr.sureAddr,fieldPlace,aai,aap,aad,zj hu,hf,zj hn,acr,aak hne,Zb,acn]
   ·cases he
 ·rename_i b off;cases ha with
  |Yt=>
   split at he
   ·rename_i fields hu;split at he
    ·cases he
    ·rename_i f hf;split at he
     ·cases he
     ·rename_i n hn;cases hz:Nat.beq n 0 with
      |true=>rw[hz]at he;cases he
      |false=>
       rw[hz]at he;simp only[aaK,aab]at he;subst he;have hne:n≠0:=by intro e;subst e;simp at hz
       refine⟨.pointer (some ⟨b,off+f.offset,none⟩),?_,.Yt⟩;simp only[Instr.fieldAt,Instr.sureAddr,fieldPlace,aai,aap,aad,zj hu,hf,zj hn,acr,aak hne,Zb]
   ·cases he
 ·cases he
def zA(P:Program)(t:TypeId)(x ix:Value):Option Value :=
 match ix with
 | .int _ i=>(match z9 P (underlying t),x with
   |some (.array len elem),.pointer (some ⟨b,off,none⟩)=>(match z9 P (sizeOf elem) with
    |none=>none
    |some n=>cond (decide (0<=i)&&decide (i<len)) (some (.pointer (some ⟨b,off+i.toNat*n,none⟩))) none)
   |some (.array len elem),.pointer (some ⟨b,off,some 0⟩)=>(match z9 P (sizeOf elem) with
    |none=>none
    |some n=>cond (decide (0<=i)&&decide (i<len)) (some (.pointer (some ⟨b,off+i.toNat*n,some 0⟩))) none)
   |some (.slice elem),.slice (some ⟨b,off,none⟩) len _=>(match z9 P (sizeOf elem) with
    |none=>none
    |some n=>cond (decide (0<=i)&&decide (i<len)) (some (.pointer (some ⟨b,off+i.toNat*n,none⟩))) none)
   |_,_=>none)
 |_=>none
theorem rG{P:Program}{ρ:xr}{t:TypeId}{x x' ix ix' v:Value}(he:zA P t x ix=some v)(hx:zI ρ x x')(hi:zI ρ ix ix')(w:World) :
  ∃v',(Instr.indexAt t x' ix').run P w=.ok v' w/\zI ρ v v':=by
 unfold zA at he;split at he
 ·rename_i k i;cases hi;split at he
  ·rename_i hu;cases hx with
   |ptr hb hm=>
    split at he
    ·cases he
    ·rename_i n hn;cases hc:(decide (0<=i)&&decide (i<_)) with
     |false=>rw[hc]at he;cases he
     |true=>
      rw[hc]at he;simp only[aax,aab]at he;subst he;simp only[aah,aaU]at hc;refine⟨_,?_,.ptr hb hm⟩;simp only[Instr.indexAt,Instr.sureAddr,asIntOf,aai,aap,aad,zj hu,zj hn,acr,aam hc,Zb,acn]
  ·rename_i hu;cases hx with
   |Yt=>
    split at he
    ·cases he
    ·rename_i n hn;cases hc:(decide (0<=i)&&decide (i<_)) with
     |false=>rw[hc]at he;cases he
     |true=>
      rw[hc]at he;simp only[aax,aab]at he;subst he;simp only[aah,aaU]at hc;refine⟨_,?_,.Yt⟩;simp only[Instr.indexAt,Instr.sureAddr,asIntOf,aai,aap,aad,zj hu,zj hn,acr,aam hc,Zb]
  ·rename_i hu;cases hx with
   |slice hb hm hl hcap=>
    split at he
    ·cases he
    ·rename_i n hn;cases hc:(decide (0<=i)&&decide (i<_)) with
     |false=>rw[hc]at he;cases he
     |true=>
      rw[hc]at he;simp only[aax,aab]at he;subst he;simp only[aah,aaU]at hc;refine⟨_,?_,.ptr hb hm⟩;simp only[Instr.indexAt,asIntOf,aai,aap,aad,zj hu,zj hn,acr,aam hc,Zb,acn]
   |sliceOut hb hc=>
    split at he
    ·cases he
    ·rename_i n hn;rw[show(decide (0<=i)&&decide (i<((0:Nat):Int)))=false by simp]at he;cases he
  ·cases he
 ·cases he
end
noncomputable section
variable {P:Program}
def fl(x:Option Value):Option Value :=
 match x with
 |none=>none
 |some v=>cond (flat v) (some v) none
theorem VQ{x:Option Value}{v:Value}(h:fl x=some v):x=some v/\flat v=true:=by
 unfold fl at h;split at h
 ·cases h
 ·rename_i u;cases hf:flat u with
  |false=>rw[hf]at h;cases h
  |true=>rw[hf]at h;simp only[aax,aab]at h;subst h;exact⟨rfl,hf⟩
def isNil(P:Program)(t:TypeId)(a b:Value):Option Bool :=
 match z9 P (underlying t),a,b with
 |some (.pointer _),.pointer (some _),.pointer none|some (.pointer _),.pointer none,.pointer (some _)=>some false
 |some (.slice _),.slice (some _) _ _,.slice none _ _|some (.slice _),.slice none _ _,.slice (some _) _ _=>some false
 |some (.func _ _ _),.func _ _ _,.nilFunc|some (.func _ _ _),.nilFunc,.func _ _ _=>some false
 |some (.interface _),.iface _ _,.nilIface|some (.interface _),.nilIface,.iface _ _=>some false
 |_,_,_=>none
def Oi(P:Program)(op:BinOp)(t:TypeId)(a b:Value):Option Value :=
 match op with
 | .eql=>(isNil P t a b).map .bool
 | .neq=>(isNil P t a b).map λx => .bool (!x)
 |_=>none
theorem VW{ρ:xr}{t:TypeId}{a b a' b':Value}{r:Bool}(h:isNil P t a b=some r)(ha:zI ρ a a')(hb:zI ρ b b')(w:World) :
  (∀d,(Op.equalIn (d+1) t a' b').run P w=.ok r w)/\(∀op x y,(eqGuard op t x y a' b').run P w=.ok () w)/\(∀op,op=.eql\/op=.neq->binOp op t a' b'=if op=.eql then (do pure (.bool (<- Op.equal t a' b'))) else (do pure (.bool (!(<- Op.equal t a' b'))))):=by
 unfold isNil at h
 split at h <;> first
  |cases h;done
  |(simp only[aab]at h
    subst h;rename_i hu;cases ha <;> cases hb <;>
    (refine⟨λd=>?_,λop x y=>?_,λop yV=>?_⟩
     ·simp[Op.equalIn,zj hu]
     ·cases op <;> simp[eqGuard]
     ·rcases yV with rfl|rfl <;> rfl))
theorem Gw{ρ:xr}{t:TypeId}{a b a' b':Value}{r:Bool}(h:isNil P t a b=some r)(ha:zI ρ a a')(hb:zI ρ b b')(w:World) :
  (binOp .eql t a' b').run P w=.ok (.bool r) w:=by
 obtain⟨h1,_,h3⟩:=VW h ha hb w;rw[h3 .eql (.inl rfl),aam rfl];have h1:(Op.equal t a' b').run P w=.ok r w:=h1 9999;simp only[aai,h1,aad,aap]
theorem Gx{ρ:xr}{t:TypeId}{a b a' b':Value}{r:Bool}(h:isNil P t a b=some r)(ha:zI ρ a a')(hb:zI ρ b b')(w:World) :
  (binOp .neq t a' b').run P w=.ok (.bool (!r)) w:=by
 obtain⟨h1,_,h3⟩:=VW h ha hb w;rw[h3 .neq (.inr rfl),aak (by simp)];have h1:(Op.equal t a' b').run P w=.ok r w:=h1 9999;simp only[aai,h1,aad,aap]
def FR(P:Program)(op:BinOp)(t:TypeId)(x y:Operand)(a b:Value):Option Value :=
 cond (flat a&&flat b) (fl (z9 P (do eqGuard op t x y a b;binOp op t a b))) (Oi P op t a b)
theorem CQ{ρ:xr}{op:BinOp}{t:TypeId}{x y:Operand}{a b a' b' v:Value}(h:FR P op t x y a b=some v)(ha:zI ρ a a')(hb:zI ρ b b')(w:World) :
  ∃v',(do eqGuard op t x y a' b';binOp op t a' b':Sem Value).run P w=.ok v' w/\zI ρ v v':=by
 unfold FR at h;cases hf:(flat a&&flat b) with
 |true=>
  rw[hf]at h;simp only[aah]at hf;obtain rfl:=kR ha hf.1;obtain rfl:=kR hb hf.2;obtain⟨h1,h2⟩:=VQ h;exact⟨v,zj h1 w,.of_flat ρ h2⟩
 |false=>
  rw[hf]at h;simp only[aaK]at h;unfold Oi at h;split at h
  ·simp only[aas]at h;obtain⟨r,hr,rfl⟩:=h;obtain⟨_,h2,_⟩:=VW hr ha hb w;have h3:=Gw hr ha hb w;exact⟨.bool r,by simp only[aai,h2,aad,h3],.bool r⟩
  ·simp only[aas]at h;obtain⟨r,hr,rfl⟩:=h;obtain⟨_,h2,_⟩:=VW hr ha hb w;have h4:=Gx hr ha hb w;exact⟨.bool (!r),by simp only[aai,h2,aad,h4],.bool (!r)⟩
  ·cases h
def fO(ρ:xr)(ps ps':List (Nat×Value)):Prop:=wC ρ (ps.map (·.2)) (ps'.map (·.2))/\ps.map (·.1)=ps'.map (·.1)
theorem G9{ρ:xr}{xs ys:List Value}(h:wC ρ xs ys)(i:Nat){x y:Value}(hv:zI ρ x y):wC ρ (xs.set i x) (ys.set i y):=by
 refine⟨by simp[h.1],λj a b ha hb=>?_⟩;by_cases e:i=j
 ·subst e;rcases aaA i xs.length with hi|hi
  ·rw[aaZ hi]at ha;rw[aaZ (h.1 ▸ hi)]at hb;cases ha;cases hb;exact hv
  ·rw[aao (by simpa using hi)]at ha;cases ha
 ·rw[abo e]at ha hb;exact h.2 j a b ha hb
theorem i5{ρ:xr}(off:Nat):∀(l l':List (Value×Nat)) (c c':Array Value),wC ρ (l.map (·.1)) (l'.map (·.1))->l.map (·.2)=l'.map (·.2)->wC ρ c.toList c'.toList ->
  wC ρ (l.foldl (λcs x=>cs.setIfInBounds (off+x.2) x.1) c).toList (l'.foldl (λcs x=>cs.setIfInBounds (off+x.2) x.1) c').toList
 |[],l',c,c',hl,hn,hc=>by
  cases l' with
  |nil=>exact hc
  |cons x l'=>simp at hn
 |x::l,l',c,c',hl,hn,hc=>by
  cases l' with
  |nil=>simp at hn
  |cons y l'=>
   simp only[abz,abj]at hl hn;obtain⟨y',ys',e,hv,hr⟩:=hl.cons_inv;simp only[abj]at e;obtain⟨e1,e2⟩:=e;subst e1 e2;simp only[List.foldl_cons];refine i5 off l l' _ _ hr hn.2 ?_;rw[Array.toList_setIfInBounds,Array.toList_setIfInBounds,hn.1];exact G9 hc _ hv
theorem bB{ρ:xr}{place:Nat->Option (Nat×Nat)}:∀(ps ps':List (Nat×Value)) (c c':Array Value) (r:Array Value),fO ρ ps ps'->wC ρ c.toList c'.toList->Instr.fill place c ps=some r ->
  ∃r',Instr.fill place c' ps'=some r'/\wC ρ r.toList r'.toList
 |[],ps',c,c',r,hp,hc,he=>by
  have:ps'=[]:=by have:=hp.2;simp at this;cases ps' <;> simp_all
  subst this;simp only[Instr.fill,aab]at he;subst he;exact⟨c',rfl,hc⟩
 |(i,v)::ps,ps',c,c',r,hp,hc,he=>by
  cases ps' with
  |nil=>have:=hp.2;simp at this
  |cons p ps'=>
   obtain⟨i',v'⟩:=p;obtain⟨h1,h2⟩:=hp;simp only[abz,abj]at h1 h2;obtain⟨rfl,h2⟩:=h2;obtain⟨y,ys,e,hv,hr⟩:=h1.cons_inv;simp only[abj]at e;obtain⟨e1,e2⟩:=e;subst e1 e2;simp only[Instr.fill]at he ⊢;cases hpl:place i with
   |none=>rw[hpl]at he;cases he
   |some x=>
    obtain⟨off,size⟩:=x;rw[hpl]at he;simp only at he ⊢;have hcells:=hv.cells;have e1:v'.cells.size=v.cells.size:=by simpa using hcells.1.symm
    have e2:c'.size=c.size:=(by simpa using hc.1.symm);split at he
    ·cases he
    ·rename_i hcond;rw[aak (by rw[e1,e2];exact hcond)];refine bB ps ps' _ _ r ⟨hr,h2⟩ ?_ he;rw[<- Array.foldl_toList,<- Array.foldl_toList];refine i5 off _ _ c c' ?_ ?_ hc
     ·simp only[Array.toList_zipIdx];have q:∀(l:List Value) k,(l.zipIdx k).map (·.1)=l:=λl k=>by simp
      rw[q,q];exact hcells
     ·simp only[Array.toList_zipIdx];have q:∀(l:List Value) k,(l.zipIdx k).map (·.2)=List.range' k l.length:=λl k=>by simp
      rw[q,q,hcells.1]
def Vf(s:Env):List (Nat×Operand)->Option (List (Nat×Value))
 |[]=>some []
 |(i,x)::ps=>match jk s x with
  |none=>none
  |some v=>match Vf s ps with
   |none=>none
   |some vs=>some ((i,v)::vs)
theorem U1{ρ:xr}{s:Env}{a:Act}(hs:vV ρ s a.tmps):∀{ps:List (Nat×Operand)} {vs:List (Nat×Value)},Vf s ps=some vs->fO ρ vs (ps.map λx=>(x.1,a.eval x.2))
 |[],vs,h=>by simp only[Vf,aab]at h;subst h;exact⟨.nil ρ,rfl⟩
 |(i,x)::ps,vs,h=>by
  simp only[Vf]at h;split at h
  ·cases h
  ·rename_i v hv;split at h
   ·cases h
   ·rename_i vs' hvs;simp only[aab]at h;subst h;have:=U1 hs hvs;exact⟨.cons (zX hs hv) this.1,by simp[this.2]⟩
def wD(P:Program)(t:TypeId):Option Value:=fl (z9 P (zeroValue t))
theorem ZK{ρ:xr}{t:TypeId}{z:Value}(h:wD P t=some z)(w:World):(zeroValue t).run P w=.ok z w/\zI ρ z z:=by
 obtain⟨h1,h2⟩:=VQ h;exact⟨zj h1 w,.of_flat ρ h2⟩
def MF(P:Program)(fields:Array Field):Option (Array (Nat×Nat)):=z9 P (fields.mapM λf=>do pure (f.offset,<- sizeOf f.type))
def yU(P:Program)(t:TypeId)(parts:List (Nat×Value)):Option Value :=
 match wD P t with
 |none=>none
 |some z=>match z9 P (underlying t) with
  |some (.struct fields)=>(match MF P fields with
   |none=>none
   |some places=>(Instr.fill (places[·]?) z.cells parts).map .agg)
  |some (.array _ elem)=>(match z9 P (sizeOf elem) with
   |none=>none
   |some n=>(Instr.fill (λi=>some (i*n,n)) z.cells parts).map .agg)
  |_=>none
theorem ri{ρ:xr}{t:TypeId}{parts parts':List (Nat×Value)}{v:Value}(h:yU P t parts=some v)(hp:fO ρ parts parts')(w:World) :
  ∃v',(Instr.build t parts'.toArray).run P w=.ok v' w/\zI ρ v v':=by
 unfold yU at h;split at h
 ·cases h
 ·rename_i z hz;obtain⟨e0,hz⟩:=ZK (ρ:=ρ) hz w;split at h
  ·rename_i fields hu;split at h
   ·cases h
   ·rename_i places hpl;simp only[aas]at h;obtain⟨r,hr,rfl⟩:=h;obtain⟨r',hr',hv⟩:=bB _ _ _ _ _ hp hz.cells hr;refine⟨.agg r',?_,.agg (by simpa using hv.1) (λi x y hx hy=>hv.2 i x y (by simpa using hx) (by simpa using hy))⟩;simp only[Instr.build,aai,e0,aad,zj hu,zj hpl,hr',aap]
  ·rename_i n elem hu;split at h
   ·cases h
   ·rename_i n hn;simp only[aas]at h;obtain⟨r,hr,rfl⟩:=h;obtain⟨r',hr',hv⟩:=bB _ _ _ _ _ hp hz.cells hr;refine⟨.agg r',?_,.agg (by simpa using hv.1) (λi x y hx hy=>hv.2 i x y (by simpa using hx) (by simpa using hy))⟩;simp only[Instr.build,aai,e0,aad,zj hu,zj hn,hr',aap]
  ·cases h
def mU(h:za)(c:List Value)(t:TypeId):Value×za:=(.pointer (some ⟨h.next,0,none⟩),h.push (.cells c t))
theorem bP{ρ:xr}{h:za}{w:World}(hr:Rel P ρ h w){v v':Value}(hv:zI ρ v v')(t:TypeId) :
  ∃a' w' ρ',(newVar t v').run P w=.ok a' w'/\Step P ρ h w ρ' (mU h v.cells.toList t).2 w'/\zI ρ' (mU h v.cells.toList t).1 (.pointer (some a')):=by
 have hc:=hv.cells
 obtain⟨e,st⟩:=JU (t:=t) hr (c:=v.cells.toList) (cs:=v'.cells) (by rw[hc.1,abx];exact aal _) (λi x hx=>by
  obtain⟨y,hy,hxy⟩:=hc.get hx;exact⟨y,by simpa using hy,hxy⟩)
 exact⟨_,_,_,e,st,.new hr _ rfl⟩
def Ya(z:List Value)(n:Nat):List Value:=(List.range n).map λi=>(z[i%z.length]?).getD default
theorem pL(z:Array Value)(n:Nat):((Array.range n).map λi=>z[i%z.size]!)=(Ya z.toList n).toArray:=by
 apply ab8;simp only[Array.toList_map,Array.toList_range,Ya];apply List.map_congr_left;intro i _;simp[getElem!_def];cases z[i%z.size]? <;> rfl
theorem mw{ρ:xr}{z:Value}(h:zI ρ z z)(hd:z.cells.size≠0)(n:Nat):wC ρ (Ya z.cells.toList n) (Ya z.cells.toList n):=by
 refine⟨rfl,λi x y hx hy=>?_⟩;rw[hx]at hy;cases hy;simp only[Ya,aaw,aas]at hx;obtain⟨k,_,hk⟩:=hx;have hlt:k%z.cells.toList.length<z.cells.toList.length:=Nat.mod_lt _ (by simp;omega);rw[aae hlt]at hk;simp only[ab7]at hk;have:=h.cells.2 _ _ _ (aae hlt) (aae hlt);rw[hk]at this;exact this
def VN(P:Program)(t:TypeId)(len cap:Value)(h:za):Option (Value×za) :=
 match len,cap,z9 P (underlying t) with
 | .int _ l,.int _ c,some (.slice elem)=>(match z9 P (typeInfo elem) with
   |none=>none
   |some i=>(match wD P elem with
    |none=>none
    |some z=>cond (decide (IntKind.i64.wrap l=l)&&decide (IntKind.i64.wrap c=c)&&decide (0<=l)&&decide (l<=c)&&decide (i.bytes*c<=2^48)&&Nat.beq z.cells.size i.size&&Nat.blt 0 i.size)
      (some (.slice (some ⟨h.next,0,none⟩) l.toNat (c.toNat+2),h.push (.cells (Ya z.cells.toList (c.toNat*i.size)) elem))) none))
 |_,_,_=>none
theorem jy{t:TypeId}{i:TypeInfo}(h:z9 P (typeInfo t)=some i):P.cellsOf t=i.size /\ ∀w,(sizeOf t).run P w=.ok i.size w:=by
 have h0:=h
 constructor
 ·simp only[typeInfo,program,Sem.bind,bind,z9]at h;cases hp:P.info? t with
  |none=>rw[hp]at h;cases h
  |some j=>rw[hp]at h;simp only[pure,z9,aab]at h;subst h;simp[Program.cellsOf,hp]
 ·intro w;simp only[sizeOf,aai,zj h0,aad,aap]
theorem AA{ρ:xr}{t:TypeId}{l l' c c' v:Value}{h h':za}{w:World}(he:VN P t l c h=some (v,h'))(hr:Rel P ρ h w)(hl:zI ρ l l')(hc:zI ρ c c') :
  ∃v' w' ρ',(Instr.makeSlice t l' c').run P w=.ok v' w'/\Step P ρ h w ρ' h' w'/\zI ρ' v v':=by
 unfold VN at he;split at he
 ·rename_i kl l kc c elem hu;cases hl;cases hc;split at he
  ·cases he
  ·rename_i i hi;split at he
   ·cases he
   ·rename_i z hz;cases hcond:(decide (IntKind.i64.wrap l=l)&&decide (IntKind.i64.wrap c=c)&&decide (0<=l)&&decide (l<=c)&&decide (i.bytes*c<=2^48)&&Nat.beq z.cells.size i.size&&Nat.blt 0 i.size) with
    |false=>rw[hcond]at he;cases he
    |true=>
     rw[hcond]at he;simp only[aax,aab,aag]at he;obtain⟨rfl,rfl⟩:=he;simp only[aah,aaU]at hcond;obtain⟨⟨⟨⟨⟨⟨w1,w2⟩,p1⟩,p2⟩,p3⟩,zs⟩,sp⟩:=hcond;have zs:=aar zs;have sp:0<i.size:=by simpa [aa0] using sp
     obtain⟨e0,hz'⟩:=ZK (ρ:=ρ) hz w;obtain⟨sz1,sz2⟩:=jy hi
     obtain⟨e,st⟩:=JU (t:=elem) hr (c:=Ya z.cells.toList (c.toNat*i.size)) (cs:=(Array.range (c.toNat*i.size)).map λk=>z.cells[k%z.cells.size]!)
      (by simp[Ya]) (λk x hx=>by
       rw[pL];obtain⟨y,hy,hxy⟩:=(mw hz' (by omega) (c.toNat*i.size)).get hx;exact⟨y,by simpa using hy,hxy⟩)
     refine⟨.slice (some ⟨w.heap.size,0,none⟩) l.toNat c.toNat,_,_,?_,st,?_⟩
     ·have b1:¬((i.bytes:Int)*c>2^48):=(by omega);have b2:¬(c<0):=(by omega);have b3:¬(l<0):=(by omega);have b4:¬(l>c):=(by omega);simp only[Instr.makeSlice,asInt,asIntOf,aai,aap,aad,zj hu,zj hi,w1,w2];rw[aak (by simp[b2,b3,b4];omega)];simp only[aai,run_askRoom,aad,sz2];by_cases hn:c.toNat*i.size=0
      ·rw[aam hn];have e1:((Array.range (c.toNat*i.size)).map λk=>(#[]:Array Value)[k%(#[]:Array Value).size]!)=((Array.range (c.toNat*i.size)).map λk=>z.cells[k%z.cells.size]!):=by rw[hn];simp
       simp only[aai,aap,aad];rw[e1,e];simp only[aad]
      ·rw[aak hn];simp only[aai,e0,aap,aad,e]
     ·refine zI.slice (ρ:=ρ.ext _) (b:=h.next) (off:=0) (pl:=⟨w.heap.size,0,_,_⟩) (by show h.next<ρ.next+1;rw[hr.next];exact aa4 _) (by rw[<- hr.next];exact ρ.kP _) (by omega) ?_;intro _;refine⟨by simp[sz1],λk hk=>by omega⟩
 ·cases he
end
noncomputable section
variable {P:Program}
def JH:Nat->Nat->Nat
 |0,_=>0
 |1,_=>1
 |k+2,l=>(k-l)+2
def qP(x:Option Value)(d:Nat)(most:Nat):Option Nat :=
 match x with
 |none=>some d
 |some (.int _ i)=>cond (decide (0<=i)&&decide (i<=most)) (some i.toNat) none
 |some _=>none
def wide(P:Program)(h:za)(b n:Nat):Bool :=
 match h.get b with
 |some (.cells _ t)=>Nat.beq (P.cellsOf t) n
 |_=>false
def dG(P:Program)(t:TypeId)(x:Value)(lo hi:Option Value)(h:za):Option Value :=
 match z9 P (underlying t),x with
 |some (.slice elem),.slice base len c=>(match z9 P (sizeOf elem) with
  |none=>none
  |some n=>(match qP hi len len with
   |none=>none
   |some hh=>(match qP lo 0 hh with
    |none=>none
    |some l=>(match base with
     |none=>cond (Nat.beq len 0) (some (.slice none 0 0)) none
     |some ⟨b,off,none⟩=>some (.slice (some ⟨b,off+l*n,none⟩) (hh-l) (cond (wide P h b n) (JH c l) 0))
     |some _=>none))))
 |some (.array k elem),.pointer (some ⟨b,off,none⟩)=>(match z9 P (sizeOf elem) with
  |none=>none
  |some n=>(match qP hi k k with
   |none=>none
   |some hh=>(match qP lo 0 hh with
    |none=>none
    |some l=>some (.slice (some ⟨b,off+(if k=l then 0 else l*n),none⟩) (hh-l) 0))))
 |_,_=>none
theorem KI{x:Option Value}{d most r:Nat}(h:qP x d most=some r)(hd:d<=most):r<=most:=by
 unfold qP at h;split at h
 ·simp only[aab]at h;omega
 ·rename_i k i;cases hc:(decide (0<=i)&&decide (i<=(most:Int))) with
  |false=>rw[hc]at h;cases h
  |true=>
   rw[hc]at h;simp only[aax,aab]at h;simp only[aah,aaU]at hc;omega
 ·cases h
theorem iq{ρ:xr}{x x':Option Value}{d most r:Nat}(h:qP x d most=some r)(hx:∀v,x=some v->∃v',x'=some v'/\zI ρ v v')(hn:x=none->x'=none){y:Nat}(hy:most<=y)(code:BoundsCode)(w:World) :
  (match x' with|some v=>Instr.sliceBound v y code|none=>(pure d:Sem Nat)).run P w=.ok r w:=by
 unfold qP at h;split at h
 ·rw[hn rfl];simp only[aab]at h;subst h;rfl
 ·rename_i k i;obtain⟨v',rfl,hv⟩:=hx _ rfl;cases hv;cases hc:(decide (0<=i)&&decide (i<=(most:Int))) with
  |false=>rw[hc]at h;cases h
  |true=>
   rw[hc]at h;simp only[aax,aab]at h;simp only[aah,aaU]at hc;subst h;simp only[Instr.sliceBound,asIntOf,aai,aap,aad,acr];rw[aam (by omega)]
 ·cases h
def Fh(ρ:xr)(x x':Option Value):Prop:=(∀v,x=some v->∃v',x'=some v'/\zI ρ v v')/\(x=none->x'=none)
theorem U6{ρ:xr}{lo lo' hi hi':Option Value}{len cap hh l:Nat}(hhi:qP hi len len=some hh)(hlo:qP lo 0 hh=some l)(rl:Fh ρ lo lo')(rh:Fh ρ hi hi')(hl:len<=cap)(b:Bool)(w:World) :
  (Instr.sliceBounds b len cap lo' hi' none).run P w=.ok (l,hh,cap) w:=by
 have h1:=iq (P:=P) hhi rh.1 rh.2 hl (if b then .sliceAcap else .sliceAlen) w;have h2:=iq (P:=P) hlo rl.1 rl.2 (aal hh) (.sliceB) w;unfold Instr.sliceBounds;cases hi' with
 |none=>
  have e1:len=hh:=by simpa using h1
  subst e1;cases lo' with
  |none=>have e2:0=l:=by simpa using h2
         subst e2;rfl
  |some v=>
   simp only at h2;simp only[aai,aap,aad,Option.isSome_none,abc,aat,h2]
 |some u=>
  simp only at h1;cases lo' with
  |none=>have e2:0=l:=by simpa using h2
         subst e2;simp only[aai,aap,aad,h1]
  |some v=>
   simp only at h2;simp only[aai,aap,aad,Option.isSome_none,abc,aat,h1,h2]
theorem rL{ρ:xr}{t:TypeId}{x x' v:Value}{lo lo' hi hi':Option Value}{h:za}{w:World}(he:dG P t x lo hi h=some v)(hr:Rel P ρ h w)(hx:zI ρ x x')(rl:Fh ρ lo lo')(rh:Fh ρ hi hi') :
  ∃v',(Instr.sliceAt t x' lo' hi' none).run P w=.ok v' w/\zI ρ v v':=by
 unfold dG at he;split at he
 ·rename_i elem base len c hu;split at he
  ·cases he
  ·rename_i n hn;split at he
   ·cases he
   ·rename_i hh hhi;split at he
    ·cases he
    ·rename_i l hlo;have h1:=KI hhi (aal _);have h2:=KI hlo (aa5 _);cases hx with
     |sliceNil=>
      simp only[acd,aax,aab]at he;subst he;have:hh=0:=by omega
      subst this;have:l=0:=by omega
      subst this;refine⟨.slice none 0 0,?_,.sliceNil 0⟩;have hb:=U6 (P:=P) hhi hlo rl rh (aal 0) true w;simp only[Instr.sliceAt,Instr.slice,aai,zj hu,aad,hb,zj hn,aap,aac,Nat.sub_self]
     |slice hb hm hl hc=>
      rename_i b off cap pl;simp only[aab]at he;subst he;have hbd:=U6 (P:=P) hhi hlo rl rh hl true w
      have hrun:(Instr.sliceAt t (.slice (some ⟨pl.c,pl.base+off,none⟩) len cap) lo' hi' none).run P w=.ok (.slice (if cap=l then some ⟨pl.c,pl.base+off,none⟩ else some ⟨pl.c,pl.base+off+l*n,none⟩) (hh-l) (cap-l)) w:=by
       simp only[Instr.sliceAt,Instr.slice,aai,zj hu,aad,hbd,zj hn,aap,abq,Zb]
      by_cases hcl:cap=l
      ·refine⟨_,hrun,?_⟩;rw[aam hcl];have e1:hh-l=0:=by omega
       have e2:cap-l=0:=(by omega);rw[e1,e2];refine .sliceOut hb ?_;cases hw:wide P h b n with
       |false=>exact aa5 _
       |true=>
        simp only[aax];unfold JH;split
        ·omega
        ·omega
        ·rename_i k;have:=(hc (by omega)).2 k rfl;omega
      ·refine⟨_,hrun,?_⟩;rw[aak hcl,acn];refine .slice hb hm (by omega) ?_;cases hw:wide P h b n with
       |false=>intro hne;exact absurd rfl hne
       |true=>
        simp only[aax];intro hne;have hc0:c≠0:=by intro e;subst e;exact hne rfl
        obtain⟨c1,c2⟩:=hc hc0;unfold wide at hw;split at hw
        ·rename_i cs tb hg;have hw:=aar hw;obtain⟨cs',fz,_,_,hesz,_⟩:=hr.place hg hm;rw[hesz.1,hw]at c1 ⊢;refine⟨?_,?_⟩
         ·have:l*n+(cap-l)*n=cap*n:=(by rw[<- acB];congr 1;omega);omega
         ·intro k hk;unfold JH at hk;split at hk
          ·omega
          ·omega
          ·have:=c2 _ rfl;omega
        ·cases hw
     |sliceOut hb hc=>
      rename_i b off a;simp only[aab]at he;subst he;have:hh=0:=by omega
      subst this;have:l=0:=by omega
      subst this;refine⟨.slice (some a) 0 0,?_,.sliceOut hb ?_⟩
      ·have hbd:=U6 (P:=P) hhi hlo rl rh (aal 0) true w;simp only[Instr.sliceAt,Instr.slice,aai,zj hu,aad,hbd,zj hn,aap,aac,Nat.sub_self]
      ·cases wide P h b n with
       |false=>exact aa5 _
       |true=>simp only[aax];unfold JH;split <;> omega
 ·rename_i k elem b off hu;cases hx with
  |ptr hb hm=>
   rename_i pl;split at he
   ·cases he
   ·rename_i n hn;split at he
    ·cases he
    ·rename_i hh hhi;split at he
     ·cases he
     ·rename_i l hlo;simp only[aab]at he;subst he;have h1:=KI hhi (aal _);have h2:=KI hlo (aa5 _);have hbd:=U6 (P:=P) hhi hlo rl rh (aal k) false w;refine⟨_,by simp only[Instr.sliceAt,Instr.sureAddr,aai,zj hu,aap,aad,hbd,zj hn];rfl,?_⟩
      have:(if k=l then (Addr.mk pl.c (pl.base+off) none) else (Addr.mk pl.c (pl.base+off) none).add (l*n))=⟨pl.c,pl.base+(off+(if k=l then 0 else l*n)),none⟩:=by
       split
       ·rfl
       ·rw[Zb,acn]
      rw[this];exact .slice hb hm (by omega) (λhne=>absurd rfl hne)
 ·cases he
def H7(P:Program)(t:TypeId)(x:Value):Option Value :=
 match z9 P (underlying t),x with
 |some (.slice _),.slice _ n _=>some (goInt n)
 |some .string,.string s=>some (goInt s.size)
 |some (.array n _),_=>some (goInt n)
 |_,_=>none
theorem CY{ρ:xr}{t:TypeId}{x x' v:Value}(he:H7 P t x=some v)(hx:zI ρ x x')(r:TypeId)(w:World):(Builtin.len_ #[t] r #[x']).run P w=.ok v w/\zI ρ v v:=by
 unfold H7 at he;split at he
 ·rename_i hu;simp only[aab]at he;subst he;refine⟨?_,.int _ _⟩;cases hx <;> simp[Builtin.len_,zj hu]
 ·rename_i hu;simp only[aab]at he;subst he;refine⟨?_,.int _ _⟩;cases hx;simp[Builtin.len_,zj hu]
 ·rename_i hu;simp only[aab]at he;subst he;refine⟨?_,.int _ _⟩;simp[Builtin.len_,zj hu]
 ·cases he
end
noncomputable section
variable {P:Program}
def vE(h:za)(n size:Nat):Value->Option (List Value)
 | .slice (some ⟨b,off,none⟩) _ _=>cond (Nat.beq (n*size) 0) (some []) (match h.get b with
   |some (.cells c _)=>cond (Nat.ble (off+n*size) c.length) (some ((c.drop off).take (n*size))) none
   |_=>none)
 | .slice none _ _=>some []
 | .string s=>some ((s.extract 0 n).data.toList.map λb => .int .u8 b.toNat)
 |_=>none
def YP:Value->Option Nat
 | .slice _ n _=>some n
 | .string s=>some s.size
 |_=>none
theorem eN{ρ:xr}{x x':Value}{n:Nat}(h:YP x=some n)(hx:zI ρ x x')(w:World):(Builtin.lenOf x').run P w=.ok n w:=by
 cases hx with
 |sP _=>cases h
 |_=>simp only[YP,aab,reduceCtorEq]at h <;> subst h <;> rfl
theorem Qa{ρ:xr}{h:za}{w:World}{n size:Nat}{x x':Value}{c:List Value}(he:vE h n size x=some c)(hr:Rel P ρ h w)(hx:zI ρ x x')(hn:∀b l cap,x=.slice b l cap->n<=l) :
  ∃c':List Value,(Builtin.firstCells size n x').run P w=.ok c'.toArray w/\wC ρ c c':=by
 have hzero:n*size=0->∀a:Addr,(loadCells a (n*size)).run P w=.ok ([]:List Value).toArray w:=by
  intro e a;rw[e];rfl
 cases hx with
 |sliceNil c0=>
  simp only[vE,aab]at he;subst he;exact⟨[],rfl,.nil ρ⟩
 |slice hb hm hl hc=>
  rename_i b off len c0 cap pl;simp only[vE]at he;cases hz:Nat.beq (n*size) 0 with
  |true=>
   rw[hz]at he;simp only[aax,aab]at he;subst he;exact⟨[],by simp only[Builtin.firstCells];exact hzero (aar hz) _,.nil ρ⟩
  |false=>
   rw[hz]at he;simp only[aaK]at he;split at he
   ·rename_i cs t hg;cases hle:Nat.ble (off+n*size) cs.length with
    |false=>rw[hle]at he;cases he
    |true=>
     rw[hle]at he;simp only[aax,aab]at he;subst he;obtain⟨ys,hys,hv⟩:=jw (hr.place hg hm) off (n*size) (aaH hle);exact⟨ys,by simpa only[Builtin.firstCells] using hys,hv⟩
   ·cases he
 |sliceOut hb hc=>
  rename_i b off c0 a;have:=hn _ _ _ rfl
  have hz:n*size=0:=by have:n=0:=by omega
                       subst this;simp
  simp only[vE,hz,acd,aax,aab]at he;subst he;exact⟨[],by simp only[Builtin.firstCells];exact hzero hz _,.nil ρ⟩
 |string s=>
  simp only[vE,aab]at he;subst he;refine⟨_,?_,⟨rfl,λi x y hx hy=>?_⟩⟩
  ·simp only[Builtin.firstCells,aap]
   congr 1
   apply ab8;simp
  ·rw[hx]at hy;cases hy;simp only[aaw,aas]at hx;obtain⟨b,_,rfl⟩:=hx;exact .int _ _
 |_=>cases he
def dS:TypeDesc->Bool
 | .int _=>true
 |_=>false
theorem pd(need:Nat)(hn:255<=need):∀(r c:Nat),c<=2*need->Builtin.growBy need r c<=2*need
 |0,c,h=>h
 |r+1,c,h=>by
  unfold Builtin.growBy;split
  ·exact h
  ·exact pd need hn r _ (by omega)
theorem DD(need cap:Nat)(h:cap<need):Builtin.nextslicecap need cap<=2*need:=by
 unfold Builtin.nextslicecap;split
 ·omega
 ·split
  ·omega
  ·exact pd need (by omega) 4 cap (by omega)
theorem bQ(need:Nat)(h:0<need):Builtin.nextslicecap need 0=need:=by
 unfold Builtin.nextslicecap;rw[aam (by omega)]
theorem run_append_grow{ρ:xr}{h:za}{w:World}(hr:Rel P ρ h w){sT xT elem:TypeId}{r:TypeId}{xd:TypeDesc}{i:TypeInfo}{z:Value}{base:Option Addr}{len cap n:Nat}{x':Value}{old old' new new':List Value}
  (h1:z9 P (underlying sT)=some (.slice elem)) (h2:z9 P (underlying xT)=some xd) (h3:dS xd=false) (hi:z9 P (typeInfo elem)=some i) (hz:wD P elem=some z)
  (hb:0<i.bytes) (hzs:z.cells.size=i.size)
  (hlen:∀w,(Builtin.lenOf x').run P w=.ok n w) (hgrow:cap<len+n) (hlim:Builtin.nextslicecap (len+n) cap*i.bytes<=2^48)
  (hold:(Builtin.firstCells i.size len (.slice base len cap)).run P {w with drawn:=w.drawn+1} = .ok old'.toArray {w with drawn:=w.drawn+1}) (hnew:(Builtin.firstCells i.size n x').run P {w with drawn:=w.drawn+1} = .ok new'.toArray {w with drawn:=w.drawn+1})
  (vold:wC ρ old old') (vnew:wC ρ new new') (hol:old.length=len*i.size) (hnl:new.length=n*i.size) :
  ∃cap' w' pl,(Builtin.append_ #[sT,xT] r #[.slice base len cap,x']).run P w=.ok (.slice (some ⟨w.heap.size,0,none⟩) (len+n) cap') w'/\len+n<=cap'/\pl.c=w.heap.size/\pl.base=0/\pl.EG=i.size/\cap' * i.size<=pl.size /\
   Step P ρ h w (ρ.ext pl) (h.push (.cells (old++new) elem)) w':=by
 obtain⟨sz1,sz2⟩:=jy hi;obtain⟨z1,_⟩:=ZK (ρ:=ρ) hz w;have z1:∀w,(zeroValue elem).run P w=.ok z w:=λw=>(ZK (ρ:=ρ) hz w).1
 let q:Question := .appendCap (len+n) cap elem
 let newCap:=q.cut (w.tape w.drawn q)
 let w1:World:={w with drawn:=w.drawn+1}
 have hge:len+n<=newCap:=by show len+n<=(len+n)+_%_;omega
 let cs:Array Value:=old'.toArray++new'.toArray++Builtin.zeroCells z.cells (newCap-(len+n))
 have hr1:Rel P ρ h w1:=hr.grow (λk _=>rfl)
 have hcs:cs.size=newCap*i.size:=by
  simp only[cs,Builtin.zeroCells,Array.size_append,List.size_toArray,Array.size_map,Array.size_range,<- vold.1,<- vnew.1,hol,hnl,hzs];rw[<- acB,<- acB];congr 1;omega
 have st:=Step.push (t:=elem) hr1 (c:=old++new) (cs:=cs) (fz:=(0,0)) (w':={w1 with heap:=w1.heap.push (.cells cs elem)}) rfl (λi _ hi=>by simp at hi)
  (by simp only[cs,Array.size_append,acu,List.size_toArray,vold.1,vnew.1];omega)
  (λk x hx=>by
   obtain⟨y,hy,hxy⟩:=(vold.append vnew).get hx;refine⟨y,?_,hxy⟩
   have hlt:k<(old'++new').length:=by
    rcases aaA k (old'++new').length with h|h
    ·exact h
    ·rw[aao h]at hy;cases hy
   have:cs=(old'++new').toArray++Builtin.zeroCells z.cells (newCap-(len+n)):=by
    have e:old'.toArray++new'.toArray=(old'++new').toArray:=(by simp);simp only[cs];rw[e]
   rw[this,Array.getElem?_append_left (by simpa using hlt)];simpa using hy) rfl rfl rfl
 refine⟨newCap,_,⟨w.heap.size,0,cs.size,P.cellsOf elem⟩,?_,hge,rfl,rfl,sz1,by rw[hcs];exact aal _,⟨st.le,st.rel,st.ro,st.os,st.tape,st.output,st.size,st.frame,st.fy⟩⟩;have e1:¬(len+n<=cap):=by omega
 simp only[Builtin.append_];simp only[abP,aaf,aaj,aai,zj h1,aad,sz2,zj h2,aap];rw[aak (by cases xd <;> first|exact acv|cases h3)];simp only[aai,hlen,aad];rw[aak e1];simp only[aai,zj hi,aad]
 rw[aak (by
  rintro⟨_,h|h⟩
  ·revert h;cases xd <;> first|exact acv|cases h3
  ·omega)]
 simp only[aai,zj hi,aad];rw[aak (by omega)];have hq:(choose (.appendCap (len+n) cap elem)).run P w=.ok newCap w1:=by rw[run_choose];rfl
 simp only[aai,hq,aad,zj hi,run_askRoom];rw[show w1 = {w with drawn:=w.drawn+1} from rfl,hold];simp only[aad];rw[aam (by cases xd <;> first|rfl|cases h3)];rw[hnew];simp only[aad,z1,aap];rfl
theorem mV{ρ:xr}{h:za}{w:World}(hr:Rel P ρ h w){sT xT elem:TypeId}{r:TypeId}{xd:TypeDesc}{i:TypeInfo}{b off len cap n:Nat}{cs:List Value}{pl:Place}{x':Value}{new new':List Value}
  (h1:z9 P (underlying sT)=some (.slice elem)) (h2:z9 P (underlying xT)=some xd) (h3:dS xd=false) (hi:z9 P (typeInfo elem)=some i)
  (hlen:∀w,(Builtin.lenOf x').run P w=.ok n w) (hfits:len+n<=cap) (hg:h.get b=some (.cells cs elem)) (hm:ρ.m b=some pl) (hro:h.ro<=b)
  (hnew:(Builtin.firstCells i.size n x').run P w=.ok new'.toArray w) (vnew:wC ρ new new') (hnl:new.length=n*i.size) (hcell:∀x∈new,wi x=true)
  (hroom:pl.base+off+cap*i.size<=pl.size) (hhave:off+len*i.size<=cs.length) (hoff:off%i.size=0) :
  ∃w',(Builtin.append_ #[sT,xT] r #[.slice (some ⟨pl.c,pl.base+off,none⟩) len cap,x']).run P w=.ok (.slice (some ⟨pl.c,pl.base+off,none⟩) (len+n) cap) w' /\
   Step P ρ h w (ρ.ext ⟨pl.c,pl.base+off,pl.size,pl.EG⟩) ((h.set b none).push (.cells (((cs.drop off).take (len*i.size))++new) elem)) w':=by
 obtain⟨sz1,sz2⟩:=jy hi;obtain⟨cs',fz,g1,g2,g3,g4,g5,g6⟩:=hr.place hg hm
 have key:∀(vs vs':List Value) (w0:World) (cc:Array Value) (j:Nat),w0.heap[pl.c]? = some (.cells cc elem fz)->cc.size=pl.size->pl.base+off+len*i.size+j+vs.length<=pl.size->wC ρ vs vs'->(∀x∈vs,wi x=true) ->
   ∃w',(storeCells ⟨pl.c,pl.base+off+len*i.size,none⟩ vs' j).run P w0=.ok () w'/\(∃dd:Array Value,w'.heap[pl.c]? = some (.cells dd elem fz)/\dd.size=cc.size /\
    (∀k,(k<pl.base+off+len*i.size+j)->dd[k]? = cc[k]?)/\(∀k y,vs'[k]? = some y->dd[pl.base+off+len*i.size+j+k]? = some y)) /\
    (∀k,k≠pl.c->w'.heap[k]? = w0.heap[k]?)/\w'.os=w0.os/\w'.tape=w0.tape/\w'.output=w0.output/\w'.heap.size=w0.heap.size:=by
  intro vs
  induction vs with
  |nil=>
   intro vs' w0 cc j hb hsz _ hv _;cases hv.uT;exact⟨w0,rfl,⟨cc,hb,rfl,λ_ _=>rfl,λk y hy=>by simp at hy⟩,λ_ _=>rfl,rfl,rfl,rfl,rfl⟩
  |cons v vs ih=>
   intro vs' w0 cc j hb hsz hle hv hco;obtain⟨v',vs'',rfl,hv1,hv2⟩:=hv.cons_inv;simp only[aaB]at hle
   let p:=pl.base+off+len*i.size+j
   have hp:p<pl.size:=by show pl.base+off+len*i.size+j<pl.size;omega
   have hone:v'.oneCell'=true:=by have:=iG hv1;rw[hco v (by simp)]at this;cases v' <;> simp_all [wi,Value.oneCell']
   have hcell0:w0.cell? ⟨pl.c,p,none⟩=some cc[p]!:=by
    simp only[World.cell?,hb];simp[getElem!_def,aaN (show p<cc.size by omega)]
   have hfr:w0.frozen? ⟨pl.c,p,none⟩=false:=by
    have:=g5 (by simpa using hro) p hp;obtain⟨lo,hi'⟩:=fz;simp[World.frozen?,hb]at this ⊢;exact this
   have e1:(store ⟨pl.c,p,none⟩ v').run P w0=.ok () (w0.setCell ⟨pl.c,p,none⟩ v'):=by
    rw[run_store _ _ _ _ _ hone,hcell0];simp[hfr]
   have hb1:(w0.setCell ⟨pl.c,p,none⟩ v').heap[pl.c]? = some (.cells (cc.setIfInBounds p v') elem fz):=by simp[World.setCell,Array.getElem?_modify,hb]
   obtain⟨w',e2,⟨dd,d1,d2,d3,d4⟩,d5,d6,d7,d8,d9⟩:=ih vs'' _ (cc.setIfInBounds p v') (j+1) hb1 (by simpa using hsz) (by omega) hv2 (λx hx=>hco x (by simp[hx]));refine⟨w',?_,⟨dd,d1,by simpa using d2,λk hk=>?_,λk y hy=>?_⟩,λk hk=>(d5 k hk).trans (Qx _ _ _ _ hk),d6,d7,d8,d9.trans (size_setCell _ _ _)⟩
   ·simp only[storeCells,Zb,aai];rw[show(⟨pl.c,pl.base+off+len*i.size+j,none⟩:Addr)=⟨pl.c,p,none⟩ from rfl,e1];exact e2
   ·rw[d3 k (by omega),aa7,aak (by show p≠k;omega)]
   ·cases k with
    |zero=>
     simp only[aaf,aab]at hy;subst hy;rw[acf,d3 _ (by omega),aa7,aam rfl,aam (by omega)]
    |succ k=>
     have:=d4 k y (by simpa using hy);rw[show pl.base+off+len*i.size+j+(k+1)=pl.base+off+len*i.size+(j+1)+k by omega];exact this
 have hfit:pl.base+off+len*i.size+0+new.length<=pl.size:=by
  have:len*i.size+n*i.size<=cap*i.size:=by rw[<- acB];exact abA _ hfits
  omega
 obtain⟨w',e,⟨dd,d1,d2,d3,d4⟩,d5,d6,d7,d8,d9⟩:=key new new' w cs' 0 g1 g2 hfit vnew hcell;refine⟨w',?_,?_⟩
 ·simp only[Builtin.append_];simp only[abP,aaf,aaj,aai,zj h1,aad,sz2,zj h2,aap];rw[aak (by cases xd <;> first|exact acv|cases h3)];simp only[aai,hlen,aad];rw[aam hfits];rw[aam (by cases xd <;> first|rfl|cases h3)];simp only[aai,hnew,aad,Zb,e,aap]
 ·have hr0:=hr.drop b;have hle:=ρ.dU ⟨pl.c,pl.base+off,pl.size,pl.EG⟩
  have hr1:Rel P ρ (h.set b none) w':=⟨hr0.next,hr0.ro,hr0.Qv,λx ox hx=>by
    obtain⟨p,hp,hc⟩:=hr0.ok x ox hx;refine⟨p,hp,hc.other (d5 _ ?_)⟩;intro ec;rw[za.yD]at hx;split at hx
    ·cases hx
    ·rename_i ne;exact ne (hr.inj x b _ _ p pl hx hg hp hm ec),hr0.inj,hr0.dQ,hr0.Yt⟩
  refine⟨hle,hr1.push ⟨dd,fz,d1,d2.trans g2,⟨g3.1,by
   show(pl.base+off)%pl.EG=0;rw[Nat.add_mod,g3.2,g3.1,sz1,hoff];simp⟩,?_,λ_=>g5 (by simpa using hro),?_⟩ ?_,rfl,d6,d7,d8,by omega,λk hk hn=>d5 k (λec=>hn ⟨b,_,pl,hg,hro,hm,ec.symm⟩),?_⟩
  ·simp only[acu,acq,aca,hnl]at hfit ⊢;have:len*i.size+n*i.size<=cap*i.size:=by rw[<- acB];exact abA _ hfits
   show pl.base+off+(min (len*i.size) (cs.length-off)+n*i.size)<=dd.size;omega
  ·intro k x hx;rcases aaA k (len*i.size) with hk|hk
   ·have hk':k<((cs.drop off).take (len*i.size)).length:=(by simp only[acq,aca];omega);rw[abh hk',aaX hk,aaW]at hx;obtain⟨y,hy,hxy⟩:=g6 _ _ hx;exact⟨y,by rw[show(pl.base+off:Nat)+k=pl.base+(off+k) by omega,d3 _ (by omega)];exact hy,hxy.mono hle⟩
   ·have hl0:((cs.drop off).take (len*i.size)).length=len*i.size:=(by simp only[acq,aca];omega);rw[abl (by omega),hl0]at hx;obtain⟨y,hy,hxy⟩:=vnew.get hx;refine⟨y,?_,hxy.mono hle⟩;have:=d4 _ _ hy;rw[show(pl.base+off:Nat)+k=pl.base+off+len*i.size+0+(k-len*i.size) by omega];exact this
  ·intro x o p hx hp ec;rw[za.yD]at hx;split at hx
   ·cases hx
   ·rename_i ne;exact ne (hr.inj x b _ _ p pl hx hg hp hm ec)
  ·rintro k hk ⟨x,o,p,hx,hrx,hp,hpc⟩;rw[za.vK]at hx;split at hx
   ·rename_i ex;subst ex;rw[show(h.set b none).next=ρ.next from hr.next.symm,xr.kP]at hp;cases hp;exact⟨b,_,pl,hg,hro,hm,hpc⟩
   ·have hlt:=hr0.Qv x o hx;have hp':ρ.m x=some p:=by rw[<- hp];exact(hle.2 x (by rw[hr0.next];exact hlt)).symm
    rw[za.yD]at hx;split at hx
    ·cases hx
    ·exact⟨x,o,p,hx,hrx,hp',hpc⟩
end
noncomputable section
variable {P:Program}
def uQ(c need:Nat):Nat :=
 match c with
 |k+2=>cond (Nat.ble need k) (k+2) 1
 |_=>1
theorem Vi{c need k:Nat}(h:uQ c need=k+2):c=k+2/\need<=k:=by
 unfold uQ at h;split at h
 ·rename_i q;cases hq:Nat.ble need q with
  |true=>rw[hq]at h;simp only[aax]at h;exact⟨h,by have:=aaH hq;omega⟩
  |false=>rw[hq]at h;simp only[aaK]at h;omega
 ·omega
def roomFor(c need bytes:Nat):Bool:=Nat.ble (need*bytes) (cond (Nat.beq c 2) (2^48) (2^47))
def Uk(h:za)(elem:TypeId)(i:TypeInfo)(n:Nat)(new:List Value)(s:Value):Option (Value×za) :=
 match s with
 | .slice none 0 0=>cond (Nat.beq n 0) (some (.slice none 0 0,h)) (cond (Nat.ble (n*i.bytes) (2^48)) (some (.slice (some ⟨h.next,0,none⟩) n 1,h.push (.cells new elem))) none)
 | .slice (some ⟨b,off,none⟩) len c=>cond (Nat.beq n 0) (some (s,h)) (match h.get b with
   |some (.cells cs t)=>cond (!(Nat.beq c 0)&&Nat.beq t elem&&Nat.ble h.ro b&&Nat.ble (off+len*i.size) cs.length&&(roomFor c (len+n) i.bytes&&Nat.beq (off%i.size) 0))
     (some (.slice (some ⟨h.next,0,none⟩) (len+n) (uQ c (len+n)),(h.set b none).push (.cells (((cs.drop off).take (len*i.size))++new) elem))) none
   |_=>none)
 |_=>none
def VJ(P:Program)(sT xT:TypeId)(s x:Value)(h:za):Option (Value×za) :=
 match z9 P (underlying sT),z9 P (underlying xT),YP x with
 |some (.slice elem),some xd,some n=>(match z9 P (typeInfo elem),wD P elem with
  |some i,some z=>(match vE h n i.size x with
   |some new=>cond (!(dS xd)&&Nat.blt 0 i.bytes&&Nat.beq z.cells.size i.size&&new.all wi&&Nat.beq new.length (n*i.size)) (Uk h elem i n new s) none
   |none=>none)
  |_,_=>none)
 |_,_,_=>none
theorem Step.DG{ρ:xr}{h:za}{w:World}(hr:Rel P ρ h w)(b:Nat):Step P ρ h w ρ (h.set b none) w :=
 ⟨xr.le_refl _,hr.drop b,rfl,rfl,rfl,rfl,aal _,λ_ _ _=>rfl,λc _ hm=>by
  obtain⟨x,o,pl,hx,h1,h2,h3⟩:=hm;rw[za.yD]at hx;split at hx
  ·cases hx
  ·exact⟨x,o,pl,hx,h1,h2,h3⟩⟩
theorem Wu{sT xT elem:TypeId}{r:TypeId}{xd:TypeDesc}{i:TypeInfo}{len cap:Nat}{base:Option Addr}{x':Value}{w:World}
  (h1:z9 P (underlying sT)=some (.slice elem)) (h2:z9 P (underlying xT)=some xd) (h3:dS xd=false) (hi:z9 P (typeInfo elem)=some i)
  (hlen:∀w,(Builtin.lenOf x').run P w=.ok 0 w) (hl:len<=cap) (hnew:(Builtin.firstCells i.size 0 x').run P w=.ok ([]:List Value).toArray w) :
  (Builtin.append_ #[sT,xT] r #[.slice base len cap,x']).run P w=.ok (.slice base len cap) w:=by
 obtain⟨sz1,sz2⟩:=jy hi;simp only[Builtin.append_];simp only[abP,aaf,aaj,aai,zj h1,aad,sz2,zj h2,aap];rw[aak (by cases xd <;> first|exact acv|cases h3)];simp only[aai,hlen,aad];rw[aam (by omega)];rw[aam (by cases xd <;> first|rfl|cases h3)];simp only[aai,hnew,aad,acf];cases base with
 |none=>simp only[aap]
 |some a=>simp only[storeCells,aap,aad,aai]
set_option maxHeartbeats 1000000 in
theorem mI{ρ:xr}{sT xT r:TypeId}{s s' x x' v:Value}{h h':za}{w:World}(he:VJ P sT xT s x h=some (v,h'))(hr:Rel P ρ h w)(hs:zI ρ s s')(hx:zI ρ x x') :
  ∃v' w' ρ',(Builtin.append_ #[sT,xT] r #[s',x']).run P w=.ok v' w'/\Step P ρ h w ρ' h' w'/\zI ρ' v v':=by
 unfold VJ at he;split at he
 case h_2=>cases he
 rename_i elem xd n h1 h2 hn;split at he
 case h_2=>cases he
 rename_i i z hi hz;split at he
 case h_2=>cases he
 rename_i new hnew;cases hc:(!(dS xd)&&Nat.blt 0 i.bytes&&Nat.beq z.cells.size i.size&&new.all wi&&Nat.beq new.length (n*i.size)) with
 |false=>rw[hc]at he;cases he
 |true=>
  rw[hc]at he;simp only[aax]at he;simp only[aah,aav,aaJ]at hc;obtain⟨⟨⟨⟨h3,hb⟩,hzs⟩,hco⟩,hnl⟩:=hc;have hb:0<i.bytes:=by simpa [aa0] using hb
  have hzs:=aar hzs;have hnl:=aar hnl;have hlen:∀w,(Builtin.lenOf x').run P w=.ok n w:=λw=>eN hn hx w;have hnx:∀b l cap,x=.slice b l cap->n<=l:=by intro b l cap e;subst e;simp only[YP,aab]at hn;omega
  obtain⟨new',hnew',vnew⟩:=Qa hnew hr hx hnx
  have hnil:n=0->(Builtin.firstCells i.size 0 x').run P w=.ok ([]:List Value).toArray w:=by
   intro e;subst e;have:new'=[]:=by have:=vnew.1;rw[hnl,acD]at this;exact abv this.symm
   rw[this]at hnew';exact hnew'
  have hr1:Rel P ρ h {w with drawn:=w.drawn+1}:=hr.grow (λk _=>rfl);obtain⟨new1,hnew1,vnew1⟩:=Qa (w:={w with drawn:=w.drawn+1}) hnew hr1 hx hnx;unfold Uk at he;split at he
  ·
   cases hs;cases hz0:Nat.beq n 0 with
   |true=>
    obtain rfl:=aar hz0;rw[hz0]at he;simp only[aax,aab,aag]at he;obtain⟨rfl,rfl⟩:=he;exact⟨_,w,ρ,Wu h1 h2 h3 hi hlen (aal 0) (hnil rfl),.refl hr,.sliceNil 0⟩
   |false=>
    rw[hz0]at he
    have hn0:0<n:=by rcases acg n with e|e; · subst e;simp at hz0
                     ·exact e
    cases hlim:Nat.ble (n*i.bytes) (2^48) with
    |false=>rw[hlim]at he;cases he
    |true=>
     rw[hlim]at he;simp only[aax,aaK,aab,aag]at he;obtain⟨rfl,rfl⟩:=he;have hlim:=aaH hlim
     obtain⟨cap',w',pl,e1,e2,e3,e4,e5,e6,st⟩:=run_append_grow (r:=r) (base:=none) (len:=0) (cap:=0) (old:=[]) (old':=[]) hr h1 h2 h3 hi hz hb hzs hlen (by omega)
      (by rw[bQ _ (by omega)];simpa using hlim) (by simp[Builtin.firstCells]) hnew1 (.nil ρ) vnew1 (by simp) hnl
     rw[aau]at e1 e2;refine⟨_,w',_,e1,st,?_⟩
     have:=zI.slice (ρ:=ρ.ext pl) (b:=h.next) (off:=0) (len:=n) (c:=1) (cap:=cap') (pl:=pl) (by show h.next<ρ.next+1;rw[hr.next];exact aa4 _) (by rw[<- hr.next];exact ρ.kP _) e2
      (λ_=>⟨by rw[e4,e5];simpa using e6,λk hk=>by omega⟩)
     rw[e3,e4]at this;exact this
  ·rename_i b off len c;cases hz0:Nat.beq n 0 with
   |true=>
    obtain rfl:=aar hz0;rw[hz0]at he;simp only[aax,aab,aag]at he;obtain⟨rfl,rfl⟩:=he;cases hs with
    |slice hb' hm' hl' hc'=>exact⟨_,w,ρ,Wu h1 h2 h3 hi hlen hl' (hnil rfl),.refl hr,.slice hb' hm' hl' hc'⟩
    |sliceOut hb' hc'=>exact⟨_,w,ρ,Wu h1 h2 h3 hi hlen (aal 0) (hnil rfl),.refl hr,.sliceOut hb' hc'⟩
   |false=>
    rw[hz0]at he
    have hn0:0<n:=by rcases acg n with e|e; · subst e;simp at hz0
                     ·exact e
    simp only[aaK]at he;split at he
    case h_2=>cases he
    rename_i cs t hg;cases hcc:(!(Nat.beq c 0)&&Nat.beq t elem&&Nat.ble h.ro b&&Nat.ble (off+len*i.size) cs.length&&(roomFor c (len+n) i.bytes&&Nat.beq (off%i.size) 0)) with
    |false=>rw[hcc]at he;cases he
    |true=>
     rw[hcc]at he;simp only[aax,aab,aag]at he;obtain⟨rfl,rfl⟩:=he;simp only[aah,aav]at hcc;obtain⟨⟨⟨⟨k1,k2⟩,k3⟩,k4⟩,k5,k6⟩:=hcc;have k1:c≠0:=by intro e;subst e;simp at k1
     obtain rfl:=aar k2;have k3:=aaH k3;have k4:=aaH k4
     have hlim:∀cap,cap<len+n->(c=2->cap=0)->Builtin.nextslicecap (len+n) cap*i.bytes<=2^48:=by
      intro cap hcap h2c;unfold roomFor at k5;by_cases e2:c=2
      ·subst e2;rw[h2c rfl,bQ _ (by omega)];simp only[acd,aax]at k5;exact aaH k5
      ·rw[show Nat.beq c 2=false from Tr.beq_false e2]at k5;simp only[aaK]at k5;have k5:=aaH k5;have:=DD (len+n) cap hcap
       calc Builtin.nextslicecap (len+n) cap*i.bytes<=(2*(len+n))*i.bytes:=abA _ this
        _=2*((len+n)*i.bytes):=Nat.mul_assoc _ _ _
        _<=2*2^47:=Nat.mul_le_mul_left _ k5
        _=2^48:=by decide
     have hdropr:=hr.drop b;cases hs with
     |slice hb' hm' hl' hc'=>
      rename_i cap pl;obtain⟨c1,c2⟩:=hc' k1;obtain⟨sz1,_⟩:=jy hi;have hpl:=hr.place hg hm';have hesz:pl.EG=i.size:=by obtain⟨_,_,_,_,q,_⟩:=hpl;rw[q.1,sz1]
      by_cases hfit:len+n<=cap
      ·obtain⟨w',e1,st⟩:=mV (r:=r) hr h1 h2 h3 hi hlen hfit hg hm' k3 hnew' vnew hnl hco (by rw[<- hesz];exact c1) k4 (aar k6);refine⟨_,w',_,e1,st,?_⟩
       have:=zI.slice (ρ:=ρ.ext ⟨pl.c,pl.base+off,pl.size,pl.EG⟩) (b:=h.next) (off:=0) (len:=len+n) (c:=uQ c (len+n)) (cap:=cap) (pl:=⟨pl.c,pl.base+off,pl.size,pl.EG⟩)
        (by show h.next<ρ.next+1;rw[hr.next];exact aa4 _) (by rw[<- hr.next];exact ρ.kP _) hfit
        (λ_=>⟨by simpa using c1,λk hk=>c2 k (Vi hk).1⟩)
       simpa using this
      ·have hfull:(c=2->cap=0):=λe=>c2 0 (by omega);obtain⟨old',hold',vold⟩:=jw (hr1.place hg hm') off (len*i.size) k4
       obtain⟨cap',w',pl',e1,e2,e3,e4,e5,e6,st⟩:=run_append_grow (r:=r) (base:=some ⟨pl.c,pl.base+off,none⟩) (len:=len) (cap:=cap) hdropr h1 h2 h3 hi hz hb hzs hlen (by omega)
        (hlim cap (by omega) hfull) (by simpa only[Builtin.firstCells] using hold') hnew1 vold vnew1 (by simp only[acq,aca];omega) hnl
       refine⟨_,w',_,e1,(Step.DG hr b).trans st,?_⟩
       have:=zI.slice (ρ:=ρ.ext pl') (b:=h.next) (off:=0) (len:=len+n) (c:=uQ c (len+n)) (cap:=cap') (pl:=pl') (by show h.next<ρ.next+1;rw[hr.next];exact aa4 _) (by rw[<- hr.next];exact ρ.kP _) e2
        (λ_=>⟨by rw[e4,e5];simpa using e6,λk hk=>by
         have q:=Vi hk;have:=c2 k q.1;omega⟩)
       rw[e3,e4]at this;exact this
     |sliceOut hb' hc'=>
      obtain⟨cap',w',pl',e1,e2,e3,e4,e5,e6,st⟩:=run_append_grow (r:=r) (base:=some _) (len:=0) (cap:=0) (old:=(cs.drop off).take (0*i.size)) (old':=[]) hdropr h1 h2 h3 hi hz hb hzs hlen (by omega)
       (hlim 0 (by omega) (λ_=>rfl)) (by simp only[Builtin.firstCells,acD];rfl) hnew1 (by simp[wC]) vnew1 (by simp) hnl
      refine⟨_,w',_,e1,(Step.DG hr b).trans st,?_⟩
      have:=zI.slice (ρ:=ρ.ext pl') (b:=h.next) (off:=0) (len:=0+n) (c:=uQ c (0+n)) (cap:=cap') (pl:=pl') (by show h.next<ρ.next+1;rw[hr.next];exact aa4 _) (by rw[<- hr.next];exact ρ.kP _) e2
       (λ_=>⟨by rw[e4,e5];simpa using e6,λk hk=>by
        have q:=Vi hk;omega⟩)
      rw[e3,e4]at this;exact this
  ·cases he
end
noncomputable section
variable {P:Program}
def KK(h:za)(b off:Nat)(new:List Value):Option za :=
 cond (Nat.beq new.length 0) (some h) (match h.get b with
  |some (.cells cs t)=>cond (Nat.ble h.ro b&&Nat.ble (off+new.length) cs.length&&new.all wi) (some (h.set b (some (.cells (zf cs off new) t)))) none
  |_=>none)
theorem mO{ρ:xr}{h h':za}{w:World}{b off:Nat}{pl:Place}{new new':List Value}(he:KK h b off new=some h')(hr:Rel P ρ h w)(hm:ρ.m b=some pl)(hv:wC ρ new new') :
  ∃w',(storeCells ⟨pl.c,pl.base+off,none⟩ new').run P w=.ok () w'/\Step P ρ h w ρ h' w':=by
 unfold KK at he;cases hz:Nat.beq new.length 0 with
 |true=>
  rw[hz]at he;simp only[aax,aab]at he;subst he;have:new=[]:=abv (aar hz);subst this;cases hv.uT;exact⟨w,rfl,.refl hr⟩
 |false=>
  rw[hz]at he;simp only[aaK]at he;split at he
  case h_2=>cases he
  rename_i cs t hg;cases hc:(Nat.ble h.ro b&&Nat.ble (off+new.length) cs.length&&new.all wi) with
  |false=>rw[hc]at he;cases he
  |true=>
   rw[hc]at he;simp only[aax,aab]at he;subst he;simp only[aah,aaJ]at hc;exact Ke (o:=off) hm new new' h w cs 0 hr hg (aaH hc.1.1) (by have:=aaH hc.1.2;omega) hv hc.2
def Av(P:Program)(dT:TypeId)(d x:Value)(h:za):Option (Value×za) :=
 match z9 P (underlying dT),d,YP x with
 |some (.slice elem),.slice base dl _,some m=>(match z9 P (typeInfo elem) with
  |none=>none
  |some i=>(match vE h (Nat.min m dl) i.size x with
   |none=>none
   |some new=>(match base with
    |none=>some (goInt (Nat.min m dl),h)
    |some ⟨b,off,none⟩=>(KK h b off new).map λh'=>(goInt (Nat.min m dl),h')
    |some _=>none)))
 |_,_,_=>none
theorem Aw{ρ:xr}{dT r:TypeId}{ts:Array TypeId}{d d' x x' v:Value}{h h':za}{w:World}(he:Av P dT d x h=some (v,h'))(hr:Rel P ρ h w)(hd:zI ρ d d')(hx:zI ρ x x')(hts:ts[0]? = some dT) :
  ∃v' w',(Builtin.copy_ ts r #[d',x']).run P w=.ok v' w'/\Step P ρ h w ρ h' w'/\zI ρ v v':=by
 unfold Av at he;split at he
 case h_2=>cases he
 rename_i elem base dl c m hu hm;split at he
 case h_1=>cases he
 rename_i i hi;obtain⟨sz1,sz2⟩:=jy hi;split at he
 case h_1=>cases he
 rename_i new hnew;have hlen:=λw=>eN (P:=P) hm hx w;obtain⟨new',hnew',vnew⟩:=Qa hnew hr hx (by intro b l cap e;subst e;simp only[YP,aab]at hm;subst hm;exact Nat.min_le_left _ _);cases hd with
 |sliceNil=>
  simp only[aab,aag]at he;obtain⟨rfl,rfl⟩:=he;refine⟨goInt (Nat.min m 0),w,?_,.refl hr,.int _ _⟩;simp only[Builtin.copy_,hts];simp only[abP,aaf,aaj,aai,zj hu,aad,hlen,sz2,hnew',aap]
 |slice hb hmm hl hc=>
  simp only[aas,aag]at he;obtain⟨h2,hsp,rfl,rfl⟩:=he;obtain⟨w',e,st⟩:=mO hsp hr hmm vnew;refine⟨_,w',?_,st,.int _ _⟩;simp only[Builtin.copy_,hts];simp only[abP,aaf,aaj,aai,zj hu,aad,hlen,sz2,hnew',e,aap];rfl
 |sliceOut hb hc=>
  simp only[aas,aag]at he;obtain⟨h2,hsp,rfl,rfl⟩:=he;have hmin:Nat.min m 0=0:=Nat.min_zero m
  have hnil:new=[]:=by
   rw[hmin]at hnew;cases hx with
   |sliceNil=>simp only[vE,aab]at hnew;exact hnew.symm
   |slice=>simp only[vE,acD,acd,aax,aab]at hnew;exact hnew.symm
   |sliceOut=>simp only[vE,acD,acd,aax,aab]at hnew;exact hnew.symm
   |string=>simp only[vE,aab]at hnew;rw[<- hnew];simp
   |_=>cases hm
  subst hnil;cases vnew.uT;simp only[KK,aaz,acd,aax,aab]at hsp;subst hsp;refine⟨goInt (Nat.min m 0),w,?_,.refl hr,.int _ _⟩;simp only[Builtin.copy_,hts];simp only[abP,aaf,aaj,aai,zj hu,aad,hlen,sz2,hnew',aap,storeCells]
def iu(P:Program)(t:TypeId)(x:Value)(h:za):Option za:=none
theorem rj{ρ:xr}{t r:TypeId}{x x':Value}{h h':za}{w:World}(he:iu P t x h=some h')(hr:Rel P ρ h w)(hx:zI ρ x x') :
  ∃w',(Builtin.clear_ #[t] r #[x']).run P w=.ok undef w'/\Step P ρ h w ρ h' w':=by
 unfold iu at he;cases he
def bytesOf:List Value->ByteArray->Option ByteArray
 |[],s=>some s
 | .int .u8 n::l,s=>bytesOf l (s.push (UInt8.ofNat n.toNat))
 |_::_,_=>none
def Of(h:za)(x:Value):Option Value :=
 match x with
 | .slice none _ _=>some (.string .empty)
 | .slice (some ⟨b,off,none⟩) n _=>cond (Nat.beq n 0) (some (.string .empty)) (match h.get b with
   |some (.cells c _)=>cond (Nat.ble (off+n) c.length) ((bytesOf ((c.drop off).take n) .empty).map .string) none
   |_=>none)
 |_=>none
theorem eT{ρ:xr}:∀(l l':List Value) (s r:ByteArray),bytesOf l s=some r->wC ρ l l'->∀w:World,
  (forIn l' s λc s=>(match c with
   | .int .u8 n=>pure (ForInStep.yield (s.push (UInt8.ofNat n.toNat)))
   |_=>(do stuck "bytesToString: byte expected";pure (ForInStep.yield s)):Sem (ForInStep ByteArray))).run P w=.ok r w
 |[],l',s,r,h,hv,w=>by
  cases hv.uT;simp only[bytesOf,aab]at h;subst h;rfl
 |x::l,l',s,r,h,hv,w=>by
  obtain⟨y,ys,rfl,h1,h2⟩:=hv.cons_inv;unfold bytesOf at h;split at h
  ·rename_i e;cases e
  ·rename_i e;simp only[abj]at e;obtain⟨rfl,rfl⟩:=e;cases h1;rw[List.forIn_cons];simp only[aai,aap,aad];exact eT _ _ _ _ h h2 w
  ·cases h
theorem CP{ρ:xr}{h:za}{w:World}{x x' v:Value}(he:Of h x=some v)(hr:Rel P ρ h w)(hx:zI ρ x x'):(Conv.bytesToString x').run P w=.ok v w/\zI ρ v v:=by
 unfold Of at he;split at he
 ·simp only[aab]at he;subst he;cases hx;exact⟨rfl,.string _⟩
 ·rename_i b off n c;cases hz:Nat.beq n 0 with
  |true=>
   rw[hz]at he;obtain rfl:=aar hz;simp only[aax,aab]at he;subst he;refine⟨?_,.string _⟩;cases hx <;> (simp only[Conv.bytesToString,loadCells,loadCellsFrom,aai,aap,aad];rw[<- Array.forIn_toList];rfl)
  |false=>
   rw[hz]at he;simp only[aaK]at he;split at he
   case h_2=>cases he
   rename_i cs t hg;cases hle:Nat.ble (off+n) cs.length with
   |false=>rw[hle]at he;cases he
   |true=>
    rw[hle]at he;simp only[aax,aas]at he;obtain⟨r,hb,rfl⟩:=he;refine⟨?_,.string _⟩;cases hx with
    |slice hb' hm hl hc=>
     obtain⟨ys,hys,hv⟩:=jw (hr.place hg hm) off n (aaH hle);simp only[Conv.bytesToString,aai,hys,aad];rw[<- Array.forIn_toList];have:=eT (P:=P) _ _ _ _ hb hv w;rw[show ys.toArray.toList=ys from rfl];exact(congrArg (λq:Result ByteArray=>q.andThen λa w'=>Sem.run P (pure (Value.string a)) w') this)
    |sliceOut=>simp at hz
 ·cases he
end
end Go.Ai
