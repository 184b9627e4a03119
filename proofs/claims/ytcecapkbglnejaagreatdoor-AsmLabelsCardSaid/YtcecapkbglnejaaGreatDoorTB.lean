/- A part of the proof. -/
import Derived.Test.YtcecapkbglnejaaGreatDoorTA
import GoSem.Builtin.Delete
import Derived.Lib.Builder
import Derived.Lib.UnsafeStr
import Derived.LaidEqlPtr
import GoSem.Builtin.Cap
import GoSem.Builtin.UnsafeString
import Derived.Laws.Externs
import Derived.Lib.MakeNoZero
import Derived.Orders
set_option linter.unusedVariables false
set_option linter.unusedSimpArgs false
set_option maxRecDepth 100000
namespace Go.Ai
noncomputable section
variable {P:Program}
theorem QV{α:Type}{b:Bool}{x:Option α}{y:α}(h:cond b x none=some y):b=true/\x=some y:=by
 cases b
 ·cases h
 ·exact⟨rfl,h⟩
abbrev UE:=Value×Value×Nat
def aM(k:Value):MapEntry:={key:=k,val:=undef,born:=0}
def oD(P:Program)(kt:TypeId)(k:Value)(es:List UE):Option (Option Nat) :=
 cond (flat k&&es.all λe=>flat e.1) (match z9 P (Instr.findKey kt k (es.map λe=>aM e.1)) with
  |some (some (i,_))=>some (some i)
  |some none=>some none
  |none=>none) none
def Y4(ρ:xr)(es:List UE)(ms:List MapEntry):Prop:=es.length=ms.length /\ ∀(i:Nat) x m,es[i]? = some x->ms[i]? = some m->zI ρ x.1 m.key/\zI ρ x.2.1 m.val/\m.born=x.2.2
theorem Y4.tail{ρ:xr}{x:UE}{es:List UE}{m:MapEntry}{ms:List MapEntry}(h:Y4 ρ (x::es) (m::ms)):(zI ρ x.1 m.key/\zI ρ x.2.1 m.val/\m.born=x.2.2)/\Y4 ρ es ms :=
 ⟨h.2 0 x m rfl rfl,by simpa using h.1,λi a b ha hb=>h.2 (i+1) a b (by simpa using ha) (by simpa using hb)⟩
theorem Y4.nil{ρ:xr}:Y4 ρ [] []:=⟨rfl,λi x m hx=>by simp at hx⟩
theorem Y4.uT{ρ:xr}{ms:List MapEntry}(h:Y4 ρ [] ms):ms=[]:=abv (by have:=h.1;simpa using this.symm)
theorem Y4.cons_inv{ρ:xr}{x:UE}{es:List UE}{ms:List MapEntry}(h:Y4 ρ (x::es) ms):∃m ms',ms=m::ms'/\(zI ρ x.1 m.key/\zI ρ x.2.1 m.val/\m.born=x.2.2)/\Y4 ρ es ms':=by
 cases ms with
 |nil=>have:=h.1;simp at this
 |cons m ms=>exact⟨m,ms,rfl,h.tail⟩
theorem Y4.keys{ρ:xr}:∀{es:List UE} {ms:List MapEntry},Y4 ρ es ms->(es.all λe=>flat e.1)=true->ms.map (·.key)=(es.map λe=>aM e.1).map (·.key)
 |[],ms,h,_=>by rw[h.uT];rfl
 |x::es,ms,h,hf=>by
  obtain⟨m,ms',rfl,h1,h2⟩:=h.cons_inv;simp only[aba,aah]at hf;simp only[abz];rw[kR h1.1 hf.1,Y4.keys h2 hf.2];rfl
theorem bE{kind:TypeDesc}{k:Value}:∀{ms ns:List MapEntry} {i:Nat} {r:Option (Nat×Value)},ms.map (·.key)=ns.map (·.key)->Instr.findNow kind k ns i=some r ->
  ∃r',Instr.findNow kind k ms i=some r'/\r'.map (·.1)=r.map (·.1)
 |[],[],i,r,_,h=>by simp only[Instr.findNow,aab]at h;subst h;exact⟨none,rfl,rfl⟩
 |[],_::_,i,r,e,h=>by simp at e
 |_::_,[],i,r,e,h=>by simp at e
 |m::ms,n::ns,i,r,e,h=>by
  simp only[abz,abj]at e;simp only[Instr.findNow]at h ⊢;rw[e.1];split at h
  ·rename_i hs;simp only[aab]at h;subst h;exact⟨_,rfl,rfl⟩
  ·rename_i hs;obtain⟨r',h1,h2⟩:=bE e.2 h;exact⟨r',h1,h2⟩
  ·cases h
theorem bF{kind:TypeDesc}{k:Value}:∀{ms ns:List MapEntry} {i:Nat},ms.map (·.key)=ns.map (·.key)->Instr.findNow kind k ns i=none->Instr.findNow kind k ms i=none
 |[],[],i,_,h=>h
 |[],_::_,i,e,h=>by simp at e
 |_::_,[],i,e,h=>by simp at e
 |m::ms,n::ns,i,e,h=>by
  simp only[abz,abj]at e;simp only[Instr.findNow]at h ⊢;rw[e.1];split at h
  ·cases h
  ·exact bF e.2 h
  ·rfl
theorem pI{α β:Type}{x:Sem α}{f:α->Sem β}{r:β}(h:z9 P (x >>= f)=some r):∃a,z9 P x=some a/\z9 P (f a)=some r:=by
 induction x with
 |pure a=>exact⟨a,rfl,h⟩
 |program k ih=>exact ih P h
 |_=>cases h
theorem Qw{kt:TypeId}{k:Value}:∀{ms ns:List MapEntry} {i:Nat} {r:Option (Nat×Value)},ms.map (·.key)=ns.map (·.key)->z9 P (Instr.findAsking kt k ns i)=some r ->
  ∃r',(∀w,(Instr.findAsking kt k ms i).run P w=.ok r' w)/\r'.map (·.1)=r.map (·.1)
 |[],[],i,r,_,h=>by
  have h:some none=some r:=h;simp only[aab]at h;subst h;exact⟨none,λw=>rfl,rfl⟩
 |[],_::_,i,r,e,h=>by simp at e
 |_::_,[],i,r,e,h=>by simp at e
 |m::ms,n::ns,i,r,e,h=>by
  simp only[abz,abj]at e;simp only[Instr.findAsking]at h;obtain⟨b,h1,h2⟩:=pI h;rw[<- e.1]at h1;cases b with
  |true=>
   simp only[aac]at h2;have h2:some (some (i,n.val))=some r:=h2;simp only[aab]at h2;subst h2;exact⟨some (i,m.val),λw=>by simp only[Instr.findAsking,aai,zj h1,aad,aac,aap],rfl⟩
  |false=>
   simp only[abc,aat]at h2;obtain⟨r',h3,h4⟩:=Qw e.2 h2;exact⟨r',λw=>by simp only[Instr.findAsking,aai,zj h1,aad,abc,aat,h3],h4⟩
theorem bD{kt:TypeId}{k:Value}{ms ns:List MapEntry}{r:Option (Nat×Value)}(e:ms.map (·.key)=ns.map (·.key))(h:z9 P (Instr.findKey kt k ns)=some r) :
  ∃r',(∀w,(Instr.findKey kt k ms).run P w=.ok r' w)/\r'.map (·.1)=r.map (·.1):=by
 simp only[Instr.findKey]at h;obtain⟨kind,h1,h2⟩:=pI h;split at h2
 ·rename_i r0 hn;have h2:some r0=some r:=h2;simp only[aab]at h2;subst h2;obtain⟨r',h3,h4⟩:=bE e hn;exact⟨r',λw=>by simp only[Instr.findKey,aai,zj h1,aad,h3,aap],h4⟩
 ·rename_i hn;obtain⟨r',h3,h4⟩:=Qw e h2;exact⟨r',λw=>by simp only[Instr.findKey,aai,zj h1,aad,bF e hn,h3],h4⟩
theorem iZ{kind:TypeDesc}{k:Value}:∀{ms:List MapEntry} {i j:Nat} {v:Value},Instr.findNow kind k ms i=some (some (j,v))->i<=j /\ ∃m,ms[j-i]? = some m/\m.val=v
 |[],i,j,v,h=>by simp[Instr.findNow]at h
 |m::ms,i,j,v,h=>by
  simp only[Instr.findNow]at h;split at h
  ·simp only[aab,aag]at h;obtain⟨rfl,rfl⟩:=h;exact⟨aal _,m,by simp,rfl⟩
  ·obtain⟨h1,x,h2,h3⟩:=iZ h;exact⟨by omega,x,by rw[show j-i=(j-(i+1))+1 by omega,aaj];exact h2,h3⟩
  ·cases h
theorem Jc{kt:TypeId}{k:Value}:∀{ms:List MapEntry} {i j:Nat} {v:Value} {w w':World},(Instr.findAsking kt k ms i).run P w=.ok (some (j,v)) w'->i<=j /\ ∃m,ms[j-i]? = some m/\m.val=v
 |[],i,j,v,w,w',h=>by simp[Instr.findAsking,aap]at h
 |m::ms,i,j,v,w,w',h=>by
  simp only[Instr.findAsking,aai]at h;cases he:(Op.equal kt k m.key).run P w with
  |halt a b=>rw[he]at h;cases h
  |ok b w1=>
   rw[he]at h;simp only[aad]at h;cases b with
   |true=>
    simp only[aac,aap,Result.ok.injEq,aab,aag]at h;obtain⟨⟨rfl,rfl⟩,_⟩:=h;exact⟨aal _,m,by simp,rfl⟩
   |false=>
    simp only[abc,aat]at h;obtain⟨h1,x,h2,h3⟩:=Jc h;exact⟨by omega,x,by rw[show j-i=(j-(i+1))+1 by omega,aaj];exact h2,h3⟩
theorem Df{kt:TypeId}{k:Value}{ms:List MapEntry}{j:Nat}{v:Value}{w w':World}(h:(Instr.findKey kt k ms).run P w=.ok (some (j,v)) w'):∃m,ms[j]? = some m/\m.val=v:=by
 simp only[Instr.findKey,aai]at h;cases he:(underlying kt).run P w with
 |halt a b=>rw[he]at h;cases h
 |ok kind w1=>
  rw[he]at h;simp only[aad]at h;split at h
  ·rename_i r hn;simp only[aap,Result.ok.injEq]at h;rw[h.1]at hn;obtain⟨_,x,h2,h3⟩:=iZ hn;exact⟨x,by simpa using h2,h3⟩
  ·obtain⟨_,x,h2,h3⟩:=Jc h;exact⟨x,by simpa using h2,h3⟩
theorem VM{ρ:xr}{kt:TypeId}{k k':Value}{es:List UE}{ms:List MapEntry}{r:Option Nat}(hk:zI ρ k k')(he:Y4 ρ es ms)(h:oD P kt k es=some r) :
  k'=k /\ ∃r',(∀w,(Instr.findKey kt k' ms).run P w=.ok r' w)/\(match r with
   |none=>r'=none
   |some i=>∃x m,es[i]? = some x/\ms[i]? = some m/\r'=some (i,m.val)/\zI ρ x.2.1 m.val/\m.born=x.2.2/\m.key=x.1):=by
 unfold oD at h;obtain⟨hf,h⟩:=QV h;simp only[aah]at hf;obtain rfl:=kR hk hf.1;refine⟨rfl,?_⟩;split at h
 ·rename_i i v hs;simp only[aab]at h;subst h;obtain⟨r',h1,h2⟩:=bD (he.keys hf.2) hs;refine⟨r',h1,?_⟩;cases r' with
  |none=>simp at h2
  |some y=>
   obtain⟨j,u⟩:=y;simp only[abq,aab]at h2;subst h2;obtain⟨m,hm,rfl⟩:=Df (h1 default)
   have hlt:j<es.length:=by
    rw[he.1];rcases aaA j ms.length with hl|hl
    ·exact hl
    ·rw[aao hl]at hm;cases hm
   have hx:=aae hlt;obtain⟨q1,q2,q3⟩:=he.2 j _ m hx hm
   have hfx:flat (es[j]).1=true:=by
    have:=hf.2;simp only[aaJ]at this;exact this _ (List.getElem_mem hlt)
   exact⟨_,m,hx,hm,rfl,q2,q3,kR q1 hfx⟩
 ·rename_i hs;simp only[aab]at h;subst h;obtain⟨r',h1,h2⟩:=bD (he.keys hf.2) hs;refine⟨r',h1,?_⟩;cases r' with
  |none=>rfl
  |some y=>simp at h2
 ·cases h
theorem Vu{w:World}{l:Nat}{ms:Array MapEntry}{c:Nat}(h:w.heap[l]? = some (.map ms c)):(getObj l).run P w=.ok (.map ms c) w:=by
 simp only[getObj,Sem.run,h]
theorem l8{w:World}{l:Nat}{ms:Array MapEntry}{c:Nat}(h:w.heap[l]? = some (.map ms c))(o:Obj):(setObj l o).run P w=.ok () {w with heap:=w.heap.setIfInBounds l o}:=by
 simp only[setObj,Sem.run,h]
theorem Rel.map{ρ:xr}{h:za}{w:World}(hr:Rel P ρ h w){b:Nat}{es:List UE}{q:Nat}{pl:Place}(hg:h.get b=some (.map es q))(hm:ρ.m b=some pl) :
  ∃ms,w.heap[pl.c]? = some (.map ms q)/\Y4 ρ es ms.toList:=by
 obtain⟨pl',hm',ms,h1,h2,h3⟩:=hr.ok b _ hg;rw[hm]at hm';cases hm';exact⟨ms,h1,by simp[h2],λi x m hx hm=>h3 i x m hx (by simpa using hm)⟩
theorem Y4.size{ρ:xr}{es:List UE}{ms:Array MapEntry}(h:Y4 ρ es ms.toList):ms.isEmpty=es.isEmpty:=by
 have:=h.1;cases es with
 |nil=>simp at this;rw[abM this.symm];rfl
 |cons x es=>simp at this;cases hs:ms.isEmpty with
  |false=>rfl
  |true=>simp at hs;subst hs;simp at this
def eY(h:za):Value->Option (List UE)
 | .map none=>some []
 | .map (some b)=>(match h.get b with
   |some (.map es _)=>some es
   |_=>none)
 |_=>none
def Ym(P:Program)(t:TypeId)(x k:Value)(commaOk:Bool)(h:za):Option Value :=
 match z9 P (underlying t),eY h x with
 |some (.map kt et),some es=>(match z9 P (Instr.checkKey es.isEmpty 10000 kt k) with
  |some _=>(match oD P kt k es with
   |some (some i)=>(match es[i]? with
    |some e=>some (cond commaOk (.tuple #[e.2.1,.bool true]) e.2.1)
    |none=>none)
   |some none=>(match wD P et with
    |some z=>some (cond commaOk (.tuple #[z,.bool false]) z)
    |none=>none)
   |none=>none)
  |none=>none)
 |_,_=>none
theorem DZ{ρ:xr}{a b a' b':Value}(h:zI ρ a a')(k:zI ρ b b'):zI ρ (.tuple #[a,b]) (.tuple #[a',b']) :=
 .tuple rfl (λi x y hx hy=>by
  rcases i with _|_|i
  ·simp at hx hy;subst hx hy;exact h
  ·simp at hx hy;subst hx hy;exact k
  ·simp at hx)
theorem mK{ρ:xr}{t:TypeId}{x x' k k' v:Value}{ok:Bool}{h:za}{w:World}(he:Ym P t x k ok h=some v)(hr:Rel P ρ h w)(hx:zI ρ x x')(hk:zI ρ k k') :
  ∃v',(Instr.lookup t x' k' ok).run P w=.ok v' w/\zI ρ v v':=by
 unfold Ym at he;split at he
 case h_2=>cases he
 rename_i kt et es ht hes;split at he
 case h_2=>cases he
 rename_i hck
 obtain⟨ms,hx',hrel⟩:∃ms:Array MapEntry,((x'=.map none/\ms = #[]) \/ ∃c q,x'=.map (some c)/\w.heap[c]? = some (.map ms q))/\Y4 ρ es ms.toList:=by
  cases hx with
  |mapNil=>simp only[eY,aab]at hes;subst hes;exact⟨#[],.inl ⟨rfl,rfl⟩,.nil⟩
  |map hb hm=>
   simp only[eY]at hes;split at hes
   ·rename_i g;simp only[aab]at hes;subst hes;obtain⟨ms,h1,h2⟩:=hr.map g hm;exact⟨ms,.inr ⟨_,_,rfl,h1⟩,h2⟩
   ·cases hes
  |_=>cases hes
 have hfin:∀{q q':Value} {b:Bool},zI ρ q q'->(pure (if ok then .tuple #[q',.bool b] else q'):Sem Value).run P w=.ok (cond ok (.tuple #[q',.bool b]) q') w/\zI ρ (cond ok (.tuple #[q,.bool b]) q) (cond ok (.tuple #[q',.bool b]) q'):=by
  intro q q' b hq;cases ok
  ·exact⟨rfl,hq⟩
  ·exact⟨rfl,DZ hq (.bool b)⟩
 rw[<- hrel.size]at hck;split at he
 ·rename_i i hf;obtain⟨rfl,r',hr',x0,m,hx0,hm,rfl,q1,q2,q3⟩:=VM hk hrel hf;rw[hx0]at he;simp only[aab]at he;subst he;refine⟨_,?_,(hfin (b:=true) q1).2⟩;rcases hx' with⟨rfl,rfl⟩|⟨c,q,rfl,hg⟩
  ·simp at hm
  ·simp only[Instr.lookup,aai,zj ht,aad,Vu hg,zj hck,hr',aap];exact(hfin (b:=true) q1).1
 ·rename_i hf;split at he
  case h_2=>cases he
  rename_i z hz;simp only[aab]at he;subst he;obtain⟨z1,z2⟩:=ZK (ρ:=ρ) hz w;obtain⟨rfl,r',hr',rfl⟩:=VM hk hrel hf;refine⟨_,?_,(hfin (b:=false) z2).2⟩;rcases hx' with⟨rfl,rfl⟩|⟨c,q,rfl,hg⟩
  ·simp only[Instr.lookup,aai,zj ht,aad,zj hck,hr',z1,aap];exact(hfin (b:=false) z2).1
  ·simp only[Instr.lookup,aai,zj ht,aad,Vu hg,zj hck,hr',z1,aap];exact(hfin (b:=false) z2).1
 ·cases he
def H8(P:Program)(t:TypeId)(x:Value)(h:za):Option Value :=
 match H7 P t x with
 |some v=>some v
 |none=>(match z9 P (underlying t),eY h x with
  |some (.map _ _),some es=>some (goInt es.length)
  |_,_=>none)
theorem Ay{ρ:xr}{t:TypeId}{x x' v:Value}{h:za}{w:World}(he:H8 P t x h=some v)(hr:Rel P ρ h w)(hx:zI ρ x x')(r:TypeId):(Builtin.len_ #[t] r #[x']).run P w=.ok v w/\zI ρ v v:=by
 unfold H8 at he;split at he
 ·rename_i hl;simp only[aab]at he;subst he;exact CY hl hx r w
 ·split at he
  case h_2=>cases he
  rename_i k e es ht hes;simp only[aab]at he;subst he;refine⟨?_,.int _ _⟩;cases hx with
  |mapNil=>simp only[eY,aab]at hes;subst hes;simp[Builtin.len_,zj ht]
  |map hb hm=>
   simp only[eY]at hes;split at hes
   ·rename_i g;simp only[aab]at hes;subst hes;obtain⟨ms,h1,h2⟩:=hr.map g hm;have hsz:=h2.1;simp only[abx]at hsz;simp[Builtin.len_,zj ht,Vu h1,hsz]
   ·cases hes
  |_=>cases hes
def vS(h:za):Value×za:=(.map (some h.next),h.push (.map [] 0))
theorem iA{ρ:xr}{h:za}{w:World}(hr:Rel P ρ h w)(t:TypeId) :
  ∃v' w' ρ',(Instr.makeMap t none).run P w=.ok v' w'/\Step P ρ h w ρ' (vS h).2 w'/\zI ρ' (vS h).1 v':=by
 let pl:Place:=⟨w.heap.size,0,0,0⟩
 refine⟨.map (some w.heap.size),{w with heap:=w.heap.push (.map #[] 0)},ρ.ext pl,rfl,Step.KT hr (ob := .map [] 0) (pl:=pl) rfl rfl ⟨#[],by simp[pl],rfl,λi x m hx=>by simp at hx⟩ rfl rfl rfl,?_⟩;exact .map (pl:=pl) (by show h.next<ρ.next+1;rw[hr.next];omega) (by rw[<- hr.next];exact ρ.kP pl)
theorem Step.Lz{ρ:xr}{h:za}{w:World}(hr:Rel P ρ h w){b:Nat}{ob:vg}{pl:Place}{wo:Obj}(g:h.get b=some ob)(hm:ρ.m b=some pl)(hro:h.ro<=b)(hg:w.heap[pl.c]? = some wo){ms':Array MapEntry}{q':Nat}{es':List UE}(hr':Y4 ρ es' ms'.toList) :
  Step P ρ h w ρ (h.set b (some (.map es' q'))) {w with heap:=w.heap.setIfInBounds pl.c (.map ms' q')}:=by
 refine Step.DK hr g hm hro (ob' := .map es' q') ⟨ms',?_,by have:=hr'.1;simpa using this.symm,λi x m hx hm=>hr'.2 i x m hx (by simpa using hm)⟩ rfl rfl rfl (by simp) (λk hk=>?_)
 ·show(w.heap.setIfInBounds pl.c _)[pl.c]? = _;rw[aa7,aam rfl,aam (YV hg)]
 ·show(w.heap.setIfInBounds pl.c _)[k]? = _;rw[aa7,aak (Ne.symm hk)]
def jj(P:Program)(t:TypeId)(x k v:Value)(h:za):Option za :=
 match z9 P (underlying t),x with
 |some (.map kt _),.map (some b)=>(match h.get b with
  |some (.map es q)=>(match z9 P (Instr.checkKey false 10000 kt k) with
   |some _=>cond (Nat.ble h.ro b)
     (match oD P kt k es with
      |some (some i)=>(match es[i]? with
       |some e=>cond (Instr.sameBits 10000 e.1 k) (some (h.set b (some (.map (es.set i (k,v,e.2.2)) q)))) none
       |none=>none)
      |some none=>some (h.set b (some (.map (es++[(k,v,q)]) (q+1))))
      |none=>none) none
   |none=>none)
  |_=>none)
 |_,_=>none
theorem dE{ρ:xr}{t:TypeId}{x x' k k' v v':Value}{h h':za}{w:World}(he:jj P t x k v h=some h')(hr:Rel P ρ h w)(hx:zI ρ x x')(hk:zI ρ k k')(hv:zI ρ v v') :
  ∃w',(Instr.mapUpdate t x' k' v').run P w=.ok () w'/\Step P ρ h w ρ h' w':=by
 unfold jj at he;split at he
 case h_2=>cases he
 rename_i kt et b ht;cases hx with
 |map hb hm=>
  rename_i pl;split at he
  case h_2=>cases he
  rename_i es q g;split at he
  case h_2=>cases he
  rename_i hck;obtain⟨hc,he⟩:=QV he;have hro:=aaH hc;obtain⟨ms,hg,hrel⟩:=hr.map g hm;split at he
  ·rename_i i hf;obtain⟨rfl,r',hr',x0,m,hx0,hm0,rfl,q1,q2,q3⟩:=VM hk hrel hf;rw[hx0]at he;simp only[]at he;obtain⟨hsb,he⟩:=QV he;simp only[aab]at he;subst he;have f4':ms[i]? = some m:=by simpa using hm0
   have hkey:((ms[i]?).map (·.key)).getD k'=m.key:=by rw[f4'];rfl
   rw[<- q3]at hsb;refine⟨_,?_,Step.Lz hr g hm hro hg (ms':=ms.modify i λe=>{e with key:=k',val:=v'}) ?_⟩
   ·simp only[Instr.mapUpdate,aai,zj ht,aad,Vu hg,zj hck,hr',hkey,Instr.keyThatStays,hsb,aac,aap,l8 hg]
   ·refine⟨by simpa using hrel.1,λj x m1 hx hm1=>?_⟩;simp only[Array.toList_modify,List.getElem?_modify]at hm1;rw[acj]at hx;by_cases e:i=j
    ·subst e;rw[aam rfl]at hx;split at hx
     ·simp only[aab]at hx;subst hx;rw[hm0]at hm1;simp only[aac,Option.map_eq_map,abq,aab]at hm1;subst hm1;exact⟨hk,hv,q2⟩
     ·cases hx
    ·rw[aak e]at hx;simp only[aak e,Option.map_eq_map,Option.map_id']at hm1;exact hrel.2 j x m1 hx hm1
  ·rename_i hf;simp only[aab]at he;subst he;obtain⟨rfl,r',hr',rfl⟩:=VM hk hrel hf;refine⟨_,?_,Step.Lz hr g hm hro hg (ms':=ms.push {key:=k',val:=v',born:=q}) (q':=q+1) ?_⟩
   ·simp only[Instr.mapUpdate,aai,zj ht,aad,Vu hg,zj hck,hr',l8 hg]
   ·refine⟨by simpa using hrel.1,λi x m1 hx hm1=>?_⟩;have hl:=hrel.1;simp only[Array.toList_push]at hm1;rcases aaA i es.length with hi|hi
    ·rw[abh hi]at hx;rw[abh (by omega)]at hm1;exact hrel.2 i x m1 hx hm1
    ·rw[abl hi]at hx;rw[abl (by omega),<- hl]at hm1;cases hn:i-es.length with
     |zero=>
      rw[hn]at hx hm1;simp only[aaf,aab]at hx hm1;subst hx hm1;exact⟨hk,hv,rfl⟩
     |succ n=>rw[hn]at hx;simp at hx
  ·cases he
def Vd(P:Program)(t:TypeId)(x k:Value)(h:za):Option za:=none
theorem dD{ρ:xr}{ts:Array TypeId}{t:TypeId}{r:TypeId}{x x' k k':Value}{h h':za}{w:World}(he:Vd P t x k h=some h')(hts:ts[0]? = some t)(hr:Rel P ρ h w)(hx:zI ρ x x')(hk:zI ρ k k') :
  ∃w',(Builtin.delete_ ts r #[x',k']).run P w=.ok undef w'/\Step P ρ h w ρ h' w':=by
 unfold Vd at he;cases he
def dF(P:Program)(t:TypeId)(x:Value)(h:za):Option (Value×za):=none
theorem rJ{ρ:xr}{t:TypeId}{x x' v:Value}{h h':za}{w:World}(he:dF P t x h=some (v,h'))(hr:Rel P ρ h w)(hx:zI ρ x x') :
  ∃v' w' ρ',(Instr.range t x').run P w=.ok v' w'/\Step P ρ h w ρ' h' w'/\zI ρ' v v':=by
 unfold dF at he;cases he
def leftOf(es:List UE)(seen:List Nat):List UE:=es.filter λe => !seen.contains e.2.2
def oE(P:Program)(x:Value)(str:Bool)(h:za):Option (Value×za):=none
theorem Y4.left{ρ:xr}(seen:List Nat):∀{es:List UE} {ms:List MapEntry},Y4 ρ es ms->Y4 ρ (leftOf es seen) (ms.filter λe => !seen.toArray.contains e.born)
 |[],ms,h=>by rw[h.uT];exact .nil
 |x::es,ms,h=>by
  obtain⟨m,ms',rfl,h1,h2⟩:=h.cons_inv;have ih:=Y4.left seen h2;have e:(!seen.toArray.contains m.born) = !seen.contains x.2.2:=by rw[h1.2.2];simp
  simp only[leftOf,abF,e];split
  ·refine⟨by have:=ih.1;simp only[leftOf]at this;simp only[aaB,this],λi a b ha hb=>?_⟩;cases i with
   |zero=>simp at ha hb;subst ha hb;exact h1
   |succ i=>exact ih.2 i a b (by simpa [leftOf] using ha) (by simpa using hb)
  ·exact ih
theorem Y4.all{ρ:xr}(last:Nat):∀{es:List UE} {ms:List MapEntry},Y4 ρ es ms->(ms.all λe=>decide (e.born ≥ last))=es.all λe=>Nat.ble last e.2.2
 |[],ms,h=>by rw[h.uT];rfl
 |x::es,ms,h=>by
  obtain⟨m,ms',rfl,h1,h2⟩:=h.cons_inv;simp only[aba,Y4.all last h2,h1.2.2]
  congr 1
  rw[ab3];simp
theorem AD{ρ:xr}{t:TypeId}{x x' v:Value}{str:Bool}{h h':za}{w:World}(he:oE P x str h=some (v,h'))(hr:Rel P ρ h w)(hx:zI ρ x x') :
  ∃v' w' ρ',(Instr.next x' str t).run P w=.ok v' w'/\Step P ρ h w ρ' h' w'/\zI ρ' v v':=by
 unfold oE at he;cases he
def ru(x:Value)(h:za):Option Value:=none
theorem Y4.find{ρ:xr}(stamp:Nat):∀{es:List UE} {ms:List MapEntry} {e:UE},Y4 ρ es ms->(es.find? λe=>Nat.beq e.2.2 stamp)=some e->∃m,(ms.find? λe=>e.born == stamp)=some m/\zI ρ e.1 m.key/\zI ρ e.2.1 m.val
 |[],ms,e,h,he=>by simp at he
 |x::es,ms,e,h,he=>by
  obtain⟨m,ms',rfl,h1,h2⟩:=h.cons_inv;rw[List.find?_cons]at he ⊢;rw[h1.2.2];cases hb:Nat.beq x.2.2 stamp with
  |true=>
   rw[hb]at he;simp only[aab]at he;subst he;have:(x.2.2 == stamp)=true:=by simpa using aar hb
   rw[this];exact⟨m,rfl,h1.1,h1.2.1⟩
  |false=>
   rw[hb]at he
   have:(x.2.2 == stamp)=false:=by
    cases hq:x.2.2 == stamp with
    |false=>rfl
    |true=>have:=beq_iff_eq.1 hq;rw[this,acd]at hb;cases hb
   rw[this];exact Y4.find stamp h2 he
theorem ry{ρ:xr}{x x' v:Value}{h:za}{w:World}(he:ru x h=some v)(hr:Rel P ρ h w)(hx:zI ρ x x'):∃v',(Instr.entry x').run P w=.ok v' w/\zI ρ v v':=by
 unfold ru at he;cases he
end
noncomputable section
variable {P:Program}
theorem Vw{w:World}{l:Nat}{cs:Array Value}{e:TypeId}{fz:Nat×Nat}(h:w.heap[l]? = some (.cells cs e fz)):w.shape? l=some (e,cs.size):=by
 simp[World.shape?,h]
def CU(P:Program)(src dst:TypeId)(x:Value)(h:za):Option Value :=
 match P.underlying src,P.underlying dst,x with
 |some (.pointer t),some .unsafePointer,.pointer (some ⟨b,off,none⟩)=>(match h.get b,P.info? t with
  |some (.cells c _),some j=>cond (Nat.blt off c.length && !(Nat.beq j.size 0)) (some (.pointer (some ⟨b,off,none⟩))) none
  |_,_=>none)
 |some .unsafePointer,some (.pointer u),.pointer (some ⟨b,off,none⟩)=>(match h.get b,P.info? u with
  |some (.cells c e),some _=>cond (Nat.beq e u&&Nat.blt 0 (P.cellsOf u)&&Nat.beq (off%P.cellsOf u) 0&&Nat.ble (off+P.cellsOf u) c.length) (some (.pointer (some ⟨b,off,none⟩))) none
  |_,_=>none)
 |_,_,_=>none
theorem I9{e:TypeId}{cells o:Nat}(hs:0<P.cellsOf e)(h0:o%P.cellsOf e=0)(hle:o+P.cellsOf e<=cells):liesAt P P.depth e (cells/P.cellsOf e) o e 1=true:=by
 have hd:P.depth=(2*(P.types.size+Made.depth)+1)+1:=rfl
 have hlt:o/P.cellsOf e+1<=cells/P.cellsOf e:=by
  have h1:=Nat.div_le_div_right (c:=P.cellsOf e) hle;rw[Nat.add_div_right _ hs]at h1;exact h1
 rw[hd];simp only[liesAt,aa6]
 left
 rw[hd];have hne:P.cellsOf e≠0:=by omega
 simp only[rowAt,aak hne,h0];simp[hlt,sameLayout]
theorem Dw{e:TypeId}(hc:P.cellsOf e=1){count o n:Nat}(hn:o+n<=count):liesAt P P.depth e count o e n=true:=by
 have hd:P.depth=(2*(P.types.size+Made.depth)+1)+1:=rfl;rw[hd];simp only[liesAt,aa6]
 left
 rw[hd];simp[rowAt,hc,hn,sameLayout,Nat.mod_one]
theorem rq{ρ:xr}{src dst:TypeId}{x x' v:Value}{h:za}{w:World}(he:CU P src dst x h=some v)(hr:Rel P ρ h w)(hx:zI ρ x x') :
  ∃v',(convert src dst x').run P w=.ok v' w/\zI ρ v v':=by
 unfold CU at he;split at he
 ·rename_i t b off hs hd;cases hx with
  |ptr hb hm=>
   rename_i pl;split at he
   case h_2=>cases he
   rename_i c e j hg hi;obtain⟨hc,he⟩:=QV he;simp only[aab]at he;subst he;simp only[aah,aa0,aav]at hc;obtain⟨cs,fz,h1,h2,h3,h4,h5,h6⟩:=hr.place hg hm;have hj:j.size≠0:=by intro ez;rw[ez]at hc;simp at hc
   refine⟨_,Lib.run_to_unsafe w ⟨pl.c,pl.base+off,none⟩ hs hd hi hj (Vw h1) ?_,.ptr hb hm⟩;show pl.base+off<cs.size;omega
 ·rename_i u b off hs hd;cases hx with
  |ptr hb hm=>
   rename_i pl;split at he
   case h_2=>cases he
   rename_i c e j hg hi;obtain⟨hc,he⟩:=QV he;simp only[aab]at he;subst he;simp only[aah,aa0]at hc;obtain⟨⟨⟨k1,k2⟩,k3⟩,k4⟩:=hc;obtain rfl:=aar k1;have k3:=aar k3;have k4:=aaH k4;obtain⟨cs,fz,h1,h2,⟨h3,h30⟩,h4,h5,h6⟩:=hr.place hg hm;refine⟨_,Lib.run_from_unsafe w ⟨pl.c,pl.base+off,none⟩ hs hd hi (Vw h1) (I9 k2 ?_ ?_),.ptr hb hm⟩
   ·show(pl.base+off)%P.cellsOf e=0;rw[Nat.add_mod,<- h3,h30,h3,k3];simp
   ·show pl.base+off+P.cellsOf e<=cs.size;omega
 ·cases he
def Ow:Value->Option Value
 | .slice none _ _=>some (.pointer none)
 | .slice (some ⟨b,off,none⟩) n _=>cond (Nat.blt 0 n) (some (.pointer (some ⟨b,off,none⟩))) none
 |_=>none
theorem C3{ρ:xr}{x x' v:Value}(he:Ow x=some v)(hx:zI ρ x x')(ts:Array TypeId)(ty:TypeId)(w:World):∃v',(Builtin.unsafeSliceData_ ts ty #[x']).run P w=.ok v' w/\zI ρ v v':=by
 unfold Ow at he;split at he
 ·simp only[aab]at he;subst he;cases hx;exact⟨_,Lib.run_unsafeSliceData_nil w ts ty _ _,.ptrNil⟩
 ·rename_i b off n c;obtain⟨hn,he⟩:=QV he;simp only[aab]at he;subst he;have hn:0<n:=by simpa [aa0] using hn
  cases hx with
  |slice hb hm hl hc=>exact⟨_,Lib.run_unsafeSliceData_row w ts ty _ _ _ (by omega),.ptr hb hm⟩
  |sliceOut=>omega
 ·cases he
def QU:List Value->Option (List UInt8)
 |[]=>some []
 | .int .u8 z::r=>cond (decide (((UInt8.ofNat z.toNat).toNat:Int)=z)) ((QU r).map λl=>UInt8.ofNat z.toNat::l) none
 |_=>none
theorem eS:∀{c:List Value} {l:List UInt8},QU c=some l->c.length=l.length /\ ∀(j:Nat) x,l[j]? = some x->c[j]? = some (.int .u8 x.toNat)
 |[],l,h=>by simp only[QU,aab]at h;subst h;exact⟨rfl,λj x hx=>by simp at hx⟩
 |a::c,l,h=>by
  unfold QU at h;split at h
  ·rename_i e;cases e
  ·rename_i z r e;simp only[abj]at e;obtain⟨rfl,rfl⟩:=e;obtain⟨hz,h⟩:=QV h;obtain⟨l',hl,rfl⟩:=aas.1 h;obtain⟨q1,q2⟩:=eS hl;have hz:=abd hz;refine⟨by simp[q1],λj x hx=>?_⟩;cases j with
   |zero=>simp only[aaf,aab]at hx ⊢;subst hx;rw[hz]
   |succ j=>simpa using q2 j x (by simpa using hx)
  ·cases h
theorem K0{pt it ty e:TypeId}(hp:P.underlying pt=some (.pointer e))(hc:P.cellsOf e=1){w:World}{g o cells:Nat}(hsh:w.shape? g=some (e,cells)){l:List UInt8}(h0:l≠[])(hn:o+l.length<=cells)(h63:l.length<=9223372036854775807)
  (hcell:∀(j:Nat) x,l[j]? = some x->w.cell? ((⟨g,o,none⟩:Addr).add j)=some (.int .u8 x.toNat)) :
  (Builtin.unsafeString_ #[pt,it] ty #[.pointer (some ⟨g,o,none⟩),.int .i64 l.length]).run P w=.ok (.string ⟨l.toArray⟩) (w.freeze ⟨g,o,none⟩ l.length):=by
 have hl:l.length≠0:=by simpa using h0
 have hlb:=Lib.run_loadBytes (P:=P) w l ⟨g,o,none⟩ .empty hcell;have hlies:=Dw (P:=P) hc (count:=cells/P.cellsOf e) (o:=o) (n:=l.length) (by rw[hc];simpa using hn);have h63':¬(9223372036854775807:Int)<(l.length:Int):=by omega
 have hmax:IntKind.i64.max=9223372036854775807:=rfl;have hneg:¬(l.length:Int)<0:=by omega
 rw[show Builtin.unsafeString_ #[pt,it] ty #[.pointer (some ⟨g,o,none⟩),.int .i64 l.length]=(asInt (.int .i64 l.length) >>= _) from rfl];simp[asInt,asIntOf,hmax,h63',hneg,hl,variablesAt,hsh,elemOf,run_underlying hp,hlies,hlb]
def ptrTo(P:Program)(pt e:TypeId):Bool :=
 match P.underlying pt with
 |some (.pointer e')=>Nat.beq e' e
 |_=>false
theorem Ly{pt e:TypeId}(h:ptrTo P pt e=true):P.underlying pt=some (.pointer e):=by
 unfold ptrTo at h;split at h
 ·rename_i e' he;rw[he,aar h]
 ·cases h
def Ra(P:Program)(pt:TypeId)(p:Value)(n:Int)(h:za):Option (Value×za) :=
 match p with
 | .pointer none=>cond (decide (n=0)) (some (.string .empty,h)) none
 | .pointer (some ⟨b,off,none⟩)=>cond (decide (n=0)) (some (.string .empty,h)) (match h.get b with
   |some (.cells c e)=>(match QU ((c.drop off).take n.toNat) with
    |some l=>cond (Nat.ble h.ro b&&ptrTo P pt e&&Nat.beq (P.cellsOf e) 1&&decide (n=(l.length:Int))&&Nat.blt 0 l.length&&Nat.ble l.length 9223372036854775807) (some (.string ⟨l.toArray⟩,h.set b none)) none
    |none=>none)
   |_=>none)
 |_=>none
theorem ly(w:World)(p:Addr)(n k:Nat)(hk:k≠p.block):(w.freeze p n).heap[k]? = w.heap[k]?:=by
 unfold World.freeze;split
 ·rfl
 ·simp only[Array.getElem?_modify];rw[aak (by omega)]
theorem rS(w:World)(p:Addr)(n:Nat):(w.freeze p n).os=w.os/\(w.freeze p n).tape=w.tape/\(w.freeze p n).output=w.output/\(w.freeze p n).heap.size=w.heap.size:=by
 unfold World.freeze;split
 ·exact⟨rfl,rfl,rfl,rfl⟩
 ·exact⟨rfl,rfl,rfl,by simp⟩
theorem Step.leave{ρ:xr}{h:za}{w w':World}(hr:Rel P ρ h w){b:Nat}{o:vg}{pl:Place}(hg:h.get b=some o)(hm:ρ.m b=some pl)(hro:h.ro<=b)(hos:w'.os=w.os)(htape:w'.tape=w.tape)(hout:w'.output=w.output)(hsz:w'.heap.size=w.heap.size)
  (hfr:∀k,k≠pl.c->w'.heap[k]? = w.heap[k]?):Step P ρ h w ρ (h.set b none) w':=by
 have hd:=hr.drop b;refine⟨xr.le_refl _,⟨hd.next,hd.ro,hd.Qv,λx ox hx=>?_,hd.inj,hd.dQ,hd.Yt⟩,rfl,hos,htape,hout,by omega,λk _ hn=>hfr k (λe=>hn ⟨b,o,pl,hg,hro,hm,e.symm⟩),λk hk hM=>?_⟩
 ·obtain⟨p,hp,hc⟩:=hd.ok x ox hx;refine⟨p,hp,hc.other (hfr _ (λec=>?_))⟩;rw[za.yD]at hx;split at hx
  ·cases hx
  ·rename_i ne;exact ne (hr.inj x b _ _ p pl hx hg hp hm ec)
 ·obtain⟨x,ox,p,hx,h1,h2,h3⟩:=hM;rw[za.yD]at hx;split at hx
  ·cases hx
  ·exact⟨x,ox,p,hx,h1,h2,h3⟩
theorem F5{ρ:xr}{pt it ty:TypeId}{p p' v:Value}{n:Int}{h h':za}{w:World}(he:Ra P pt p n h=some (v,h'))(hr:Rel P ρ h w)(hx:zI ρ p p') :
  ∃v' w',(Builtin.unsafeString_ #[pt,it] ty #[p',.int .i64 n]).run P w=.ok v' w'/\Step P ρ h w ρ h' w'/\zI ρ v v':=by
 unfold Ra at he;split at he
 ·obtain⟨hn,he⟩:=QV he;simp only[aab,aag]at he;obtain⟨rfl,rfl⟩:=he;obtain rfl:=abd hn;cases hx;exact⟨_,w,Lib.run_unsafeString_none w _ _ _ _,.refl hr,.string _⟩
 ·rename_i b off;cases hx with
  |ptr hb hm=>
   rename_i pl;cases hn:decide (n=0) with
   |true=>
    rw[hn]at he;simp only[aax,aab,aag]at he;obtain⟨rfl,rfl⟩:=he;obtain rfl:=abd hn;exact⟨_,w,Lib.run_unsafeString_none w _ _ _ _,.refl hr,.string _⟩
   |false=>
    rw[hn]at he;simp only[aaK]at he;split at he
    case h_2=>cases he
    rename_i c e hg;split at he
    case h_2=>cases he
    rename_i l hl;obtain⟨hc,he⟩:=QV he;simp only[aab,aag]at he;obtain⟨rfl,rfl⟩:=he;simp only[aah,aaU,aa0]at hc;obtain⟨⟨⟨⟨⟨k1,k2⟩,k3⟩,k4⟩,k5⟩,k6⟩:=hc;have k1:=aaH k1;have k3:=aar k3;have k6:=aaH k6;subst k4;obtain⟨q1,q2⟩:=eS hl;simp only[aaE,acq,aca]at q1;obtain⟨cs,fz,h1,h2,h3,h4,h5,h6⟩:=hr.place hg hm;obtain⟨f1,f2,f3,f4⟩:=rS w ⟨pl.c,pl.base+off,none⟩ l.length;refine⟨_,_,K0 (Ly k2) k3 (Vw h1) (by intro el;subst el;simp at k5) (by omega) k6 (λj x hx=>?_),.leave hr hg hm k1 f1 f2 f3 f4 (λk hk=>ly _ _ _ _ hk),.string _⟩;have hq:=q2 j x hx;simp only[aaE]at hq
    have hjl:j<l.length:=by
     rcases aaA j l.length with h7|h7
     ·exact h7
     ·rw[aao h7]at hx;cases hx
    rw[aaX hjl,aaW]at hq;obtain⟨y,hy,hxy⟩:=h6 _ _ hq;cases hxy;have ea:(⟨pl.c,pl.base+off,none⟩:Addr).add j=⟨pl.c,pl.base+off+j,none⟩:=Zb _ _ _;rw[ea];simp only[World.cell?,h1];rw[acn];simpa using hy
 ·cases he
def P5(P:Program)(op:BinOp)(t:TypeId)(a b:Value):Option Value :=
 match P.underlying t,a,b with
 |some (.pointer te),.pointer (some ⟨b1,o1,none⟩),.pointer (some ⟨b2,o2,none⟩)=>(match P.info? te with
  |some _=>cond (Nat.beq b1 b2&&Nat.beq o1 o2) (match op with
   | .eql=>some (.bool true)
   | .neq=>some (.bool false)
   |_=>none) none
  |none=>none)
 |_,_,_=>none
def ze(P:Program)(op:BinOp)(t:TypeId)(x y:Operand)(a b:Value):Option Value :=
 match FR P op t x y a b with
 |some v=>some v
 |none=>P5 P op t a b
theorem Ak{ρ:xr}{op:BinOp}{t:TypeId}{x y:Operand}{a b a' b' v:Value}(h:ze P op t x y a b=some v)(ha:zI ρ a a')(hb:zI ρ b b')(w:World) :
  ∃v',(do eqGuard op t x y a' b';binOp op t a' b':Sem Value).run P w=.ok v' w/\zI ρ v v':=by
 unfold ze at h;split at h
 ·rename_i u hu;simp only[aab]at h;subst h;exact CQ hu ha hb w
 ·unfold P5 at h;split at h
  case h_2=>cases h
  rename_i te b1 o1 b2 o2 ht0 ht;split at h
  case h_2=>cases h
  rename_i j hj;obtain⟨hc,hh⟩:=QV h;clear h;simp only[aah]at hc;obtain rfl:=aar hc.1;obtain rfl:=aar hc.2;cases ha with
  |ptr h1 m1=>
   rename_i pl;cases hb with
   |ptr h2 m2=>
    rename_i pl2;rw[m1]at m2;cases m2;have hg:(eqGuard op t x y (.pointer (some ⟨pl.c,pl.base+o1,none⟩)) (.pointer (some ⟨pl.c,pl.base+o1,none⟩))).run P w=.ok () w:=by cases op <;> simp[eqGuard]
    split at hh
    ·simp only[aab]at hh;subst hh;exact⟨.bool true,by simp only[aai,hg,aad,run_eql_ptr_same w _ ht0 hj],.bool true⟩
    ·simp only[aab]at hh;subst hh;exact⟨.bool false,by simp only[aai,hg,aad,Lib.run_neq_ptr_same w _ ht0 hj],.bool false⟩
    ·cases hh
def Og(P:Program)(t:TypeId)(x:Value):Option Value :=
 match z9 P (underlying t),x with
 |some (.slice _),.slice none _ _=>some (goInt 0)
 |some (.slice _),.slice (some ⟨_,_,none⟩) _ c=>cond (Nat.ble 2 c) (some (goInt (c-2:Nat))) none
 |_,_=>none
theorem CT{ρ:xr}{t:TypeId}{x x' v:Value}(he:Og P t x=some v)(hx:zI ρ x x')(r:TypeId)(w:World):(Builtin.cap_ #[t] r #[x']).run P w=.ok v w/\zI ρ v v:=by
 unfold Og at he;split at he
 ·rename_i hu;simp only[aab]at he;subst he;refine⟨?_,.int _ _⟩;cases hx;simp[Builtin.cap_,zj hu]
 ·rename_i b off n c hu;obtain⟨hc,he⟩:=QV he;simp only[aab]at he;subst he;have hc:=aaH hc;refine⟨?_,.int _ _⟩;cases hx with
  |slice hb hm hl hcap=>
   rename_i cap pl;have:=(hcap (by omega)).2 (c-2) (by omega);subst this;simp[Builtin.cap_,zj hu]
  |sliceOut hb h2=>
   have:c-2=0:=by omega
   rw[this];simp[Builtin.cap_,zj hu]
 ·cases he
end
noncomputable section
variable {P:Program}
def Vv(s:ByteArray):List Value:=s.data.toList.map λb => .int .u8 b.toNat
def iw(P:Program)(src dst:TypeId)(x:Value)(h:za):Option (Value×za) :=
 match cond (flat x) (fl (z9 P (convert src dst x))) none with
 |some v=>some (v,h)
 |none=>(match z9 P (underlying src),z9 P (underlying dst),x with
  |some _,some (.slice e),.string s=>(match z9 P (underlying e),z9 P (sizeOf e) with
   |some (.int .u8),some 1=>some (.slice (some ⟨h.next,0,none⟩) s.size 1,h.push (.cells (Vv s) e))
   |_,_=>none)
  |some (.slice e),some .string,.slice base n c=>(match z9 P (underlying e) with
   |some (.int .u8)=>(Of h (.slice base n c)).map λv=>(v,h)
   |_=>none)
  |_,_,_=>none)
theorem Qu{t:TypeId}{n:Nat}(h:z9 P (sizeOf t)=some n):P.cellsOf t=n:=by
 simp only[sizeOf,typeInfo,program,Sem.bind,bind,z9]at h;cases hp:P.info? t with
 |none=>rw[hp]at h;cases h
 |some j=>rw[hp]at h;simp only[pure,Sem.bind,z9,aab]at h;subst h;simp[Program.cellsOf,hp]
theorem G1{ρ:xr}{h:za}{w:World}{e:TypeId}{s:ByteArray}(hr:Rel P ρ h w)(hsz:z9 P (sizeOf e)=some 1) :
  ∃v' w' ρ',(Conv.stringToBytes e s).run P w=.ok v' w'/\Step P ρ h w ρ' (h.push (.cells (Vv s) e)) w'/\zI ρ' (.slice (some ⟨h.next,0,none⟩) s.size 1) v':=by
 let q:Question := .appendCap s.size 0 e
 let newCap:=q.cut (w.tape w.drawn q)
 have hge:s.size<=newCap:=by show s.size<=s.size+_%_;omega
 let cs:Array Value:=(s.data.map λb=>Value.int .u8 b.toNat)++Array.replicate (newCap-s.size) (.int .u8 0)
 have hcs:cs.size=newCap:=by simp only[cs,Array.size_append,Array.size_map,Array.size_replicate];show s.size+(newCap-s.size)=newCap;omega
 let w1:World:={w with drawn:=w.drawn+1}
 have hr1:Rel P ρ h w1:=hr.grow (λk _=>rfl);have hesz:=Qu hsz
 let w2:World:={w1 with heap:=w1.heap.push (.cells cs e (cs.size,cs.size+1))}
 have st:=Step.push (t:=e) hr1 (c:=Vv s) (cs:=cs) (fz:=(cs.size,cs.size+1)) (w':=w2) rfl (λi hi hh=>by simp only[]at hh;omega)
  (by simp only[Vv,aaD,hcs,abx];exact hge)
  (λk x hx=>by
   refine⟨x,?_,?_⟩
   ·have hlt:k<s.data.size:=by
     rcases aaA k s.data.size with h|h
     ·exact h
     ·rw[aao (by simpa [Vv] using h)]at hx;cases hx
    rw[Array.getElem?_append_left (by simpa using hlt)];simpa [Vv] using hx
   ·simp only[Vv,aaw,aas]at hx;obtain⟨b,_,rfl⟩:=hx;exact .int _ _) rfl rfl rfl
 refine⟨.slice (some ⟨w.heap.size,0,none⟩) s.size newCap,w2,_,?_,⟨st.le,st.rel,st.ro,st.os,st.tape,st.output,st.size,st.frame,st.fy⟩,?_⟩
 ·have hq:(choose (.appendCap s.size 0 e)).run P w=.ok newCap w1:=by rw[run_choose];rfl
  simp only[Conv.stringToBytes,aai,hq,aad];have hn:(newRow e cs).run P w1=.ok ⟨w.heap.size,0,none⟩ {w1 with heap:=w1.heap.push (.cells cs e)}:=rfl;rw[show(s.data.map λb=>Value.int .u8 b.toNat)++Array.replicate (newCap-s.size) (.int .u8 0)=cs from rfl,hn];have hb:({w1 with heap:=w1.heap.push (.cells cs e)}:World).heap[w.heap.size]? = some (.cells cs e):=by show(w.heap.push _)[w.heap.size]? = _;simp
  have hsh:(markStringish ⟨w.heap.size,0,none⟩).run P {w1 with heap:=w1.heap.push (.cells cs e)} = .ok () w2:=by
   simp only[markStringish,aai,run_shape,aad,World.shape?,hb,run_freeze];simp only[World.freeze];rw[aak (by decide)]
   congr 1
   show World.mk _ _ _ _ _=World.mk _ _ _ _ _
   congr 1
   show(w.heap.push _).modify w.heap.size _=w.heap.push _;apply Array.ext_getElem?;intro k;simp only[Array.getElem?_modify,Array.getElem?_push];by_cases e:k=w.heap.size
   ·subst e;simp
   ·simp[e];intro e2;exact absurd e2.symm e
  simp only[aad,hsh,aap]
 ·have:=zI.slice (ρ:=ρ.ext ⟨w1.heap.size,0,cs.size,P.cellsOf e⟩) (b:=h.next) (off:=0) (len:=s.size) (c:=1) (cap:=newCap) (pl:=⟨w1.heap.size,0,cs.size,P.cellsOf e⟩)
   (by show h.next<ρ.next+1;rw[hr.next];exact aa4 _) (by rw[<- hr.next];exact ρ.kP _) hge (λ_=>⟨by simp[hesz,hcs],λk hk=>by omega⟩)
  exact this
theorem rm{ρ:xr}{src dst:TypeId}{x x' v:Value}{h h':za}{w:World}(he:iw P src dst x h=some (v,h'))(hr:Rel P ρ h w)(hx:zI ρ x x') :
  ∃v' w' ρ',(convert src dst x').run P w=.ok v' w'/\Step P ρ h w ρ' h' w'/\zI ρ' v v':=by
 unfold iw at he;split at he
 ·rename_i u hu;simp only[aab,aag]at he;obtain⟨rfl,rfl⟩:=he;cases hf:flat x with
  |false=>rw[hf]at hu;cases hu
  |true=>
   rw[hf]at hu;obtain⟨h1,h2⟩:=VQ hu;obtain rfl:=kR hx hf;exact⟨u,w,ρ,zj h1 w,.refl hr,.of_flat ρ h2⟩
 ·split at he
  ·rename_i e s hs hd _;cases hx;split at he
   ·rename_i hu hz;simp only[aab,aag]at he;obtain⟨rfl,rfl⟩:=he;obtain⟨v',w',ρ',e1,st,hv⟩:=G1 (e:=e) (s:=s) hr hz;refine⟨v',w',ρ',?_,st,hv⟩;simp only[convert,aai,zj hs,zj hd,aad,zj hu,e1]
   ·cases he
  ·rename_i e base n c hs hd _;split at he
   ·rename_i hu;simp only[aas,aag]at he;obtain⟨r,hb,rfl,rfl⟩:=he;obtain⟨e1,hv⟩:=CP hb hr hx;refine⟨r,w,ρ,?_,.refl hr,hv⟩;cases hx <;> simp only[convert,aai,zj hs,zj hd,aad,zj hu,e1]
   ·cases he
  ·cases he
def qE(P:Program)(src dst:TypeId)(x:Value)(h:za):Option (Value×za) :=
 match iw P src dst x h with
 |some r=>some r
 |none=>(CU P src dst x h).map λv=>(v,h)
theorem At{ρ:xr}{src dst:TypeId}{x x' v:Value}{h h':za}{w:World}(he:qE P src dst x h=some (v,h'))(hr:Rel P ρ h w)(hx:zI ρ x x') :
  ∃v' w' ρ',(convert src dst x').run P w=.ok v' w'/\Step P ρ h w ρ' h' w'/\zI ρ' v v':=by
 unfold qE at he;split at he
 ·rename_i r hc;simp only[aab]at he;subst he;exact rm hc hr hx
 ·simp only[aas,aag]at he;obtain⟨u,hu,rfl,rfl⟩:=he;obtain⟨v',e,hv⟩:=rq hu hr hx;exact⟨v',w,ρ,e,.refl hr,hv⟩
def yC(P:Program)(t:TypeId)(len:Nat)(parts:List (Nat×Value))(h:za):Option (Value×za) :=
 match z9 P (underlying t) with
 |some (.slice elem)=>(match z9 P (sizeOf elem),wD P elem with
  |some n,some z=>cond (Nat.ble (len*n) (2^24)&&Nat.blt 0 z.cells.size&&Nat.blt 0 n) (match Instr.fill (λi=>some (i*n,n)) (Ya z.cells.toList (len*n)).toArray parts with
   |some cs=>cond (Nat.beq cs.size (len*n)) (some (.slice (some ⟨h.next,0,none⟩) len (len+2),h.push (.cells cs.toList elem))) none
   |none=>none) none
  |_,_=>none)
 |_=>none
theorem aJ{ρ:xr}{t:TypeId}{len:Nat}{parts parts':List (Nat×Value)}{h h':za}{v:Value}{w:World}(he:yC P t len parts h=some (v,h'))(hr:Rel P ρ h w)(hp:fO ρ parts parts') :
  ∃v' w' ρ',(Instr.buildSlice t len parts'.toArray).run P w=.ok v' w'/\Step P ρ h w ρ' h' w'/\zI ρ' v v':=by
 unfold yC at he;split at he
 case h_2=>cases he
 rename_i elem hu;split at he
 case h_2=>cases he
 rename_i n z hn hz;cases hc:(Nat.ble (len*n) (2^24)&&Nat.blt 0 z.cells.size&&Nat.blt 0 n) with
 |false=>rw[hc]at he;cases he
 |true=>
  rw[hc]at he;simp only[aah]at hc;have h24:=aaH hc.1.1;have hzs:0<z.cells.size:=by simpa [aa0] using hc.1.2
  obtain⟨z1,z2⟩:=ZK (ρ:=ρ) hz w;simp only[aax]at he;split at he
  case h_2=>cases he
  rename_i cs hfill;cases hsz:Nat.beq cs.size (len*n) with
  |false=>rw[hsz]at he;cases he
  |true=>
   rw[hsz]at he;simp only[aax,aab,aag]at he;obtain⟨rfl,rfl⟩:=he;have hsz:=aar hsz;obtain⟨cs',hf',hv⟩:=bB _ _ _ (Ya z.cells.toList (len*n)).toArray _ hp (mw z2 (by omega) _) hfill
   obtain⟨e,st⟩:=JU (t:=elem) hr (c:=cs.toList) (cs:=cs') (by rw[hv.1,abx];exact aal _) (λi x hx=>by
    obtain⟨y,hy,hxy⟩:=hv.get hx;exact⟨y,by simpa using hy,hxy⟩)
   have hcsz:cs'.size=len*n:=by have:=hv.1;simp only[abx]at this;omega
   refine⟨.slice (some ⟨w.heap.size,0,none⟩) len len,_,_,?_,st,?_⟩
   ·simp only[Instr.buildSlice,aai,zj hu,aad,zj hn];rw[aak (by omega)];by_cases h0:len*n=0
    ·rw[aam h0];have:((Array.range (len*n)).map λk=>(#[]:Array Value)[k%(#[]:Array Value).size]!)=(Ya z.cells.toList (len*n)).toArray:=by rw[h0];simp[Ya]
     simp only[aai,aap,aad,this,hf',e]
    ·rw[aak h0];simp only[aai,z1,aap,aad,pL,hf',e]
   ·exact zI.slice (ρ:=ρ.ext _) (b:=h.next) (off:=0) (pl:=⟨w.heap.size,0,cs'.size,P.cellsOf elem⟩) (by show h.next<ρ.next+1;rw[hr.next];exact aa4 _) (by rw[<- hr.next];exact ρ.kP _) (aal _)
     (λ_=>⟨by simp[Qu hn,hcsz],λk hk=>by omega⟩)
theorem zv{α:Type}{b:Bool}{x:Option α}{y:α}(h:cond b x none=some y):b=true/\x=some y:=by
 cases b with
 |true=>exact⟨rfl,h⟩
 |false=>cases h
def mN(s:Env):Option Operand->Option (Option Value)
 |none=>some none
 |some x=>(jk s x).map some
theorem UZ{ρ:xr}{s:Env}{a:Act}(hs:vV ρ s a.tmps){x:Option Operand}{v:Option Value}(h:mN s x=some v):Fh ρ v (x.map a.eval):=by
 cases x with
 |none=>simp only[mN,aab]at h;subst h;exact⟨λv hv=>by(cases hv),λ_=>rfl⟩
 |some x=>
  simp only[mN,aas]at h;obtain⟨u,hu,rfl⟩:=h;exact⟨λv hv=>by cases hv;exact⟨_,rfl,zX hs hu⟩,λhn=>by cases hn⟩
def Bz:Option Value->Bool
 |none=>true
 |some v=>flat v
def zk(P:Program)(b:Builtin)(ts:List TypeId)(r:TypeId)(vs:List Value)(h:za):Option (Value×za) :=
 match b,ts,vs with
 | .append,[sT,xT],[s,x]=>VJ P sT xT s x h
 | .copy,t::_,[d,x]=>Av P t d x h
 | .len,[t],[x]=>(H8 P t x h).map λv=>(v,h)
 | .clear,[t],[x]=>(iu P t x h).map λh'=>(undef,h')
 | .min,_,_=>cond (vs.all flat) ((fl (z9 P (Builtin.min_ ts.toArray r vs.toArray))).map λv=>(v,h)) none
 | .max,_,_=>cond (vs.all flat) ((fl (z9 P (Builtin.max_ ts.toArray r vs.toArray))).map λv=>(v,h)) none
 | .delete,t::_,[x,k]=>(Vd P t x k h).map λh'=>(undef,h')
 | .cap,[t],[x]=>(Og P t x).map λv=>(v,h)
 | .unsafeSliceData,_,[x]=>(Ow x).map λv=>(v,h)
 | .unsafeString,[pt,it],[p,.int .i64 n]=>Ra P pt p n h
 |_,_,_=>none
theorem JY{ρ:xr}:∀{xs ys:List Value},wC ρ xs ys->xs.all flat=true->ys=xs
 |[],ys,h,_=>h.uT
 |x::xs,ys,h,hf=>by
  obtain⟨y,ys',rfl,h1,h2⟩:=h.cons_inv;simp only[aba,aah]at hf;rw[kR h1 hf.1,JY h2 hf.2]
theorem ir{ρ:xr}{b:Builtin}{ts:Array TypeId}{r:TypeId}{vs vs':List Value}{cs:Array Bool}{v:Value}{h h':za}{w:World}(he:zk P b ts.toList r vs h=some (v,h'))(hr:Rel P ρ h w)(hv:wC ρ vs vs') :
  ∃v' w' ρ',(builtin b ts r cs vs'.toArray).run P w=.ok (.value v') w'/\Step P ρ h w ρ' h' w'/\zI ρ' v v':=by
 unfold zk at he;split at he
 ·rename_i sT xT s x hts;obtain⟨s',l1,rfl,v1,hv⟩:=hv.cons_inv;obtain⟨x',l2,rfl,v2,hv⟩:=hv.cons_inv;cases hv.uT;have:ts = #[sT,xT]:=by rw[<- abR (xs:=ts),hts]
  subst this;obtain⟨v',w',ρ',e,st,hv'⟩:=mI (r:=r) he hr v1 v2;exact⟨v',w',ρ',by simp only[builtin,aai];rw[e];rfl,st,hv'⟩
 ·rename_i t ts' d x hts;obtain⟨d',l1,rfl,v1,hv⟩:=hv.cons_inv;obtain⟨x',l2,rfl,v2,hv⟩:=hv.cons_inv;cases hv.uT;obtain⟨v',w',e,st,hv'⟩:=Aw (ts:=ts) (r:=r) he hr v1 v2 (by rw[<- Array.getElem?_toList,hts];rfl);exact⟨v',w',ρ,by simp only[builtin,aai];rw[e];rfl,st,hv'⟩
 ·rename_i t x hts;obtain⟨x',l1,rfl,v1,hv⟩:=hv.cons_inv;cases hv.uT;have:ts = #[t]:=by rw[<- abR (xs:=ts),hts]
  subst this;simp only[aas,aag]at he;obtain⟨u,hu,rfl,rfl⟩:=he;obtain⟨e,hv'⟩:=Ay hu hr v1 r;exact⟨u,w,ρ,by simp only[builtin,aai];rw[e];rfl,.refl hr,hv'⟩
 ·rename_i t x hts;obtain⟨x',l1,rfl,v1,hv⟩:=hv.cons_inv;cases hv.uT;have:ts = #[t]:=by rw[<- abR (xs:=ts),hts]
  subst this;simp only[aas,aag]at he;obtain⟨u,hu,rfl,rfl⟩:=he;obtain⟨w',e,st⟩:=rj (r:=r) hu hr v1;exact⟨undef,w',ρ,by simp only[builtin,aai];rw[e];rfl,st,.ZM _ rfl⟩
 ·obtain⟨hf,he⟩:=zv he;simp only[aas,aag]at he;obtain⟨u,hu,rfl,rfl⟩:=he;obtain⟨h1,h2⟩:=VQ hu;obtain rfl:=JY hv hf;refine⟨u,w,ρ,?_,.refl hr,.of_flat _ h2⟩;have h1:=zj h1 w;rw[abR]at h1;simp only[builtin,aai,h1];rfl
 ·obtain⟨hf,he⟩:=zv he;simp only[aas,aag]at he;obtain⟨u,hu,rfl,rfl⟩:=he;obtain⟨h1,h2⟩:=VQ hu;obtain rfl:=JY hv hf;refine⟨u,w,ρ,?_,.refl hr,.of_flat _ h2⟩;have h1:=zj h1 w;rw[abR]at h1;simp only[builtin,aai,h1];rfl
 ·rename_i t ts' x k hts;obtain⟨x',l1,rfl,v1,hv⟩:=hv.cons_inv;obtain⟨k',l2,rfl,v2,hv⟩:=hv.cons_inv;cases hv.uT;simp only[aas,aag]at he;obtain⟨u,hu,rfl,rfl⟩:=he;obtain⟨w',e,st⟩:=dD (ts:=ts) (r:=r) hu (by rw[<- Array.getElem?_toList,hts];rfl) hr v1 v2;exact⟨undef,w',ρ,by simp only[builtin,aai];rw[e];rfl,st,.ZM _ rfl⟩
 ·rename_i t x hts;obtain⟨x',l1,rfl,v1,hv⟩:=hv.cons_inv;cases hv.uT;have:ts = #[t]:=by rw[<- abR (xs:=ts),hts]
  subst this;simp only[aas,aag]at he;obtain⟨u,hu,rfl,rfl⟩:=he;obtain⟨e,hv'⟩:=CT hu v1 r w;exact⟨u,w,ρ,by simp only[builtin,aai];rw[e];rfl,.refl hr,hv'⟩
 ·rename_i ts' x hts;obtain⟨x',l1,rfl,v1,hv⟩:=hv.cons_inv;cases hv.uT;simp only[aas,aag]at he;obtain⟨u,hu,rfl,rfl⟩:=he;obtain⟨v',e,hv'⟩:=C3 hu v1 ts r w;exact⟨v',w,ρ,by simp only[builtin,aai];rw[e];rfl,.refl hr,hv'⟩
 ·rename_i pt it p n hts;obtain⟨p',l1,rfl,v1,hv⟩:=hv.cons_inv;obtain⟨n',l2,rfl,v2,hv⟩:=hv.cons_inv;cases hv.uT;cases v2;have:ts = #[pt,it]:=by rw[<- abR (xs:=ts),hts]
  subst this;obtain⟨v',w',e,st,hv'⟩:=F5 (it:=it) (ty:=r) he hr v1;exact⟨v',w',ρ,by simp only[builtin,aai];rw[e];rfl,st,hv'⟩
 ·cases he
def one(h:za)(x:Option Value):Option (Value×za):=match x with|none=>none|some v=>some (v,h)
def K9(P:Program)(s:Env)(o:Oper)(h:za):Option (Value×za) :=
 match o.op with
 | .move x | .assign x=>one h (jk s x)
 | .pick c a b=>(match jk s c with
   |some (.bool true)=>one h (jk s a)
   |some (.bool false)=>one h (jk s b)
   |_=>none)
 | .box t x=>(match jk s x with
   |some v=>some (mU h v.cells.toList t)
   |none=>none)
 | .alloc t=>(match wD P t with
   |some z=>some (mU h z.cells.toList t)
   |none=>none)
 | .build t parts=>(match Vf s parts.toList with
   |some ps=>one h (yU P t ps)
   |none=>none)
 | .buildSlice t len parts=>(match Vf s parts.toList with
   |some ps=>yC P t len ps h
   |none=>none)
 | .load t a=>(match jk s a with
   |some v=>one h (zd P t v h)
   |none=>none)
 | .store t a x=>(match jk s a,jk s x with
   |some p,some v=>(match zn P t p v h with
    |some h'=>some (undef,h')
    |none=>none)
   |_,_=>none)
 | .nilCheck x=>(match jk s x with
   |some (.pointer (some a))=>some (.pointer (some a),h)
   |some (.func (.func f) a c)=>some (.func (.func f) a c,h)
   |_=>none)
 | .binOp op t x y _=>(match jk s x,jk s y with
   |some a,some b=>one h (ze P op t x y a b)
   |_,_=>none)
 | .unOp op _ x=>(match jk s x with
   |some a=>cond (flat a) (one h (fl (z9 P (Op.unary op a)))) none
   |none=>none)
 | .convert src dst x=>(match jk s x with
   |some a=>qE P src dst a h
   |none=>none)
 | .makeInterface t x=>(match jk s x with
   |some a=>(match z9 P (Instr.makeInterface t (.bool true)) with
    |some _=>some (.iface t a,h)
    |none=>none)
   |none=>none)
 | .makeFunc (.func f) first captured=>(match Um s first.toList,Um s captured.toList with
   |some a,some c=>some (.func (.func f) a.toArray c.toArray,h)
   |_,_=>none)
 | .makeSlice t l c=>(match jk s l,jk s c with
   |some a,some b=>VN P t a b h
   |_,_=>none)
 | .slice t x lo hi none=>(match jk s x,mN s lo,mN s hi with
   |some (.string str),some a,some b=>(match flatSlice P t str a b with
    |some v=>some (v,h)
    |none=>none)
   |some v,some a,some b=>one h (dG P t v a b h)
   |_,_,_=>none)
 | .fieldAddr t x f=>(match jk s x with
   |some a=>one h (zb P t a f)
   |none=>none)
 | .field t x f=>(match jk s x with
   |some (.agg cs)=>(match z9 P (underlying t) with
    |some (.struct fields)=>(match fields[f]? with
     |some fd=>one h (apart P fd.type cs.toList fd.offset)
     |none=>none)
    |_=>none)
   |_=>none)
 | .indexAddr t x i=>(match jk s x,jk s i with
   |some a,some b=>one h (zA P t a b)
   |_,_=>none)
 | .index t x i=>(match jk s x,jk s i with
   |some a,some b=>cond (flat a&&flat b) (one h (fl (z9 P (Instr.index t a b)))) none
   |_,_=>none)
 | .extract x i=>(match jk s x with
   |some (.tuple vs)=>one h vs[i]?
   |_=>none)
 | .call {callee := .builtin b,args,argTypes}=>(match Um s args.toList with
   |some vs=>zk P b argTypes.toList o.type vs h
   |none=>none)
 | .makeMap _ none=>some (vS h)
 | .lookup t x k ok=>(match jk s x,jk s k with
   |some a,some b=>one h (Ym P t a b ok h)
   |_,_=>none)
 | .mapUpdate t m k x=>(match jk s m,jk s k,jk s x with
   |some a,some b,some c=>(match jj P t a b c h with
    |some h'=>some (undef,h')
    |none=>none)
   |_,_,_=>none)
 | .range t x=>(match jk s x with
   |some a=>dF P t a h
   |none=>none)
 | .next x str=>(match jk s x with
   |some a=>oE P a str h
   |none=>none)
 | .entry x=>(match jk s x with
   |some a=>one h (ru a h)
   |none=>none)
 |_=>none
 where
  flatSlice (P:Program) (t:TypeId) (str:ByteArray) (a b:Option Value):Option Value :=
   cond (Bz a&&Bz b) (fl (z9 P (Instr.sliceAt t (.string str) a b none))) none
end
noncomputable section
variable {P:Program}
def fY(P:Program)(ρ:xr)(h:za)(w:World)(s:Sem Next)(v:Value)(h':za):Prop :=
 ∃n w' ρ' v',s.run P w=.ok n w'/\(n=.value v'\/(n=.skip/\v'=undef))/\Step P ρ h w ρ' h' w'/\zI ρ' v v'
theorem fY.val{ρ:xr}{h h':za}{w:World}{s:Sem Value}{v:Value}(e:∃v' w' ρ',s.run P w=.ok v' w'/\Step P ρ h w ρ' h' w'/\zI ρ' v v') :
  fY P ρ h w (do pure (.value (<- s))) v h':=by
 obtain⟨v',w',ρ',e,st,hv⟩:=e;exact⟨.value v',w',ρ',v',by rw[aai,e];rfl,.inl rfl,st,hv⟩
theorem fY.still{ρ:xr}{h:za}{w:World}{s:Sem Value}{v:Value}(hr:Rel P ρ h w)(e:∃v',s.run P w=.ok v' w/\zI ρ v v') :
  fY P ρ h w (do pure (.value (<- s))) v h:=by
 obtain⟨v',e,hv⟩:=e;exact .val ⟨v',w,ρ,e,.refl hr,hv⟩
theorem fY.pure{ρ:xr}{h:za}{w:World}{v v':Value}(hr:Rel P ρ h w)(hv:zI ρ v v'):fY P ρ h w (Pure.pure (.value v')) v h :=
 ⟨.value v',w,ρ,v',rfl,.inl rfl,.refl hr,hv⟩
theorem vU{h h':za}{x:Option Value}{v:Value}(e:one h x=some (v,h')):x=some v/\h'=h:=by
 unfold one at e;split at e
 ·cases e
 ·simp only[aab,aag]at e;obtain⟨rfl,rfl⟩:=e;exact⟨rfl,rfl⟩
theorem lR{ρ:xr}{h:za}{w:World}{c v:Value}{b:Bool}{va vb:Value}(hr:Rel P ρ h w)(hc:zI ρ (.bool b) c)(hv:zI ρ v (if b=true then va else vb)) :
  fY P ρ h w (do Pure.pure (.value (if <- asBool c then va else vb))) v h:=by
 cases hc;exact⟨_,w,ρ,_,by simp only[asBool,aai,aap,aad],.inl rfl,.refl hr,hv⟩
theorem mJ{ρ:xr}{t:TypeId}{a b a' b' v:Value}(hf:(flat a&&flat b)=true)(h:fl (z9 P (Instr.index t a b))=some v)(ha:zI ρ a a')(hb:zI ρ b b')(w:World) :
  ∃v',(Instr.index t a' b').run P w=.ok v' w/\zI ρ v v':=by
 simp only[aah]at hf;obtain rfl:=kR ha hf.1;obtain rfl:=kR hb hf.2;obtain⟨h1,h2⟩:=VQ h;exact⟨v,zj h1 w,.of_flat ρ h2⟩
theorem pA{ρ:xr}{x x':Option Value}(h:Fh ρ x x')(hf:Bz x=true):x'=x:=by
 cases x with
 |none=>exact h.2 rfl
 |some v=>obtain⟨v',rfl,hv⟩:=h.1 v rfl;rw[kR hv hf]
set_option maxHeartbeats 1000000 in
theorem oF{ρ:xr}{s:Env}{a:Act}{o:Oper}{h h':za}{v:Value}{w:World}(he:K9 P s o h=some (v,h'))(hr:Rel P ρ h w)(hs:vV ρ s a.tmps) :
  fY P ρ h w (execOp a.eval o) v h':=by
 unfold K9 at he;split at he
 ·
  rename_i x yV;obtain⟨h1,rfl⟩:=vU he;simp only[execOp,yV];exact .pure hr (zX hs h1)
 ·
  rename_i x yV;obtain⟨h1,rfl⟩:=vU he;simp only[execOp,yV];exact .pure hr (zX hs h1)
 ·
  rename_i c x y yV;simp only[execOp,yV];split at he
  ·rename_i hc;obtain⟨h1,rfl⟩:=vU he;exact lR hr (zX hs hc) (by rw[aam rfl];exact zX hs h1)
  ·rename_i hc;obtain⟨h1,rfl⟩:=vU he;exact lR hr (zX hs hc) (by rw[aak (by decide)];exact zX hs h1)
  ·cases he
 ·
  rename_i t x yV;simp only[execOp,yV];split at he
  case h_2=>cases he
  rename_i u hu;simp only[aab,mU,aag]at he;obtain⟨rfl,rfl⟩:=he;obtain⟨a',w',ρ',e,st,hv⟩:=bP hr (zX hs hu) t;exact .val ⟨_,w',ρ',by simp only[Instr.box,aai,e,aad,aap],st,hv⟩
 ·
  rename_i t yV;simp only[execOp,yV];split at he
  case h_2=>cases he
  rename_i z hz;simp only[aab,mU,aag]at he;obtain⟨rfl,rfl⟩:=he;obtain⟨z1,z2⟩:=ZK (ρ:=ρ) hz w;obtain⟨a',w',ρ',e,st,hv⟩:=bP hr z2 t;exact .val ⟨_,w',ρ',by simp only[Instr.alloc,aai,z1,e,aad,aap],st,hv⟩
 ·
  rename_i t parts yV;simp only[execOp,yV];split at he
  case h_2=>cases he
  rename_i ps hps;obtain⟨h1,rfl⟩:=vU he;have hp:=U1 hs hps;obtain⟨v',e,hv⟩:=ri h1 hp w;refine .still hr ⟨v',?_,hv⟩;rw[<- e]
  congr 1
  congr 1
  apply ab8;simp
 ·
  rename_i t len parts yV;simp only[execOp,yV];split at he
  case h_2=>cases he
  rename_i ps hps;have hp:=U1 hs hps;obtain⟨v',w',ρ',e,st,hv⟩:=aJ he hr hp;refine .val ⟨v',w',ρ',?_,st,hv⟩;rw[<- e]
  congr 1
  congr 1
  apply ab8;simp
 ·
  rename_i t x yV;simp only[execOp,yV];split at he
  case h_2=>cases he
  rename_i u hu;obtain⟨h1,rfl⟩:=vU he;exact .still hr (eP h1 hr (zX hs hu))
 ·
  rename_i t p x yV;simp only[execOp,yV];split at he
  case h_2=>cases he
  rename_i pv xv hp hx;split at he
  case h_2=>cases he
  rename_i h2 hst;simp only[aab,aag]at he;obtain⟨rfl,rfl⟩:=he;obtain⟨w',e,st⟩:=rM hst hr (zX hs hp) (zX hs hx);exact⟨.skip,w',ρ,undef,by rw[aai,e];rfl,.inr ⟨rfl,rfl⟩,st,.ZM _ rfl⟩
 ·
  rename_i x yV;simp only[execOp,yV];split at he
  ·rename_i p hp;simp only[aab,aag]at he;obtain⟨rfl,rfl⟩:=he;have e:=zX hs hp;generalize a.eval x=xv at e;cases e with
   |ptr hb hm=>exact .pure hr (.ptr hb hm)
   |Yt=>exact .pure hr .Yt
  ·rename_i f fa fc hp;simp only[aab,aag]at he;obtain⟨rfl,rfl⟩:=he;have e:=zX hs hp;generalize a.eval x=xv at e;cases e with
   |func h1 h2 h3 h4=>exact .pure hr (.func h1 h2 h3 h4)
  ·cases he
 ·
  rename_i op t x y yt yV;simp only[execOp,yV];split at he
  case h_2=>cases he
  rename_i xv yv hx hy;obtain⟨h1,rfl⟩:=vU he;exact .still hr (Ak h1 (zX hs hx) (zX hs hy) w)
 ·
  rename_i op t x yV;simp only[execOp,yV];split at he
  case h_2=>cases he
  rename_i xv hx;obtain⟨hf,he⟩:=zv he;obtain⟨h1,rfl⟩:=vU he;obtain⟨h2,h3⟩:=VQ h1;rw[kR (zX hs hx) hf];exact .still hr ⟨v,zj h2 w,.of_flat ρ h3⟩
 ·
  rename_i src dst x yV;simp only[execOp,yV];split at he
  case h_2=>cases he
  rename_i xv hx;exact .val (At he hr (zX hs hx))
 ·
  rename_i t x yV;simp only[execOp,yV];split at he
  case h_2=>cases he
  rename_i xv hx;split at he
  case h_2=>cases he
  rename_i u hu;simp only[aab,aag]at he;obtain⟨rfl,rfl⟩:=he;refine .still hr ⟨.iface t (a.eval x),?_,.iface (zX hs hx)⟩;have:=zj hu w;simp only[Instr.makeInterface,aai]at this ⊢;cases hun:(underlying t).run P w with
  |halt e w2=>rw[hun]at this;cases this
  |ok d w2=>
   rw[hun]at this;simp only[aad]at this ⊢;cases d <;> simp_all
 ·
  rename_i f first captured yV
  simp only[execOp,yV];split at he
  case h_2=>cases he
  rename_i av cv ha hc;simp only[aab,aag]at he;obtain⟨rfl,rfl⟩:=he;have e1:=j2 hs ha;have e2:=j2 hs hc;refine .still hr ⟨.func (.func f) (first.map a.eval) (captured.map a.eval),rfl,.func (by simpa using e1.1) (by simpa using e2.1) (λi x y hx hy=>e1.2 i x y (by simpa using hx) (by simpa using hy)) (λi x y hx hy=>e2.2 i x y (by simpa using hx) (by simpa using hy))⟩
 ·
  rename_i t l c yV;simp only[execOp,yV];split at he
  case h_2=>cases he
  rename_i lv cv hl hc;exact .val (AA he hr (zX hs hl) (zX hs hc))
 ·
  rename_i t x lo hi yV;simp only[execOp,yV];split at he
  ·rename_i str av bv hx ha hb;split at he
   case h_2=>cases he
   rename_i u hu;simp only[aab,aag]at he;obtain⟨rfl,rfl⟩:=he;obtain⟨hf,hu⟩:=zv hu;simp only[aah]at hf;obtain⟨h1,h2⟩:=VQ hu;rw[kR (zX hs hx) rfl,pA (UZ hs ha) hf.1,pA (UZ hs hb) hf.2];exact .still hr ⟨u,zj h1 w,.of_flat ρ h2⟩
  ·rename_i xv av bv _ hx ha hb;obtain⟨h1,rfl⟩:=vU he;exact .still hr (rL h1 hr (zX hs hx) (UZ hs ha) (UZ hs hb))
  ·cases he
 ·
  rename_i t x f yV;simp only[execOp,yV];split at he
  case h_2=>cases he
  rename_i xv hx;obtain⟨h1,rfl⟩:=vU he;exact .still hr (rF h1 (zX hs hx) w)
 ·
  rename_i t x f yV;simp only[execOp,yV];split at he
  case h_2=>cases he
  rename_i cs hx;split at he
  case h_2=>cases he
  rename_i fields hu;split at he
  case h_2=>cases he
  rename_i fd hfd;obtain⟨h1,rfl⟩:=vU he;have e:=zX hs hx;generalize a.eval x=xv at e;cases e with
  |agg h2 h3=>
   rename_i cs';obtain⟨v',e,hv⟩:=AE (cs':=cs') h1 ⟨by simpa using h2,λi x y hx hy=>h3 i x y (by simpa using hx) (by simpa using hy)⟩ w;refine .still hr ⟨v',?_,hv⟩;simp only[Instr.field,aai,zj hu,aad,hfd,asAgg,aap,e]
 ·
  rename_i t x i yV;simp only[execOp,yV];split at he
  case h_2=>cases he
  rename_i xv iv hx hi;obtain⟨h1,rfl⟩:=vU he;exact .still hr (rG h1 (zX hs hx) (zX hs hi) w)
 ·
  rename_i t x i yV;simp only[execOp,yV];split at he
  case h_2=>cases he
  rename_i xv iv hx hi;obtain⟨hf,he⟩:=zv he;obtain⟨h1,rfl⟩:=vU he;exact .still hr (mJ hf h1 (zX hs hx) (zX hs hi) w)
 ·
  rename_i x i yV;simp only[execOp,yV];split at he
  case h_2=>cases he
  rename_i vs hx;obtain⟨h1,rfl⟩:=vU he;have e:=zX hs hx;generalize a.eval x=xv at e;cases e with
  |tuple h2 h3=>
   rename_i vs'
   have hlt:i<vs.size:=by
    rcases aaA i vs.size with h|h
    ·exact h
    ·rw[aaM h]at h1;cases h1
   have hy:vs'[i]? = some vs'[i]:=aaN (h2 ▸ hlt);refine .still hr ⟨vs'[i]'(h2 ▸ hlt),?_,h3 i _ _ h1 hy⟩;simp only[Instr.extract,hy,aap]
 ·
  rename_i b args ts yV;simp only[execOp,yV];split at he
  case h_2=>cases he
  rename_i vs hvs;have e:=j2 hs hvs;obtain⟨v',w',ρ',e1,st,hv⟩:=ir (cs:=args.map λ | .const _=>true|_=>false) he hr e;refine⟨.value v',w',ρ',v',?_,.inl rfl,st,hv⟩;simp only[resolve,aai,aap,aad,invoke];rw[<- e1]
  congr 2
  apply ab8;simp
 ·
  rename_i t yV;simp only[execOp,yV];simp only[aab]at he;obtain⟨v',w',ρ',e,st,hv⟩:=iA hr t;rw[he]at st hv;exact .val ⟨v',w',ρ',e,st,hv⟩
 ·
  rename_i t x k ok yV;simp only[execOp,yV];split at he
  case h_2=>cases he
  rename_i xv kv hx hk;obtain⟨h1,rfl⟩:=vU he;exact .still hr (mK h1 hr (zX hs hx) (zX hs hk))
 ·
  rename_i t m k x yV;simp only[execOp,yV];split at he
  case h_2=>cases he
  rename_i mv kv xv hm hk hx;split at he
  case h_2=>cases he
  rename_i h2 hu;simp only[aab,aag]at he;obtain⟨rfl,rfl⟩:=he;obtain⟨w',e,st⟩:=dE hu hr (zX hs hm) (zX hs hk) (zX hs hx);exact⟨.skip,w',ρ,undef,by simp only[aai,e,aad,aap],.inr ⟨rfl,rfl⟩,st,.ZM _ rfl⟩
 ·
  rename_i t x yV;simp only[execOp,yV];split at he
  case h_2=>cases he
  rename_i xv hx;exact .val (rJ he hr (zX hs hx))
 ·
  rename_i x str yV;simp only[execOp,yV];split at he
  case h_2=>cases he
  rename_i xv hx;exact .val (AD he hr (zX hs hx))
 ·
  rename_i x yV;simp only[execOp,yV];split at he
  case h_2=>cases he
  rename_i xv hx;obtain⟨h1,rfl⟩:=vU he;exact .still hr (ry h1 hr (zX hs hx))
 ·cases he
end
noncomputable section
variable {P:Program}
def vN(b:Frame)(tm:Array Value)(ds:List Deferred)(todo:List Item):Frame :=
 {fn:=b.fn,tmps:=tm,todo,defers:=ds,mode := .run,kind:=b.kind,roundOf:=b.roundOf}
theorem iW(b:Frame)(tm:Array Value)(ds:List Deferred)(todo:List Item):(vN b tm ds todo).eval=(Act.eval ⟨tm,ds⟩):=by
 funext x;cases x <;> rfl
section moves
variable {b:Frame}{tm:Array Value}{ds:List Deferred}{k:List Item}{cs:List Frame}{w:World}
theorem Dl:step P (lone (vN b tm ds (.code .skip::k)) cs w)=.next (lone (vN b tm ds k) cs w):=step_lone_go (by simp[stepG,stepG.exec,vN])
theorem Be{l:Nat}:step P (lone (vN b tm ds (.code (.label l)::k)) cs w)=.next (lone (vN b tm ds k) cs w):=step_lone_go (by simp[stepG,stepG.exec,vN])
theorem mS{id:Nat}:step P (lone (vN b tm ds (.inBlock id::k)) cs w)=.next (lone (vN b tm ds k) cs w):=step_lone_go (by simp[stepG,stepG.exec,vN])
theorem mT{c:Code}:step P (lone (vN b tm ds (.inScope c::k)) cs w)=.next (lone (vN b tm ds k) cs w):=step_lone_go (by simp[stepG,stepG.exec,vN])
theorem dO{x y:Code}:step P (lone (vN b tm ds (.code (.seq x y)::k)) cs w)=.next (lone (vN b tm ds (.code x :: .code y::k)) cs w):=step_lone_go (by simp[stepG,stepG.exec,vN])
theorem Dj{c:Operand}{x y:Code}{t:Bool}(h:Act.eval ⟨tm,ds⟩ c=.bool t):step P (lone (vN b tm ds (.code (.cond c x y)::k)) cs w)=.next (lone (vN b tm ds (.code (if t then x else y)::k)) cs w) :=
 step_lone_go (by
  have:=congrFun (iW b tm ds (.code (.cond c x y)::k)) c;simp only[vN]at this;simp[stepG,stepG.exec,vN,this,h])
theorem VS{id:Nat}{c:Code}:step P (lone (vN b tm ds (.code (.block id c)::k)) cs w)=.next (lone (vN b tm ds (.code c :: .inBlock id::k)) cs w):=step_lone_go (by simp[stepG,stepG.exec,vN])
theorem Q0{c:Code}:step P (lone (vN b tm ds (.code (.scope c)::k)) cs w)=.next (lone (vN b tm ds (.code c :: .inScope c::k)) cs w):=step_lone_go (by simp[stepG,stepG.exec,vN])
theorem Qc{c:Code}:step P (lone (vN b tm ds (.code (.loop c)::k)) cs w)=.next (lone (vN b tm ds (.code c :: .inLoop c::k)) cs w):=step_lone_go (by simp[stepG,stepG.exec,vN])
theorem rT{c:Code}:step P (lone (vN b tm ds (.inLoop c::k)) cs w)=.next (lone (vN b tm ds (.code c :: .inLoop c::k)) cs w):=step_lone_go (by simp[stepG,stepG.exec,vN])
theorem Dk{id:Nat}{k':List Item}(h:exitTo id k=some k'):step P (lone (vN b tm ds (.code (.exit id)::k)) cs w)=.next (lone (vN b tm ds k') cs w):=step_lone_go (by simp[stepG,stepG.exec,vN,h])
theorem rU{id:Nat}{ops:Array Oper}:step P (lone (vN b tm ds (.code (.region id ops false)::k)) cs w)=.next (lone (vN b tm ds (.inRegion ops (List.range ops.size)::k)) cs w):=step_lone_go (by simp[stepG,stepG.exec,vN])
theorem VT{id:Nat}{ops:Array Oper}:step P (lone (vN b tm ds (.code (.region id ops true)::k)) cs w) =
  .next (lone (vN b tm ds (.inRegion ops (Region.schedule (P.follows .mixedOrders) ops (w.tape w.drawn (.order b.fn id)))::k)) cs {w with drawn:=w.drawn+1}) :=
 step_lone_go (by simp[stepG,stepG.exec,vN,choose,Sem.run,Question.forced,Question.cut])
theorem XF{ops:Array Oper}:step P (lone (vN b tm ds (.inRegion ops []::k)) cs w)=.next (lone (vN b tm ds k) cs w):=step_lone_go (by simp[stepG,stepG.exec,vN])
theorem Gs(hb:b.roundOf=none):step P (lone (vN b tm ds (.code .ret::k)) cs w)=.next (lone {vN b tm ds (.code .ret::k) with mode := .returning} cs w) :=
 step_lone_go (by simp[stepG,stepG.exec,vN,hb])
theorem Gr(hb:b.roundOf=none):step P (lone (vN b tm ds []) cs w)=.next (lone {vN b tm ds [] with mode := .returning} cs w) :=
 step_lone_go (by simp[stepG,stepG.exec,vN,hb])
theorem j5(ops:Array Oper)(i:Nat)(rest:List Nat)(v:Value) :
  (vN b tm ds (.inRegion ops (i::rest)::k)).finish v=vN b (qH tm ((ops[i]?).bind (·.dst)) v) ds (.inRegion ops rest::k):=by
 cases h:(ops[i]?).bind (·.dst) <;> simp[Frame.finish,vN,qH,h]
theorem Je{ops:Array Oper}{i:Nat}{rest:List Nat}(h:((ops[i]?).map (Region.wanted · (yielded ops tm))).getD false=false) :
  step P (lone (vN b tm ds (.inRegion ops (i::rest)::k)) cs w)=.next (lone ((vN b tm ds (.inRegion ops (i::rest)::k)).finish undef) cs w):=by
 exact step_lone_go (by
  have h':=h;simp only[vN]at *
  simp[stepG,stepG.exec,h'])
def XO:Op->Bool
 | .defer _=>true
 |_=>false
theorem KX{ops:Array Oper}{i:Nat}{rest:List Nat}{o:Oper}(ho:ops[i]? = some o)(hw:Region.wanted o (yielded ops tm)=true)(hd:XO o.op=false) :
  stepG P true {frame:=vN b tm ds (.inRegion ops (i::rest)::k),callers:=cs,status := .running,dying:=none} w =
   stepG.apply P true (vN b tm ds (.inRegion ops (i::rest)::k)) cs none (execOp (Act.eval ⟨tm,ds⟩) o) w:=by
 have he:=iW b tm ds (.inRegion ops (i::rest)::k);have hw':((ops[i]?).map (Region.wanted · (yielded ops tm))).getD false=true:=by rw[ho];exact hw
 have h2:(vN b tm ds (.inRegion ops (i::rest)::k)).oper? = some o:=by simp[Frame.oper?,vN,ho]
 have h1:stepG P true {frame:=vN b tm ds (.inRegion ops (i::rest)::k),callers:=cs,status := .running,dying:=none} w=stepG.oper P true (vN b tm ds (.inRegion ops (i::rest)::k)) cs none w:=by
  simp only[stepG,vN];simp only[stepG.exec,hw'];rfl
 rw[h1];simp only[stepG.oper,h2,he];cases hro:(vN b tm ds (.inRegion ops (i::rest)::k)).roundOf with
 |none=>rfl
 |some l=>cases yV:o.op <;> first|rfl|(rw[yV]at hd;cases hd)
theorem Xd{ops:Array Oper}{i:Nat}{rest:List Nat}{o:Oper}(ho:ops[i]? = some o)(hw:Region.wanted o (yielded ops tm)=true)(hd:XO o.op=false){v:Value}{w':World}
  (hr:(execOp (Act.eval ⟨tm,ds⟩) o).run P w=.ok (.value v) w') :
  step P (lone (vN b tm ds (.inRegion ops (i::rest)::k)) cs w)=.next (lone ((vN b tm ds (.inRegion ops (i::rest)::k)).finish v) cs w') :=
 step_lone_go (by rw[KX ho hw hd];simp[stepG.apply,hr])
theorem XN{ops:Array Oper}{i:Nat}{rest:List Nat}{o:Oper}(ho:ops[i]? = some o)(hw:Region.wanted o (yielded ops tm)=true)(hd:XO o.op=false){w':World}
  (hr:(execOp (Act.eval ⟨tm,ds⟩) o).run P w=.ok .skip w') :
  step P (lone (vN b tm ds (.inRegion ops (i::rest)::k)) cs w)=.next (lone ((vN b tm ds (.inRegion ops (i::rest)::k)).finish undef) cs w') :=
 step_lone_go (by rw[KX ho hw hd];simp[stepG.apply,hr])
theorem QZ{ops:Array Oper}{i:Nat}{rest:List Nat}{o:Oper}(ho:ops[i]? = some o)(hw:Region.wanted o (yielded ops tm)=true)(hd:XO o.op=false){f:FuncId}{args:Array Value}{w':World}
  (hr:(execOp (Act.eval ⟨tm,ds⟩) o).run P w=.ok (.enter f args) w') :
  step P (lone (vN b tm ds (.inRegion ops (i::rest)::k)) cs w)=.next (lone (Frame.enter P f args .normal) (vN b tm ds (.inRegion ops (i::rest)::k)::cs) w') :=
 step_lone_go (by rw[KX ho hw hd];simp[stepG.apply,hr,vN])
end moves
end
noncomputable section
variable {P:Program}
inductive Ex where
 |normal
 |exit (id:Nat)
 |ret
 deriving DecidableEq
def SJ(P:Program)(m:Machine)(b:Frame)(k:List Item)(cs:List Frame)(e:Ex)(tm:Array Value)(ds:List Deferred)(w:World):Prop :=
 match e with
 | .normal=>Steps P m (lone (vN b tm ds k) cs w)
 | .exit id=>∃todo,exitTo id todo=exitTo id k/\Steps P m (lone (vN b tm ds (.code (.exit id)::todo)) cs w)
 | .ret=>∃todo,Steps P m (lone (vN b tm ds (.code .ret::todo)) cs w)
theorem SJ.of_steps{m m₁:Machine}{b:Frame}{k:List Item}{cs:List Frame}{e:Ex}{tm:Array Value}{ds:List Deferred}{w:World}(h:Steps P m m₁)(h':SJ P m₁ b k cs e tm ds w):SJ P m b k cs e tm ds w:=by
 cases e with
 |normal=>exact h.trans h'
 |exit id=>obtain⟨t,e,s⟩:=h';exact⟨t,e,h.trans s⟩
 |ret=>obtain⟨t,s⟩:=h';exact⟨t,h.trans s⟩
theorem Ln{ρ:xr}{h:za}{w:World}(hr:Rel P ρ h w){r:Nat}{o:Obj}(ho:w.heap[r]? = some o)(hn:∃x,o=.deferred x):¬J0 ρ h r:=by
 rintro⟨b,ob,pl,hg,_,hm,rfl⟩;obtain⟨x,rfl⟩:=hn;have hc:=hr.Lp hg hm;cases ob with
 |cells c t=>obtain⟨cs,fz,h1,_⟩:=hc;rw[h1]at ho;cases ho
 |map es q=>obtain⟨ms,h1,_⟩:=hc;rw[h1]at ho;cases ho
 |iter m a b c=>obtain⟨m',h1,_⟩:=hc;rw[h1]at ho;cases ho
 |tab c=>obtain⟨t,cs,fz,h1,_⟩:=hc;rw[h1]at ho;cases ho
 |siter s pos=>have h1:w.heap[pl.c]? = _:=hc.1;rw[h1]at ho;cases ho
 |loop l=>obtain⟨tm,d,fn,h1,_⟩:=hc;rw[h1]at ho;cases ho
theorem dX{w:World}{r:Nat}{o:Obj}(h:w.heap[r]? = some o):r<w.heap.size:=by
 rcases aaA r w.heap.size with hl|hl
 ·exact hl
 ·rw[aaM hl]at h;cases h
def Bs(r:Nat):Deferred:={target := .collected r,args := #[]}
def QD(w:World)(ds:List Deferred)(w':World)(ds':List Deferred):Prop :=
 ∃rs:List Nat,ds'=rs.map Bs++ds/\rs.Nodup /\ ∀r,r∈rs->w.heap.size<=r/\w'.heap[r]? = some (.deferred (some []))
theorem QD.refl(w w':World)(ds:List Deferred):QD w ds w' ds:=⟨[],rfl,List.nodup_nil,λr h=>by cases h⟩
theorem QD.trans{ρ ρ':xr}{h h':za}{w w1 w2:World}{ds ds1 ds2:List Deferred}(a:QD w ds w1 ds1)(b:QD w1 ds1 w2 ds2)(hle:w.heap.size<=w1.heap.size)(hr:Rel P ρ h w1)(st:Step P ρ h w1 ρ' h' w2):QD w ds w2 ds2:=by
 obtain⟨rs,h1,h2,h3⟩:=a;obtain⟨rs2,k1,k2,k3⟩:=b;refine⟨rs2++rs,by rw[k1,h1,abN,List.append_assoc],List.nodup_append.2 ⟨k2,h2,λx hx y hy e=>?_⟩,λr hr'=>?_⟩
 ·have:=(k3 x hx).1;have:=dX (h3 y hy).2;omega
 ·rcases aa2.1 hr' with hm|hm
  ·exact⟨aaY hle (k3 r hm).1,(k3 r hm).2⟩
  ·have:=(h3 r hm).2;refine⟨(h3 r hm).1,?_⟩;rw[st.frame r (dX this) (Ln hr this ⟨_,rfl⟩)];exact this
def Rd(ρ:xr)(rd:Option Nat)(b:Frame):Prop :=
 match rd with
 |none=>b.roundOf=none
 |some l=>l<ρ.next /\ ∃pl,ρ.m l=some pl/\b.roundOf=some pl.c
theorem Rd.mono{ρ ρ':xr}(hle:ρ.le ρ'){rd:Option Nat}{b:Frame}(h:Rd ρ rd b):Rd ρ' rd b:=by
 cases rd with
 |none=>exact h
 |some l=>exact⟨aan h.1 hle.1,by obtain⟨pl,hp,hb⟩:=h.2;exact⟨pl,(hle.2 l h.1).trans hp,hb⟩⟩
def T(P:Program)(rd:Option Nat)(c:Code)(s:Env)(h:za)(Q:Ex->Env->za->Prop):Prop :=
 ∀(ρ:xr) (w:World) (tm:Array Value) (ds:List Deferred),Rel P ρ h w->vV ρ s tm->∀(b:Frame),Rd ρ rd b->∀(k:List Item) (cs:List Frame),
  ∃e s' h' ρ' w' tm' ds',Q e s' h'/\Step P ρ h w ρ' h' w'/\vV ρ' s' tm'/\QD w ds w' ds'/\SJ P (lone (vN b tm ds (.code c::k)) cs w) b k cs e tm' ds' w'
def TO(P:Program)(ops:Array Oper)(l:List Nat)(s:Env)(h:za)(Q:Env->za->Prop):Prop :=
 ∀(ρ:xr) (w:World) (tm:Array Value) (ds:List Deferred),Rel P ρ h w->vV ρ s tm->∀(b:Frame) (k:List Item) (cs:List Frame),
  ∃s' h' ρ' w' tm',Q s' h'/\Step P ρ h w ρ' h' w'/\vV ρ' s' tm'/\Steps P (lone (vN b tm ds (.inRegion ops l::k)) cs w) (lone (vN b tm' ds (.inRegion ops []::k)) cs w')
def TC(P:Program)(f:FuncId)(args:List Value)(h:za)(R:Value->za->Prop):Prop :=
 ∀(ρ:xr) (w:World) (cargs:List Value),Rel P ρ h w->wC ρ args cargs ->
  Calls P f cargs.toArray w λe w'=>∃v v' h' ρ',e=.returned v'/\R v h'/\Step P ρ h w ρ' h' w'/\zI ρ' v v'
section rules
variable {rd:Option Nat}{s:Env}{h:za}{Q:Ex->Env->za->Prop}
theorem T.mono{c:Code}{Q':Ex->Env->za->Prop}(ht:T P rd c s h Q)(hq:∀e s h,Q e s h->Q' e s h):T P rd c s h Q':=by
 intro ρ w tm ds hr hs b hb k cs;obtain⟨e,s',h',ρ',w',tm',ds',q,r⟩:=ht ρ w tm ds hr hs b hb k cs;exact⟨e,s',h',ρ',w',tm',ds',hq _ _ _ q,r⟩
theorem TC.mono{f:FuncId}{args:List Value}{R R':Value->za->Prop}(ht:TC P f args h R)(hq:∀v h,R v h->R' v h):TC P f args h R':=by
 intro ρ w cargs hr hv;refine(ht ρ w cargs hr hv).mono λe w'=>?_;rintro⟨v,v',h',ρ',e1,q,r⟩;exact⟨v,v',h',ρ',e1,hq _ _ q,r⟩
theorem Hj(hq:Q .normal s h):T P rd .skip s h Q:=λρ w tm ds hr hs b hb k cs=>⟨.normal,s,h,ρ,w,tm,ds,hq,.refl hr,hs,.refl _ _ _,.one Dl⟩
theorem D9{l:Nat}(hq:Q .normal s h):T P rd (.label l) s h Q:=λρ w tm ds hr hs b hb k cs=>⟨.normal,s,h,ρ,w,tm,ds,hq,.refl hr,hs,.refl _ _ _,.one Be⟩
theorem Hi{id:Nat}(hq:Q (.exit id) s h):T P rd (.exit id) s h Q:=λρ w tm ds hr hs b hb k cs=>⟨.exit id,s,h,ρ,w,tm,ds,hq,.refl hr,hs,.refl _ _ _,k,rfl,.refl P _⟩
theorem Ny(hq:Q .ret s h):T P rd .ret s h Q:=λρ w tm ds hr hs b hb k cs=>⟨.ret,s,h,ρ,w,tm,ds,hq,.refl hr,hs,.refl _ _ _,k,.refl P _⟩
theorem Eb{x y:Code}(ht:T P rd x s h (λe s1 h1=>match e with | .normal=>T P rd y s1 h1 Q|e=>Q e s1 h1)):T P rd (.seq x y) s h Q:=by
 intro ρ w tm ds hr hs b hb k cs;obtain⟨e,s1,h1,ρ1,w1,tm1,ds1,q,st,hs1,hd1,ha⟩:=ht ρ w tm ds hr hs b hb (.code y::k) cs;cases e with
 |normal=>
  obtain⟨e2,s2,h2,ρ2,w2,tm2,ds2,q2,st2,hs2,hd2,ha2⟩:=q ρ1 w1 tm1 ds1 st.rel hs1 b (hb.mono st.le) k cs;exact⟨e2,s2,h2,ρ2,w2,tm2,ds2,q2,st.trans st2,hs2,hd1.trans hd2 st.size st.rel st2,.of_steps (.head dO ha) ha2⟩
 |exit id=>obtain⟨t,et,sx⟩:=ha;exact⟨_,s1,h1,ρ1,w1,tm1,ds1,q,st,hs1,hd1,t,et,.head dO sx⟩
 |ret=>obtain⟨t,sx⟩:=ha;exact⟨_,s1,h1,ρ1,w1,tm1,ds1,q,st,hs1,hd1,t,.head dO sx⟩
theorem pN{c:Operand}{x y:Code}{t:Bool}(hc:jk s c=some (.bool t))(ht:T P rd (if t then x else y) s h Q):T P rd (.cond c x y) s h Q:=by
 intro ρ w tm ds hr hs b hb k cs;obtain⟨e,s1,h1,ρ1,w1,tm1,ds1,q,st,hs1,hd1,ha⟩:=ht ρ w tm ds hr hs b hb k cs;have he:=zX (a:=⟨tm,ds⟩) hs hc
 have:Act.eval ⟨tm,ds⟩ c=.bool t:=by
  generalize Act.eval ⟨tm,ds⟩ c=v at he;cases he;rfl
 exact⟨e,s1,h1,ρ1,w1,tm1,ds1,q,st,hs1,hd1,.of_steps (.one (Dj this)) ha⟩
theorem J3{id:Nat}{c:Code}(ht:T P rd c s h (λe s1 h1=>if e=.exit id then Q .normal s1 h1 else Q e s1 h1)):T P rd (.block id c) s h Q:=by
 intro ρ w tm ds hr hs b hb k cs;obtain⟨e,s1,h1,ρ1,w1,tm1,ds1,q,st,hs1,hd1,ha⟩:=ht ρ w tm ds hr hs b hb (.inBlock id::k) cs;cases e with
 |normal=>rw[aak (by simp)]at q;exact⟨.normal,s1,h1,ρ1,w1,tm1,ds1,q,st,hs1,hd1,.head VS (ab1 ha (.one mS))⟩
 |exit id'=>
  obtain⟨t,et,sx⟩:=ha;by_cases hid:id'=id
  ·subst hid;rw[aam rfl]at q;refine⟨.normal,s1,h1,ρ1,w1,tm1,ds1,q,st,hs1,hd1,.head VS (sx.trans (.one (Dk (k':=k) ?_)))⟩;rw[et];simp[exitTo]
  ·rw[aak (by simpa using hid)]at q;refine⟨.exit id',s1,h1,ρ1,w1,tm1,ds1,q,st,hs1,hd1,t,?_,.head VS sx⟩;rw[et];have:(id == id')=false:=by simp;exact λh=>hid h.symm
   simp[exitTo,this]
 |ret=>obtain⟨t,sx⟩:=ha;rw[aak (by simp)]at q;exact⟨.ret,s1,h1,ρ1,w1,tm1,ds1,q,st,hs1,hd1,t,.head VS sx⟩
theorem Ea{c:Code}(ht:T P rd c s h Q):T P rd (.scope c) s h Q:=by
 intro ρ w tm ds hr hs b hb k cs;obtain⟨e,s1,h1,ρ1,w1,tm1,ds1,q,st,hs1,hd1,ha⟩:=ht ρ w tm ds hr hs b hb (.inScope c::k) cs;cases e with
 |normal=>exact⟨.normal,s1,h1,ρ1,w1,tm1,ds1,q,st,hs1,hd1,.head Q0 (ab1 ha (.one mT))⟩
 |exit id=>obtain⟨t,et,sx⟩:=ha;exact⟨_,s1,h1,ρ1,w1,tm1,ds1,q,st,hs1,hd1,t,by rw[et];simp[exitTo],.head Q0 sx⟩
 |ret=>obtain⟨t,sx⟩:=ha;exact⟨_,s1,h1,ρ1,w1,tm1,ds1,q,st,hs1,hd1,t,.head Q0 sx⟩
theorem VD{c:Code}(ht:T P rd c s h (λe s1 h1=>match e with | .normal=>T P rd (.loop c) s1 h1 Q|e=>Q e s1 h1)):T P rd (.loop c) s h Q:=by
 intro ρ w tm ds hr hs b hb k cs;obtain⟨e,s1,h1,ρ1,w1,tm1,ds1,q,st,hs1,hd1,ha⟩:=ht ρ w tm ds hr hs b hb (.inLoop c::k) cs;cases e with
 |normal=>
  obtain⟨e2,s2,h2,ρ2,w2,tm2,ds2,q2,st2,hs2,hd2,ha2⟩:=q ρ1 w1 tm1 ds1 st.rel hs1 b (hb.mono st.le) k cs;refine⟨e2,s2,h2,ρ2,w2,tm2,ds2,q2,st.trans st2,hs2,hd1.trans hd2 st.size st.rel st2,?_⟩;have e0:step P (lone (vN b tm1 ds1 (.inLoop c::k)) cs w1)=step P (lone (vN b tm1 ds1 (.code (.loop c)::k)) cs w1):=by rw[rT,Qc]
  have key:∀m',Steps P (lone (vN b tm1 ds1 (.code (.loop c)::k)) cs w1) m'->(m'=lone (vN b tm1 ds1 (.code (.loop c)::k)) cs w1)\/Steps P (lone (vN b tm1 ds1 (.inLoop c::k)) cs w1) m':=by
   rintro m' ⟨n,hn⟩;cases n with
   |zero=>left;simp[runN]at hn;exact hn.symm
   |succ n=>right;exact⟨n+1,by simp only[runN]at hn ⊢;rw[e0];exact hn⟩
  have go:∀m',Steps P (lone (vN b tm1 ds1 (.code (.loop c)::k)) cs w1) m'->m'≠lone (vN b tm1 ds1 (.code (.loop c)::k)) cs w1->Steps P (lone (vN b tm ds (.code (.loop c)::k)) cs w) m':=by
   intro m' hm hne;exact(Steps.head Qc ha).trans ((key m' hm).resolve_left hne)
  have neq:∀(k':List Item) tm' ds' w',(k'=k\/(∃x t,k'=.code x::t /\ ∀c,x ≠ .loop c))->lone (vN b tm' ds' k') cs w'≠lone (vN b tm1 ds1 (.code (.loop c)::k)) cs w1:=by
   intro k' tm' ds' w' hk' e;simp only[lone,Machine.mk.injEq,Array.mk.injEq,abj,Goroutine.mk.injEq,vN,Frame.mk.injEq]at e;have e:=e.2.1.1.1.2.2.1;rcases hk' with rfl|⟨x,t,rfl,hx⟩
   ·have:=congrArg List.length e;simp at this
   ·simp only[abj,Item.code.injEq]at e;exact hx c e.1
  cases e2 with
  |normal=>exact go _ ha2 (neq _ _ _ _ (.inl rfl))
  |exit id=>obtain⟨t,et,sx⟩:=ha2;exact⟨t,et,go _ sx (neq _ _ _ _ (.inr ⟨_,_,rfl,λc=>by simp⟩))⟩
  |ret=>obtain⟨t,sx⟩:=ha2;exact⟨t,go _ sx (neq _ _ _ _ (.inr ⟨_,_,rfl,λc=>by simp⟩))⟩
 |exit id=>obtain⟨t,et,sx⟩:=ha;exact⟨_,s1,h1,ρ1,w1,tm1,ds1,q,st,hs1,hd1,t,by rw[et];simp[exitTo],.head Qc sx⟩
 |ret=>obtain⟨t,sx⟩:=ha;exact⟨_,s1,h1,ρ1,w1,tm1,ds1,q,st,hs1,hd1,t,.head Qc sx⟩
end rules
def yx(ops:Array Oper)(s:Env)(o:Oper):Bool :=
 match o.guard with
 |none=>true
 |some (j,want)=>(match (ops[j]?).bind (·.dst) with
  |none=>false
  |some d=>(match s.get d with
   | .bool b=>b == want
   |_=>false))
theorem XD{ρ:xr}{s:Env}{tm:Array Value}(hs:vV ρ s tm)(ops:Array Oper)(o:Oper):Region.wanted o (yielded ops tm)=yx ops s o:=by
 unfold Region.wanted yx;split
 ·rename_i e;rw[e]
 ·rename_i j want e;rw[e];simp only[yielded];cases hd:(ops[j]?).bind (·.dst) with
  |none=>rfl
  |some d=>
   simp only[aaQ];have hv:=hs.get d;cases ht:tm[d]? with
   |none=>
    have:tm.getD d undef=undef:=(by simp[aay,ht]);rw[this]at hv;generalize s.get d=sv at hv;cases hv with
    |sP h=>cases h
    |tuple _ _=>rfl
   |some tv=>
    have:tm.getD d undef=tv:=(by simp[aay,ht]);rw[this]at hv;generalize s.get d=sv at hv;cases hv with
    |sP h=>cases tv <;> first|rfl|cases h
    |bool bb=>cases bb <;> cases want <;> rfl
    |_=>rfl
section ops
variable {s:Env}{h:za}{Q:Env->za->Prop}{ops:Array Oper}
theorem Hh(hq:Q s h):TO P ops [] s h Q:=λρ w tm ds hr hs b k cs=>⟨s,h,ρ,w,tm,hq,.refl hr,hs,.refl P _⟩
theorem Vo{o:Oper}{v:Value}{h1:za}(ho:K9 P s o h=some (v,h1)):XO o.op=false:=by
 cases yV:o.op <;> first|rfl|(unfold K9 at ho;rw[yV]at ho;cases ho)
theorem Nw{i:Nat}{rest:List Nat}{o:Oper}(ho:ops[i]? = some o)(hw:yx ops s o=true){v:Value}{h1:za}{s1:Env}(hd:XO o.op=false)(hok:∀(ρ:xr) (w:World) (a:Act),Rel P ρ h w->vV ρ s a.tmps->fY P ρ h w (execOp a.eval o) v h1)(hp:s.put o.dst v=some s1)(ht:TO P ops rest s1 h1 Q) :
  TO P ops (i::rest) s h Q:=by
 intro ρ w tm ds hr hs b k cs;obtain⟨n,w1,ρ1,v',e,hn,st,hv⟩:=hok ρ w ⟨tm,ds⟩ hr hs;have hs1:vV ρ1 s1 (qH tm o.dst v'):=(hs.mono st.le).put hv hp;obtain⟨s2,h2,ρ2,w2,tm2,q,st2,hs2,sx⟩:=ht ρ1 w1 _ ds st.rel hs1 b k cs;have hw':Region.wanted o (yielded ops tm)=true:=(XD hs ops o).trans hw;refine⟨s2,h2,ρ2,w2,tm2,q,st.trans st2,hs2,.head ?_ sx⟩
 have hfin:(vN b tm ds (.inRegion ops (i::rest)::k)).finish v'=vN b (qH tm o.dst v') ds (.inRegion ops rest::k):=by
  rw[j5,ho];rfl
 rw[<- hfin];rcases hn with rfl|⟨rfl,rfl⟩
 ·exact Xd ho hw' hd e
 ·exact XN ho hw' hd e
theorem Nx{i:Nat}{rest:List Nat}{o:Oper}(ho:ops[i]? = some o)(hw:yx ops s o=true){v:Value}{h1:za}{s1:Env}(yV:K9 P s o h=some (v,h1))(hp:s.put o.dst v=some s1)(ht:TO P ops rest s1 h1 Q) :
  TO P ops (i::rest) s h Q:=by
 intro ρ w tm ds hr hs b k cs;obtain⟨n,w1,ρ1,v',e,hn,st,hv⟩:=oF (a:=⟨tm,ds⟩) yV hr hs;have hs1:vV ρ1 s1 (qH tm o.dst v'):=(hs.mono st.le).put hv hp;obtain⟨s2,h2,ρ2,w2,tm2,q,st2,hs2,sx⟩:=ht ρ1 w1 _ ds st.rel hs1 b k cs;have hw':Region.wanted o (yielded ops tm)=true:=(XD hs ops o).trans hw;refine⟨s2,h2,ρ2,w2,tm2,q,st.trans st2,hs2,.head ?_ sx⟩
 have hfin:(vN b tm ds (.inRegion ops (i::rest)::k)).finish v'=vN b (qH tm o.dst v') ds (.inRegion ops rest::k):=by
  rw[j5,ho];rfl
 rw[<- hfin];rcases hn with rfl|⟨rfl,rfl⟩
 ·exact Xd ho hw' (Vo yV) e
 ·exact XN ho hw' (Vo yV) e
theorem D8{i:Nat}{rest:List Nat}{o:Oper}(ho:ops[i]? = some o)(hw:yx ops s o=false){s1:Env}(hp:s.put o.dst undef=some s1)(ht:TO P ops rest s1 h Q):TO P ops (i::rest) s h Q:=by
 intro ρ w tm ds hr hs b k cs;have hs1:vV ρ s1 (qH tm o.dst undef):=hs.put (.ZM _ rfl) hp;obtain⟨s2,h2,ρ2,w2,tm2,q,st2,hs2,sx⟩:=ht ρ w _ ds hr hs1 b k cs;refine⟨s2,h2,ρ2,w2,tm2,q,st2,hs2,.head ?_ sx⟩;have hw':Region.wanted o (yielded ops tm)=false:=(XD hs ops o).trans hw;rw[Je (by rw[ho];exact hw'),j5,ho];rfl
def uG(P:Program)(g:FuncId):Bool :=
 match P.funcs[g]? with
 |some fn=>fn.body.isSome && !(fn.name == "runtime.NumGoroutine")
 |none=>false
theorem D7{i:Nat}{rest:List Nat}{o:Oper}{f:Operand}{cargs:Array Operand}{ts:Array TypeId}{g:FuncId}{fa fc:Array Value}{vs:List Value}{R:Value->za->Prop}
  (ho:ops[i]? = some o) (hw:yx ops s o=true) (yV:o.op=.call {callee := .value f,args:=cargs,argTypes:=ts}) (hf:jk s f=some (.func (.func g) fa fc)) (hargs:Um s cargs.toList=some vs)
  (hcall:uG P g=true) (hc:TC P g (fa.toList++vs++fc.toList) h R) (ht:∀v h1,R v h1->∃s1,s.put o.dst v=some s1/\TO P ops rest s1 h1 Q):TO P ops (i::rest) s h Q:=by
 intro ρ w tm ds hr hs b k cs;have hw':Region.wanted o (yielded ops tm)=true:=(XD hs ops o).trans hw;have e1:=zX (a:=⟨tm,ds⟩) hs hf;have e2:=j2 (a:=⟨tm,ds⟩) hs hargs;generalize hfv:Act.eval ⟨tm,ds⟩ f=fv at e1;cases e1 with
 |func ha hcs h1 h2=>
  rename_i fa' fc'
  let full:=fa'.toList++cargs.toList.map (Act.eval ⟨tm,ds⟩)++fc'.toList
  have hfull:wC ρ (fa.toList++vs++fc.toList) full :=
   (wC.append ⟨by simpa using ha,λi x y hx hy=>h1 i x y (by simpa using hx) (by simpa using hy)⟩ e2).append ⟨by simpa using hcs,λi x y hx hy=>h2 i x y (by simpa using hx) (by simpa using hy)⟩
  have hrun:(execOp (Act.eval ⟨tm,ds⟩) o).run P w=.ok (.enter g full.toArray) w:=by
   have hargs':fa'++cargs.map (Act.eval ⟨tm,ds⟩)++fc'=full.toArray:=by apply ab8;simp[full]
   simp only[execOp,yV,resolve,hfv,Deferred.ofValue,aai,aap,aad,invoke,callFunc,run_program,hargs'];unfold uG at hcall;cases hfn:P.funcs[g]? with
   |none=>rw[hfn]at hcall;cases hcall
   |some fn=>
    rw[hfn]at hcall;simp only[aah,aav]at hcall;simp only[hcall.2,abc,aat];rw[aak (by cases hb:fn.body <;> simp_all)];rfl
  obtain⟨e,w1,fr,⟨v,v',h',ρ',rfl,hR,st,hv⟩,hcomes,_,hleave⟩:=hc ρ w full hr hfull (vN b tm ds (.inRegion ops (i::rest)::k)::cs);obtain⟨s1,hp,hrest⟩:=ht v h' hR;have hs1:vV ρ' s1 (qH tm o.dst v'):=(hs.mono st.le).put hv hp;obtain⟨s2,h2,ρ2,w2,tm2,q,st2,hs2,sx⟩:=hrest ρ' w1 _ ds st.rel hs1 b k cs;have hd:XO o.op=false:=by rw[yV];rfl
  refine⟨s2,h2,ρ2,w2,tm2,q,st.trans st2,hs2,.head (QZ ho hw' hd hrun) (ab1 hcomes (.head (step_leave_returned hleave) ?_))⟩;rw[j5,ho];exact sx
end ops
def ES(P:Program)(g:FuncId)(args:List Value)(h:za):Option (Value×za) :=
 match P.funcs[g]? with
 |some fn=>cond (fn.body.isNone&&decide (fn.name = "internal/abi.NoEscape")&&(Extern.findNext fn).isNone) (match args with
  |[x]=>some (x,h)
  |_=>none) none
 |none=>none
theorem Dg {fn:Func} (h:fn.name = "internal/abi.NoEscape"):Extern.find fn=some Extern.AbiNoEscape.same:=by
 unfold Extern.find;rw[h];rfl
theorem Lm{ρ:xr}{s:Env}{h h1:za}{w:World}{a:Act}{o:Oper}{f:Operand}{cargs:Array Operand}{ts:Array TypeId}{g:FuncId}{fa fc:Array Value}{vs:List Value}{v:Value}
  (yV:o.op=.call {callee := .value f,args:=cargs,argTypes:=ts}) (hf:jk s f=some (.func (.func g) fa fc)) (hargs:Um s cargs.toList=some vs) (he:ES P g (fa.toList++vs++fc.toList) h=some (v,h1)) (hr:Rel P ρ h w) (hs:vV ρ s a.tmps) :
  fY P ρ h w (execOp a.eval o) v h1:=by
 have e1:=zX hs hf;have e2:=j2 hs hargs;generalize hfv:a.eval f=fv at e1;cases e1 with
 |func ha hcs q1 q2=>
  rename_i fa' fc'
  let full:=fa'.toList++cargs.toList.map a.eval++fc'.toList
  have hfull:wC ρ (fa.toList++vs++fc.toList) full :=
   (wC.append ⟨by simpa using ha,λi x y hx hy=>q1 i x y (by simpa using hx) (by simpa using hy)⟩ e2).append ⟨by simpa using hcs,λi x y hx hy=>q2 i x y (by simpa using hx) (by simpa using hy)⟩
  have hargs':fa'++cargs.map a.eval++fc'=full.toArray:=by apply ab8;simp[full]
  unfold ES at he;split at he
  case h_2=>cases he
  rename_i fn hfn;obtain⟨hc,he⟩:=zv he;simp only[aah,aaU]at hc;obtain⟨⟨hb,hn⟩,hx⟩:=hc;split at he
  case h_2=>cases he
  rename_i x hl;simp only[aab,aag]at he;obtain⟨rfl,rfl⟩:=he;rw[hl]at hfull;obtain⟨y,ys,hy,v1,hv2⟩:=hfull.cons_inv;cases hv2.uT;have hfn':Extern.findNext fn=none:=by simpa using hx
  refine⟨.value y,w,ρ,y,?_,.inl rfl,.refl hr,v1⟩;simp only[execOp,yV,resolve,hfv,Deferred.ofValue,aai,aap,aad,invoke,hargs',hy];rw[Go.run_callFunc_extern hfn (by rw[hn];decide) hb hfn' (Dg hn)];rfl
def lL(P:Program)(g:FuncId)(args:List Value)(h:za):Option (Value×za) :=
 match P.funcs[g]?,args with
 |some fn,[.int .i64 n]=>cond (fn.body.isNone&&decide (fn.name = "internal/bytealg.MakeNoZero")&&(Extern.findNext fn).isNone&&decide (0<=n)&&decide (n<=2^48))
   (match fn.resultTypes[0]? with
    |some t=>(match z9 P (underlying t) with
     |some (.slice e)=>cond (Nat.beq (P.cellsOf e) 1) (some (.slice (some ⟨h.next,0,none⟩) n.toNat 1,h.push (.cells [] e))) none
     |_=>none)
    |none=>none) none
 |_,_=>none
theorem mR {fn:Func} (h:fn.name = "internal/bytealg.MakeNoZero"):Extern.find fn=some (Extern.BytealgMakeNoZero.makeNoZero fn.params fn.resultTypes):=by
 unfold Extern.find;rw[h];rfl
theorem sG{ρ:xr}{h:za}{w:World}(hr:Rel P ρ h w){ps rs:Array TypeId}{t e:TypeId}{n:Int}(ht:rs[0]? = some t)(hu:z9 P (underlying t)=some (.slice e))(hc:P.cellsOf e=1)(h0:0<=n)(hn:n<=2^48) :
  ∃v' w' ρ',(Extern.BytealgMakeNoZero.makeNoZero ps rs #[.int .i64 n]).run P w=.ok v' w'/\Step P ρ h w ρ' (h.push (.cells [] e)) w'/\zI ρ' (.slice (some ⟨h.next,0,none⟩) n.toNat 1) v':=by
 let q:Question := .appendCap n.toNat 0 e
 let cap:=q.cut (w.tape w.drawn q)
 have hge:n.toNat<=cap:=by show n.toNat<=n.toNat+_%_;omega
 let w1:World:={w with drawn:=w.drawn+1}
 let q2:Question := .extern "internal/bytealg.MakeNoZero.bytes" 0
 let bytes:=q2.cut (w1.tape w1.drawn q2)
 let w2:World:={w1 with drawn:=w1.drawn+1}
 let cs:=Extern.BytealgMakeNoZero.digits cap bytes #[]
 have hcs:cs.size=cap:=by simp only[cs,Lib.size_digits];simp
 have hr2:Rel P ρ h w2:=hr.grow (λk _=>rfl)
 let w3:World:={w2 with heap:=w2.heap.push (.cells cs e)}
 have st:=Step.push (t:=e) hr2 (c:=[]) (cs:=cs) (fz:=(0,0)) (w':=w3) rfl (λi _ hi=>by simp at hi) (by simp) (λk x hx=>by simp at hx) rfl rfl rfl;refine⟨.slice (some ⟨w.heap.size,0,none⟩) n.toNat cap,w3,_,?_,⟨st.le,st.rel,st.ro,st.os,st.tape,st.output,st.size,st.frame,st.fy⟩,?_⟩
 ·have hq:(choose (.appendCap n.toNat 0 e)).run P w=.ok cap w1:=by rw[run_choose];rfl
  have hq2:(choose (.extern "internal/bytealg.MakeNoZero.bytes" 0)).run P w1=.ok bytes w2:=by rw[run_choose];rfl
  have hneg:¬(n<0\/n>2^48):=by omega
  have hnr:(newRow e cs).run P w2=.ok ⟨w.heap.size,0,none⟩ w3:=rfl;rw[show Extern.BytealgMakeNoZero.makeNoZero ps rs #[.int .i64 n]=(match rs[0]? with|some t=>(underlying t >>= _)|_=>_) from rfl];simp only[ht,aai,zj hu,aad];rw[aak (by simpa using hneg)];simp only[aai,hq,aad,run_askRoom,hq2];rw[show Extern.BytealgMakeNoZero.digits cap bytes #[]=cs from rfl,hnr];rfl
 ·have:=zI.slice (ρ:=ρ.ext ⟨w2.heap.size,0,cs.size,P.cellsOf e⟩) (b:=h.next) (off:=0) (len:=n.toNat) (c:=1) (cap:=cap) (pl:=⟨w2.heap.size,0,cs.size,P.cellsOf e⟩)
   (by show h.next<ρ.next+1;rw[hr.next];exact aa4 _) (by rw[<- hr.next];exact ρ.kP _) hge (λ_=>⟨by simp[hc,hcs],λk hk=>by omega⟩)
  exact this
def rC(P:Program)(g:FuncId)(args:List Value)(h:za):Option (Value×za) :=
 match ES P g args h with
 |some r=>some r
 |none=>lL P g args h
theorem rD{ρ:xr}{s:Env}{h h1:za}{w:World}{a:Act}{o:Oper}{f:Operand}{cargs:Array Operand}{ts:Array TypeId}{g:FuncId}{fa fc:Array Value}{vs:List Value}{v:Value}
  (yV:o.op=.call {callee := .value f,args:=cargs,argTypes:=ts}) (hf:jk s f=some (.func (.func g) fa fc)) (hargs:Um s cargs.toList=some vs) (he:rC P g (fa.toList++vs++fc.toList) h=some (v,h1)) (hr:Rel P ρ h w) (hs:vV ρ s a.tmps) :
  fY P ρ h w (execOp a.eval o) v h1:=by
 unfold rC at he;split at he
 ·rename_i r hn;simp only[aab]at he;subst he;exact Lm yV hf hargs hn hr hs
 ·have e1:=zX hs hf;have e2:=j2 hs hargs;generalize hfv:a.eval f=fv at e1;cases e1 with
  |func ha hcs q1 q2=>
   rename_i fa' fc'
   let full:=fa'.toList++cargs.toList.map a.eval++fc'.toList
   have hfull:wC ρ (fa.toList++vs++fc.toList) full :=
    (wC.append ⟨by simpa using ha,λi x y hx hy=>q1 i x y (by simpa using hx) (by simpa using hy)⟩ e2).append ⟨by simpa using hcs,λi x y hx hy=>q2 i x y (by simpa using hx) (by simpa using hy)⟩
   have hargs':fa'++cargs.map a.eval++fc'=full.toArray:=by apply ab8;simp[full]
   unfold lL at he;split at he
   case h_2=>cases he
   rename_i fn n hfn hl;obtain⟨hc,he2⟩:=zv he;clear he;simp only[aah,aaU]at hc;obtain⟨⟨⟨⟨hb,hn⟩,hx⟩,h0⟩,h48⟩:=hc;split at he2
   case h_2=>cases he2
   rename_i t ht;split at he2
   case h_2=>cases he2
   rename_i e hu;obtain⟨hce,he3⟩:=zv he2;simp only[aab,aag]at he3;obtain⟨rfl,rfl⟩:=he3;rw[hl]at hfull;obtain⟨y,ys,hy,v1,hv2⟩:=hfull.cons_inv;cases hv2.uT;cases v1;have hfn':Extern.findNext fn=none:=by simpa using hx
   obtain⟨v',w',ρ',er,st,hv⟩:=sG (ps:=fn.params) hr ht hu (aar hce) h0 h48;refine⟨.value v',w',ρ',v',?_,.inl rfl,st,hv⟩;simp only[execOp,yV,resolve,hfv,Deferred.ofValue,aai,aap,aad,invoke,hargs',hy];rw[Go.run_callFunc_extern hfn (by rw[hn];decide) hb hfn' (mR hn),er];rfl
def eE:Value->Bool
 | .tuple a=>a.toList.all flat
 |v=>flat v
theorem E6{ρ:xr}{v v':Value}(h:zI ρ v v')(hp:eE v=true)(ρ2:xr):zI ρ2 v v':=by
 cases v with
 |tuple a=>
  cases h with
  |tuple ha hv=>
   simp only[eE,aaJ]at hp;refine .tuple ha (λi x y hx hy=>?_);have hf:=hp x (aaG (by simpa using hx));rw[kR (hv i x y hx hy) hf];exact .of_flat _ hf
 |_=>rw[kR h hp];exact .of_flat _ hp
theorem Rel.lock{ρ:xr}{h:za}{w:World}(hr:Rel P ρ h w):Rel P ρ h.lock w :=
 ⟨hr.next,aal _,hr.Qv,λb o hb=>by obtain⟨pl,hp,hc⟩:=hr.ok b o hb;exact⟨pl,hp,hc.Ha (λe=>by
  have:h.next<=b:=abd e;have:=hr.Qv b _ hb;omega)⟩,hr.inj,aaY hr.dQ hr.ro,hr.Yt⟩
theorem TC.quiet{f:FuncId}{args:List Value}{h:za}{R:Value->za->Prop}(ht:TC P f args h.lock R)(hsc:∀v h1,R v h1->eE v=true):TC P f args h (λv h1=>(∃h2,R v h2)/\h1=h):=by
 intro ρ w cargs hr hv;refine(ht ρ w cargs hr.lock hv).mono λe w'=>?_;rintro⟨v,v',h',ρ',e1,hR,st,hvv⟩
 have hsame:∀c,c<w.heap.size->w'.heap[c]? = w.heap[c]?:=λc hc=>st.frame c hc (by
  rintro⟨b,o,pl,hg,hro,_⟩;have h1:h.next<=b:=hro;have h2:=hr.Qv b o hg;omega)
 exact⟨v,v',h,ρ,e1,⟨⟨h',hR⟩,rfl⟩,⟨xr.le_refl _,hr.grow hsame,rfl,st.os,st.tape,st.output,st.size,λc hc _=>hsame c hc,λc _ hm=>hm⟩,E6 hvv (hsc v h' hR) ρ⟩
theorem sZ{rd:Option Nat}{id:Nat}{ops:Array Oper}{s:Env}{h:za}{Q:Ex->Env->za->Prop}(ht:TO P ops (List.range ops.size) s h (λs1 h1=>Q .normal s1 h1)):T P rd (.region id ops false) s h Q:=by
 intro ρ w tm ds hr hs b hb k cs;obtain⟨s1,h1,ρ1,w1,tm1,q,st,hs1,sx⟩:=ht ρ w tm ds hr hs b k cs;exact⟨.normal,s1,h1,ρ1,w1,tm1,ds,q,st,hs1,.refl _ _ _,.head rU (sx.trans (.one XF))⟩
end
noncomputable section
variable {P:Program}
theorem Bq(fr:Frame)(hm:fr.mode=.returning):∀(rs:List Nat) (w:World),fr.defers=rs.map Bs->rs.Nodup->(∀r,r∈rs->w.heap[r]? = some (.deferred (some [])))->∀cs,
  ∃w',Steps P (lone fr cs w) (lone {fr with defers:=[]} cs w')/\w'.os=w.os/\w'.tape=w.tape/\w'.output=w.output/\w'.heap.size=w.heap.size/\(∀k,k∉rs->w'.heap[k]? = w.heap[k]?):=by
 intro rs
 induction rs generalizing fr with
 |nil=>intro w hd _ _ cs;refine⟨w,?_,rfl,rfl,rfl,rfl,λ_ _=>rfl⟩;rw[show fr = {fr with defers:=[]} by cases fr;simp_all];exact .refl P _
 |cons r rs ih=>
  intro w hd hn hb cs;have hr:=hb r (by simp);have hlt:=dX hr
  let w1:World:={w with heap:=w.heap.setIfInBounds r (.deferred none)}
  have hn:=List.nodup_cons.1 hn;have hother:∀k,k≠r->w1.heap[k]? = w.heap[k]?:=λk hk=>by show(w.heap.setIfInBounds r _)[k]? = _;rw[aa7,aak (Ne.symm hk)]
  obtain⟨w',hs,h1,h2,h3,h4,h5⟩:=ih {fr with defers:=rs.map Bs} hm w1 rfl hn.2 (λk hk=>(hother k (λe=>hn.1 (e ▸ hk))).trans (hb k (by simp[hk]))) cs;refine⟨w',.head ?_ hs,h1,h2,h3,by rw[h4];simp[w1],λk hk=>?_⟩
  ·refine step_lone_go ?_;have hd':fr.defers = {target := .collected r,args := #[]} :: rs.map Bs:=hd
   have hrun:(Instr.takeDeferred r).run P w=.ok [] w1:=by
    simp only[Instr.takeDeferred,getObj,setObj,aai];simp only[Sem.run,hr,aad,aai];rfl
   simp only[stepG,hm,unwind,hd',Sem.runT_eq,hrun,GStep.bare_after];simp[GStep.bare]
  ·simp only[abm,not_or]at hk;exact(h5 k hk.2).trans (hother k hk.1)
def q8(P:Program)(s:Env)(h:za):List ResultVar->Option (List Value)
 |[]=>some []
 | .tmp t::rs=>(match q8 P s h rs with
   |some vs=>some (s.get t::vs)
   |none=>none)
 | .cell a t::rs=>(match zd P t (s.get a) h with
   |some v=>(match q8 P s h rs with
    |some vs=>some (v::vs)
    |none=>none)
   |none=>none)
def j3:List Value->Value
 |[v]=>v
 |vs => .tuple vs.toArray
def BJ(tm:Array Value):ResultVar->Sem Value
 | .tmp t=>pure (tm.getD t undef)
 | .cell a t=>do loadVar t (<- asAddr (tm.getD a undef))
theorem DM(fn:Func)(tm:Array Value):results fn tm=(do let vs <- fn.results.mapM (BJ tm);pure (if h:vs.size=1 then vs[0] else .tuple vs)):=rfl
theorem Vg{ρ:xr}{s:Env}{h:za}{w:World}{tm:Array Value}(hr:Rel P ρ h w)(hs:vV ρ s tm):∀{rs:List ResultVar} {vs:List Value},q8 P s h rs=some vs ->
  ∃vs',(rs.mapM (BJ tm)).run P w=.ok vs' w/\wC ρ vs vs'
 |[],vs,he=>by simp only[q8,aab]at he;subst he;exact⟨[],rfl,.nil ρ⟩
 | .tmp t::rs,vs,he=>by
   simp only[q8]at he;split at he
   case h_2=>cases he
   rename_i vs0 h0;simp only[aab]at he;subst he;obtain⟨vs',e,hv⟩:=Vg hr hs h0;exact⟨_,by simp only[List.mapM_cons,BJ,aai,aap,aad,e],.cons (hs.get t) hv⟩
 | .cell a t::rs,vs,he=>by
   simp only[q8]at he;split at he
   case h_2=>cases he
   rename_i v hv0;split at he
   case h_2=>cases he
   rename_i vs0 h0;simp only[aab]at he;subst he;obtain⟨vs',e,hv⟩:=Vg hr hs h0;obtain⟨v',e1,hv1⟩:=eP hv0 hr (hs.get a)
   have e2:(do loadVar t (<- asAddr (tm.getD a undef)):Sem Value).run P w=.ok v' w:=by
    have hp:=hs.get a;generalize tm.getD a undef=x at hp e1 ⊢;unfold zd at hv0;split at hv0
    ·rename_i hb;rw[hb]at hp;cases hp;simpa [Instr.loadAt,Instr.sureAddr,asAddr] using e1
    ·rename_i hb;rw[hb]at hp;cases hp;simpa [Instr.loadAt,Instr.sureAddr,asAddr] using e1
    ·cases hv0
   exact⟨_,by rw[List.mapM_cons,aai,show BJ tm (.cell a t)=(do loadVar t (<- asAddr (tm.getD a undef)):Sem Value) from rfl,e2];simp only[aai,aad,e,aap],.cons hv1 hv⟩
theorem BL{ρ:xr}{s:Env}{h:za}{w:World}{tm:Array Value}(hr:Rel P ρ h w)(hs:vV ρ s tm){fn:Func}{vs:List Value}(he:q8 P s h fn.results.toList=some vs) :
  ∃v',(results fn tm).run P w=.ok v' w/\zI ρ (j3 vs) v':=by
 obtain⟨vs',e,hv⟩:=Vg hr hs he
 have em:(fn.results.mapM (BJ tm)).run P w=.ok vs'.toArray w:=by
  rw[Array.mapM_eq_mapM_toList,Sem.run_map,e];rfl
 rw[DM];simp only[aai];refine⟨if h:vs'.toArray.size=1 then vs'.toArray[0] else .tuple vs'.toArray,?_,?_⟩
 ·rw[em];simp only[aad,aap]
 ·unfold j3;split
  ·rename_i v;obtain⟨y,ys,rfl,h1,h2⟩:=hv.cons_inv;cases h2.uT;simpa using h1
  ·rename_i hne
   rw[dif_neg (by
    intro h1;have h1:vs'.length=1:=by simpa using h1
    have h2:vs.length=1:=(by rw[hv.1];exact h1);cases vs with
    |nil=>cases h2
    |cons v vs=>cases vs with
     |nil=>exact hne v rfl
     |cons=>simp at h2)]
   exact .tuple (by simpa using hv.1) (λi x y hx hy=>hv.2 i x y (by simpa using hx) (by simpa using hy))
theorem D6{f:FuncId}{fn:Func}{c:Code}{args:List Value}{h:za}{R:Value->za->Prop}(hf:P.funcs[f]? = some fn)(hb:fn.body=some c)
  (ht:T P none c (Env.enter args fn.ntmps) h (λe s1 h1=>(e=.normal\/e=.ret) /\ ∃vs,q8 P s1 h1 fn.results.toList=some vs/\R (j3 vs) h1)):TC P f args h R:=by
 intro ρ w cargs hr hv cs
 let b:Frame:={ (default:Frame) with fn:=f,kind := .normal,roundOf:=none}
 let tm:Array Value:=cargs.toArray++Array.replicate (fn.ntmps-cargs.toArray.size) undef
 have henter:Frame.enter P f cargs.toArray .normal=vN b tm [] [.code c]:=by simp[Frame.enter,vN,hf,hb,b,tm]
 have hs:vV ρ (Env.enter args fn.ntmps) tm:=by
  refine⟨?_,λi=>?_⟩
  ·simp only[Env.AY,tm,Array.size_append,Array.size_replicate,List.size_toArray,hv.1];omega
  ·rw[Env.Gt];rcases aaA i args.length with hi|hi
   ·obtain⟨y,hy,hxy⟩:=hv.get (aae hi)
    have e1:tm[i]? = some y:=by
     rw[Array.getElem?_append_left (by simp;rw[<- hv.1];exact hi)];simpa using hy
    rw[aae hi];simp only[ab7,aay,e1];exact hxy
   ·rw[aao hi]
    have e1:tm.getD i undef=undef:=by
     simp only[aay,tm];rw[Array.getElem?_append_right (by simp;rw[<- hv.1];exact hi)];rw[abV];split <;> rfl
    rw[e1];exact .ZM ρ rfl
 obtain⟨e,s1,h1,ρ1,w1,tm1,ds1,⟨he,vs,hvs,hR⟩,st,hs1,⟨rs,hd1,hnd,hb1⟩,ha⟩:=ht ρ w tm [] hr hs b rfl [] cs
 obtain⟨todo,hret⟩:∃todo,Steps P (lone (Frame.enter P f cargs.toArray .normal) cs w) (lone {vN b tm1 ds1 todo with mode := .returning} cs w1):=by
  rw[henter];rcases he with rfl|rfl
  ·exact⟨[],ab1 ha (.one (Gr rfl))⟩
  ·obtain⟨t,sx⟩:=ha;exact⟨_,sx.trans (.one (Gs rfl))⟩
 rw[List.append_nil]at hd1;obtain⟨w2,hs2,e1,e2,e3,e4,e5⟩:=Bq (P:=P) {vN b tm1 ds1 todo with mode := .returning} rfl rs w1 hd1 hnd (λr hr=>(hb1 r hr).2) cs
 have hnot:∀b0 o pl,h1.get b0=some o->ρ1.m b0=some pl->pl.c∉rs:=by
  intro b0 o pl hg hm hin;have hc:=st.rel.Lp hg hm;have hx:=(hb1 _ hin).2;cases o with
  |cells c t=>obtain⟨cs,fz,q1,_⟩:=hc;rw[hx]at q1;cases q1
  |map es q=>obtain⟨ms,q1,_⟩:=hc;rw[hx]at q1;cases q1
  |iter m a b c=>obtain⟨m',q1,_⟩:=hc;rw[hx]at q1;cases q1
  |tab c=>obtain⟨t,cs,fz,q1,_⟩:=hc;rw[hx]at q1;cases q1
  |siter s pos=>have q1:w1.heap[pl.c]? = _:=hc.1;rw[hx]at q1;cases q1
  |loop l=>obtain⟨tm,d,fn',q1,_⟩:=hc;rw[hx]at q1;cases q1
 have hr2:Rel P ρ1 h1 w2:=⟨st.rel.next,st.rel.ro,st.rel.Qv,λb0 o0 hg=>by
  obtain⟨pl,hp,hc⟩:=st.rel.ok b0 o0 hg;exact⟨pl,hp,hc.other (e5 _ (hnot _ _ _ hg hp))⟩,st.rel.inj,st.rel.dQ,st.rel.Yt⟩
 obtain⟨v',hv',hvr⟩:=BL hr2 hs1 hvs;refine⟨.returned v',w2,{vN b tm1 ds1 todo with mode := .returning,defers:=[]},⟨j3 vs,v',h1,ρ1,rfl,hR,?_,hvr⟩,hret.trans hs2,rfl,rfl,rfl,rfl,fn,hf,hv'⟩
 exact⟨st.le,hr2,st.ro,e1.trans st.os,e2.trans st.tape,e3.trans st.output,by rw[e4];exact st.size,
  λc hc hn=>(e5 c (λhin=>by have:=(hb1 c hin).1;omega)).trans (st.frame c hc hn),st.fy⟩
end
noncomputable section
variable {P:Program}
theorem Xz{s s':Env}:∀{xs:List Operand},(∀x,x∈xs->jk s x=jk s' x)->Um s xs=Um s' xs
 |[],_=>rfl
 |x::xs,h=>by simp only[Um];rw[h x (by simp),Xz (λy hy=>h y (by simp[hy]))]
theorem U0{s s':Env}:∀{ps:List (Nat×Operand)},(∀x,x∈ps->jk s x.2=jk s' x.2)->Vf s ps=Vf s' ps
 |[],_=>rfl
 |(i,x)::ps,h=>by simp only[Vf];rw[h (i,x) (by simp),U0 (λy hy=>h y (by simp[hy]))]
theorem FX{s s':Env}{o:Oper}{g:za}(h:∀x,x∈o.op.operands->jk s x=jk s' x):K9 P s o g=K9 P s' o g:=by
 obtain⟨dst,op,type,pos,after,guard⟩:=o;have one:∀x,x∈op.operands->jk s x=jk s' x:=h
 have opt:∀x:Option Operand,(∀y,x=some y->y∈op.operands)->mN s x=mN s' x:=by
  intro x hx;cases x with
  |none=>rfl
  |some y=>simp only[mN];rw[one y (hx y rfl)]
 unfold K9
 cases op <;> simp only[] <;> first
  |rfl
  |(rw[one _ (by simp[Op.operands])];done)
  |(rw[one _ (by simp[Op.operands]),one _ (by simp[Op.operands])];done)
  |skip
 case pick c a b=>rw[one c (by simp[Op.operands]),one a (by simp[Op.operands]),one b (by simp[Op.operands])]
 case build t parts=>rw[U0 (λx hx=>one _ (by simp only[Op.operands,List.mem_toArray,abE];exact⟨x,hx,rfl⟩))]
 case buildSlice t n parts=>rw[U0 (λx hx=>one _ (by simp only[Op.operands,List.mem_toArray,abE];exact⟨x,hx,rfl⟩))]
 case makeFunc fn first captured=>
  cases fn <;> simp only[];rw[Xz (s:=s) (s':=s') (xs:=first.toList) (λx hx=>one x (by simp[Op.operands];exact .inl (by simpa using hx))),Xz (s:=s) (s':=s') (xs:=captured.toList) (λx hx=>one x (by simp[Op.operands];exact .inr (by simpa using hx)))]
 case slice t x lo hi mx=>
  cases mx <;> simp only[];rw[one x (by simp[Op.operands]),opt lo (λy e=>by subst e;simp[Op.operands]),opt hi (λy e=>by subst e;simp[Op.operands])]
 case makeMap t r=>cases r <;> rfl
 case mapUpdate t m k x=>rw[one m (by simp[Op.operands]),one k (by simp[Op.operands]),one x (by simp[Op.operands])]
 case call c=>
  obtain⟨callee,args,ts⟩:=c;cases callee <;> simp only[];rw[Xz (s:=s) (s':=s') (λx hx=>one x (by simp[Op.operands,Call.operands];simpa using hx))]
def Env.only(s:Env)(l:List Nat):Env:={t:=l.foldl (λt i=>t.set i (some (s.get i))) .e,size:=s.size}
theorem Env.IY(s:Env)(l:List Nat)(i:Nat):(s.only l).get i=if i∈l then s.get i else undef:=by
 have key:∀(l:List Nat) (t:Tr Value),(l.foldl (λt i=>t.set i (some (s.get i))) t).get i=if i∈l then some (s.get i) else t.get i:=by
  intro l
  induction l with
  |nil=>intro t;simp
  |cons j l ih=>
   intro t;rw[List.foldl_cons,ih,Tr.yD];by_cases hi:i∈l
   ·simp[hi]
   ·by_cases e:i=j
    ·subst e;simp[hi]
    ·simp[hi,e]
 have:=key l .e;simp only[Env.get_eq,Env.only]at this ⊢;rw[this];split <;> simp
theorem rA{s s':Env}{ops:Array Oper}{o:Oper}(h:∀t,t∈o.looksAt ops->s.get t=s'.get t):∀x,x∈o.op.operands->jk s x=jk s' x:=by
 intro x hx;cases x with
 |tmp t=>
  simp only[jk];rw[h t (by simp only[Oper.looksAt,aa2,List.mem_filterMap];exact .inl ⟨.tmp t,by simpa using hx,rfl⟩)]
 |_=>rfl
theorem V8{tm tm':Array Value}{ds:List Deferred}{ops:Array Oper}{o:Oper}(h:∀t,t∈o.looksAt ops->tm.getD t undef=tm'.getD t undef):∀x,x∈o.op.operands->Act.eval ⟨tm,ds⟩ x=Act.eval ⟨tm',ds⟩ x:=by
 intro x hx;cases x with
 |tmp t=>exact h t (by simp only[Oper.looksAt,aa2,List.mem_filterMap];exact .inl ⟨.tmp t,by simpa using hx,rfl⟩)
 |_=>rfl
theorem mP{s s':Env}{ops:Array Oper}{o:Oper}(h:∀t,t∈o.looksAt ops->s.get t=s'.get t):yx ops s o=yx ops s' o:=by
 unfold yx;split
 ·rfl
 ·rename_i j want e;split
  ·rfl
  ·rename_i d hd;rw[h d (by simp only[Oper.looksAt,aa2];right;rw[e];simp[hd])]
def Zt(P:Program)(ops:Array Oper)(s:Env)(o:Oper)(g:za)(v:Value)(g':za):Prop :=
 (yx ops s o=false/\v=undef/\g'=g) \/
 (yx ops s o=true/\(K9 P s o g=some (v,g') \/
  (∃f cargs ts fid fa fc vs,o.op=.call {callee := .value f,args:=cargs,argTypes:=ts} /\ jk s f=some (.func (.func fid) fa fc)/\Um s cargs.toList=some vs/\uG P fid=true /\
   TC P fid (fa.toList++vs++fc.toList) g (λv1 h1=>v1=v/\h1=g')) \/
  (∃f cargs ts fid fa fc vs,o.op=.call {callee := .value f,args:=cargs,argTypes:=ts} /\ jk s f=some (.func (.func fid) fa fc)/\Um s cargs.toList=some vs/\rC P fid (fa.toList++vs++fc.toList) g=some (v,g'))))
theorem Zt.congr{ops:Array Oper}{s s':Env}{o:Oper}{g g':za}{v:Value}(hs:Zt P ops s o g v g')(h:∀t,t∈o.looksAt ops->s.get t=s'.get t):Zt P ops s' o g v g':=by
 have e1:=rA h;unfold Zt at *
 rw[<- mP h];rcases hs with hs|⟨hw,hs|⟨f,cargs,ts,fid,fa,fc,vs,h1,h2,h3,h4,h5⟩|⟨f,cargs,ts,fid,fa,fc,vs,h1,h2,h3,h4⟩⟩
 ·exact .inl hs
 ·exact .inr ⟨hw,.inl (by rw[<- FX e1];exact hs)⟩
 ·refine .inr ⟨hw,.inr (.inl ⟨f,cargs,ts,fid,fa,fc,vs,h1,?_,?_,h4,h5⟩)⟩
  ·rw[<- e1 f (by rw[h1];simp[Op.operands,Call.operands])];exact h2
  ·rw[<- Xz (s:=s) (s':=s') (xs:=cargs.toList) (λx hx=>e1 x (by rw[h1];simp only[Op.operands,Call.operands];simp;right;simpa using hx))];exact h3
 ·refine .inr ⟨hw,.inr (.inr ⟨f,cargs,ts,fid,fa,fc,vs,h1,?_,?_,h4⟩)⟩
  ·rw[<- e1 f (by rw[h1];simp[Op.operands,Call.operands])];exact h2
  ·rw[<- Xz (s:=s) (s':=s') (xs:=cargs.toList) (λx hx=>e1 x (by rw[h1];simp only[Op.operands,Call.operands];simp;right;simpa using hx))];exact h3
theorem Q8{ops:Array Oper}{s:Env}{o:Oper}{g g':za}{v:Value}{j:Nat}{ρ:xr}{w:World}{tm:Array Value}(ho:ops[j]? = some o)(hsem:Zt P ops s o g v g')(hr:Rel P ρ g w)
  (hsz:s.size=tm.size) (hl:∀t,t∈o.looksAt ops->zI ρ (s.get t) (tm.getD t undef)) (ds:List Deferred) (rest:List Nat) (b:Frame) (k:List Item) (cs:List Frame) :
  ∃v' w' ρ',Step P ρ g w ρ' g' w'/\zI ρ' v v' /\
   Steps P (lone (vN b tm ds (.inRegion ops (j::rest)::k)) cs w) (lone (vN b (qH tm o.dst v') ds (.inRegion ops rest::k)) cs w'):=by
 let L:=o.looksAt ops
 let s2:=s.only L
 let tm2:Array Value:=(Array.range tm.size).map λt=>if t∈L then tm.getD t undef else undef
 have hg2:∀t,s2.get t=if t∈L then s.get t else undef:=Env.IY s L
 have ht2:∀t,t∈L->tm2.getD t undef=tm.getD t undef:=by
  intro t ht;simp only[tm2,aay,Array.getElem?_map];by_cases hlt:t<tm.size
  ·rw[Array.getElem?_range,aam hlt];simp[ht]
  ·rw[Array.getElem?_range,aak hlt];simp[aaM (aco hlt)]
 have ht2':∀t,t∉L->tm2.getD t undef=undef:=by
  intro t ht;simp only[tm2,aay,Array.getElem?_map];by_cases hlt:t<tm.size
  ·rw[Array.getElem?_range,aam hlt];simp[ht]
  ·rw[Array.getElem?_range,aak hlt];rfl
 have hs2:vV ρ s2 tm2:=by
  refine⟨by show s.size=_;simp[tm2,hsz],λt=>?_⟩;rw[hg2];by_cases ht:t∈L
  ·rw[aam ht,ht2 t ht];exact hl t ht
  ·rw[aak ht,ht2' t ht];exact .ZM ρ rfl
 have hsem2:Zt P ops s2 o g v g':=hsem.congr (λt ht=>by rw[hg2,aam ht])
 have hwant:Region.wanted o (yielded ops tm)=yx ops s2 o:=by
  rw[<- XD hs2 ops o];unfold Region.wanted;cases hgd:o.guard with
  |none=>rfl
  |some gw=>
   obtain⟨q,want⟩:=gw;simp only[]
   have:yielded ops tm q=yielded ops tm2 q:=by
    unfold yielded;cases hd:(ops[q]?).bind (·.dst) with
    |none=>rfl
    |some d=>
     have hdl:d∈L:=(by simp only[L,Oper.looksAt,aa2];right;rw[hgd];simp[hd]);simp only[aaQ];have e:=ht2 d hdl;simp only[aay]at e;have EG:tm2.size=tm.size:=by simp[tm2]
     by_cases hlt:d<tm.size
     ·rw[aaN hlt,aaN (EG ▸ hlt)]at e ⊢;simp only[ab7]at e;rw[e]
     ·rw[aaM (aco hlt),aaM (by rw[EG];exact aco hlt)]
   rw[this]
 rcases hsem2 with⟨hw,rfl,rfl⟩|⟨hw,hs|⟨f,cargs,ts,fid,fa,fc,vs,h1,h2,h3,h4,h5⟩|⟨f,cargs,ts,fid,fa,fc,vs,h1,h2,h3,h4⟩⟩
 ·refine⟨undef,w,ρ,.refl hr,.ZM ρ rfl,.one ?_⟩;rw[Je (by rw[ho];exact hwant.trans hw),j5,ho];rfl
 ·obtain⟨n,w1,ρ1,v',e,hn,st,hv⟩:=oF (a:=⟨tm2,[]⟩) hs hr hs2;refine⟨v',w1,ρ1,st,hv,.one ?_⟩;have hnd:=Vo hs;have hnsel:∀cs' b',o.op ≠ .select cs' b':=by intro cs' b' e;unfold K9 at hs;rw[e]at hs;cases hs
  have e':(execOp (Act.eval ⟨tm,ds⟩) o).run P w=.ok n w1:=by
   rw[<- e]
   congr 1
   refine execOp_congr o hnsel (λx hx=>?_);exact(V8 (ds:=ds) (λt ht=>(ht2 t ht).symm) x hx).trans (by cases x <;> rfl)
  have hfin:(vN b tm ds (.inRegion ops (j::rest)::k)).finish v'=vN b (qH tm o.dst v') ds (.inRegion ops rest::k):=by rw[j5,ho];rfl
  rw[<- hfin];rcases hn with rfl|⟨rfl,rfl⟩
  ·exact Xd ho (hwant.trans hw) hnd e'
  ·exact XN ho (hwant.trans hw) hnd e'
 ·have e1:=zX (a:=⟨tm2,[]⟩) hs2 h2;have e2:=j2 (a:=⟨tm2,[]⟩) hs2 h3
  have hlook:∀(ds:List Deferred) x,x∈o.op.operands->Act.eval ⟨tm2,[]⟩ x=Act.eval ⟨tm,ds⟩ x:=λds x hx=>
   (show Act.eval ⟨tm2,[]⟩ x=Act.eval ⟨tm2,ds⟩ x by cases x <;> rfl).trans (V8 (ds:=ds) (λt ht=>ht2 t ht) x hx)
  generalize hfv:Act.eval ⟨tm2,[]⟩ f=fv at e1;cases e1 with
  |func ha hcs q1 q2=>
   rename_i fa' fc'
   let full:=fa'.toList++cargs.toList.map (Act.eval ⟨tm2,[]⟩)++fc'.toList
   have hfull:wC ρ (fa.toList++vs++fc.toList) full :=
    (wC.append ⟨by simpa using ha,λi x y hx hy=>q1 i x y (by simpa using hx) (by simpa using hy)⟩ e2).append ⟨by simpa using hcs,λi x y hx hy=>q2 i x y (by simpa using hx) (by simpa using hy)⟩
   have hrun:(execOp (Act.eval ⟨tm,ds⟩) o).run P w=.ok (.enter fid full.toArray) w:=by
    have hnsel:∀cs' b',o.op ≠ .select cs' b':=(by intro cs' b' e;rw[h1]at e;cases e);rw[<- execOp_congr o hnsel (hlook ds)];have hargs':fa'++cargs.map (Act.eval ⟨tm2,[]⟩)++fc'=full.toArray:=by apply ab8;simp[full]
    simp only[execOp,h1,resolve,hfv,Deferred.ofValue,aai,aap,aad,invoke,callFunc,run_program,hargs'];unfold uG at h4;cases hfn:P.funcs[fid]? with
    |none=>rw[hfn]at h4;cases h4
    |some fn=>
     rw[hfn]at h4;simp only[aah,aav]at h4;simp only[h4.2,abc,aat];rw[aak (by cases hb:fn.body <;> simp_all)];rfl
   obtain⟨e,w1,fr,⟨v0,v',h',ρ',rfl,⟨rfl,rfl⟩,st,hv⟩,hcomes,_,hleave⟩:=h5 ρ w full hr hfull (vN b tm ds (.inRegion ops (j::rest)::k)::cs);refine⟨v',w1,ρ',st,hv,.head (QZ ho (hwant.trans hw) (by rw[h1];rfl) hrun) (ab1 hcomes (.one ?_))⟩;rw[step_leave_returned hleave,j5,ho];rfl
 ·obtain⟨n,w1,ρ1,v',e,hn,st,hv⟩:=rD (a:=⟨tm2,[]⟩) h1 h2 h3 h4 hr hs2;refine⟨v',w1,ρ1,st,hv,.one ?_⟩;have hnd:XO o.op=false:=by rw[h1];rfl
  have hnsel:∀cs' b',o.op ≠ .select cs' b':=by intro cs' b' e;rw[h1]at e;cases e
  have e':(execOp (Act.eval ⟨tm,ds⟩) o).run P w=.ok n w1:=by
   rw[<- e]
   congr 1
   refine execOp_congr o hnsel (λx hx=>?_);exact(V8 (ds:=ds) (λt ht=>(ht2 t ht).symm) x hx).trans (by cases x <;> rfl)
  have hfin:(vN b tm ds (.inRegion ops (j::rest)::k)).finish v'=vN b (qH tm o.dst v') ds (.inRegion ops rest::k):=by rw[j5,ho];rfl
  rw[<- hfin];rcases hn with rfl|⟨rfl,rfl⟩
  ·exact Xd ho (hwant.trans hw) hnd e'
  ·exact XN ho (hwant.trans hw) hnd e'
end
end Go.Ai
