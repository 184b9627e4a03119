/- A part of the proof. -/
import Derived.Test.YtcecapkbglnejaaDoorTA
import GoSem.Builtin.Delete
import Derived.Lib.Builder
import Derived.Lib.UnsafeStr
import Derived.LaidEqlPtr
import GoSem.Builtin.Cap
import GoSem.Builtin.UnsafeString
import Derived.Laws.Externs
import Derived.Lib.MakeNoZero
set_option linter.unusedVariables false
set_option linter.unusedSimpArgs false
set_option maxRecDepth 100000
namespace Go.Ai
noncomputable section
variable {P:Program}
theorem We {α:Type} {b:Bool} {x:Option α} {y:α} (h:cond b x none=some y):b=true/\x=some y:=by
 cases b
 ·cases h
 ·exact ⟨rfl,h⟩
abbrev Xc:=Value × Value × Nat
def Ut (k:Value):MapEntry:={ key:=k,val:=undef,born:=0 }
def fj (P:Program) (kt:TypeId) (k:Value) (es:List Xc):Option (Option Nat) :=
 cond (flat k && es.all fun e=>flat e.1) (match zU P (Instr.findKey kt k (es.map fun e=>Ut e.1)) with
  | some (some (i,_))=>some (some i)
  | some none=>some none
  | none=>none) none
def jb (ρ:yP) (es:List Xc) (ms:List MapEntry):Prop:=es.length=ms.length /\ ∀ (i:Nat) x m,es[i]? = some x->ms[i]? = some m->zD ρ x.1 m.key/\zD ρ x.2.1 m.val/\m.born=x.2.2
theorem jb.tail {ρ:yP} {x:Xc} {es:List Xc} {m:MapEntry} {ms:List MapEntry} (h:jb ρ (x :: es) (m :: ms)):(zD ρ x.1 m.key/\zD ρ x.2.1 m.val/\m.born=x.2.2)/\jb ρ es ms :=
 ⟨h.2 0 x m rfl rfl,by simpa using h.1,fun i a b ha hb=>h.2 (i + 1) a b (by simpa using ha) (by simpa using hb)⟩
theorem jb.nil {ρ:yP}:jb ρ [] []:=⟨rfl,fun i x m hx=>by simp at hx⟩
theorem jb.wX {ρ:yP} {ms:List MapEntry} (h:jb ρ [] ms):ms = []:=NQ (by have:=h.1;simpa using this.symm)
theorem jb.cons_inv {ρ:yP} {x:Xc} {es:List Xc} {ms:List MapEntry} (h:jb ρ (x :: es) ms):∃ m ms',ms=m :: ms'/\(zD ρ x.1 m.key/\zD ρ x.2.1 m.val/\m.born=x.2.2)/\jb ρ es ms':=by
 cases ms with
 | nil=>have:=h.1;simp at this
 | cons m ms=>exact ⟨m,ms,rfl,h.tail⟩
theorem jb.keys {ρ:yP}:∀ {es:List Xc} {ms:List MapEntry},jb ρ es ms->(es.all fun e=>flat e.1)=true->ms.map (·.key)=(es.map fun e=>Ut e.1).map (·.key)
 | [],ms,h,_=>by rw [h.wX];rfl
 | x :: es,ms,h,hf=>by
   obtain ⟨m,ms',rfl,h1,h2⟩:=h.cons_inv
   simp only [Nx,MG] at hf
   simp only [N6]
   rw [ur h1.1 hf.1,jb.keys h2 hf.2]
   rfl
theorem UG {kind:TypeDesc} {k:Value}:∀ {ms ns:List MapEntry} {i:Nat} {r:Option (Nat × Value)},ms.map (·.key)=ns.map (·.key)->Instr.findNow kind k ns i=some r ->
  ∃ r',Instr.findNow kind k ms i=some r'/\r'.map (·.1)=r.map (·.1)
 | [],[],i,r,_,h=>by simp only [Instr.findNow,My] at h;subst h;exact ⟨none,rfl,rfl⟩
 | [],_ :: _,i,r,e,h=>by simp at e
 | _ :: _,[],i,r,e,h=>by simp at e
 | m :: ms,n :: ns,i,r,e,h=>by
   simp only [N6,NF] at e
   simp only [Instr.findNow] at h ⊢
   rw [e.1]
   split at h
   ·rename_i hs
    simp only [My] at h
    subst h
    exact ⟨_,rfl,rfl⟩
   ·rename_i hs
    obtain ⟨r',h1,h2⟩:=UG e.2 h
    exact ⟨r',h1,h2⟩
   ·cases h
theorem UH {kind:TypeDesc} {k:Value}:∀ {ms ns:List MapEntry} {i:Nat},ms.map (·.key)=ns.map (·.key)->Instr.findNow kind k ns i=none->Instr.findNow kind k ms i=none
 | [],[],i,_,h=>h
 | [],_ :: _,i,e,h=>by simp at e
 | _ :: _,[],i,e,h=>by simp at e
 | m :: ms,n :: ns,i,e,h=>by
   simp only [N6,NF] at e
   simp only [Instr.findNow] at h ⊢
   rw [e.1]
   split at h
   ·cases h
   ·exact UH e.2 h
   ·rfl
theorem fZ {α β:Type} {x:Sem α} {f:α->Sem β} {r:β} (h:zU P (x >>= f)=some r):∃ a,zU P x=some a/\zU P (f a)=some r:=by
 induction x with
 | pure a=>exact ⟨a,rfl,h⟩
 | program k ih=>exact ih P h
 | _=>cases h
theorem XV {kt:TypeId} {k:Value}:∀ {ms ns:List MapEntry} {i:Nat} {r:Option (Nat × Value)},ms.map (·.key)=ns.map (·.key)->zU P (Instr.findAsking kt k ns i)=some r ->
  ∃ r',(∀ w,(Instr.findAsking kt k ms i).run P w = .ok r' w)/\r'.map (·.1)=r.map (·.1)
 | [],[],i,r,_,h=>by
   have h:some none=some r:=h
   simp only [My] at h
   subst h
   exact ⟨none,fun w=>rfl,rfl⟩
 | [],_ :: _,i,r,e,h=>by simp at e
 | _ :: _,[],i,r,e,h=>by simp at e
 | m :: ms,n :: ns,i,r,e,h=>by
   simp only [N6,NF] at e
   simp only [Instr.findAsking] at h
   obtain ⟨b,h1,h2⟩:=fZ h
   rw [<- e.1] at h1
   cases b with
   | true=>
     simp only [MA] at h2
     have h2:some (some (i,n.val))=some r:=h2
     simp only [My] at h2
     subst h2
     exact ⟨some (i,m.val),fun w=>by simp only [Instr.findAsking,ME,zg h1,Mz,MA,MN],rfl⟩
   | false=>
     simp only [Nz,MS] at h2
     obtain ⟨r',h3,h4⟩:=XV e.2 h2
     exact ⟨r',fun w=>by simp only [Instr.findAsking,ME,zg h1,Mz,Nz,MS,h3],h4⟩
theorem UF {kt:TypeId} {k:Value} {ms ns:List MapEntry} {r:Option (Nat × Value)} (e:ms.map (·.key)=ns.map (·.key)) (h:zU P (Instr.findKey kt k ns)=some r) :
  ∃ r',(∀ w,(Instr.findKey kt k ms).run P w = .ok r' w)/\r'.map (·.1)=r.map (·.1):=by
 simp only [Instr.findKey] at h
 obtain ⟨kind,h1,h2⟩:=fZ h
 split at h2
 ·rename_i r0 hn
  have h2:some r0=some r:=h2
  simp only [My] at h2
  subst h2
  obtain ⟨r',h3,h4⟩:=UG e hn
  exact ⟨r',fun w=>by simp only [Instr.findKey,ME,zg h1,Mz,h3,MN],h4⟩
 ·rename_i hn
  obtain ⟨r',h3,h4⟩:=XV e h2
  exact ⟨r',fun w=>by simp only [Instr.findKey,ME,zg h1,Mz,UH e hn,h3],h4⟩
theorem aG {kind:TypeDesc} {k:Value}:∀ {ms:List MapEntry} {i j:Nat} {v:Value},Instr.findNow kind k ms i=some (some (j,v))->i<=j /\ ∃ m,ms[j - i]? = some m/\m.val=v
 | [],i,j,v,h=>by simp [Instr.findNow] at h
 | m :: ms,i,j,v,h=>by
   simp only [Instr.findNow] at h
   split at h
   ·simp only [My,MC] at h
    obtain ⟨rfl,rfl⟩:=h
    exact ⟨MI _,m,by simp,rfl⟩
   ·obtain ⟨h1,x,h2,h3⟩:=aG h
    exact ⟨by omega,x,by rw [show j - i=(j - (i + 1)) + 1 by omega,MH];exact h2,h3⟩
   ·cases h
theorem Vh {kt:TypeId} {k:Value}:∀ {ms:List MapEntry} {i j:Nat} {v:Value} {w w':World},(Instr.findAsking kt k ms i).run P w = .ok (some (j,v)) w'->i<=j /\ ∃ m,ms[j - i]? = some m/\m.val=v
 | [],i,j,v,w,w',h=>by simp [Instr.findAsking,MN] at h
 | m :: ms,i,j,v,w,w',h=>by
   simp only [Instr.findAsking,ME] at h
   cases he:(Op.equal kt k m.key).run P w with
   | halt a b=>rw [he] at h;cases h
   | ok b w1=>
     rw [he] at h
     simp only [Mz] at h
     cases b with
     | true=>
       simp only [MA,MN,Result.ok.injEq,My,MC] at h
       obtain ⟨⟨rfl,rfl⟩,_⟩:=h
       exact ⟨MI _,m,by simp,rfl⟩
     | false=>
       simp only [Nz,MS] at h
       obtain ⟨h1,x,h2,h3⟩:=Vh h
       exact ⟨by omega,x,by rw [show j - i=(j - (i + 1)) + 1 by omega,MH];exact h2,h3⟩
theorem pf {kt:TypeId} {k:Value} {ms:List MapEntry} {j:Nat} {v:Value} {w w':World} (h:(Instr.findKey kt k ms).run P w = .ok (some (j,v)) w'):∃ m,ms[j]? = some m/\m.val=v:=by
 simp only [Instr.findKey,ME] at h
 cases he:(underlying kt).run P w with
 | halt a b=>rw [he] at h;cases h
 | ok kind w1=>
   rw [he] at h
   simp only [Mz] at h
   split at h
   ·rename_i r hn
    simp only [MN,Result.ok.injEq] at h
    rw [h.1] at hn
    obtain ⟨_,x,h2,h3⟩:=aG hn
    exact ⟨x,by simpa using h2,h3⟩
   ·obtain ⟨_,x,h2,h3⟩:=Vh h
    exact ⟨x,by simpa using h2,h3⟩
theorem Yk {ρ:yP} {kt:TypeId} {k k':Value} {es:List Xc} {ms:List MapEntry} {r:Option Nat} (hk:zD ρ k k') (he:jb ρ es ms) (h:fj P kt k es=some r) :
  k'=k /\ ∃ r',(∀ w,(Instr.findKey kt k' ms).run P w = .ok r' w)/\(match r with
   | none=>r'=none
   | some i => ∃ x m,es[i]? = some x/\ms[i]? = some m/\r'=some (i,m.val)/\zD ρ x.2.1 m.val/\m.born=x.2.2/\m.key=x.1):=by
 unfold fj at h
 obtain ⟨hf,h⟩:=We h
 simp only [MG] at hf
 obtain rfl:=ur hk hf.1
 refine ⟨rfl,?_⟩
 split at h
 ·rename_i i v hs
  simp only [My] at h
  subst h
  obtain ⟨r',h1,h2⟩:=UF (he.keys hf.2) hs
  refine ⟨r',h1,?_⟩
  cases r' with
  | none=>simp at h2
  | some y=>
    obtain ⟨j,u⟩:=y
    simp only [NX,My] at h2
    subst h2
    obtain ⟨m,hm,rfl⟩:=pf (h1 default)
    have hlt:j < es.length:=by
     rw [he.1]
     rcases MX j ms.length with hl | hl
     ·exact hl
     ·rw [MO hl] at hm;cases hm
    have hx:=MF hlt
    obtain ⟨q1,q2,q3⟩:=he.2 j _ m hx hm
    have hfx:flat (es[j]).1=true:=by
     have:=hf.2
     simp only [Ni] at this
     exact this _ (List.getElem_mem hlt)
    exact ⟨_,m,hx,hm,rfl,q2,q3,ur q1 hfx⟩
 ·rename_i hs
  simp only [My] at h
  subst h
  obtain ⟨r',h1,h2⟩:=UF (he.keys hf.2) hs
  refine ⟨r',h1,?_⟩
  cases r' with
  | none=>rfl
  | some y=>simp at h2
 ·cases h
theorem Z8 {w:World} {l:Nat} {ms:Array MapEntry} {c:Nat} (h:w.heap[l]? = some (.map ms c)):(getObj l).run P w = .ok (.map ms c) w:=by
 simp only [getObj,Sem.run,h]
theorem bX {w:World} {l:Nat} {ms:Array MapEntry} {c:Nat} (h:w.heap[l]? = some (.map ms c)) (o:Obj):(setObj l o).run P w = .ok () { w with heap:=w.heap.setIfInBounds l o }:=by
 simp only [setObj,Sem.run,h]
theorem Rel.map {ρ:yP} {h:za} {w:World} (hr:Rel P ρ h w) {b:Nat} {es:List Xc} {q:Nat} {pl:Place} (hg:h.get b=some (.map es q)) (hm:ρ.m b=some pl) :
  ∃ ms,w.heap[pl.c]? = some (.map ms q)/\jb ρ es ms.toList:=by
 obtain ⟨pl',hm',ms,h1,h2,h3⟩:=hr.ok b _ hg
 rw [hm] at hm'
 cases hm'
 exact ⟨ms,h1,by simp [h2],fun i x m hx hm=>h3 i x m hx (by simpa using hm)⟩
theorem jb.size {ρ:yP} {es:List Xc} {ms:Array MapEntry} (h:jb ρ es ms.toList):ms.isEmpty=es.isEmpty:=by
 have:=h.1
 cases es with
 | nil=>simp at this;rw [N5 this.symm];rfl
 | cons x es=>simp at this;cases hs:ms.isEmpty with
   | false=>rfl
   | true=>simp at hs;subst hs;simp at this
def Kw (h:za):Value->Option (List Xc)
 | .map none=>some []
 | .map (some b)=>(match h.get b with
   | some (.map es _)=>some es
   | _=>none)
 | _=>none
def kg (P:Program) (t:TypeId) (x k:Value) (commaOk:Bool) (h:za):Option Value :=
 match zU P (underlying t),Kw h x with
 | some (.map kt et),some es=>(match zU P (Instr.checkKey es.isEmpty 10000 kt k) with
   | some _=>(match fj P kt k es with
     | some (some i)=>(match es[i]? with
       | some e=>some (cond commaOk (.tuple #[e.2.1,.bool true]) e.2.1)
       | none=>none)
     | some none=>(match xP P et with
       | some z=>some (cond commaOk (.tuple #[z,.bool false]) z)
       | none=>none)
     | none=>none)
   | none=>none)
 | _,_=>none
theorem rq {ρ:yP} {a b a' b':Value} (h:zD ρ a a') (k:zD ρ b b'):zD ρ (.tuple #[a,b]) (.tuple #[a',b']) :=
 .tuple rfl (fun i x y hx hy=>by
  rcases i with _ | _ | i
  ·simp at hx hy;subst hx hy;exact h
  ·simp at hx hy;subst hx hy;exact k
  ·simp at hx)
theorem cQ {ρ:yP} {t:TypeId} {x x' k k' v:Value} {ok:Bool} {h:za} {w:World} (he:kg P t x k ok h=some v) (hr:Rel P ρ h w) (hx:zD ρ x x') (hk:zD ρ k k') :
  ∃ v',(Instr.lookup t x' k' ok).run P w = .ok v' w/\zD ρ v v':=by
 unfold kg at he
 split at he
 case h_2=>cases he
 rename_i kt et es ht hes
 split at he
 case h_2=>cases he
 rename_i hck
 obtain ⟨ms,hx',hrel⟩:∃ ms:Array MapEntry,((x' = .map none/\ms = #[]) \/ ∃ c q,x' = .map (some c)/\w.heap[c]? = some (.map ms q))/\jb ρ es ms.toList:=by
  cases hx with
  | mapNil=>simp only [Kw,My] at hes;subst hes;exact ⟨#[],.inl ⟨rfl,rfl⟩,.nil⟩
  | map hb hm=>
    simp only [Kw] at hes
    split at hes
    ·rename_i g
     simp only [My] at hes
     subst hes
     obtain ⟨ms,h1,h2⟩:=hr.map g hm
     exact ⟨ms,.inr ⟨_,_,rfl,h1⟩,h2⟩
    ·cases hes
  | _=>cases hes
 have hfin:∀ {q q':Value} {b:Bool},zD ρ q q'->(pure (if ok then .tuple #[q',.bool b] else q'):Sem Value).run P w = .ok (cond ok (.tuple #[q',.bool b]) q') w/\zD ρ (cond ok (.tuple #[q,.bool b]) q) (cond ok (.tuple #[q',.bool b]) q'):=by
  intro q q' b hq
  cases ok
  ·exact ⟨rfl,hq⟩
  ·exact ⟨rfl,rq hq (.bool b)⟩
 rw [<- hrel.size] at hck
 split at he
 ·rename_i i hf
  obtain ⟨rfl,r',hr',x0,m,hx0,hm,rfl,q1,q2,q3⟩:=Yk hk hrel hf
  rw [hx0] at he
  simp only [My] at he
  subst he
  refine ⟨_,?_,(hfin (b:=true) q1).2⟩
  rcases hx' with ⟨rfl,rfl⟩ | ⟨c,q,rfl,hg⟩
  ·simp at hm
  ·simp only [Instr.lookup,ME,zg ht,Mz,Z8 hg,zg hck,hr',MN]
   exact (hfin (b:=true) q1).1
 ·rename_i hf
  split at he
  case h_2=>cases he
  rename_i z hz
  simp only [My] at he
  subst he
  obtain ⟨z1,z2⟩:=qA (ρ:=ρ) hz w
  obtain ⟨rfl,r',hr',rfl⟩:=Yk hk hrel hf
  refine ⟨_,?_,(hfin (b:=false) z2).2⟩
  rcases hx' with ⟨rfl,rfl⟩ | ⟨c,q,rfl,hg⟩
  ·simp only [Instr.lookup,ME,zg ht,Mz,zg hck,hr',z1,MN]
   exact (hfin (b:=false) z2).1
  ·simp only [Instr.lookup,ME,zg ht,Mz,Z8 hg,zg hck,hr',z1,MN]
   exact (hfin (b:=false) z2).1
 ·cases he
def B6 (P:Program) (t:TypeId) (x:Value) (h:za):Option Value :=
 match DW P t x with
 | some v=>some v
 | none=>(match zU P (underlying t),Kw h x with
   | some (.map _ _),some es=>some (goInt es.length)
   | _,_=>none)
theorem l6 {ρ:yP} {t:TypeId} {x x' v:Value} {h:za} {w:World} (he:B6 P t x h=some v) (hr:Rel P ρ h w) (hx:zD ρ x x') (r:TypeId):(Builtin.len_ #[t] r #[x']).run P w = .ok v w/\zD ρ v v:=by
 unfold B6 at he
 split at he
 ·rename_i hl
  simp only [My] at he
  subst he
  exact oO hl hx r w
 ·split at he
  case h_2=>cases he
  rename_i k e es ht hes
  simp only [My] at he
  subst he
  refine ⟨?_,.int _ _⟩
  cases hx with
  | mapNil=>simp only [Kw,My] at hes;subst hes;simp [Builtin.len_,zg ht]
  | map hb hm=>
    simp only [Kw] at hes
    split at hes
    ·rename_i g
     simp only [My] at hes
     subst hes
     obtain ⟨ms,h1,h2⟩:=hr.map g hm
     have hsz:=h2.1
     simp only [NR] at hsz
     simp [Builtin.len_,zg ht,Z8 h1,hsz]
    ·cases hes
  | _=>cases hes
def wx (h:za):Value × za:=(.map (some h.next),h.push (.map [] 0))
theorem JW {ρ:yP} {h:za} {w:World} (hr:Rel P ρ h w) (t:TypeId) :
  ∃ v' w' ρ',(Instr.makeMap t none).run P w = .ok v' w'/\Step P ρ h w ρ' (wx h).2 w'/\zD ρ' (wx h).1 v':=by
 let pl:Place:=⟨w.heap.size,0,0,0⟩
 refine ⟨.map (some w.heap.size),{ w with heap:=w.heap.push (.map #[] 0) },ρ.ext pl,rfl,Step.WZ hr (ob := .map [] 0) (pl:=pl) rfl rfl ⟨#[],by simp [pl],rfl,fun i x m hx=>by simp at hx⟩ rfl rfl rfl,?_⟩
 exact .map (pl:=pl) (by show h.next < ρ.next + 1;rw [hr.next];omega) (by rw [<- hr.next];exact ρ.uo pl)
theorem Step.Di {ρ:yP} {h:za} {w:World} (hr:Rel P ρ h w) {b:Nat} {ob:xS} {pl:Place} {wo:Obj} (g:h.get b=some ob) (hm:ρ.m b=some pl) (hro:h.ro<=b) (hg:w.heap[pl.c]? = some wo) {ms':Array MapEntry} {q':Nat} {es':List Xc} (hr':jb ρ es' ms'.toList) :
  Step P ρ h w ρ (h.set b (some (.map es' q'))) { w with heap:=w.heap.setIfInBounds pl.c (.map ms' q') }:=by
 refine Step.pZ hr g hm hro (ob' := .map es' q') ⟨ms',?_,by have:=hr'.1;simpa using this.symm,fun i x m hx hm=>hr'.2 i x m hx (by simpa using hm)⟩ rfl rfl rfl (by simp) (fun k hk => ?_)
 ·show (w.heap.setIfInBounds pl.c _)[pl.c]? = _
  rw [Nu,MK rfl,MK (k8 hg)]
 ·show (w.heap.setIfInBounds pl.c _)[k]? = _
  rw [Nu,MJ (Ne.symm hk)]
def uL (P:Program) (t:TypeId) (x k v:Value) (h:za):Option za :=
 match zU P (underlying t),x with
 | some (.map kt _),.map (some b)=>(match h.get b with
   | some (.map es q)=>(match zU P (Instr.checkKey false 10000 kt k) with
     | some _=>cond (Nat.ble h.ro b)
       (match fj P kt k es with
        | some (some i)=>(match es[i]? with
          | some e=>cond (Instr.sameBits 10000 e.1 k) (some (h.set b (some (.map (es.set i (k,v,e.2.2)) q)))) none
          | none=>none)
        | some none=>some (h.set b (some (.map (es ++ [(k,v,q)]) (q + 1))))
        | none=>none) none
     | none=>none)
   | _=>none)
 | _,_=>none
theorem QE {ρ:yP} {t:TypeId} {x x' k k' v v':Value} {h h':za} {w:World} (he:uL P t x k v h=some h') (hr:Rel P ρ h w) (hx:zD ρ x x') (hk:zD ρ k k') (hv:zD ρ v v') :
  ∃ w',(Instr.mapUpdate t x' k' v').run P w = .ok () w'/\Step P ρ h w ρ h' w':=by
 unfold uL at he
 split at he
 case h_2=>cases he
 rename_i kt et b ht
 cases hx with
 | map hb hm=>
   rename_i pl
   split at he
   case h_2=>cases he
   rename_i es q g
   split at he
   case h_2=>cases he
   rename_i hck
   obtain ⟨hc,he⟩:=We he
   have hro:=M3 hc
   obtain ⟨ms,hg,hrel⟩:=hr.map g hm
   split at he
   ·rename_i i hf
    obtain ⟨rfl,r',hr',x0,m,hx0,hm0,rfl,q1,q2,q3⟩:=Yk hk hrel hf
    rw [hx0] at he
    simp only [] at he
    obtain ⟨hsb,he⟩:=We he
    simp only [My] at he
    subst he
    have f4':ms[i]? = some m:=by simpa using hm0
    have hkey:((ms[i]?).map (·.key)).getD k'=m.key:=by rw [f4'];rfl
    rw [<- q3] at hsb
    refine ⟨_,?_,Step.Di hr g hm hro hg (ms':=ms.modify i fun e=>{ e with key:=k',val:=v' }) ?_⟩
    ·simp only [Instr.mapUpdate,ME,zg ht,Mz,Z8 hg,zg hck,hr',hkey,Instr.keyThatStays,hsb,MA,MN,bX hg]
    ·refine ⟨by simpa using hrel.1,fun j x m1 hx hm1 => ?_⟩
     simp only [Array.toList_modify,List.getElem?_modify] at hm1
     rw [List.getElem?_set] at hx
     by_cases e:i=j
     ·subst e
      rw [MK rfl] at hx
      split at hx
      ·simp only [My] at hx
       subst hx
       rw [hm0] at hm1
       simp only [MA,Option.map_eq_map,NX,My] at hm1
       subst hm1
       exact ⟨hk,hv,q2⟩
      ·cases hx
     ·rw [MJ e] at hx
      simp only [MJ e,Option.map_eq_map,Option.map_id'] at hm1
      exact hrel.2 j x m1 hx hm1
   ·rename_i hf
    simp only [My] at he
    subst he
    obtain ⟨rfl,r',hr',rfl⟩:=Yk hk hrel hf
    refine ⟨_,?_,Step.Di hr g hm hro hg (ms':=ms.push { key:=k',val:=v',born:=q }) (q':=q + 1) ?_⟩
    ·simp only [Instr.mapUpdate,ME,zg ht,Mz,Z8 hg,zg hck,hr',bX hg]
    ·refine ⟨by simpa using hrel.1,fun i x m1 hx hm1 => ?_⟩
     have hl:=hrel.1
     simp only [Array.toList_push] at hm1
     rcases MX i es.length with hi | hi
     ·rw [NC hi] at hx
      rw [NC (by omega)] at hm1
      exact hrel.2 i x m1 hx hm1
     ·rw [NM hi] at hx
      rw [NM (by omega),<- hl] at hm1
      cases hn:i - es.length with
      | zero=>
        rw [hn] at hx hm1
        simp only [MD,My] at hx hm1
        subst hx hm1
        exact ⟨hk,hv,rfl⟩
      | succ n=>rw [hn] at hx;simp at hx
   ·cases he
def ZR (P:Program) (t:TypeId) (x k:Value) (h:za):Option za:=none
theorem QD {ρ:yP} {ts:Array TypeId} {t:TypeId} {r:TypeId} {x x' k k':Value} {h h':za} {w:World} (he:ZR P t x k h=some h') (hts:ts[0]? = some t) (hr:Rel P ρ h w) (hx:zD ρ x x') (hk:zD ρ k k') :
  ∃ w',(Builtin.delete_ ts r #[x',k']).run P w = .ok undef w'/\Step P ρ h w ρ h' w':=by
 unfold ZR at he
 cases he
def QF (P:Program) (t:TypeId) (x:Value) (h:za):Option (Value × za):=none
theorem gW {ρ:yP} {t:TypeId} {x x' v:Value} {h h':za} {w:World} (he:QF P t x h=some (v,h')) (hr:Rel P ρ h w) (hx:zD ρ x x') :
  ∃ v' w' ρ',(Instr.range t x').run P w = .ok v' w'/\Step P ρ h w ρ' h' w'/\zD ρ' v v':=by
 unfold QF at he
 cases he
def leftOf (es:List Xc) (seen:List Nat):List Xc:=es.filter fun e => !seen.contains e.2.2
def fo (P:Program) (x:Value) (str:Bool) (h:za):Option (Value × za):=none
theorem jb.left {ρ:yP} (seen:List Nat):∀ {es:List Xc} {ms:List MapEntry},jb ρ es ms->jb ρ (leftOf es seen) (ms.filter fun e => !seen.toArray.contains e.born)
 | [],ms,h=>by rw [h.wX];exact .nil
 | x :: es,ms,h=>by
   obtain ⟨m,ms',rfl,h1,h2⟩:=h.cons_inv
   have ih:=jb.left seen h2
   have e:(!seen.toArray.contains m.born) = !seen.contains x.2.2:=by rw [h1.2.2];simp
   simp only [leftOf,NW,e]
   split
   ·refine ⟨by have:=ih.1;simp only [leftOf] at this;simp only [MY,this],fun i a b ha hb => ?_⟩
    cases i with
    | zero=>simp at ha hb;subst ha hb;exact h1
    | succ i=>exact ih.2 i a b (by simpa [leftOf] using ha) (by simpa using hb)
   ·exact ih
theorem jb.all {ρ:yP} (last:Nat):∀ {es:List Xc} {ms:List MapEntry},jb ρ es ms->(ms.all fun e=>decide (e.born ≥ last))=es.all fun e=>Nat.ble last e.2.2
 | [],ms,h=>by rw [h.wX];rfl
 | x :: es,ms,h=>by
   obtain ⟨m,ms',rfl,h1,h2⟩:=h.cons_inv
   simp only [Nx,jb.all last h2,h1.2.2]
   congr 1
   rw [Bool.eq_iff_iff];simp
theorem l9 {ρ:yP} {t:TypeId} {x x' v:Value} {str:Bool} {h h':za} {w:World} (he:fo P x str h=some (v,h')) (hr:Rel P ρ h w) (hx:zD ρ x x') :
  ∃ v' w' ρ',(Instr.next x' str t).run P w = .ok v' w'/\Step P ρ h w ρ' h' w'/\zD ρ' v v':=by
 unfold fo at he
 cases he
def gO (x:Value) (h:za):Option Value:=none
theorem jb.find {ρ:yP} (stamp:Nat):∀ {es:List Xc} {ms:List MapEntry} {e:Xc},jb ρ es ms->(es.find? fun e=>Nat.beq e.2.2 stamp)=some e->∃ m,(ms.find? fun e=>e.born == stamp)=some m/\zD ρ e.1 m.key/\zD ρ e.2.1 m.val
 | [],ms,e,h,he=>by simp at he
 | x :: es,ms,e,h,he=>by
   obtain ⟨m,ms',rfl,h1,h2⟩:=h.cons_inv
   rw [List.find?_cons] at he ⊢
   rw [h1.2.2]
   cases hb:Nat.beq x.2.2 stamp with
   | true=>
     rw [hb] at he
     simp only [My] at he
     subst he
     have:(x.2.2 == stamp)=true:=by simpa using MQ hb
     rw [this]
     exact ⟨m,rfl,h1.1,h1.2.1⟩
   | false=>
     rw [hb] at he
     have:(x.2.2 == stamp)=false:=by
      cases hq:x.2.2 == stamp with
      | false=>rfl
      | true=>have:=beq_iff_eq.1 hq;rw [this,Oo] at hb;cases hb
     rw [this]
     exact jb.find stamp h2 he
theorem gP {ρ:yP} {x x' v:Value} {h:za} {w:World} (he:gO x h=some v) (hr:Rel P ρ h w) (hx:zD ρ x x'):∃ v',(Instr.entry x').run P w = .ok v' w/\zD ρ v v':=by
 unfold gO at he
 cases he
end
noncomputable section
variable {P:Program}
theorem Ya {w:World} {l:Nat} {cs:Array Value} {e:TypeId} {fz:Nat × Nat} (h:w.heap[l]? = some (.cells cs e fz)):w.shape? l=some (e,cs.size):=by
 simp [World.shape?,h]
def oL (P:Program) (src dst:TypeId) (x:Value) (h:za):Option Value :=
 match P.underlying src,P.underlying dst,x with
 | some (.pointer t),some .unsafePointer,.pointer (some ⟨b,off,none⟩)=>(match h.get b,P.info? t with
   | some (.cells c _),some j=>cond (Nat.blt off c.length && !(Nat.beq j.size 0)) (some (.pointer (some ⟨b,off,none⟩))) none
   | _,_=>none)
 | some .unsafePointer,some (.pointer u),.pointer (some ⟨b,off,none⟩)=>(match h.get b,P.info? u with
   | some (.cells c e),some _=>cond (Nat.beq e u && Nat.blt 0 (P.cellsOf u) && Nat.beq (off % P.cellsOf u) 0 && Nat.ble (off + P.cellsOf u) c.length) (some (.pointer (some ⟨b,off,none⟩))) none
   | _,_=>none)
 | _,_,_=>none
theorem CU {e:TypeId} {cells o:Nat} (hs:0 < P.cellsOf e) (h0:o % P.cellsOf e=0) (hle:o + P.cellsOf e<=cells):liesAt P P.depth e (cells / P.cellsOf e) o e 1=true:=by
 have hd:P.depth=(2 * (P.types.size + Made.depth) + 1) + 1:=rfl
 have hlt:o / P.cellsOf e + 1<=cells / P.cellsOf e:=by
  have h1:=Nat.div_le_div_right (c:=P.cellsOf e) hle
  rw [Nat.add_div_right _ hs] at h1
  exact h1
 rw [hd]
 simp only [liesAt,Nt]
 left
 rw [hd]
 have hne:P.cellsOf e ≠ 0:=by omega
 simp only [rowAt,MJ hne,h0]
 simp [hlt,sameLayout]
theorem pM {e:TypeId} (hc:P.cellsOf e=1) {count o n:Nat} (hn:o + n<=count):liesAt P P.depth e count o e n=true:=by
 have hd:P.depth=(2 * (P.types.size + Made.depth) + 1) + 1:=rfl
 rw [hd]
 simp only [liesAt,Nt]
 left
 rw [hd]
 simp [rowAt,hc,hn,sameLayout,Nat.mod_one]
theorem gN {ρ:yP} {src dst:TypeId} {x x' v:Value} {h:za} {w:World} (he:oL P src dst x h=some v) (hr:Rel P ρ h w) (hx:zD ρ x x') :
  ∃ v',(convert src dst x').run P w = .ok v' w/\zD ρ v v':=by
 unfold oL at he
 split at he
 ·rename_i t b off hs hd
  cases hx with
  | ptr hb hm=>
    rename_i pl
    split at he
    case h_2=>cases he
    rename_i c e j hg hi
    obtain ⟨hc,he⟩:=We he
    simp only [My] at he
    subst he
    simp only [MG,No,MU] at hc
    obtain ⟨cs,fz,h1,h2,h3,h4,h5,h6⟩:=hr.place hg hm
    have hj:j.size ≠ 0:=by intro ez;rw [ez] at hc;simp at hc
    refine ⟨_,Lib.run_to_unsafe w ⟨pl.c,pl.base + off,none⟩ hs hd hi hj (Ya h1) ?_,.ptr hb hm⟩
    show pl.base + off < cs.size
    omega
 ·rename_i u b off hs hd
  cases hx with
  | ptr hb hm=>
    rename_i pl
    split at he
    case h_2=>cases he
    rename_i c e j hg hi
    obtain ⟨hc,he⟩:=We he
    simp only [My] at he
    subst he
    simp only [MG,No] at hc
    obtain ⟨⟨⟨k1,k2⟩,k3⟩,k4⟩:=hc
    obtain rfl:=MQ k1
    have k3:=MQ k3
    have k4:=M3 k4
    obtain ⟨cs,fz,h1,h2,⟨h3,h30⟩,h4,h5,h6⟩:=hr.place hg hm
    refine ⟨_,Lib.run_from_unsafe w ⟨pl.c,pl.base + off,none⟩ hs hd hi (Ya h1) (CU k2 ?_ ?_),.ptr hb hm⟩
    ·show (pl.base + off) % P.cellsOf e=0
     rw [Nat.add_mod,<- h3,h30,h3,k3];simp
    ·show pl.base + off + P.cellsOf e<=cs.size
     omega
 ·cases he
def Gd:Value->Option Value
 | .slice none _ _=>some (.pointer none)
 | .slice (some ⟨b,off,none⟩) n _=>cond (Nat.blt 0 n) (some (.pointer (some ⟨b,off,none⟩))) none
 | _=>none
theorem oR {ρ:yP} {x x' v:Value} (he:Gd x=some v) (hx:zD ρ x x') (ts:Array TypeId) (ty:TypeId) (w:World):∃ v',(Builtin.unsafeSliceData_ ts ty #[x']).run P w = .ok v' w/\zD ρ v v':=by
 unfold Gd at he
 split at he
 ·simp only [My] at he
  subst he
  cases hx
  exact ⟨_,Lib.run_unsafeSliceData_nil w ts ty _ _,.ptrNil⟩
 ·rename_i b off n c
  obtain ⟨hn,he⟩:=We he
  simp only [My] at he
  subst he
  have hn:0 < n:=by simpa [No] using hn
  cases hx with
  | slice hb hm hl hc=>exact ⟨_,Lib.run_unsafeSliceData_row w ts ty _ _ _ (by omega),.ptr hb hm⟩
  | sliceOut=>omega
 ·cases he
def Wd:List Value->Option (List UInt8)
 | []=>some []
 | .int .u8 z :: r=>cond (decide (((UInt8.ofNat z.toNat).toNat:Int)=z)) ((Wd r).map fun l=>UInt8.ofNat z.toNat :: l) none
 | _=>none
theorem Kp:∀ {c:List Value} {l:List UInt8},Wd c=some l->c.length=l.length /\ ∀ (j:Nat) x,l[j]? = some x->c[j]? = some (.int .u8 x.toNat)
 | [],l,h=>by simp only [Wd,My] at h;subst h;exact ⟨rfl,fun j x hx=>by simp at hx⟩
 | a :: c,l,h=>by
   unfold Wd at h
   split at h
   ·rename_i e;cases e
   ·rename_i z r e
    simp only [NF] at e
    obtain ⟨rfl,rfl⟩:=e
    obtain ⟨hz,h⟩:=We h
    obtain ⟨l',hl,rfl⟩:=MR.1 h
    obtain ⟨q1,q2⟩:=Kp hl
    have hz:=NH hz
    refine ⟨by simp [q1],fun j x hx => ?_⟩
    cases j with
    | zero=>simp only [MD,My] at hx ⊢;subst hx;rw [hz]
    | succ j=>simpa using q2 j x (by simpa using hx)
   ·cases h
theorem W6 {pt it ty e:TypeId} (hp:P.underlying pt=some (.pointer e)) (hc:P.cellsOf e=1) {w:World} {g o cells:Nat} (hsh:w.shape? g=some (e,cells)) {l:List UInt8} (h0:l ≠ []) (hn:o + l.length<=cells) (h63:l.length<=9223372036854775807)
  (hcell:∀ (j:Nat) x,l[j]? = some x->w.cell? ((⟨g,o,none⟩:Addr).add j)=some (.int .u8 x.toNat)) :
  (Builtin.unsafeString_ #[pt,it] ty #[.pointer (some ⟨g,o,none⟩),.int .i64 l.length]).run P w = .ok (.string ⟨l.toArray⟩) (w.freeze ⟨g,o,none⟩ l.length):=by
 have hl:l.length ≠ 0:=by simpa using h0
 have hlb:=Lib.run_loadBytes (P:=P) w l ⟨g,o,none⟩ .empty hcell
 have hlies:=pM (P:=P) hc (count:=cells / P.cellsOf e) (o:=o) (n:=l.length) (by rw [hc];simpa using hn)
 have h63':¬ (9223372036854775807:Int) < (l.length:Int):=by omega
 have hmax:IntKind.i64.max=9223372036854775807:=rfl
 have hneg:¬ (l.length:Int) < 0:=by omega
 rw [show Builtin.unsafeString_ #[pt,it] ty #[.pointer (some ⟨g,o,none⟩),.int .i64 l.length]=(asInt (.int .i64 l.length) >>= _) from rfl]
 simp [asInt,asIntOf,hmax,h63',hneg,hl,variablesAt,hsh,elemOf,run_underlying hp,hlies,hlb]
def ptrTo (P:Program) (pt e:TypeId):Bool :=
 match P.underlying pt with
 | some (.pointer e')=>Nat.beq e' e
 | _=>false
theorem Dh {pt e:TypeId} (h:ptrTo P pt e=true):P.underlying pt=some (.pointer e):=by
 unfold ptrTo at h
 split at h
 ·rename_i e' he;rw [he,MQ h]
 ·cases h
def HS (P:Program) (pt:TypeId) (p:Value) (n:Int) (h:za):Option (Value × za) :=
 match p with
 | .pointer none=>cond (decide (n=0)) (some (.string .empty,h)) none
 | .pointer (some ⟨b,off,none⟩)=>cond (decide (n=0)) (some (.string .empty,h)) (match h.get b with
   | some (.cells c e)=>(match Wd ((c.drop off).take n.toNat) with
     | some l=>cond (Nat.ble h.ro b && ptrTo P pt e && Nat.beq (P.cellsOf e) 1 && decide (n=(l.length:Int)) && Nat.blt 0 l.length && Nat.ble l.length 9223372036854775807) (some (.string ⟨l.toArray⟩,h.set b none)) none
     | none=>none)
   | _=>none)
 | _=>none
theorem aU (w:World) (p:Addr) (n k:Nat) (hk:k ≠ p.block):(w.freeze p n).heap[k]? = w.heap[k]?:=by
 unfold World.freeze
 split
 ·rfl
 ·simp only [Array.getElem?_modify]
  rw [MJ (by omega)]
theorem hZ (w:World) (p:Addr) (n:Nat):(w.freeze p n).os=w.os/\(w.freeze p n).tape=w.tape/\(w.freeze p n).output=w.output/\(w.freeze p n).heap.size=w.heap.size:=by
 unfold World.freeze
 split
 ·exact ⟨rfl,rfl,rfl,rfl⟩
 ·exact ⟨rfl,rfl,rfl,by simp⟩
theorem Step.leave {ρ:yP} {h:za} {w w':World} (hr:Rel P ρ h w) {b:Nat} {o:xS} {pl:Place} (hg:h.get b=some o) (hm:ρ.m b=some pl) (hro:h.ro<=b) (hos:w'.os=w.os) (htape:w'.tape=w.tape) (hout:w'.output=w.output) (hsz:w'.heap.size=w.heap.size)
  (hfr:∀ k,k ≠ pl.c->w'.heap[k]? = w.heap[k]?):Step P ρ h w ρ (h.set b none) w':=by
 have hd:=hr.drop b
 refine ⟨yP.le_refl _,⟨hd.next,hd.ro,hd.XU,fun x ox hx => ?_,hd.inj,hd.QO,hd.kx⟩,rfl,hos,htape,hout,by omega,fun k _ hn=>hfr k (fun e=>hn ⟨b,o,pl,hg,hro,hm,e.symm⟩),fun k hk hM => ?_⟩
 ·obtain ⟨p,hp,hc⟩:=hd.ok x ox hx
  refine ⟨p,hp,hc.other (hfr _ (fun ec => ?_))⟩
  rw [za.yo] at hx
  split at hx
  ·cases hx
  ·rename_i ne
   exact ne (hr.inj x b _ _ p pl hx hg hp hm ec)
 ·obtain ⟨x,ox,p,hx,h1,h2,h3⟩:=hM
  rw [za.yo] at hx
  split at hx
  ·cases hx
  ·exact ⟨x,ox,p,hx,h1,h2,h3⟩
theorem Aa {ρ:yP} {pt it ty:TypeId} {p p' v:Value} {n:Int} {h h':za} {w:World} (he:HS P pt p n h=some (v,h')) (hr:Rel P ρ h w) (hx:zD ρ p p') :
  ∃ v' w',(Builtin.unsafeString_ #[pt,it] ty #[p',.int .i64 n]).run P w = .ok v' w'/\Step P ρ h w ρ h' w'/\zD ρ v v':=by
 unfold HS at he
 split at he
 ·obtain ⟨hn,he⟩:=We he
  simp only [My,MC] at he
  obtain ⟨rfl,rfl⟩:=he
  obtain rfl:=NH hn
  cases hx
  exact ⟨_,w,Lib.run_unsafeString_none w _ _ _ _,.refl hr,.string _⟩
 ·rename_i b off
  cases hx with
  | ptr hb hm=>
    rename_i pl
    cases hn:decide (n=0) with
    | true=>
      rw [hn] at he
      simp only [MV,My,MC] at he
      obtain ⟨rfl,rfl⟩:=he
      obtain rfl:=NH hn
      exact ⟨_,w,Lib.run_unsafeString_none w _ _ _ _,.refl hr,.string _⟩
    | false=>
      rw [hn] at he
      simp only [M7] at he
      split at he
      case h_2=>cases he
      rename_i c e hg
      split at he
      case h_2=>cases he
      rename_i l hl
      obtain ⟨hc,he⟩:=We he
      simp only [My,MC] at he
      obtain ⟨rfl,rfl⟩:=he
      simp only [MG,Nj,No] at hc
      obtain ⟨⟨⟨⟨⟨k1,k2⟩,k3⟩,k4⟩,k5⟩,k6⟩:=hc
      have k1:=M3 k1
      have k3:=MQ k3
      have k6:=M3 k6
      subst k4
      obtain ⟨q1,q2⟩:=Kp hl
      simp only [M4,OB,On] at q1
      obtain ⟨cs,fz,h1,h2,h3,h4,h5,h6⟩:=hr.place hg hm
      obtain ⟨f1,f2,f3,f4⟩:=hZ w ⟨pl.c,pl.base + off,none⟩ l.length
      refine ⟨_,_,W6 (Dh k2) k3 (Ya h1) (by intro el;subst el;simp at k5) (by omega) k6 (fun j x hx => ?_),.leave hr hg hm k1 f1 f2 f3 f4 (fun k hk=>aU _ _ _ _ hk),.string _⟩
      have hq:=q2 j x hx
      simp only [M4] at hq
      have hjl:j < l.length:=by
       rcases MX j l.length with h7 | h7
       ·exact h7
       ·rw [MO h7] at hx;cases hx
      rw [Nv hjl,Nn] at hq
      obtain ⟨y,hy,hxy⟩:=h6 _ _ hq
      cases hxy
      have ea:(⟨pl.c,pl.base + off,none⟩:Addr).add j=⟨pl.c,pl.base + off + j,none⟩:=qh _ _ _
      rw [ea]
      simp only [World.cell?,h1]
      rw [Oy]
      simpa using hy
 ·cases he
def HM (P:Program) (op:BinOp) (t:TypeId) (a b:Value):Option Value :=
 match P.underlying t,a,b with
 | some (.pointer te),.pointer (some ⟨b1,o1,none⟩),.pointer (some ⟨b2,o2,none⟩)=>(match P.info? te with
   | some _=>cond (Nat.beq b1 b2 && Nat.beq o1 o2) (match op with
     | .eql=>some (.bool true)
     | .neq=>some (.bool false)
     | _=>none) none
   | none=>none)
 | _,_,_=>none
def zf (P:Program) (op:BinOp) (t:TypeId) (x y:Operand) (a b:Value):Option Value :=
 match tS P op t x y a b with
 | some v=>some v
 | none=>HM P op t a b
theorem lS {ρ:yP} {op:BinOp} {t:TypeId} {x y:Operand} {a b a' b' v:Value} (h:zf P op t x y a b=some v) (ha:zD ρ a a') (hb:zD ρ b b') (w:World) :
  ∃ v',(do eqGuard op t x y a' b';binOp op t a' b':Sem Value).run P w = .ok v' w/\zD ρ v v':=by
 unfold zf at h
 split at h
 ·rename_i u hu
  simp only [My] at h
  subst h
  exact oH hu ha hb w
 ·unfold HM at h
  split at h
  case h_2=>cases h
  rename_i te b1 o1 b2 o2 ht0 ht
  split at h
  case h_2=>cases h
  rename_i j hj
  obtain ⟨hc,hh⟩:=We h
  clear h
  simp only [MG] at hc
  obtain rfl:=MQ hc.1
  obtain rfl:=MQ hc.2
  cases ha with
  | ptr h1 m1=>
    rename_i pl
    cases hb with
    | ptr h2 m2=>
      rename_i pl2
      rw [m1] at m2
      cases m2
      have hg:(eqGuard op t x y (.pointer (some ⟨pl.c,pl.base + o1,none⟩)) (.pointer (some ⟨pl.c,pl.base + o1,none⟩))).run P w = .ok () w:=by cases op <;> simp [eqGuard]
      split at hh
      ·simp only [My] at hh
       subst hh
       exact ⟨.bool true,by simp only [ME,hg,Mz,run_eql_ptr_same w _ ht0 hj],.bool true⟩
      ·simp only [My] at hh
       subst hh
       exact ⟨.bool false,by simp only [ME,hg,Mz,Lib.run_neq_ptr_same w _ ht0 hj],.bool false⟩
      ·cases hh
def FZ (P:Program) (t:TypeId) (x:Value):Option Value :=
 match zU P (underlying t),x with
 | some (.slice _),.slice none _ _=>some (goInt 0)
 | some (.slice _),.slice (some ⟨_,_,none⟩) _ c=>cond (Nat.ble 2 c) (some (goInt (c - 2:Nat))) none
 | _,_=>none
theorem oK {ρ:yP} {t:TypeId} {x x' v:Value} (he:FZ P t x=some v) (hx:zD ρ x x') (r:TypeId) (w:World):(Builtin.cap_ #[t] r #[x']).run P w = .ok v w/\zD ρ v v:=by
 unfold FZ at he
 split at he
 ·rename_i hu
  simp only [My] at he
  subst he
  refine ⟨?_,.int _ _⟩
  cases hx
  simp [Builtin.cap_,zg hu]
 ·rename_i b off n c hu
  obtain ⟨hc,he⟩:=We he
  simp only [My] at he
  subst he
  have hc:=M3 hc
  refine ⟨?_,.int _ _⟩
  cases hx with
  | slice hb hm hl hcap=>
    rename_i cap pl
    have:=(hcap (by omega)).2 (c - 2) (by omega)
    subst this
    simp [Builtin.cap_,zg hu]
  | sliceOut hb h2=>
    have:c - 2=0:=by omega
    rw [this]
    simp [Builtin.cap_,zg hu]
 ·cases he
end
noncomputable section
variable {P:Program}
def Z9 (s:ByteArray):List Value:=s.data.toList.map fun b => .int .u8 b.toNat
def JU (P:Program) (src dst:TypeId) (x:Value) (h:za):Option (Value × za) :=
 match cond (flat x) (fl (zU P (convert src dst x))) none with
 | some v=>some (v,h)
 | none=>(match zU P (underlying src),zU P (underlying dst),x with
   | some _,some (.slice e),.string s=>(match zU P (underlying e),zU P (sizeOf e) with
     | some (.int .u8),some 1=>some (.slice (some ⟨h.next,0,none⟩) s.size 1,h.push (.cells (Z9 s) e))
     | _,_=>none)
   | some (.slice e),some .string,.slice base n c=>(match zU P (underlying e) with
     | some (.int .u8)=>(FY h (.slice base n c)).map fun v=>(v,h)
     | _=>none)
   | _,_,_=>none)
theorem XT {t:TypeId} {n:Nat} (h:zU P (sizeOf t)=some n):P.cellsOf t=n:=by
 simp only [sizeOf,typeInfo,program,Sem.bind,bind,zU] at h
 cases hp:P.info? t with
 | none=>rw [hp] at h;cases h
 | some j=>rw [hp] at h;simp only [pure,Sem.bind,zU,My] at h;subst h;simp [Program.cellsOf,hp]
theorem A5 {ρ:yP} {h:za} {w:World} {e:TypeId} {s:ByteArray} (hr:Rel P ρ h w) (hsz:zU P (sizeOf e)=some 1) :
  ∃ v' w' ρ',(Conv.stringToBytes e s).run P w = .ok v' w'/\Step P ρ h w ρ' (h.push (.cells (Z9 s) e)) w'/\zD ρ' (.slice (some ⟨h.next,0,none⟩) s.size 1) v':=by
 let q:Question := .appendCap s.size 0 e
 let newCap:=q.cut (w.tape w.drawn q)
 have hge:s.size<=newCap:=by show s.size<=s.size + _ % _;omega
 let cs:Array Value:=(s.data.map fun b=>Value.int .u8 b.toNat) ++ Array.replicate (newCap - s.size) (.int .u8 0)
 have hcs:cs.size=newCap:=by simp only [cs,Array.size_append,Array.size_map,Array.size_replicate];show s.size + (newCap - s.size)=newCap;omega
 let w1:World:={ w with drawn:=w.drawn + 1 }
 have hr1:Rel P ρ h w1:=hr.grow (fun k _=>rfl)
 have hesz:=XT hsz
 let w2:World:={ w1 with heap:=w1.heap.push (.cells cs e (cs.size,cs.size + 1)) }
 have st:=Step.push (t:=e) hr1 (c:=Z9 s) (cs:=cs) (fz:=(cs.size,cs.size + 1)) (w':=w2) rfl (fun i hi hh=>by simp only [] at hh;omega)
  (by simp only [Z9,Nf,hcs,NR];exact hge)
  (fun k x hx=>by
   refine ⟨x,?_,?_⟩
   ·have hlt:k < s.data.size:=by
     rcases MX k s.data.size with h | h
     ·exact h
     ·rw [MO (by simpa [Z9] using h)] at hx;cases hx
    rw [Array.getElem?_append_left (by simpa using hlt)]
    simpa [Z9] using hx
   ·simp only [Z9,M5,MR] at hx
    obtain ⟨b,_,rfl⟩:=hx
    exact .int _ _) rfl rfl rfl
 refine ⟨.slice (some ⟨w.heap.size,0,none⟩) s.size newCap,w2,_,?_,⟨st.le,st.rel,st.ro,st.os,st.tape,st.output,st.size,st.frame,st.KI⟩,?_⟩
 ·have hq:(choose (.appendCap s.size 0 e)).run P w = .ok newCap w1:=by rw [run_choose];rfl
  simp only [Conv.stringToBytes,ME,hq,Mz]
  have hn:(newRow e cs).run P w1 = .ok ⟨w.heap.size,0,none⟩ { w1 with heap:=w1.heap.push (.cells cs e) }:=rfl
  rw [show (s.data.map fun b=>Value.int .u8 b.toNat) ++ Array.replicate (newCap - s.size) (.int .u8 0)=cs from rfl,hn]
  have hb:({ w1 with heap:=w1.heap.push (.cells cs e) }:World).heap[w.heap.size]? = some (.cells cs e):=by show (w.heap.push _)[w.heap.size]? = _;simp
  have hsh:(markStringish ⟨w.heap.size,0,none⟩).run P { w1 with heap:=w1.heap.push (.cells cs e) } = .ok () w2:=by
   simp only [markStringish,ME,run_shape,Mz,World.shape?,hb,run_freeze]
   simp only [World.freeze]
   rw [MJ (by decide)]
   congr 1
   show World.mk _ _ _ _ _=World.mk _ _ _ _ _
   congr 1
   show (w.heap.push _).modify w.heap.size _=w.heap.push _
   apply Array.ext_getElem?
   intro k
   simp only [Array.getElem?_modify,Array.getElem?_push]
   by_cases e:k=w.heap.size
   ·subst e;simp
   ·simp [e];intro e2;exact absurd e2.symm e
  simp only [Mz,hsh,MN]
 ·have:=zD.slice (ρ:=ρ.ext ⟨w1.heap.size,0,cs.size,P.cellsOf e⟩) (b:=h.next) (off:=0) (len:=s.size) (c:=1) (cap:=newCap) (pl:=⟨w1.heap.size,0,cs.size,P.cellsOf e⟩)
   (by show h.next < ρ.next + 1;rw [hr.next];exact NN _) (by rw [<- hr.next];exact ρ.uo _) hge (fun _=>⟨by simp [hesz,hcs],fun k hk=>by omega⟩)
  exact this
theorem gK {ρ:yP} {src dst:TypeId} {x x' v:Value} {h h':za} {w:World} (he:JU P src dst x h=some (v,h')) (hr:Rel P ρ h w) (hx:zD ρ x x') :
  ∃ v' w' ρ',(convert src dst x').run P w = .ok v' w'/\Step P ρ h w ρ' h' w'/\zD ρ' v v':=by
 unfold JU at he
 split at he
 ·rename_i u hu
  simp only [My,MC] at he
  obtain ⟨rfl,rfl⟩:=he
  cases hf:flat x with
  | false=>rw [hf] at hu;cases hu
  | true=>
    rw [hf] at hu
    obtain ⟨h1,h2⟩:=Yr hu
    obtain rfl:=ur hx hf
    exact ⟨u,w,ρ,zg h1 w,.refl hr,.of_flat ρ h2⟩
 ·split at he
  ·rename_i e s hs hd _
   cases hx
   split at he
   ·rename_i hu hz
    simp only [My,MC] at he
    obtain ⟨rfl,rfl⟩:=he
    obtain ⟨v',w',ρ',e1,st,hv⟩:=A5 (e:=e) (s:=s) hr hz
    refine ⟨v',w',ρ',?_,st,hv⟩
    simp only [convert,ME,zg hs,zg hd,Mz,zg hu,e1]
   ·cases he
  ·rename_i e base n c hs hd _
   split at he
   ·rename_i hu
    simp only [MR,MC] at he
    obtain ⟨r,hb,rfl,rfl⟩:=he
    obtain ⟨e1,hv⟩:=oG hb hr hx
    refine ⟨r,w,ρ,?_,.refl hr,hv⟩
    cases hx <;> simp only [convert,ME,zg hs,zg hd,Mz,zg hu,e1]
   ·cases he
  ·cases he
def vn (P:Program) (src dst:TypeId) (x:Value) (h:za):Option (Value × za) :=
 match JU P src dst x h with
 | some r=>some r
 | none=>(oL P src dst x h).map fun v=>(v,h)
theorem lX {ρ:yP} {src dst:TypeId} {x x' v:Value} {h h':za} {w:World} (he:vn P src dst x h=some (v,h')) (hr:Rel P ρ h w) (hx:zD ρ x x') :
  ∃ v' w' ρ',(convert src dst x').run P w = .ok v' w'/\Step P ρ h w ρ' h' w'/\zD ρ' v v':=by
 unfold vn at he
 split at he
 ·rename_i r hc
  simp only [My] at he
  subst he
  exact gK hc hr hx
 ·simp only [MR,MC] at he
  obtain ⟨u,hu,rfl,rfl⟩:=he
  obtain ⟨v',e,hv⟩:=gN hu hr hx
  exact ⟨v',w,ρ,e,.refl hr,hv⟩
def y8 (P:Program) (t:TypeId) (len:Nat) (parts:List (Nat × Value)) (h:za):Option (Value × za) :=
 match zU P (underlying t) with
 | some (.slice elem)=>(match zU P (sizeOf elem),xP P elem with
   | some n,some z=>cond (Nat.ble (len * n) (2 ^ 24) && Nat.blt 0 z.cells.size && Nat.blt 0 n) (match Instr.fill (fun i=>some (i * n,n)) (q7 z.cells.toList (len * n)).toArray parts with
     | some cs=>cond (Nat.beq cs.size (len * n)) (some (.slice (some ⟨h.next,0,none⟩) len (len + 2),h.push (.cells cs.toList elem))) none
     | none=>none) none
   | _,_=>none)
 | _=>none
theorem Up {ρ:yP} {t:TypeId} {len:Nat} {parts parts':List (Nat × Value)} {h h':za} {v:Value} {w:World} (he:y8 P t len parts h=some (v,h')) (hr:Rel P ρ h w) (hp:K0 ρ parts parts') :
  ∃ v' w' ρ',(Instr.buildSlice t len parts'.toArray).run P w = .ok v' w'/\Step P ρ h w ρ' h' w'/\zD ρ' v v':=by
 unfold y8 at he
 split at he
 case h_2=>cases he
 rename_i elem hu
 split at he
 case h_2=>cases he
 rename_i n z hn hz
 cases hc:(Nat.ble (len * n) (2 ^ 24) && Nat.blt 0 z.cells.size && Nat.blt 0 n) with
 | false=>rw [hc] at he;cases he
 | true=>
   rw [hc] at he
   simp only [MG] at hc
   have h24:=M3 hc.1.1
   have hzs:0 < z.cells.size:=by simpa [No] using hc.1.2
   obtain ⟨z1,z2⟩:=qA (ρ:=ρ) hz w
   simp only [MV] at he
   split at he
   case h_2=>cases he
   rename_i cs hfill
   cases hsz:Nat.beq cs.size (len * n) with
   | false=>rw [hsz] at he;cases he
   | true=>
     rw [hsz] at he
     simp only [MV,My,MC] at he
     obtain ⟨rfl,rfl⟩:=he
     have hsz:=MQ hsz
     obtain ⟨cs',hf',hv⟩:=UD _ _ _ (q7 z.cells.toList (len * n)).toArray _ hp (cE z2 (by omega) _) hfill
     obtain ⟨e,st⟩:=VS (t:=elem) hr (c:=cs.toList) (cs:=cs') (by rw [hv.1,NR];exact MI _) (fun i x hx=>by
      obtain ⟨y,hy,hxy⟩:=hv.get hx
      exact ⟨y,by simpa using hy,hxy⟩)
     have hcsz:cs'.size=len * n:=by have:=hv.1;simp only [NR] at this;omega
     refine ⟨.slice (some ⟨w.heap.size,0,none⟩) len len,_,_,?_,st,?_⟩
     ·simp only [Instr.buildSlice,ME,zg hu,Mz,zg hn]
      rw [MJ (by omega)]
      by_cases h0:len * n=0
      ·rw [MK h0]
       have:((Array.range (len * n)).map fun k=>(#[]:Array Value)[k % (#[]:Array Value).size]!)=(q7 z.cells.toList (len * n)).toArray:=by rw [h0];simp [q7]
       simp only [ME,MN,Mz,this,hf',e]
      ·rw [MJ h0]
       simp only [ME,z1,MN,Mz,f8,hf',e]
     ·exact zD.slice (ρ:=ρ.ext _) (b:=h.next) (off:=0) (pl:=⟨w.heap.size,0,cs'.size,P.cellsOf elem⟩) (by show h.next < ρ.next + 1;rw [hr.next];exact NN _) (by rw [<- hr.next];exact ρ.uo _) (MI _)
       (fun _=>⟨by simp [XT hn,hcsz],fun k hk=>by omega⟩)
theorem zt {α:Type} {b:Bool} {x:Option α} {y:α} (h:cond b x none=some y):b=true/\x=some y:=by
 cases b with
 | true=>exact ⟨rfl,h⟩
 | false=>cases h
def cT (s:Env):Option Operand->Option (Option Value)
 | none=>some none
 | some x=>(uN s x).map some
theorem Xs {ρ:yP} {s:Env} {a:Act} (hs:wA ρ s a.tmps) {x:Option Operand} {v:Option Value} (h:cT s x=some v):td ρ v (x.map a.eval):=by
 cases x with
 | none=>simp only [cT,My] at h;subst h;exact ⟨fun v hv=>by (cases hv),fun _=>rfl⟩
 | some x=>
   simp only [cT,MR] at h
   obtain ⟨u,hu,rfl⟩:=h
   exact ⟨fun v hv=>by cases hv;exact ⟨_,rfl,zP hs hu⟩,fun hn=>by cases hn⟩
def ng:Option Value->Bool
 | none=>true
 | some v=>flat v
def zo (P:Program) (b:Builtin) (ts:List TypeId) (r:TypeId) (vs:List Value) (h:za):Option (Value × za) :=
 match b,ts,vs with
 | .append,[sT,xT],[s,x]=>Yi P sT xT s x h
 | .copy,t :: _,[d,x]=>lZ P t d x h
 | .len,[t],[x]=>(B6 P t x h).map fun v=>(v,h)
 | .clear,[t],[x]=>(JT P t x h).map fun h'=>(undef,h')
 | .min,_,_=>cond (vs.all flat) ((fl (zU P (Builtin.min_ ts.toArray r vs.toArray))).map fun v=>(v,h)) none
 | .max,_,_=>cond (vs.all flat) ((fl (zU P (Builtin.max_ ts.toArray r vs.toArray))).map fun v=>(v,h)) none
 | .delete,t :: _,[x,k]=>(ZR P t x k h).map fun h'=>(undef,h')
 | .cap,[t],[x]=>(FZ P t x).map fun v=>(v,h)
 | .unsafeSliceData,_,[x]=>(Gd x).map fun v=>(v,h)
 | .unsafeString,[pt,it],[p,.int .i64 n]=>HS P pt p n h
 | _,_,_=>none
theorem VW {ρ:yP}:∀ {xs ys:List Value},xp ρ xs ys->xs.all flat=true->ys=xs
 | [],ys,h,_=>h.wX
 | x :: xs,ys,h,hf=>by
   obtain ⟨y,ys',rfl,h1,h2⟩:=h.cons_inv
   simp only [Nx,MG] at hf
   rw [ur h1 hf.1,VW h2 hf.2]
theorem JS {ρ:yP} {b:Builtin} {ts:Array TypeId} {r:TypeId} {vs vs':List Value} {cs:Array Bool} {v:Value} {h h':za} {w:World} (he:zo P b ts.toList r vs h=some (v,h')) (hr:Rel P ρ h w) (hv:xp ρ vs vs') :
  ∃ v' w' ρ',(builtin b ts r cs vs'.toArray).run P w = .ok (.value v') w'/\Step P ρ h w ρ' h' w'/\zD ρ' v v':=by
 unfold zo at he
 split at he
 ·rename_i sT xT s x hts
  obtain ⟨s',l1,rfl,v1,hv⟩:=hv.cons_inv
  obtain ⟨x',l2,rfl,v2,hv⟩:=hv.cons_inv
  cases hv.wX
  have:ts = #[sT,xT]:=by rw [<- N9 (xs:=ts),hts]
  subst this
  obtain ⟨v',w',ρ',e,st,hv'⟩:=cO (r:=r) he hr v1 v2
  exact ⟨v',w',ρ',by simp only [builtin,ME];rw [e];rfl,st,hv'⟩
 ·rename_i t ts' d x hts
  obtain ⟨d',l1,rfl,v1,hv⟩:=hv.cons_inv
  obtain ⟨x',l2,rfl,v2,hv⟩:=hv.cons_inv
  cases hv.wX
  obtain ⟨v',w',e,st,hv'⟩:=l5 (ts:=ts) (r:=r) he hr v1 v2 (by rw [<- Array.getElem?_toList,hts];rfl)
  exact ⟨v',w',ρ,by simp only [builtin,ME];rw [e];rfl,st,hv'⟩
 ·rename_i t x hts
  obtain ⟨x',l1,rfl,v1,hv⟩:=hv.cons_inv
  cases hv.wX
  have:ts = #[t]:=by rw [<- N9 (xs:=ts),hts]
  subst this
  simp only [MR,MC] at he
  obtain ⟨u,hu,rfl,rfl⟩:=he
  obtain ⟨e,hv'⟩:=l6 hu hr v1 r
  exact ⟨u,w,ρ,by simp only [builtin,ME];rw [e];rfl,.refl hr,hv'⟩
 ·rename_i t x hts
  obtain ⟨x',l1,rfl,v1,hv⟩:=hv.cons_inv
  cases hv.wX
  have:ts = #[t]:=by rw [<- N9 (xs:=ts),hts]
  subst this
  simp only [MR,MC] at he
  obtain ⟨u,hu,rfl,rfl⟩:=he
  obtain ⟨w',e,st⟩:=gJ (r:=r) hu hr v1
  exact ⟨undef,w',ρ,by simp only [builtin,ME];rw [e];rfl,st,.qD _ rfl⟩
 ·obtain ⟨hf,he⟩:=zt he
  simp only [MR,MC] at he
  obtain ⟨u,hu,rfl,rfl⟩:=he
  obtain ⟨h1,h2⟩:=Yr hu
  obtain rfl:=VW hv hf
  refine ⟨u,w,ρ,?_,.refl hr,.of_flat _ h2⟩
  have h1:=zg h1 w
  rw [N9] at h1
  simp only [builtin,ME,h1];rfl
 ·obtain ⟨hf,he⟩:=zt he
  simp only [MR,MC] at he
  obtain ⟨u,hu,rfl,rfl⟩:=he
  obtain ⟨h1,h2⟩:=Yr hu
  obtain rfl:=VW hv hf
  refine ⟨u,w,ρ,?_,.refl hr,.of_flat _ h2⟩
  have h1:=zg h1 w
  rw [N9] at h1
  simp only [builtin,ME,h1];rfl
 ·rename_i t ts' x k hts
  obtain ⟨x',l1,rfl,v1,hv⟩:=hv.cons_inv
  obtain ⟨k',l2,rfl,v2,hv⟩:=hv.cons_inv
  cases hv.wX
  simp only [MR,MC] at he
  obtain ⟨u,hu,rfl,rfl⟩:=he
  obtain ⟨w',e,st⟩:=QD (ts:=ts) (r:=r) hu (by rw [<- Array.getElem?_toList,hts];rfl) hr v1 v2
  exact ⟨undef,w',ρ,by simp only [builtin,ME];rw [e];rfl,st,.qD _ rfl⟩
 ·rename_i t x hts
  obtain ⟨x',l1,rfl,v1,hv⟩:=hv.cons_inv
  cases hv.wX
  have:ts = #[t]:=by rw [<- N9 (xs:=ts),hts]
  subst this
  simp only [MR,MC] at he
  obtain ⟨u,hu,rfl,rfl⟩:=he
  obtain ⟨e,hv'⟩:=oK hu v1 r w
  exact ⟨u,w,ρ,by simp only [builtin,ME];rw [e];rfl,.refl hr,hv'⟩
 ·rename_i ts' x hts
  obtain ⟨x',l1,rfl,v1,hv⟩:=hv.cons_inv
  cases hv.wX
  simp only [MR,MC] at he
  obtain ⟨u,hu,rfl,rfl⟩:=he
  obtain ⟨v',e,hv'⟩:=oR hu v1 ts r w
  exact ⟨v',w,ρ,by simp only [builtin,ME];rw [e];rfl,.refl hr,hv'⟩
 ·rename_i pt it p n hts
  obtain ⟨p',l1,rfl,v1,hv⟩:=hv.cons_inv
  obtain ⟨n',l2,rfl,v2,hv⟩:=hv.cons_inv
  cases hv.wX
  cases v2
  have:ts = #[pt,it]:=by rw [<- N9 (xs:=ts),hts]
  subst this
  obtain ⟨v',w',e,st,hv'⟩:=Aa (it:=it) (ty:=r) he hr v1
  exact ⟨v',w',ρ,by simp only [builtin,ME];rw [e];rfl,st,hv'⟩
 ·cases he
def one (h:za) (x:Option Value):Option (Value × za):=match x with | none=>none | some v=>some (v,h)
def Vf (P:Program) (s:Env) (o:Oper) (h:za):Option (Value × za) :=
 match o.op with
 | .move x | .assign x=>one h (uN s x)
 | .pick c a b=>(match uN s c with
   | some (.bool true)=>one h (uN s a)
   | some (.bool false)=>one h (uN s b)
   | _=>none)
 | .box t x=>(match uN s x with
   | some v=>some (cZ h v.cells.toList t)
   | none=>none)
 | .alloc t=>(match xP P t with
   | some z=>some (cZ h z.cells.toList t)
   | none=>none)
 | .build t parts=>(match ZT s parts.toList with
   | some ps=>one h (yR P t ps)
   | none=>none)
 | .buildSlice t len parts=>(match ZT s parts.toList with
   | some ps=>y8 P t len ps h
   | none=>none)
 | .load t a=>(match uN s a with
   | some v=>one h (zd P t v h)
   | none=>none)
 | .store t a x=>(match uN s a,uN s x with
   | some p,some v=>(match zk P t p v h with
     | some h'=>some (undef,h')
     | none=>none)
   | _,_=>none)
 | .nilCheck x=>(match uN s x with
   | some (.pointer (some a))=>some (.pointer (some a),h)
   | some (.func (.func f) a c)=>some (.func (.func f) a c,h)
   | _=>none)
 | .binOp op t x y _=>(match uN s x,uN s y with
   | some a,some b=>one h (zf P op t x y a b)
   | _,_=>none)
 | .unOp op _ x=>(match uN s x with
   | some a=>cond (flat a) (one h (fl (zU P (Op.unary op a)))) none
   | none=>none)
 | .convert src dst x=>(match uN s x with
   | some a=>vn P src dst a h
   | none=>none)
 | .makeInterface t x=>(match uN s x with
   | some a=>(match zU P (Instr.makeInterface t (.bool true)) with
     | some _=>some (.iface t a,h)
     | none=>none)
   | none=>none)
 | .makeFunc (.func f) first captured=>(match YU s first.toList,YU s captured.toList with
   | some a,some c=>some (.func (.func f) a.toArray c.toArray,h)
   | _,_=>none)
 | .makeSlice t l c=>(match uN s l,uN s c with
   | some a,some b=>Yl P t a b h
   | _,_=>none)
 | .slice t x lo hi none=>(match uN s x,cT s lo,cT s hi with
   | some (.string str),some a,some b=>(match flatSlice P t str a b with
     | some v=>some (v,h)
     | none=>none)
   | some v,some a,some b=>one h (QG P t v a b h)
   | _,_,_=>none)
 | .fieldAddr t x f=>(match uN s x with
   | some a=>one h (zb P t a f)
   | none=>none)
 | .field t x f=>(match uN s x with
   | some (.agg cs)=>(match zU P (underlying t) with
     | some (.struct fields)=>(match fields[f]? with
       | some fd=>one h (apart P fd.type cs.toList fd.offset)
       | none=>none)
     | _=>none)
   | _=>none)
 | .indexAddr t x i=>(match uN s x,uN s i with
   | some a,some b=>one h (zA P t a b)
   | _,_=>none)
 | .index t x i=>(match uN s x,uN s i with
   | some a,some b=>cond (flat a && flat b) (one h (fl (zU P (Instr.index t a b)))) none
   | _,_=>none)
 | .extract x i=>(match uN s x with
   | some (.tuple vs)=>one h vs[i]?
   | _=>none)
 | .call { callee := .builtin b,args,argTypes }=>(match YU s args.toList with
   | some vs=>zo P b argTypes.toList o.type vs h
   | none=>none)
 | .makeMap _ none=>some (wx h)
 | .lookup t x k ok=>(match uN s x,uN s k with
   | some a,some b=>one h (kg P t a b ok h)
   | _,_=>none)
 | .mapUpdate t m k x=>(match uN s m,uN s k,uN s x with
   | some a,some b,some c=>(match uL P t a b c h with
     | some h'=>some (undef,h')
     | none=>none)
   | _,_,_=>none)
 | .range t x=>(match uN s x with
   | some a=>QF P t a h
   | none=>none)
 | .next x str=>(match uN s x with
   | some a=>fo P a str h
   | none=>none)
 | .entry x=>(match uN s x with
   | some a=>one h (gO a h)
   | none=>none)
 | _=>none
 where
  flatSlice (P:Program) (t:TypeId) (str:ByteArray) (a b:Option Value):Option Value :=
   cond (ng a && ng b) (fl (zU P (Instr.sliceAt t (.string str) a b none))) none
end
noncomputable section
variable {P:Program}
def K9 (P:Program) (ρ:yP) (h:za) (w:World) (s:Sem Next) (v:Value) (h':za):Prop :=
 ∃ n w' ρ' v',s.run P w = .ok n w'/\(n = .value v'\/(n = .skip/\v'=undef))/\Step P ρ h w ρ' h' w'/\zD ρ' v v'
theorem K9.val {ρ:yP} {h h':za} {w:World} {s:Sem Value} {v:Value} (e:∃ v' w' ρ',s.run P w = .ok v' w'/\Step P ρ h w ρ' h' w'/\zD ρ' v v') :
  K9 P ρ h w (do pure (.value (<- s))) v h':=by
 obtain ⟨v',w',ρ',e,st,hv⟩:=e
 exact ⟨.value v',w',ρ',v',by rw [ME,e];rfl,.inl rfl,st,hv⟩
theorem K9.still {ρ:yP} {h:za} {w:World} {s:Sem Value} {v:Value} (hr:Rel P ρ h w) (e:∃ v',s.run P w = .ok v' w/\zD ρ v v') :
  K9 P ρ h w (do pure (.value (<- s))) v h:=by
 obtain ⟨v',e,hv⟩:=e
 exact .val ⟨v',w,ρ,e,.refl hr,hv⟩
theorem K9.pure {ρ:yP} {h:za} {w:World} {v v':Value} (hr:Rel P ρ h w) (hv:zD ρ v v'):K9 P ρ h w (Pure.pure (.value v')) v h :=
 ⟨.value v',w,ρ,v',rfl,.inl rfl,.refl hr,hv⟩
theorem wz {h h':za} {x:Option Value} {v:Value} (e:one h x=some (v,h')):x=some v/\h'=h:=by
 unfold one at e
 split at e
 ·cases e
 ·simp only [My,MC] at e;obtain ⟨rfl,rfl⟩:=e;exact ⟨rfl,rfl⟩
theorem bN {ρ:yP} {h:za} {w:World} {c v:Value} {b:Bool} {va vb:Value} (hr:Rel P ρ h w) (hc:zD ρ (.bool b) c) (hv:zD ρ v (if b=true then va else vb)) :
  K9 P ρ h w (do Pure.pure (.value (if <- asBool c then va else vb))) v h:=by
 cases hc
 exact ⟨_,w,ρ,_,by simp only [asBool,ME,MN,Mz],.inl rfl,.refl hr,hv⟩
theorem cP {ρ:yP} {t:TypeId} {a b a' b' v:Value} (hf:(flat a && flat b)=true) (h:fl (zU P (Instr.index t a b))=some v) (ha:zD ρ a a') (hb:zD ρ b b') (w:World) :
  ∃ v',(Instr.index t a' b').run P w = .ok v' w/\zD ρ v v':=by
 simp only [MG] at hf
 obtain rfl:=ur ha hf.1
 obtain rfl:=ur hb hf.2
 obtain ⟨h1,h2⟩:=Yr h
 exact ⟨v,zg h1 w,.of_flat ρ h2⟩
theorem fV {ρ:yP} {x x':Option Value} (h:td ρ x x') (hf:ng x=true):x'=x:=by
 cases x with
 | none=>exact h.2 rfl
 | some v=>obtain ⟨v',rfl,hv⟩:=h.1 v rfl;rw [ur hv hf]
set_option maxHeartbeats 1000000 in
theorem ft {ρ:yP} {s:Env} {a:Act} {o:Oper} {h h':za} {v:Value} {w:World} (he:Vf P s o h=some (v,h')) (hr:Rel P ρ h w) (hs:wA ρ s a.tmps) :
  K9 P ρ h w (execOp a.eval o) v h':=by
 unfold Vf at he
 split at he
 ·
  rename_i x yB
  obtain ⟨h1,rfl⟩:=wz he
  simp only [execOp,yB]
  exact .pure hr (zP hs h1)
 ·
  rename_i x yB
  obtain ⟨h1,rfl⟩:=wz he
  simp only [execOp,yB]
  exact .pure hr (zP hs h1)
 ·
  rename_i c x y yB
  simp only [execOp,yB]
  split at he
  ·rename_i hc
   obtain ⟨h1,rfl⟩:=wz he
   exact bN hr (zP hs hc) (by rw [MK rfl];exact zP hs h1)
  ·rename_i hc
   obtain ⟨h1,rfl⟩:=wz he
   exact bN hr (zP hs hc) (by rw [MJ (by decide)];exact zP hs h1)
  ·cases he
 ·
  rename_i t x yB
  simp only [execOp,yB]
  split at he
  case h_2=>cases he
  rename_i u hu
  simp only [My,cZ,MC] at he
  obtain ⟨rfl,rfl⟩:=he
  obtain ⟨a',w',ρ',e,st,hv⟩:=UP hr (zP hs hu) t
  exact .val ⟨_,w',ρ',by simp only [Instr.box,ME,e,Mz,MN],st,hv⟩
 ·
  rename_i t yB
  simp only [execOp,yB]
  split at he
  case h_2=>cases he
  rename_i z hz
  simp only [My,cZ,MC] at he
  obtain ⟨rfl,rfl⟩:=he
  obtain ⟨z1,z2⟩:=qA (ρ:=ρ) hz w
  obtain ⟨a',w',ρ',e,st,hv⟩:=UP hr z2 t
  exact .val ⟨_,w',ρ',by simp only [Instr.alloc,ME,z1,e,Mz,MN],st,hv⟩
 ·
  rename_i t parts yB
  simp only [execOp,yB]
  split at he
  case h_2=>cases he
  rename_i ps hps
  obtain ⟨h1,rfl⟩:=wz he
  have hp:=Xu hs hps
  obtain ⟨v',e,hv⟩:=gI h1 hp w
  refine .still hr ⟨v',?_,hv⟩
  rw [<- e]
  congr 1
  congr 1
  apply Om
  simp
 ·
  rename_i t len parts yB
  simp only [execOp,yB]
  split at he
  case h_2=>cases he
  rename_i ps hps
  have hp:=Xu hs hps
  obtain ⟨v',w',ρ',e,st,hv⟩:=Up he hr hp
  refine .val ⟨v',w',ρ',?_,st,hv⟩
  rw [<- e]
  congr 1
  congr 1
  apply Om
  simp
 ·
  rename_i t x yB
  simp only [execOp,yB]
  split at he
  case h_2=>cases he
  rename_i u hu
  obtain ⟨h1,rfl⟩:=wz he
  exact .still hr (Km h1 hr (zP hs hu))
 ·
  rename_i t p x yB
  simp only [execOp,yB]
  split at he
  case h_2=>cases he
  rename_i pv xv hp hx
  split at he
  case h_2=>cases he
  rename_i h2 hst
  simp only [My,MC] at he
  obtain ⟨rfl,rfl⟩:=he
  obtain ⟨w',e,st⟩:=gZ hst hr (zP hs hp) (zP hs hx)
  exact ⟨.skip,w',ρ,undef,by rw [ME,e];rfl,.inr ⟨rfl,rfl⟩,st,.qD _ rfl⟩
 ·
  rename_i x yB
  simp only [execOp,yB]
  split at he
  ·rename_i p hp
   simp only [My,MC] at he
   obtain ⟨rfl,rfl⟩:=he
   have e:=zP hs hp
   generalize a.eval x=xv at e
   cases e with
   | ptr hb hm=>exact .pure hr (.ptr hb hm)
   | kx=>exact .pure hr .kx
  ·rename_i f fa fc hp
   simp only [My,MC] at he
   obtain ⟨rfl,rfl⟩:=he
   have e:=zP hs hp
   generalize a.eval x=xv at e
   cases e with
   | func h1 h2 h3 h4=>exact .pure hr (.func h1 h2 h3 h4)
  ·cases he
 ·
  rename_i op t x y yt yB
  simp only [execOp,yB]
  split at he
  case h_2=>cases he
  rename_i xv yv hx hy
  obtain ⟨h1,rfl⟩:=wz he
  exact .still hr (lS h1 (zP hs hx) (zP hs hy) w)
 ·
  rename_i op t x yB
  simp only [execOp,yB]
  split at he
  case h_2=>cases he
  rename_i xv hx
  obtain ⟨hf,he⟩:=zt he
  obtain ⟨h1,rfl⟩:=wz he
  obtain ⟨h2,h3⟩:=Yr h1
  rw [ur (zP hs hx) hf]
  exact .still hr ⟨v,zg h2 w,.of_flat ρ h3⟩
 ·
  rename_i src dst x yB
  simp only [execOp,yB]
  split at he
  case h_2=>cases he
  rename_i xv hx
  exact .val (lX he hr (zP hs hx))
 ·
  rename_i t x yB
  simp only [execOp,yB]
  split at he
  case h_2=>cases he
  rename_i xv hx
  split at he
  case h_2=>cases he
  rename_i u hu
  simp only [My,MC] at he
  obtain ⟨rfl,rfl⟩:=he
  refine .still hr ⟨.iface t (a.eval x),?_,.iface (zP hs hx)⟩
  have:=zg hu w
  simp only [Instr.makeInterface,ME] at this ⊢
  cases hun:(underlying t).run P w with
  | halt e w2=>rw [hun] at this;cases this
  | ok d w2=>
    rw [hun] at this
    simp only [Mz] at this ⊢
    cases d <;> simp_all
 ·
  rename_i f first captured yB
  simp only [execOp,yB]
  split at he
  case h_2=>cases he
  rename_i av cv ha hc
  simp only [My,MC] at he
  obtain ⟨rfl,rfl⟩:=he
  have e1:=u9 hs ha
  have e2:=u9 hs hc
  refine .still hr ⟨.func (.func f) (first.map a.eval) (captured.map a.eval),rfl,.func (by simpa using e1.1) (by simpa using e2.1) (fun i x y hx hy=>e1.2 i x y (by simpa using hx) (by simpa using hy)) (fun i x y hx hy=>e2.2 i x y (by simpa using hx) (by simpa using hy))⟩
 ·
  rename_i t l c yB
  simp only [execOp,yB]
  split at he
  case h_2=>cases he
  rename_i lv cv hl hc
  exact .val (l7 he hr (zP hs hl) (zP hs hc))
 ·
  rename_i t x lo hi yB
  simp only [execOp,yB]
  split at he
  ·rename_i str av bv hx ha hb
   split at he
   case h_2=>cases he
   rename_i u hu
   simp only [My,MC] at he
   obtain ⟨rfl,rfl⟩:=he
   obtain ⟨hf,hu⟩:=zt hu
   simp only [MG] at hf
   obtain ⟨h1,h2⟩:=Yr hu
   rw [ur (zP hs hx) rfl,fV (Xs hs ha) hf.1,fV (Xs hs hb) hf.2]
   exact .still hr ⟨u,zg h1 w,.of_flat ρ h2⟩
  ·rename_i xv av bv _ hx ha hb
   obtain ⟨h1,rfl⟩:=wz he
   exact .still hr (gY h1 hr (zP hs hx) (Xs hs ha) (Xs hs hb))
  ·cases he
 ·
  rename_i t x f yB
  simp only [execOp,yB]
  split at he
  case h_2=>cases he
  rename_i xv hx
  obtain ⟨h1,rfl⟩:=wz he
  exact .still hr (gT h1 (zP hs hx) w)
 ·
  rename_i t x f yB
  simp only [execOp,yB]
  split at he
  case h_2=>cases he
  rename_i cs hx
  split at he
  case h_2=>cases he
  rename_i fields hu
  split at he
  case h_2=>cases he
  rename_i fd hfd
  obtain ⟨h1,rfl⟩:=wz he
  have e:=zP hs hx
  generalize a.eval x=xv at e
  cases e with
  | agg h2 h3=>
    rename_i cs'
    obtain ⟨v',e,hv⟩:=ma (cs':=cs') h1 ⟨by simpa using h2,fun i x y hx hy=>h3 i x y (by simpa using hx) (by simpa using hy)⟩ w
    refine .still hr ⟨v',?_,hv⟩
    simp only [Instr.field,ME,zg hu,Mz,hfd,asAgg,MN,e]
 ·
  rename_i t x i yB
  simp only [execOp,yB]
  split at he
  case h_2=>cases he
  rename_i xv iv hx hi
  obtain ⟨h1,rfl⟩:=wz he
  exact .still hr (gU h1 (zP hs hx) (zP hs hi) w)
 ·
  rename_i t x i yB
  simp only [execOp,yB]
  split at he
  case h_2=>cases he
  rename_i xv iv hx hi
  obtain ⟨hf,he⟩:=zt he
  obtain ⟨h1,rfl⟩:=wz he
  exact .still hr (cP hf h1 (zP hs hx) (zP hs hi) w)
 ·
  rename_i x i yB
  simp only [execOp,yB]
  split at he
  case h_2=>cases he
  rename_i vs hx
  obtain ⟨h1,rfl⟩:=wz he
  have e:=zP hs hx
  generalize a.eval x=xv at e
  cases e with
  | tuple h2 h3=>
    rename_i vs'
    have hlt:i < vs.size:=by
     rcases MX i vs.size with h | h
     ·exact h
     ·rw [M9 h] at h1;cases h1
    have hy:vs'[i]? = some vs'[i]:=Na (h2 ▸ hlt)
    refine .still hr ⟨vs'[i]'(h2 ▸ hlt),?_,h3 i _ _ h1 hy⟩
    simp only [Instr.extract,hy,MN]
 ·
  rename_i b args ts yB
  simp only [execOp,yB]
  split at he
  case h_2=>cases he
  rename_i vs hvs
  have e:=u9 hs hvs
  obtain ⟨v',w',ρ',e1,st,hv⟩:=JS (cs:=args.map fun | .const _=>true | _=>false) he hr e
  refine ⟨.value v',w',ρ',v',?_,.inl rfl,st,hv⟩
  simp only [resolve,ME,MN,Mz,invoke]
  rw [<- e1]
  congr 2
  apply Om
  simp
 ·
  rename_i t yB
  simp only [execOp,yB]
  simp only [My] at he
  obtain ⟨v',w',ρ',e,st,hv⟩:=JW hr t
  rw [he] at st hv
  exact .val ⟨v',w',ρ',e,st,hv⟩
 ·
  rename_i t x k ok yB
  simp only [execOp,yB]
  split at he
  case h_2=>cases he
  rename_i xv kv hx hk
  obtain ⟨h1,rfl⟩:=wz he
  exact .still hr (cQ h1 hr (zP hs hx) (zP hs hk))
 ·
  rename_i t m k x yB
  simp only [execOp,yB]
  split at he
  case h_2=>cases he
  rename_i mv kv xv hm hk hx
  split at he
  case h_2=>cases he
  rename_i h2 hu
  simp only [My,MC] at he
  obtain ⟨rfl,rfl⟩:=he
  obtain ⟨w',e,st⟩:=QE hu hr (zP hs hm) (zP hs hk) (zP hs hx)
  exact ⟨.skip,w',ρ,undef,by simp only [ME,e,Mz,MN],.inr ⟨rfl,rfl⟩,st,.qD _ rfl⟩
 ·
  rename_i t x yB
  simp only [execOp,yB]
  split at he
  case h_2=>cases he
  rename_i xv hx
  exact .val (gW he hr (zP hs hx))
 ·
  rename_i x str yB
  simp only [execOp,yB]
  split at he
  case h_2=>cases he
  rename_i xv hx
  exact .val (l9 he hr (zP hs hx))
 ·
  rename_i x yB
  simp only [execOp,yB]
  split at he
  case h_2=>cases he
  rename_i xv hx
  obtain ⟨h1,rfl⟩:=wz he
  exact .still hr (gP h1 hr (zP hs hx))
 ·cases he
end
noncomputable section
variable {P:Program}
def wj (b:Frame) (tm:Array Value) (ds:List Deferred) (todo:List Item):Frame :=
 { fn:=b.fn,tmps:=tm,todo,defers:=ds,mode := .run,kind:=b.kind,roundOf:=b.roundOf }
theorem aE (b:Frame) (tm:Array Value) (ds:List Deferred) (todo:List Item):(wj b tm ds todo).eval=(Act.eval ⟨tm,ds⟩):=by
 funext x;cases x <;> rfl
section moves
variable {b:Frame} {tm:Array Value} {ds:List Deferred} {k:List Item} {cs:List Frame} {w:World}
theorem pz:step P (lone (wj b tm ds (.code .skip :: k)) cs w) = .next (lone (wj b tm ds k) cs w):=step_lone_go (by simp [stepG,stepG.exec,wj])
theorem mR {l:Nat}:step P (lone (wj b tm ds (.code (.label l) :: k)) cs w) = .next (lone (wj b tm ds k) cs w):=step_lone_go (by simp [stepG,stepG.exec,wj])
theorem cX {id:Nat}:step P (lone (wj b tm ds (.inBlock id :: k)) cs w) = .next (lone (wj b tm ds k) cs w):=step_lone_go (by simp [stepG,stepG.exec,wj])
theorem cY {c:Code}:step P (lone (wj b tm ds (.inScope c :: k)) cs w) = .next (lone (wj b tm ds k) cs w):=step_lone_go (by simp [stepG,stepG.exec,wj])
theorem QM {x y:Code}:step P (lone (wj b tm ds (.code (.seq x y) :: k)) cs w) = .next (lone (wj b tm ds (.code x :: .code y :: k)) cs w):=step_lone_go (by simp [stepG,stepG.exec,wj])
theorem px {c:Operand} {x y:Code} {t:Bool} (h:Act.eval ⟨tm,ds⟩ c = .bool t):step P (lone (wj b tm ds (.code (.cond c x y) :: k)) cs w) = .next (lone (wj b tm ds (.code (if t then x else y) :: k)) cs w) :=
 step_lone_go (by
  have:=congrFun (aE b tm ds (.code (.cond c x y) :: k)) c
  simp only [wj] at this
  simp [stepG,stepG.exec,wj,this,h])
theorem Ys {id:Nat} {c:Code}:step P (lone (wj b tm ds (.code (.block id c) :: k)) cs w) = .next (lone (wj b tm ds (.code c :: .inBlock id :: k)) cs w):=step_lone_go (by simp [stepG,stepG.exec,wj])
theorem Wk {c:Code}:step P (lone (wj b tm ds (.code (.scope c) :: k)) cs w) = .next (lone (wj b tm ds (.code c :: .inScope c :: k)) cs w):=step_lone_go (by simp [stepG,stepG.exec,wj])
theorem XE {c:Code}:step P (lone (wj b tm ds (.code (.loop c) :: k)) cs w) = .next (lone (wj b tm ds (.code c :: .inLoop c :: k)) cs w):=step_lone_go (by simp [stepG,stepG.exec,wj])
theorem ic {c:Code}:step P (lone (wj b tm ds (.inLoop c :: k)) cs w) = .next (lone (wj b tm ds (.code c :: .inLoop c :: k)) cs w):=step_lone_go (by simp [stepG,stepG.exec,wj])
theorem py {id:Nat} {k':List Item} (h:exitTo id k=some k'):step P (lone (wj b tm ds (.code (.exit id) :: k)) cs w) = .next (lone (wj b tm ds k') cs w):=step_lone_go (by simp [stepG,stepG.exec,wj,h])
theorem ie {id:Nat} {ops:Array Oper}:step P (lone (wj b tm ds (.code (.region id ops false) :: k)) cs w) = .next (lone (wj b tm ds (.inRegion ops (List.range ops.size) :: k)) cs w):=step_lone_go (by simp [stepG,stepG.exec,wj])
theorem Yt {id:Nat} {ops:Array Oper}:step P (lone (wj b tm ds (.code (.region id ops true) :: k)) cs w) =
  .next (lone (wj b tm ds (.inRegion ops (Region.schedule (P.follows .mixedOrders) ops (w.tape w.drawn (.order b.fn id))) :: k)) cs { w with drawn:=w.drawn + 1 }) :=
 step_lone_go (by simp [stepG,stepG.exec,wj,choose,Sem.run,Question.forced,Question.cut])
theorem jN {ops:Array Oper}:step P (lone (wj b tm ds (.inRegion ops [] :: k)) cs w) = .next (lone (wj b tm ds k) cs w):=step_lone_go (by simp [stepG,stepG.exec,wj])
theorem Ay (hb:b.roundOf=none):step P (lone (wj b tm ds (.code .ret :: k)) cs w) = .next (lone { wj b tm ds (.code .ret :: k) with mode := .returning } cs w) :=
 step_lone_go (by simp [stepG,stepG.exec,wj,hb])
theorem Ax (hb:b.roundOf=none):step P (lone (wj b tm ds []) cs w) = .next (lone { wj b tm ds [] with mode := .returning } cs w) :=
 step_lone_go (by simp [stepG,stepG.exec,wj,hb])
theorem qc (ops:Array Oper) (i:Nat) (rest:List Nat) (v:Value) :
  (wj b tm ds (.inRegion ops (i :: rest) :: k)).finish v=wj b (vC tm ((ops[i]?).bind (·.dst)) v) ds (.inRegion ops rest :: k):=by
 cases h:(ops[i]?).bind (·.dst) <;> simp [Frame.finish,wj,vC,h]
theorem Vi {ops:Array Oper} {i:Nat} {rest:List Nat} (h:((ops[i]?).map (Region.wanted · (yielded ops tm))).getD false=false) :
  step P (lone (wj b tm ds (.inRegion ops (i :: rest) :: k)) cs w) = .next (lone ((wj b tm ds (.inRegion ops (i :: rest) :: k)).finish undef) cs w):=by
 exact step_lone_go (by
  have h':=h
  simp only [wj] at *
  simp [stepG,stepG.exec,h'])
def jY:Op->Bool
 | .defer _=>true
 | _=>false
theorem W3 {ops:Array Oper} {i:Nat} {rest:List Nat} {o:Oper} (ho:ops[i]? = some o) (hw:Region.wanted o (yielded ops tm)=true) (hd:jY o.op=false) :
  stepG P true { frame:=wj b tm ds (.inRegion ops (i :: rest) :: k),callers:=cs,status := .running,dying:=none } w =
   stepG.apply P true (wj b tm ds (.inRegion ops (i :: rest) :: k)) cs none (execOp (Act.eval ⟨tm,ds⟩) o) w:=by
 have he:=aE b tm ds (.inRegion ops (i :: rest) :: k)
 have hw':((ops[i]?).map (Region.wanted · (yielded ops tm))).getD false=true:=by rw [ho];exact hw
 have h2:(wj b tm ds (.inRegion ops (i :: rest) :: k)).oper? = some o:=by simp [Frame.oper?,wj,ho]
 have h1:stepG P true { frame:=wj b tm ds (.inRegion ops (i :: rest) :: k),callers:=cs,status := .running,dying:=none } w=stepG.oper P true (wj b tm ds (.inRegion ops (i :: rest) :: k)) cs none w:=by
  simp only [stepG,wj]
  simp only [stepG.exec,hw']
  rfl
 rw [h1]
 simp only [stepG.oper,h2,he]
 cases hro:(wj b tm ds (.inRegion ops (i :: rest) :: k)).roundOf with
 | none=>rfl
 | some l=>cases yB:o.op <;> first | rfl | (rw [yB] at hd;cases hd)
theorem jm {ops:Array Oper} {i:Nat} {rest:List Nat} {o:Oper} (ho:ops[i]? = some o) (hw:Region.wanted o (yielded ops tm)=true) (hd:jY o.op=false) {v:Value} {w':World}
  (hr:(execOp (Act.eval ⟨tm,ds⟩) o).run P w = .ok (.value v) w') :
  step P (lone (wj b tm ds (.inRegion ops (i :: rest) :: k)) cs w) = .next (lone ((wj b tm ds (.inRegion ops (i :: rest) :: k)).finish v) cs w') :=
 step_lone_go (by rw [W3 ho hw hd];simp [stepG.apply,hr])
theorem jX {ops:Array Oper} {i:Nat} {rest:List Nat} {o:Oper} (ho:ops[i]? = some o) (hw:Region.wanted o (yielded ops tm)=true) (hd:jY o.op=false) {w':World}
  (hr:(execOp (Act.eval ⟨tm,ds⟩) o).run P w = .ok .skip w') :
  step P (lone (wj b tm ds (.inRegion ops (i :: rest) :: k)) cs w) = .next (lone ((wj b tm ds (.inRegion ops (i :: rest) :: k)).finish undef) cs w') :=
 step_lone_go (by rw [W3 ho hw hd];simp [stepG.apply,hr])
theorem Wj {ops:Array Oper} {i:Nat} {rest:List Nat} {o:Oper} (ho:ops[i]? = some o) (hw:Region.wanted o (yielded ops tm)=true) (hd:jY o.op=false) {f:FuncId} {args:Array Value} {w':World}
  (hr:(execOp (Act.eval ⟨tm,ds⟩) o).run P w = .ok (.enter f args) w') :
  step P (lone (wj b tm ds (.inRegion ops (i :: rest) :: k)) cs w) = .next (lone (Frame.enter P f args .normal) (wj b tm ds (.inRegion ops (i :: rest) :: k) :: cs) w') :=
 step_lone_go (by rw [W3 ho hw hd];simp [stepG.apply,hr,wj])
end moves
end
noncomputable section
variable {P:Program}
inductive Ex where
 | normal
 | exit (id:Nat)
 | ret
 deriving DecidableEq
def La (P:Program) (m:Machine) (b:Frame) (k:List Item) (cs:List Frame) (e:Ex) (tm:Array Value) (ds:List Deferred) (w:World):Prop :=
 match e with
 | .normal=>Steps P m (lone (wj b tm ds k) cs w)
 | .exit id => ∃ todo,exitTo id todo=exitTo id k/\Steps P m (lone (wj b tm ds (.code (.exit id) :: todo)) cs w)
 | .ret => ∃ todo,Steps P m (lone (wj b tm ds (.code .ret :: todo)) cs w)
theorem La.of_steps {m m₁:Machine} {b:Frame} {k:List Item} {cs:List Frame} {e:Ex} {tm:Array Value} {ds:List Deferred} {w:World} (h:Steps P m m₁) (h':La P m₁ b k cs e tm ds w):La P m b k cs e tm ds w:=by
 cases e with
 | normal=>exact h.trans h'
 | exit id=>obtain ⟨t,e,s⟩:=h';exact ⟨t,e,h.trans s⟩
 | ret=>obtain ⟨t,s⟩:=h';exact ⟨t,h.trans s⟩
theorem C7 {ρ:yP} {h:za} {w:World} (hr:Rel P ρ h w) {r:Nat} {o:Obj} (ho:w.heap[r]? = some o) (hn:∃ x,o = .deferred x):¬ VY ρ h r:=by
 rintro ⟨b,ob,pl,hg,_,hm,rfl⟩
 obtain ⟨x,rfl⟩:=hn
 have hc:=hr.C9 hg hm
 cases ob with
 | cells c t=>obtain ⟨cs,fz,h1,_⟩:=hc;rw [h1] at ho;cases ho
 | map es q=>obtain ⟨ms,h1,_⟩:=hc;rw [h1] at ho;cases ho
 | iter m a b c=>obtain ⟨m',h1,_⟩:=hc;rw [h1] at ho;cases ho
 | tab c=>obtain ⟨t,cs,fz,h1,_⟩:=hc;rw [h1] at ho;cases ho
 | siter s pos=>have h1:w.heap[pl.c]? = _:=hc.1;rw [h1] at ho;cases ho
 | loop l=>obtain ⟨tm,d,fn,h1,_⟩:=hc;rw [h1] at ho;cases ho
theorem QU {w:World} {r:Nat} {o:Obj} (h:w.heap[r]? = some o):r < w.heap.size:=by
 rcases MX r w.heap.size with hl | hl
 ·exact hl
 ·rw [M9 hl] at h;cases h
def m7 (r:Nat):Deferred:={ target := .collected r,args := #[] }
def X3 (w:World) (ds:List Deferred) (w':World) (ds':List Deferred):Prop :=
 ∃ rs:List Nat,ds'=rs.map m7 ++ ds/\rs.Nodup /\ ∀ r,r ∈ rs->w.heap.size<=r/\w'.heap[r]? = some (.deferred (some []))
theorem X3.refl (w w':World) (ds:List Deferred):X3 w ds w' ds:=⟨[],rfl,List.nodup_nil,fun r h=>by cases h⟩
theorem X3.trans {ρ ρ':yP} {h h':za} {w w1 w2:World} {ds ds1 ds2:List Deferred} (a:X3 w ds w1 ds1) (b:X3 w1 ds1 w2 ds2) (hle:w.heap.size<=w1.heap.size) (hr:Rel P ρ h w1) (st:Step P ρ h w1 ρ' h' w2):X3 w ds w2 ds2:=by
 obtain ⟨rs,h1,h2,h3⟩:=a
 obtain ⟨rs2,k1,k2,k3⟩:=b
 refine ⟨rs2 ++ rs,by rw [k1,h1,Ov,List.append_assoc],List.nodup_append.2 ⟨k2,h2,fun x hx y hy e => ?_⟩,fun r hr' => ?_⟩
 ·have:=(k3 x hx).1
  have:=QU (h3 y hy).2
  omega
 ·rcases Ns.1 hr' with hm | hm
  ·exact ⟨Nm hle (k3 r hm).1,(k3 r hm).2⟩
  ·have:=(h3 r hm).2
   refine ⟨(h3 r hm).1,?_⟩
   rw [st.frame r (QU this) (C7 hr this ⟨_,rfl⟩)]
   exact this
def Rd (ρ:yP) (rd:Option Nat) (b:Frame):Prop :=
 match rd with
 | none=>b.roundOf=none
 | some l=>l < ρ.next /\ ∃ pl,ρ.m l=some pl/\b.roundOf=some pl.c
theorem Rd.mono {ρ ρ':yP} (hle:ρ.le ρ') {rd:Option Nat} {b:Frame} (h:Rd ρ rd b):Rd ρ' rd b:=by
 cases rd with
 | none=>exact h
 | some l=>exact ⟨ML h.1 hle.1,by obtain ⟨pl,hp,hb⟩:=h.2;exact ⟨pl,(hle.2 l h.1).trans hp,hb⟩⟩
def T (P:Program) (rd:Option Nat) (c:Code) (s:Env) (h:za) (Q:Ex->Env->za->Prop):Prop :=
 ∀ (ρ:yP) (w:World) (tm:Array Value) (ds:List Deferred),Rel P ρ h w->wA ρ s tm->∀ (b:Frame),Rd ρ rd b->∀ (k:List Item) (cs:List Frame),
   ∃ e s' h' ρ' w' tm' ds',Q e s' h'/\Step P ρ h w ρ' h' w'/\wA ρ' s' tm'/\X3 w ds w' ds'/\La P (lone (wj b tm ds (.code c :: k)) cs w) b k cs e tm' ds' w'
def TO (P:Program) (ops:Array Oper) (l:List Nat) (s:Env) (h:za) (Q:Env->za->Prop):Prop :=
 ∀ (ρ:yP) (w:World) (tm:Array Value) (ds:List Deferred),Rel P ρ h w->wA ρ s tm->∀ (b:Frame) (k:List Item) (cs:List Frame),
   ∃ s' h' ρ' w' tm',Q s' h'/\Step P ρ h w ρ' h' w'/\wA ρ' s' tm'/\Steps P (lone (wj b tm ds (.inRegion ops l :: k)) cs w) (lone (wj b tm' ds (.inRegion ops [] :: k)) cs w')
def TC (P:Program) (f:FuncId) (args:List Value) (h:za) (R:Value->za->Prop):Prop :=
 ∀ (ρ:yP) (w:World) (cargs:List Value),Rel P ρ h w->xp ρ args cargs ->
   Calls P f cargs.toArray w fun e w' => ∃ v v' h' ρ',e = .returned v'/\R v h'/\Step P ρ h w ρ' h' w'/\zD ρ' v v'
section rules
variable {rd:Option Nat} {s:Env} {h:za} {Q:Ex->Env->za->Prop}
theorem T.mono {c:Code} {Q':Ex->Env->za->Prop} (ht:T P rd c s h Q) (hq:∀ e s h,Q e s h->Q' e s h):T P rd c s h Q':=by
 intro ρ w tm ds hr hs b hb k cs
 obtain ⟨e,s',h',ρ',w',tm',ds',q,r⟩:=ht ρ w tm ds hr hs b hb k cs
 exact ⟨e,s',h',ρ',w',tm',ds',hq _ _ _ q,r⟩
theorem TC.mono {f:FuncId} {args:List Value} {R R':Value->za->Prop} (ht:TC P f args h R) (hq:∀ v h,R v h->R' v h):TC P f args h R':=by
 intro ρ w cargs hr hv
 refine (ht ρ w cargs hr hv).mono fun e w' => ?_
 rintro ⟨v,v',h',ρ',e1,q,r⟩
 exact ⟨v,v',h',ρ',e1,hq _ _ q,r⟩
theorem Bk (hq:Q .normal s h):T P rd .skip s h Q:=fun ρ w tm ds hr hs b hb k cs=>⟨.normal,s,h,ρ,w,tm,ds,hq,.refl hr,hs,.refl _ _ _,.one pz⟩
theorem rJ {l:Nat} (hq:Q .normal s h):T P rd (.label l) s h Q:=fun ρ w tm ds hr hs b hb k cs=>⟨.normal,s,h,ρ,w,tm,ds,hq,.refl hr,hs,.refl _ _ _,.one mR⟩
theorem Bj {id:Nat} (hq:Q (.exit id) s h):T P rd (.exit id) s h Q:=fun ρ w tm ds hr hs b hb k cs=>⟨.exit id,s,h,ρ,w,tm,ds,hq,.refl hr,hs,.refl _ _ _,k,rfl,.refl P _⟩
theorem E8 (hq:Q .ret s h):T P rd .ret s h Q:=fun ρ w tm ds hr hs b hb k cs=>⟨.ret,s,h,ρ,w,tm,ds,hq,.refl hr,hs,.refl _ _ _,k,.refl P _⟩
theorem rL {x y:Code} (ht:T P rd x s h (fun e s1 h1=>match e with | .normal=>T P rd y s1 h1 Q | e=>Q e s1 h1)):T P rd (.seq x y) s h Q:=by
 intro ρ w tm ds hr hs b hb k cs
 obtain ⟨e,s1,h1,ρ1,w1,tm1,ds1,q,st,hs1,hd1,ha⟩:=ht ρ w tm ds hr hs b hb (.code y :: k) cs
 cases e with
 | normal=>
   obtain ⟨e2,s2,h2,ρ2,w2,tm2,ds2,q2,st2,hs2,hd2,ha2⟩:=q ρ1 w1 tm1 ds1 st.rel hs1 b (hb.mono st.le) k cs
   exact ⟨e2,s2,h2,ρ2,w2,tm2,ds2,q2,st.trans st2,hs2,hd1.trans hd2 st.size st.rel st2,.of_steps (.head QM ha) ha2⟩
 | exit id=>obtain ⟨t,et,sx⟩:=ha;exact ⟨_,s1,h1,ρ1,w1,tm1,ds1,q,st,hs1,hd1,t,et,.head QM sx⟩
 | ret=>obtain ⟨t,sx⟩:=ha;exact ⟨_,s1,h1,ρ1,w1,tm1,ds1,q,st,hs1,hd1,t,.head QM sx⟩
theorem gd {c:Operand} {x y:Code} {t:Bool} (hc:uN s c=some (.bool t)) (ht:T P rd (if t then x else y) s h Q):T P rd (.cond c x y) s h Q:=by
 intro ρ w tm ds hr hs b hb k cs
 obtain ⟨e,s1,h1,ρ1,w1,tm1,ds1,q,st,hs1,hd1,ha⟩:=ht ρ w tm ds hr hs b hb k cs
 have he:=zP (a:=⟨tm,ds⟩) hs hc
 have:Act.eval ⟨tm,ds⟩ c = .bool t:=by
  generalize Act.eval ⟨tm,ds⟩ c=v at he
  cases he;rfl
 exact ⟨e,s1,h1,ρ1,w1,tm1,ds1,q,st,hs1,hd1,.of_steps (.one (px this)) ha⟩
theorem V1 {id:Nat} {c:Code} (ht:T P rd c s h (fun e s1 h1=>if e = .exit id then Q .normal s1 h1 else Q e s1 h1)):T P rd (.block id c) s h Q:=by
 intro ρ w tm ds hr hs b hb k cs
 obtain ⟨e,s1,h1,ρ1,w1,tm1,ds1,q,st,hs1,hd1,ha⟩:=ht ρ w tm ds hr hs b hb (.inBlock id :: k) cs
 cases e with
 | normal=>rw [MJ (by simp)] at q;exact ⟨.normal,s1,h1,ρ1,w1,tm1,ds1,q,st,hs1,hd1,.head Ys (Oj ha (.one cX))⟩
 | exit id'=>
   obtain ⟨t,et,sx⟩:=ha
   by_cases hid:id'=id
   ·subst hid
    rw [MK rfl] at q
    refine ⟨.normal,s1,h1,ρ1,w1,tm1,ds1,q,st,hs1,hd1,.head Ys (sx.trans (.one (py (k':=k) ?_)))⟩
    rw [et];simp [exitTo]
   ·rw [MJ (by simpa using hid)] at q
    refine ⟨.exit id',s1,h1,ρ1,w1,tm1,ds1,q,st,hs1,hd1,t,?_,.head Ys sx⟩
    rw [et]
    have:(id == id')=false:=by simp;exact fun h=>hid h.symm
    simp [exitTo,this]
 | ret=>obtain ⟨t,sx⟩:=ha;rw [MJ (by simp)] at q;exact ⟨.ret,s1,h1,ρ1,w1,tm1,ds1,q,st,hs1,hd1,t,.head Ys sx⟩
theorem rK {c:Code} (ht:T P rd c s h Q):T P rd (.scope c) s h Q:=by
 intro ρ w tm ds hr hs b hb k cs
 obtain ⟨e,s1,h1,ρ1,w1,tm1,ds1,q,st,hs1,hd1,ha⟩:=ht ρ w tm ds hr hs b hb (.inScope c :: k) cs
 cases e with
 | normal=>exact ⟨.normal,s1,h1,ρ1,w1,tm1,ds1,q,st,hs1,hd1,.head Wk (Oj ha (.one cY))⟩
 | exit id=>obtain ⟨t,et,sx⟩:=ha;exact ⟨_,s1,h1,ρ1,w1,tm1,ds1,q,st,hs1,hd1,t,by rw [et];simp [exitTo],.head Wk sx⟩
 | ret=>obtain ⟨t,sx⟩:=ha;exact ⟨_,s1,h1,ρ1,w1,tm1,ds1,q,st,hs1,hd1,t,.head Wk sx⟩
theorem Yg {c:Code} (ht:T P rd c s h (fun e s1 h1=>match e with | .normal=>T P rd (.loop c) s1 h1 Q | e=>Q e s1 h1)):T P rd (.loop c) s h Q:=by
 intro ρ w tm ds hr hs b hb k cs
 obtain ⟨e,s1,h1,ρ1,w1,tm1,ds1,q,st,hs1,hd1,ha⟩:=ht ρ w tm ds hr hs b hb (.inLoop c :: k) cs
 cases e with
 | normal=>
   obtain ⟨e2,s2,h2,ρ2,w2,tm2,ds2,q2,st2,hs2,hd2,ha2⟩:=q ρ1 w1 tm1 ds1 st.rel hs1 b (hb.mono st.le) k cs
   refine ⟨e2,s2,h2,ρ2,w2,tm2,ds2,q2,st.trans st2,hs2,hd1.trans hd2 st.size st.rel st2,?_⟩
   have e0:step P (lone (wj b tm1 ds1 (.inLoop c :: k)) cs w1)=step P (lone (wj b tm1 ds1 (.code (.loop c) :: k)) cs w1):=by rw [ic,XE]
   have key:∀ m',Steps P (lone (wj b tm1 ds1 (.code (.loop c) :: k)) cs w1) m'->(m'=lone (wj b tm1 ds1 (.code (.loop c) :: k)) cs w1)\/Steps P (lone (wj b tm1 ds1 (.inLoop c :: k)) cs w1) m':=by
    rintro m' ⟨n,hn⟩
    cases n with
    | zero=>left;simp [runN] at hn;exact hn.symm
    | succ n=>right;exact ⟨n + 1,by simp only [runN] at hn ⊢;rw [e0];exact hn⟩
   have go:∀ m',Steps P (lone (wj b tm1 ds1 (.code (.loop c) :: k)) cs w1) m'->m' ≠ lone (wj b tm1 ds1 (.code (.loop c) :: k)) cs w1->Steps P (lone (wj b tm ds (.code (.loop c) :: k)) cs w) m':=by
    intro m' hm hne
    exact (Steps.head XE ha).trans ((key m' hm).resolve_left hne)
   have neq:∀ (k':List Item) tm' ds' w',(k'=k\/(∃ x t,k' = .code x :: t /\ ∀ c,x ≠ .loop c))->lone (wj b tm' ds' k') cs w' ≠ lone (wj b tm1 ds1 (.code (.loop c) :: k)) cs w1:=by
    intro k' tm' ds' w' hk' e
    simp only [lone,Machine.mk.injEq,Array.mk.injEq,NF,Goroutine.mk.injEq,wj,Frame.mk.injEq] at e
    have e:=e.2.1.1.1.2.2.1
    rcases hk' with rfl | ⟨x,t,rfl,hx⟩
    ·have:=congrArg List.length e;simp at this
    ·simp only [NF,Item.code.injEq] at e;exact hx c e.1
   cases e2 with
   | normal=>exact go _ ha2 (neq _ _ _ _ (.inl rfl))
   | exit id=>obtain ⟨t,et,sx⟩:=ha2;exact ⟨t,et,go _ sx (neq _ _ _ _ (.inr ⟨_,_,rfl,fun c=>by simp⟩))⟩
   | ret=>obtain ⟨t,sx⟩:=ha2;exact ⟨t,go _ sx (neq _ _ _ _ (.inr ⟨_,_,rfl,fun c=>by simp⟩))⟩
 | exit id=>obtain ⟨t,et,sx⟩:=ha;exact ⟨_,s1,h1,ρ1,w1,tm1,ds1,q,st,hs1,hd1,t,by rw [et];simp [exitTo],.head XE sx⟩
 | ret=>obtain ⟨t,sx⟩:=ha;exact ⟨_,s1,h1,ρ1,w1,tm1,ds1,q,st,hs1,hd1,t,.head XE sx⟩
end rules
def yg (ops:Array Oper) (s:Env) (o:Oper):Bool :=
 match o.guard with
 | none=>true
 | some (j,want)=>(match (ops[j]?).bind (·.dst) with
   | none=>false
   | some d=>(match s.get d with
     | .bool b=>b == want
     | _=>false))
theorem jL {ρ:yP} {s:Env} {tm:Array Value} (hs:wA ρ s tm) (ops:Array Oper) (o:Oper):Region.wanted o (yielded ops tm)=yg ops s o:=by
 unfold Region.wanted yg
 split
 ·rename_i e;rw [e]
 ·rename_i j want e
  rw [e]
  simp only [yielded]
  cases hd:(ops[j]?).bind (·.dst) with
  | none=>rfl
  | some d=>
    simp only [Nd]
    have hv:=hs.get d
    cases ht:tm[d]? with
    | none=>
      have:tm.getD d undef=undef:=by simp [MW,ht]
      rw [this] at hv
      generalize s.get d=sv at hv
      cases hv with
      | iN h=>cases h
      | tuple _ _=>rfl
    | some tv=>
      have:tm.getD d undef=tv:=by simp [MW,ht]
      rw [this] at hv
      generalize s.get d=sv at hv
      cases hv with
      | iN h=>cases tv <;> first | rfl | cases h
      | bool bb=>cases bb <;> cases want <;> rfl
      | _=>rfl
section ops
variable {s:Env} {h:za} {Q:Env->za->Prop} {ops:Array Oper}
theorem Bi (hq:Q s h):TO P ops [] s h Q:=fun ρ w tm ds hr hs b k cs=>⟨s,h,ρ,w,tm,hq,.refl hr,hs,.refl P _⟩
theorem Z3 {o:Oper} {v:Value} {h1:za} (ho:Vf P s o h=some (v,h1)):jY o.op=false:=by
 cases yB:o.op <;> first | rfl | (unfold Vf at ho;rw [yB] at ho;cases ho)
theorem E6 {i:Nat} {rest:List Nat} {o:Oper} (ho:ops[i]? = some o) (hw:yg ops s o=true) {v:Value} {h1:za} {s1:Env} (hd:jY o.op=false) (hok:∀ (ρ:yP) (w:World) (a:Act),Rel P ρ h w->wA ρ s a.tmps->K9 P ρ h w (execOp a.eval o) v h1) (hp:s.put o.dst v=some s1) (ht:TO P ops rest s1 h1 Q) :
  TO P ops (i :: rest) s h Q:=by
 intro ρ w tm ds hr hs b k cs
 obtain ⟨n,w1,ρ1,v',e,hn,st,hv⟩:=hok ρ w ⟨tm,ds⟩ hr hs
 have hs1:wA ρ1 s1 (vC tm o.dst v'):=(hs.mono st.le).put hv hp
 obtain ⟨s2,h2,ρ2,w2,tm2,q,st2,hs2,sx⟩:=ht ρ1 w1 _ ds st.rel hs1 b k cs
 have hw':Region.wanted o (yielded ops tm)=true:=(jL hs ops o).trans hw
 refine ⟨s2,h2,ρ2,w2,tm2,q,st.trans st2,hs2,.head ?_ sx⟩
 have hfin:(wj b tm ds (.inRegion ops (i :: rest) :: k)).finish v'=wj b (vC tm o.dst v') ds (.inRegion ops rest :: k):=by
  rw [qc,ho];rfl
 rw [<- hfin]
 rcases hn with rfl | ⟨rfl,rfl⟩
 ·exact jm ho hw' hd e
 ·exact jX ho hw' hd e
theorem E7 {i:Nat} {rest:List Nat} {o:Oper} (ho:ops[i]? = some o) (hw:yg ops s o=true) {v:Value} {h1:za} {s1:Env} (yB:Vf P s o h=some (v,h1)) (hp:s.put o.dst v=some s1) (ht:TO P ops rest s1 h1 Q) :
  TO P ops (i :: rest) s h Q:=by
 intro ρ w tm ds hr hs b k cs
 obtain ⟨n,w1,ρ1,v',e,hn,st,hv⟩:=ft (a:=⟨tm,ds⟩) yB hr hs
 have hs1:wA ρ1 s1 (vC tm o.dst v'):=(hs.mono st.le).put hv hp
 obtain ⟨s2,h2,ρ2,w2,tm2,q,st2,hs2,sx⟩:=ht ρ1 w1 _ ds st.rel hs1 b k cs
 have hw':Region.wanted o (yielded ops tm)=true:=(jL hs ops o).trans hw
 refine ⟨s2,h2,ρ2,w2,tm2,q,st.trans st2,hs2,.head ?_ sx⟩
 have hfin:(wj b tm ds (.inRegion ops (i :: rest) :: k)).finish v'=wj b (vC tm o.dst v') ds (.inRegion ops rest :: k):=by
  rw [qc,ho];rfl
 rw [<- hfin]
 rcases hn with rfl | ⟨rfl,rfl⟩
 ·exact jm ho hw' (Z3 yB) e
 ·exact jX ho hw' (Z3 yB) e
theorem rI {i:Nat} {rest:List Nat} {o:Oper} (ho:ops[i]? = some o) (hw:yg ops s o=false) {s1:Env} (hp:s.put o.dst undef=some s1) (ht:TO P ops rest s1 h Q):TO P ops (i :: rest) s h Q:=by
 intro ρ w tm ds hr hs b k cs
 have hs1:wA ρ s1 (vC tm o.dst undef):=hs.put (.qD _ rfl) hp
 obtain ⟨s2,h2,ρ2,w2,tm2,q,st2,hs2,sx⟩:=ht ρ w _ ds hr hs1 b k cs
 refine ⟨s2,h2,ρ2,w2,tm2,q,st2,hs2,.head ?_ sx⟩
 have hw':Region.wanted o (yielded ops tm)=false:=(jL hs ops o).trans hw
 rw [Vi (by rw [ho];exact hw'),qc,ho]
 rfl
def wK (P:Program) (g:FuncId):Bool :=
 match P.funcs[g]? with
 | some fn=>fn.body.isSome && !(fn.name == "runtime.NumGoroutine")
 | none=>false
theorem rH {i:Nat} {rest:List Nat} {o:Oper} {f:Operand} {cargs:Array Operand} {ts:Array TypeId} {g:FuncId} {fa fc:Array Value} {vs:List Value} {R:Value->za->Prop}
  (ho:ops[i]? = some o) (hw:yg ops s o=true) (yB:o.op = .call { callee := .value f,args:=cargs,argTypes:=ts }) (hf:uN s f=some (.func (.func g) fa fc)) (hargs:YU s cargs.toList=some vs)
  (hcall:wK P g=true) (hc:TC P g (fa.toList ++ vs ++ fc.toList) h R) (ht:∀ v h1,R v h1->∃ s1,s.put o.dst v=some s1/\TO P ops rest s1 h1 Q):TO P ops (i :: rest) s h Q:=by
 intro ρ w tm ds hr hs b k cs
 have hw':Region.wanted o (yielded ops tm)=true:=(jL hs ops o).trans hw
 have e1:=zP (a:=⟨tm,ds⟩) hs hf
 have e2:=u9 (a:=⟨tm,ds⟩) hs hargs
 generalize hfv:Act.eval ⟨tm,ds⟩ f=fv at e1
 cases e1 with
 | func ha hcs h1 h2=>
   rename_i fa' fc'
   let full:=fa'.toList ++ cargs.toList.map (Act.eval ⟨tm,ds⟩) ++ fc'.toList
   have hfull:xp ρ (fa.toList ++ vs ++ fc.toList) full :=
    (xp.append ⟨by simpa using ha,fun i x y hx hy=>h1 i x y (by simpa using hx) (by simpa using hy)⟩ e2).append ⟨by simpa using hcs,fun i x y hx hy=>h2 i x y (by simpa using hx) (by simpa using hy)⟩
   have hrun:(execOp (Act.eval ⟨tm,ds⟩) o).run P w = .ok (.enter g full.toArray) w:=by
    have hargs':fa' ++ cargs.map (Act.eval ⟨tm,ds⟩) ++ fc'=full.toArray:=by apply Om;simp [full]
    simp only [execOp,yB,resolve,hfv,Deferred.ofValue,ME,MN,Mz,invoke,callFunc,run_program,hargs']
    unfold wK at hcall
    cases hfn:P.funcs[g]? with
    | none=>rw [hfn] at hcall;cases hcall
    | some fn=>
      rw [hfn] at hcall
      simp only [MG,MU] at hcall
      simp only [hcall.2,Nz,MS]
      rw [MJ (by cases hb:fn.body <;> simp_all)]
      rfl
   obtain ⟨e,w1,fr,⟨v,v',h',ρ',rfl,hR,st,hv⟩,hcomes,_,hleave⟩:=hc ρ w full hr hfull (wj b tm ds (.inRegion ops (i :: rest) :: k) :: cs)
   obtain ⟨s1,hp,hrest⟩:=ht v h' hR
   have hs1:wA ρ' s1 (vC tm o.dst v'):=(hs.mono st.le).put hv hp
   obtain ⟨s2,h2,ρ2,w2,tm2,q,st2,hs2,sx⟩:=hrest ρ' w1 _ ds st.rel hs1 b k cs
   have hd:jY o.op=false:=by rw [yB];rfl
   refine ⟨s2,h2,ρ2,w2,tm2,q,st.trans st2,hs2,.head (Wj ho hw' hd hrun) (Oj hcomes (.head (step_leave_returned hleave) ?_))⟩
   rw [qc,ho]
   exact sx
end ops
def sF (P:Program) (g:FuncId) (args:List Value) (h:za):Option (Value × za) :=
 match P.funcs[g]? with
 | some fn=>cond (fn.body.isNone && decide (fn.name = "internal/abi.NoEscape") && (Extern.findNext fn).isNone) (match args with
   | [x]=>some (x,h)
   | _=>none) none
 | none=>none
theorem ph {fn:Func} (h:fn.name = "internal/abi.NoEscape"):Extern.find fn=some Extern.AbiNoEscape.same:=by
 unfold Extern.find
 rw [h]
 rfl
theorem C6 {ρ:yP} {s:Env} {h h1:za} {w:World} {a:Act} {o:Oper} {f:Operand} {cargs:Array Operand} {ts:Array TypeId} {g:FuncId} {fa fc:Array Value} {vs:List Value} {v:Value}
  (yB:o.op = .call { callee := .value f,args:=cargs,argTypes:=ts }) (hf:uN s f=some (.func (.func g) fa fc)) (hargs:YU s cargs.toList=some vs) (he:sF P g (fa.toList ++ vs ++ fc.toList) h=some (v,h1)) (hr:Rel P ρ h w) (hs:wA ρ s a.tmps) :
  K9 P ρ h w (execOp a.eval o) v h1:=by
 have e1:=zP hs hf
 have e2:=u9 hs hargs
 generalize hfv:a.eval f=fv at e1
 cases e1 with
 | func ha hcs q1 q2=>
   rename_i fa' fc'
   let full:=fa'.toList ++ cargs.toList.map a.eval ++ fc'.toList
   have hfull:xp ρ (fa.toList ++ vs ++ fc.toList) full :=
    (xp.append ⟨by simpa using ha,fun i x y hx hy=>q1 i x y (by simpa using hx) (by simpa using hy)⟩ e2).append ⟨by simpa using hcs,fun i x y hx hy=>q2 i x y (by simpa using hx) (by simpa using hy)⟩
   have hargs':fa' ++ cargs.map a.eval ++ fc'=full.toArray:=by apply Om;simp [full]
   unfold sF at he
   split at he
   case h_2=>cases he
   rename_i fn hfn
   obtain ⟨hc,he⟩:=zt he
   simp only [MG,Nj] at hc
   obtain ⟨⟨hb,hn⟩,hx⟩:=hc
   split at he
   case h_2=>cases he
   rename_i x hl
   simp only [My,MC] at he
   obtain ⟨rfl,rfl⟩:=he
   rw [hl] at hfull
   obtain ⟨y,ys,hy,v1,hv2⟩:=hfull.cons_inv
   cases hv2.wX
   have hfn':Extern.findNext fn=none:=by simpa using hx
   refine ⟨.value y,w,ρ,y,?_,.inl rfl,.refl hr,v1⟩
   simp only [execOp,yB,resolve,hfv,Deferred.ofValue,ME,MN,Mz,invoke,hargs',hy]
   rw [Go.run_callFunc_extern hfn (by rw [hn];decide) hb hfn' (ph hn)]
   rfl
def bH (P:Program) (g:FuncId) (args:List Value) (h:za):Option (Value × za) :=
 match P.funcs[g]?,args with
 | some fn,[.int .i64 n]=>cond (fn.body.isNone && decide (fn.name = "internal/bytealg.MakeNoZero") && (Extern.findNext fn).isNone && decide (0<=n) && decide (n<=2 ^ 48))
   (match fn.resultTypes[0]? with
    | some t=>(match zU P (underlying t) with
      | some (.slice e)=>cond (Nat.beq (P.cellsOf e) 1) (some (.slice (some ⟨h.next,0,none⟩) n.toNat 1,h.push (.cells [] e))) none
      | _=>none)
    | none=>none) none
 | _,_=>none
theorem cW {fn:Func} (h:fn.name = "internal/bytealg.MakeNoZero"):Extern.find fn=some (Extern.BytealgMakeNoZero.makeNoZero fn.params fn.resultTypes):=by
 unfold Extern.find
 rw [h]
 rfl
theorem iH {ρ:yP} {h:za} {w:World} (hr:Rel P ρ h w) {ps rs:Array TypeId} {t e:TypeId} {n:Int} (ht:rs[0]? = some t) (hu:zU P (underlying t)=some (.slice e)) (hc:P.cellsOf e=1) (h0:0<=n) (hn:n<=2 ^ 48) :
  ∃ v' w' ρ',(Extern.BytealgMakeNoZero.makeNoZero ps rs #[.int .i64 n]).run P w = .ok v' w'/\Step P ρ h w ρ' (h.push (.cells [] e)) w'/\zD ρ' (.slice (some ⟨h.next,0,none⟩) n.toNat 1) v':=by
 let q:Question := .appendCap n.toNat 0 e
 let cap:=q.cut (w.tape w.drawn q)
 have hge:n.toNat<=cap:=by show n.toNat<=n.toNat + _ % _;omega
 let w1:World:={ w with drawn:=w.drawn + 1 }
 let q2:Question := .extern "internal/bytealg.MakeNoZero.bytes" 0
 let bytes:=q2.cut (w1.tape w1.drawn q2)
 let w2:World:={ w1 with drawn:=w1.drawn + 1 }
 let cs:=Extern.BytealgMakeNoZero.digits cap bytes #[]
 have hcs:cs.size=cap:=by simp only [cs,Lib.size_digits];simp
 have hr2:Rel P ρ h w2:=hr.grow (fun k _=>rfl)
 let w3:World:={ w2 with heap:=w2.heap.push (.cells cs e) }
 have st:=Step.push (t:=e) hr2 (c:=[]) (cs:=cs) (fz:=(0,0)) (w':=w3) rfl (fun i _ hi=>by simp at hi) (by simp) (fun k x hx=>by simp at hx) rfl rfl rfl
 refine ⟨.slice (some ⟨w.heap.size,0,none⟩) n.toNat cap,w3,_,?_,⟨st.le,st.rel,st.ro,st.os,st.tape,st.output,st.size,st.frame,st.KI⟩,?_⟩
 ·have hq:(choose (.appendCap n.toNat 0 e)).run P w = .ok cap w1:=by rw [run_choose];rfl
  have hq2:(choose (.extern "internal/bytealg.MakeNoZero.bytes" 0)).run P w1 = .ok bytes w2:=by rw [run_choose];rfl
  have hneg:¬ (n < 0\/n > 2 ^ 48):=by omega
  have hnr:(newRow e cs).run P w2 = .ok ⟨w.heap.size,0,none⟩ w3:=rfl
  rw [show Extern.BytealgMakeNoZero.makeNoZero ps rs #[.int .i64 n]=(match rs[0]? with | some t=>(underlying t >>= _) | _=>_) from rfl]
  simp only [ht,ME,zg hu,Mz]
  rw [MJ (by simpa using hneg)]
  simp only [ME,hq,Mz,run_askRoom,hq2]
  rw [show Extern.BytealgMakeNoZero.digits cap bytes #[]=cs from rfl,hnr]
  rfl
 ·have:=zD.slice (ρ:=ρ.ext ⟨w2.heap.size,0,cs.size,P.cellsOf e⟩) (b:=h.next) (off:=0) (len:=n.toNat) (c:=1) (cap:=cap) (pl:=⟨w2.heap.size,0,cs.size,P.cellsOf e⟩)
   (by show h.next < ρ.next + 1;rw [hr.next];exact NN _) (by rw [<- hr.next];exact ρ.uo _) hge (fun _=>⟨by simp [hc,hcs],fun k hk=>by omega⟩)
  exact this
def gR (P:Program) (g:FuncId) (args:List Value) (h:za):Option (Value × za) :=
 match sF P g args h with
 | some r=>some r
 | none=>bH P g args h
theorem gS {ρ:yP} {s:Env} {h h1:za} {w:World} {a:Act} {o:Oper} {f:Operand} {cargs:Array Operand} {ts:Array TypeId} {g:FuncId} {fa fc:Array Value} {vs:List Value} {v:Value}
  (yB:o.op = .call { callee := .value f,args:=cargs,argTypes:=ts }) (hf:uN s f=some (.func (.func g) fa fc)) (hargs:YU s cargs.toList=some vs) (he:gR P g (fa.toList ++ vs ++ fc.toList) h=some (v,h1)) (hr:Rel P ρ h w) (hs:wA ρ s a.tmps) :
  K9 P ρ h w (execOp a.eval o) v h1:=by
 unfold gR at he
 split at he
 ·rename_i r hn
  simp only [My] at he
  subst he
  exact C6 yB hf hargs hn hr hs
 ·have e1:=zP hs hf
  have e2:=u9 hs hargs
  generalize hfv:a.eval f=fv at e1
  cases e1 with
  | func ha hcs q1 q2=>
    rename_i fa' fc'
    let full:=fa'.toList ++ cargs.toList.map a.eval ++ fc'.toList
    have hfull:xp ρ (fa.toList ++ vs ++ fc.toList) full :=
     (xp.append ⟨by simpa using ha,fun i x y hx hy=>q1 i x y (by simpa using hx) (by simpa using hy)⟩ e2).append ⟨by simpa using hcs,fun i x y hx hy=>q2 i x y (by simpa using hx) (by simpa using hy)⟩
    have hargs':fa' ++ cargs.map a.eval ++ fc'=full.toArray:=by apply Om;simp [full]
    unfold bH at he
    split at he
    case h_2=>cases he
    rename_i fn n hfn hl
    obtain ⟨hc,he2⟩:=zt he
    clear he
    simp only [MG,Nj] at hc
    obtain ⟨⟨⟨⟨hb,hn⟩,hx⟩,h0⟩,h48⟩:=hc
    split at he2
    case h_2=>cases he2
    rename_i t ht
    split at he2
    case h_2=>cases he2
    rename_i e hu
    obtain ⟨hce,he3⟩:=zt he2
    simp only [My,MC] at he3
    obtain ⟨rfl,rfl⟩:=he3
    rw [hl] at hfull
    obtain ⟨y,ys,hy,v1,hv2⟩:=hfull.cons_inv
    cases hv2.wX
    cases v1
    have hfn':Extern.findNext fn=none:=by simpa using hx
    obtain ⟨v',w',ρ',er,st,hv⟩:=iH (ps:=fn.params) hr ht hu (MQ hce) h0 h48
    refine ⟨.value v',w',ρ',v',?_,.inl rfl,st,hv⟩
    simp only [execOp,yB,resolve,hfv,Deferred.ofValue,ME,MN,Mz,invoke,hargs',hy]
    rw [Go.run_callFunc_extern hfn (by rw [hn];decide) hb hfn' (cW hn),er]
    rfl
def Q1:Value->Bool
 | .tuple a=>a.toList.all flat
 | v=>flat v
theorem sR {ρ:yP} {v v':Value} (h:zD ρ v v') (hp:Q1 v=true) (ρ2:yP):zD ρ2 v v':=by
 cases v with
 | tuple a=>
   cases h with
   | tuple ha hv=>
     simp only [Q1,Ni] at hp
     refine .tuple ha (fun i x y hx hy => ?_)
     have hf:=hp x (Np (by simpa using hx))
     rw [ur (hv i x y hx hy) hf]
     exact .of_flat _ hf
 | _=>rw [ur h hp];exact .of_flat _ hp
theorem Rel.lock {ρ:yP} {h:za} {w:World} (hr:Rel P ρ h w):Rel P ρ h.lock w :=
 ⟨hr.next,MI _,hr.XU,fun b o hb=>by obtain ⟨pl,hp,hc⟩:=hr.ok b o hb;exact ⟨pl,hp,hc.Bb (fun e=>by
  have:h.next<=b:=NH e
  have:=hr.XU b _ hb
  omega)⟩,hr.inj,Nm hr.QO hr.ro,hr.kx⟩
theorem TC.quiet {f:FuncId} {args:List Value} {h:za} {R:Value->za->Prop} (ht:TC P f args h.lock R) (hsc:∀ v h1,R v h1->Q1 v=true):TC P f args h (fun v h1=>(∃ h2,R v h2)/\h1=h):=by
 intro ρ w cargs hr hv
 refine (ht ρ w cargs hr.lock hv).mono fun e w' => ?_
 rintro ⟨v,v',h',ρ',e1,hR,st,hvv⟩
 have hsame:∀ c,c < w.heap.size->w'.heap[c]? = w.heap[c]?:=fun c hc=>st.frame c hc (by
  rintro ⟨b,o,pl,hg,hro,_⟩
  have h1:h.next<=b:=hro
  have h2:=hr.XU b o hg
  omega)
 exact ⟨v,v',h,ρ,e1,⟨⟨h',hR⟩,rfl⟩,⟨yP.le_refl _,hr.grow hsame,rfl,st.os,st.tape,st.output,st.size,fun c hc _=>hsame c hc,fun c _ hm=>hm⟩,sR hvv (hsc v h' hR) ρ⟩
theorem iV {rd:Option Nat} {id:Nat} {ops:Array Oper} {s:Env} {h:za} {Q:Ex->Env->za->Prop} (ht:TO P ops (List.range ops.size) s h (fun s1 h1=>Q .normal s1 h1)):T P rd (.region id ops false) s h Q:=by
 intro ρ w tm ds hr hs b hb k cs
 obtain ⟨s1,h1,ρ1,w1,tm1,q,st,hs1,sx⟩:=ht ρ w tm ds hr hs b k cs
 exact ⟨.normal,s1,h1,ρ1,w1,tm1,ds,q,st,hs1,.refl _ _ _,.head ie (sx.trans (.one jN))⟩
end
noncomputable section
variable {P:Program}
theorem m3 (fr:Frame) (hm:fr.mode = .returning):∀ (rs:List Nat) (w:World),fr.defers=rs.map m7->rs.Nodup->(∀ r,r ∈ rs->w.heap[r]? = some (.deferred (some [])))->∀ cs,
  ∃ w',Steps P (lone fr cs w) (lone { fr with defers:=[] } cs w')/\w'.os=w.os/\w'.tape=w.tape/\w'.output=w.output/\w'.heap.size=w.heap.size/\(∀ k,k ∉ rs->w'.heap[k]? = w.heap[k]?):=by
 intro rs
 induction rs generalizing fr with
 | nil=>intro w hd _ _ cs;refine ⟨w,?_,rfl,rfl,rfl,rfl,fun _ _=>rfl⟩;rw [show fr = { fr with defers:=[] } by cases fr;simp_all];exact .refl P _
 | cons r rs ih=>
   intro w hd hn hb cs
   have hr:=hb r (by simp)
   have hlt:=QU hr
   let w1:World:={ w with heap:=w.heap.setIfInBounds r (.deferred none) }
   have hn:=List.nodup_cons.1 hn
   have hother:∀ k,k ≠ r->w1.heap[k]? = w.heap[k]?:=fun k hk=>by show (w.heap.setIfInBounds r _)[k]? = _;rw [Nu,MJ (Ne.symm hk)]
   obtain ⟨w',hs,h1,h2,h3,h4,h5⟩:=ih { fr with defers:=rs.map m7 } hm w1 rfl hn.2 (fun k hk=>(hother k (fun e=>hn.1 (e ▸ hk))).trans (hb k (by simp [hk]))) cs
   refine ⟨w',.head ?_ hs,h1,h2,h3,by rw [h4];simp [w1],fun k hk => ?_⟩
   ·refine step_lone_go ?_
    have hd':fr.defers = { target := .collected r,args := #[] } :: rs.map m7:=hd
    have hrun:(Instr.takeDeferred r).run P w = .ok [] w1:=by
     simp only [Instr.takeDeferred,getObj,setObj,ME]
     simp only [Sem.run,hr,Mz,ME]
     rfl
    simp only [stepG,hm,unwind,hd',Sem.runT_eq,hrun,GStep.bare_after]
    simp [GStep.bare]
   ·simp only [NJ,not_or] at hk
    exact (h5 k hk.2).trans (hother k hk.1)
def vS (P:Program) (s:Env) (h:za):List ResultVar->Option (List Value)
 | []=>some []
 | .tmp t :: rs=>(match vS P s h rs with
   | some vs=>some (s.get t :: vs)
   | none=>none)
 | .cell a t :: rs=>(match zd P t (s.get a) h with
   | some v=>(match vS P s h rs with
     | some vs=>some (v :: vs)
     | none=>none)
   | none=>none)
def qa:List Value->Value
 | [v]=>v
 | vs => .tuple vs.toArray
def nu (tm:Array Value):ResultVar->Sem Value
 | .tmp t=>pure (tm.getD t undef)
 | .cell a t=>do loadVar t (<- asAddr (tm.getD a undef))
theorem p7 (fn:Func) (tm:Array Value):results fn tm=(do let vs <- fn.results.mapM (nu tm);pure (if h:vs.size=1 then vs[0] else .tuple vs)):=rfl
theorem ZU {ρ:yP} {s:Env} {h:za} {w:World} {tm:Array Value} (hr:Rel P ρ h w) (hs:wA ρ s tm):∀ {rs:List ResultVar} {vs:List Value},vS P s h rs=some vs ->
  ∃ vs',(rs.mapM (nu tm)).run P w = .ok vs' w/\xp ρ vs vs'
 | [],vs,he=>by simp only [vS,My] at he;subst he;exact ⟨[],rfl,.nil ρ⟩
 | .tmp t :: rs,vs,he=>by
   simp only [vS] at he
   split at he
   case h_2=>cases he
   rename_i vs0 h0
   simp only [My] at he
   subst he
   obtain ⟨vs',e,hv⟩:=ZU hr hs h0
   exact ⟨_,by simp only [List.mapM_cons,nu,ME,MN,Mz,e],.cons (hs.get t) hv⟩
 | .cell a t :: rs,vs,he=>by
   simp only [vS] at he
   split at he
   case h_2=>cases he
   rename_i v hv0
   split at he
   case h_2=>cases he
   rename_i vs0 h0
   simp only [My] at he
   subst he
   obtain ⟨vs',e,hv⟩:=ZU hr hs h0
   obtain ⟨v',e1,hv1⟩:=Km hv0 hr (hs.get a)
   have e2:(do loadVar t (<- asAddr (tm.getD a undef)):Sem Value).run P w = .ok v' w:=by
    have hp:=hs.get a
    generalize tm.getD a undef=x at hp e1 ⊢
    unfold zd at hv0
    split at hv0
    ·rename_i hb
     rw [hb] at hp
     cases hp
     simpa [Instr.loadAt,Instr.sureAddr,asAddr] using e1
    ·rename_i hb
     rw [hb] at hp
     cases hp
     simpa [Instr.loadAt,Instr.sureAddr,asAddr] using e1
    ·cases hv0
   exact ⟨_,by rw [List.mapM_cons,ME,show nu tm (.cell a t)=(do loadVar t (<- asAddr (tm.getD a undef)):Sem Value) from rfl,e2];simp only [ME,Mz,e,MN],.cons hv1 hv⟩
theorem nv {ρ:yP} {s:Env} {h:za} {w:World} {tm:Array Value} (hr:Rel P ρ h w) (hs:wA ρ s tm) {fn:Func} {vs:List Value} (he:vS P s h fn.results.toList=some vs) :
  ∃ v',(results fn tm).run P w = .ok v' w/\zD ρ (qa vs) v':=by
 obtain ⟨vs',e,hv⟩:=ZU hr hs he
 have em:(fn.results.mapM (nu tm)).run P w = .ok vs'.toArray w:=by
  rw [Array.mapM_eq_mapM_toList,Sem.run_map,e];rfl
 rw [p7]
 simp only [ME]
 refine ⟨if h:vs'.toArray.size=1 then vs'.toArray[0] else .tuple vs'.toArray,?_,?_⟩
 ·rw [em];simp only [Mz,MN]
 ·unfold qa
  split
  ·rename_i v
   obtain ⟨y,ys,rfl,h1,h2⟩:=hv.cons_inv
   cases h2.wX
   simpa using h1
  ·rename_i hne
   rw [dif_neg (by
    intro h1
    have h1:vs'.length=1:=by simpa using h1
    have h2:vs.length=1:=by rw [hv.1];exact h1
    cases vs with
    | nil=>cases h2
    | cons v vs=>cases vs with
      | nil=>exact hne v rfl
      | cons=>simp at h2)]
   exact .tuple (by simpa using hv.1) (fun i x y hx hy=>hv.2 i x y (by simpa using hx) (by simpa using hy))
theorem rG {f:FuncId} {fn:Func} {c:Code} {args:List Value} {h:za} {R:Value->za->Prop} (hf:P.funcs[f]? = some fn) (hb:fn.body=some c)
  (ht:T P none c (Env.enter args fn.ntmps) h (fun e s1 h1=>(e = .normal\/e = .ret) /\ ∃ vs,vS P s1 h1 fn.results.toList=some vs/\R (qa vs) h1)):TC P f args h R:=by
 intro ρ w cargs hr hv cs
 let b:Frame:={ (default:Frame) with fn:=f,kind := .normal,roundOf:=none }
 let tm:Array Value:=cargs.toArray ++ Array.replicate (fn.ntmps - cargs.toArray.size) undef
 have henter:Frame.enter P f cargs.toArray .normal=wj b tm [] [.code c]:=by simp [Frame.enter,wj,hf,hb,b,tm]
 have hs:wA ρ (Env.enter args fn.ntmps) tm:=by
  refine ⟨?_,fun i => ?_⟩
  ·simp only [Env.mE,tm,Array.size_append,Array.size_replicate,List.size_toArray,hv.1];omega
  ·rw [Env.Az]
   rcases MX i args.length with hi | hi
   ·obtain ⟨y,hy,hxy⟩:=hv.get (MF hi)
    have e1:tm[i]? = some y:=by
     rw [Array.getElem?_append_left (by simp;rw [<- hv.1];exact hi)]
     simpa using hy
    rw [MF hi]
    simp only [Ol,MW,e1]
    exact hxy
   ·rw [MO hi]
    have e1:tm.getD i undef=undef:=by
     simp only [MW,tm]
     rw [Array.getElem?_append_right (by simp;rw [<- hv.1];exact hi)]
     rw [Od]
     split <;> rfl
    rw [e1]
    exact .qD ρ rfl
 obtain ⟨e,s1,h1,ρ1,w1,tm1,ds1,⟨he,vs,hvs,hR⟩,st,hs1,⟨rs,hd1,hnd,hb1⟩,ha⟩:=ht ρ w tm [] hr hs b rfl [] cs
 obtain ⟨todo,hret⟩:∃ todo,Steps P (lone (Frame.enter P f cargs.toArray .normal) cs w) (lone { wj b tm1 ds1 todo with mode := .returning } cs w1):=by
  rw [henter]
  rcases he with rfl | rfl
  ·exact ⟨[],Oj ha (.one (Ax rfl))⟩
  ·obtain ⟨t,sx⟩:=ha;exact ⟨_,sx.trans (.one (Ay rfl))⟩
 rw [List.append_nil] at hd1
 obtain ⟨w2,hs2,e1,e2,e3,e4,e5⟩:=m3 (P:=P) { wj b tm1 ds1 todo with mode := .returning } rfl rs w1 hd1 hnd (fun r hr=>(hb1 r hr).2) cs
 have hnot:∀ b0 o pl,h1.get b0=some o->ρ1.m b0=some pl->pl.c ∉ rs:=by
  intro b0 o pl hg hm hin
  have hc:=st.rel.C9 hg hm
  have hx:=(hb1 _ hin).2
  cases o with
  | cells c t=>obtain ⟨cs,fz,q1,_⟩:=hc;rw [hx] at q1;cases q1
  | map es q=>obtain ⟨ms,q1,_⟩:=hc;rw [hx] at q1;cases q1
  | iter m a b c=>obtain ⟨m',q1,_⟩:=hc;rw [hx] at q1;cases q1
  | tab c=>obtain ⟨t,cs,fz,q1,_⟩:=hc;rw [hx] at q1;cases q1
  | siter s pos=>have q1:w1.heap[pl.c]? = _:=hc.1;rw [hx] at q1;cases q1
  | loop l=>obtain ⟨tm,d,fn',q1,_⟩:=hc;rw [hx] at q1;cases q1
 have hr2:Rel P ρ1 h1 w2:=⟨st.rel.next,st.rel.ro,st.rel.XU,fun b0 o0 hg=>by
  obtain ⟨pl,hp,hc⟩:=st.rel.ok b0 o0 hg
  exact ⟨pl,hp,hc.other (e5 _ (hnot _ _ _ hg hp))⟩,st.rel.inj,st.rel.QO,st.rel.kx⟩
 obtain ⟨v',hv',hvr⟩:=nv hr2 hs1 hvs
 refine ⟨.returned v',w2,{ wj b tm1 ds1 todo with mode := .returning,defers:=[] },⟨qa vs,v',h1,ρ1,rfl,hR,?_,hvr⟩,hret.trans hs2,rfl,rfl,rfl,rfl,fn,hf,hv'⟩
 exact ⟨st.le,hr2,st.ro,e1.trans st.os,e2.trans st.tape,e3.trans st.output,by rw [e4];exact st.size,
  fun c hc hn=>(e5 c (fun hin=>by have:=(hb1 c hin).1;omega)).trans (st.frame c hc hn),st.KI⟩
end
end Go.Ai
