/- A part of the proof. -/
import Derived.Test.YtcecapkbglnejaaGreatDoorTA
import GoSem.Builtin.Delete
import Derived.Lib.Builder
import Derived.Lib.UnsafeStr
import Derived.LaidEqlPtr
import GoSem.Builtin.Cap
import GoSem.Builtin.UnsafeString
import Derived.Laws.Externs
import Derived.Lib.MakeNoZero
set_option linter.unusedVariables false
set_option linter.unusedSimpArgs false
set_option maxRecDepth 100000
namespace Go.Ai
noncomputable section
variable {P:Program}
def Q0 (h:za) (b off:Nat) (new:List Value):Option za :=
 cond (Nat.beq new.length 0) (some h) (match h.get b with
  | some (.cells cs t)=>cond (Nat.ble h.ro b && Nat.ble (off + new.length) cs.length && new.all wZ) (some (h.set b (some (.cells (zf cs off new) t)))) none
  | _=>none)
theorem lB {ρ:xn} {h h':za} {w:World} {b off:Nat} {pl:Place} {new new':List Value} (he:Q0 h b off new=some h') (hr:Rel P ρ h w) (hm:ρ.m b=some pl) (hv:wz ρ new new') :
  ∃ w',(storeCells ⟨pl.c,pl.base + off,none⟩ new').run P w = .ok () w'/\Step P ρ h w ρ h' w':=by
 unfold Q0 at he
 cases hz:Nat.beq new.length 0 with
 | true=>
   rw [hz] at he
   simp only [SA,Se] at he
   subst he
   have:new = []:=Ty (Sv hz)
   subst this
   cases hv.uL
   exact ⟨w,rfl,.refl hr⟩
 | false=>
   rw [hz] at he
   simp only [SK] at he
   split at he
   case h_2=>cases he
   rename_i cs t hg
   cases hc:(Nat.ble h.ro b && Nat.ble (off + new.length) cs.length && new.all wZ) with
   | false=>rw [hc] at he;cases he
   | true=>
     rw [hc] at he
     simp only [SA,Se] at he
     subst he
     simp only [Sm,SV] at hc
     exact Qw (o:=off) hm new new' h w cs 0 hr hg (SH hc.1.1) (by have:=SH hc.1.2;omega) hv hc.2
def sC (P:Program) (dT:TypeId) (d x:Value) (h:za):Option (Value × za) :=
 match z9 P (underlying dT),d,Ws x with
 | some (.slice elem),.slice base dl _,some m=>(match z9 P (typeInfo elem) with
   | none=>none
   | some i=>(match uJ h (Nat.min m dl) i.size x with
     | none=>none
     | some new=>(match base with
       | none=>some (goInt (Nat.min m dl),h)
       | some ⟨b,off,none⟩=>(Q0 h b off new).map fun h'=>(goInt (Nat.min m dl),h')
       | some _=>none)))
 | _,_,_=>none
theorem sD {ρ:xn} {dT r:TypeId} {ts:Array TypeId} {d d' x x' v:Value} {h h':za} {w:World} (he:sC P dT d x h=some (v,h')) (hr:Rel P ρ h w) (hd:zI ρ d d') (hx:zI ρ x x') (hts:ts[0]? = some dT) :
  ∃ v' w',(Builtin.copy_ ts r #[d',x']).run P w = .ok v' w'/\Step P ρ h w ρ h' w'/\zI ρ v v':=by
 unfold sC at he
 split at he
 case h_2=>cases he
 rename_i elem base dl c m hu hm
 split at he
 case h_1=>cases he
 rename_i i hi
 obtain ⟨sz1,sz2⟩:=jm hi
 split at he
 case h_1=>cases he
 rename_i new hnew
 have hlen:=fun w=>dz (P:=P) hm hx w
 obtain ⟨new',hnew',vnew⟩:=Uq hnew hr hx (by intro b l cap e;subst e;simp only [Ws,Se] at hm;subst hm;exact Nat.min_le_left _ _)
 cases hd with
 | sliceNil=>
   simp only [Se,Sh] at he
   obtain ⟨rfl,rfl⟩:=he
   refine ⟨goInt (Nat.min m 0),w,?_,.refl hr,.int _ _⟩
   simp only [Builtin.copy_,hts]
   simp only [TS,Si,So,Sj,zj hu,Sg,hlen,sz2,hnew',Ss]
 | slice hb hmm hl hc=>
   simp only [Sw,Sh] at he
   obtain ⟨h2,hsp,rfl,rfl⟩:=he
   obtain ⟨w',e,st⟩:=lB hsp hr hmm vnew
   refine ⟨_,w',?_,st,.int _ _⟩
   simp only [Builtin.copy_,hts]
   simp only [TS,Si,So,Sj,zj hu,Sg,hlen,sz2,hnew',e,Ss]
   rfl
 | sliceOut hb hc=>
   simp only [Sw,Sh] at he
   obtain ⟨h2,hsp,rfl,rfl⟩:=he
   have hmin:Nat.min m 0=0:=Nat.min_zero m
   have hnil:new = []:=by
    rw [hmin] at hnew
    cases hx with
    | sliceNil=>simp only [uJ,Se] at hnew;exact hnew.symm
    | slice=>simp only [uJ,aax,aaa,SA,Se] at hnew;exact hnew.symm
    | sliceOut=>simp only [uJ,aax,aaa,SA,Se] at hnew;exact hnew.symm
    | string=>simp only [uJ,Se] at hnew;rw [<- hnew];simp
    | _=>cases hm
   subst hnil
   cases vnew.uL
   simp only [Q0,SF,aaa,SA,Se] at hsp
   subst hsp
   refine ⟨goInt (Nat.min m 0),w,?_,.refl hr,.int _ _⟩
   simp only [Builtin.copy_,hts]
   simp only [TS,Si,So,Sj,zj hu,Sg,hlen,sz2,hnew',Ss,storeCells]
def gu (P:Program) (t:TypeId) (x:Value) (h:za):Option za:=none
theorem oF {ρ:xn} {t r:TypeId} {x x':Value} {h h':za} {w:World} (he:gu P t x h=some h') (hr:Rel P ρ h w) (hx:zI ρ x x') :
  ∃ w',(Builtin.clear_ #[t] r #[x']).run P w = .ok undef w'/\Step P ρ h w ρ h' w':=by
 unfold gu at he
 cases he
def bytesOf:List Value->ByteArray->Option ByteArray
 | [],s=>some s
 | .int .u8 n :: l,s=>bytesOf l (s.push (UInt8.ofNat n.toNat))
 | _ :: _,_=>none
def Mr (h:za) (x:Value):Option Value :=
 match x with
 | .slice none _ _=>some (.string .empty)
 | .slice (some ⟨b,off,none⟩) n _=>cond (Nat.beq n 0) (some (.string .empty)) (match h.get b with
   | some (.cells c _)=>cond (Nat.ble (off + n) c.length) ((bytesOf ((c.drop off).take n) .empty).map .string) none
   | _=>none)
 | _=>none
theorem dI {ρ:xn}:∀ (l l':List Value) (s r:ByteArray),bytesOf l s=some r->wz ρ l l'->∀ w:World,
  (forIn l' s fun c s=>(match c with
   | .int .u8 n=>pure (ForInStep.yield (s.push (UInt8.ofNat n.toNat)))
   | _=>(do stuck "bytesToString: byte expected";pure (ForInStep.yield s)):Sem (ForInStep ByteArray))).run P w = .ok r w
 | [],l',s,r,h,hv,w=>by
   cases hv.uL
   simp only [bytesOf,Se] at h
   subst h;rfl
 | x :: l,l',s,r,h,hv,w=>by
   obtain ⟨y,ys,rfl,h1,h2⟩:=hv.cons_inv
   unfold bytesOf at h
   split at h
   ·rename_i e;cases e
   ·rename_i e
    simp only [Tn] at e
    obtain ⟨rfl,rfl⟩:=e
    cases h1
    rw [List.forIn_cons]
    simp only [Sj,Ss,Sg]
    exact dI _ _ _ _ h h2 w
   ·cases h
theorem Bn {ρ:xn} {h:za} {w:World} {x x' v:Value} (he:Mr h x=some v) (hr:Rel P ρ h w) (hx:zI ρ x x'):(Conv.bytesToString x').run P w = .ok v w/\zI ρ v v:=by
 unfold Mr at he
 split at he
 ·simp only [Se] at he
  subst he
  cases hx
  exact ⟨rfl,.string _⟩
 ·rename_i b off n c
  cases hz:Nat.beq n 0 with
  | true=>
    rw [hz] at he
    obtain rfl:=Sv hz
    simp only [SA,Se] at he
    subst he
    refine ⟨?_,.string _⟩
    cases hx <;> (simp only [Conv.bytesToString,loadCells,loadCellsFrom,Sj,Ss,Sg];rw [<- Array.forIn_toList];rfl)
  | false=>
    rw [hz] at he
    simp only [SK] at he
    split at he
    case h_2=>cases he
    rename_i cs t hg
    cases hle:Nat.ble (off + n) cs.length with
    | false=>rw [hle] at he;cases he
    | true=>
      rw [hle] at he
      simp only [SA,Sw] at he
      obtain ⟨r,hb,rfl⟩:=he
      refine ⟨?_,.string _⟩
      cases hx with
      | slice hb' hm hl hc=>
        obtain ⟨ys,hys,hv⟩:=jl (hr.place hg hm) off n (SH hle)
        simp only [Conv.bytesToString,Sj,hys,Sg]
        rw [<- Array.forIn_toList]
        have:=dI (P:=P) _ _ _ _ hb hv w
        rw [show ys.toArray.toList=ys from rfl]
        exact (congrArg (fun q:Result ByteArray=>q.andThen fun a w'=>Sem.run P (pure (Value.string a)) w') this)
      | sliceOut=>simp at hz
 ·cases he
end
noncomputable section
variable {P:Program}
theorem Qd {α:Type} {b:Bool} {x:Option α} {y:α} (h:cond b x none=some y):b=true/\x=some y:=by
 cases b
 ·cases h
 ·exact ⟨rfl,h⟩
abbrev VV:=Value × Value × Nat
def JS (k:Value):MapEntry:={ key:=k,val:=undef,born:=0 }
def ng (P:Program) (kt:TypeId) (k:Value) (es:List VV):Option (Option Nat) :=
 cond (flat k && es.all fun e=>flat e.1) (match z9 P (Instr.findKey kt k (es.map fun e=>JS e.1)) with
  | some (some (i,_))=>some (some i)
  | some none=>some none
  | none=>none) none
def YB (ρ:xn) (es:List VV) (ms:List MapEntry):Prop:=es.length=ms.length /\ ∀ (i:Nat) x m,es[i]? = some x->ms[i]? = some m->zI ρ x.1 m.key/\zI ρ x.2.1 m.val/\m.born=x.2.2
theorem YB.tail {ρ:xn} {x:VV} {es:List VV} {m:MapEntry} {ms:List MapEntry} (h:YB ρ (x :: es) (m :: ms)):(zI ρ x.1 m.key/\zI ρ x.2.1 m.val/\m.born=x.2.2)/\YB ρ es ms :=
 ⟨h.2 0 x m rfl rfl,by simpa using h.1,fun i a b ha hb=>h.2 (i + 1) a b (by simpa using ha) (by simpa using hb)⟩
theorem YB.nil {ρ:xn}:YB ρ [] []:=⟨rfl,fun i x m hx=>by simp at hx⟩
theorem YB.uL {ρ:xn} {ms:List MapEntry} (h:YB ρ [] ms):ms = []:=Ty (by have:=h.1;simpa using this.symm)
theorem YB.cons_inv {ρ:xn} {x:VV} {es:List VV} {ms:List MapEntry} (h:YB ρ (x :: es) ms):∃ m ms',ms=m :: ms'/\(zI ρ x.1 m.key/\zI ρ x.2.1 m.val/\m.born=x.2.2)/\YB ρ es ms':=by
 cases ms with
 | nil=>have:=h.1;simp at this
 | cons m ms=>exact ⟨m,ms,rfl,h.tail⟩
theorem YB.keys {ρ:xn}:∀ {es:List VV} {ms:List MapEntry},YB ρ es ms->(es.all fun e=>flat e.1)=true->ms.map (·.key)=(es.map fun e=>JS e.1).map (·.key)
 | [],ms,h,_=>by rw [h.uL];rfl
 | x :: es,ms,h,hf=>by
   obtain ⟨m,ms',rfl,h1,h2⟩:=h.cons_inv
   simp only [Tf,Sm] at hf
   simp only [TQ]
   rw [kF h1.1 hf.1,YB.keys h2 hf.2]
   rfl
theorem J5 {kind:TypeDesc} {k:Value}:∀ {ms ns:List MapEntry} {i:Nat} {r:Option (Nat × Value)},ms.map (·.key)=ns.map (·.key)->Instr.findNow kind k ns i=some r ->
  ∃ r',Instr.findNow kind k ms i=some r'/\r'.map (·.1)=r.map (·.1)
 | [],[],i,r,_,h=>by simp only [Instr.findNow,Se] at h;subst h;exact ⟨none,rfl,rfl⟩
 | [],_ :: _,i,r,e,h=>by simp at e
 | _ :: _,[],i,r,e,h=>by simp at e
 | m :: ms,n :: ns,i,r,e,h=>by
   simp only [TQ,Tn] at e
   simp only [Instr.findNow] at h ⊢
   rw [e.1]
   split at h
   ·rename_i hs
    simp only [Se] at h
    subst h
    exact ⟨_,rfl,rfl⟩
   ·rename_i hs
    obtain ⟨r',h1,h2⟩:=J5 e.2 h
    exact ⟨r',h1,h2⟩
   ·cases h
theorem J6 {kind:TypeDesc} {k:Value}:∀ {ms ns:List MapEntry} {i:Nat},ms.map (·.key)=ns.map (·.key)->Instr.findNow kind k ns i=none->Instr.findNow kind k ms i=none
 | [],[],i,_,h=>h
 | [],_ :: _,i,e,h=>by simp at e
 | _ :: _,[],i,e,h=>by simp at e
 | m :: ms,n :: ns,i,e,h=>by
   simp only [TQ,Tn] at e
   simp only [Instr.findNow] at h ⊢
   rw [e.1]
   split at h
   ·cases h
   ·exact J6 e.2 h
   ·rfl
theorem nX {α β:Type} {x:Sem α} {f:α->Sem β} {r:β} (h:z9 P (x >>= f)=some r):∃ a,z9 P x=some a/\z9 P (f a)=some r:=by
 induction x with
 | pure a=>exact ⟨a,rfl,h⟩
 | program k ih=>exact ih P h
 | _=>cases h
theorem UM {kt:TypeId} {k:Value}:∀ {ms ns:List MapEntry} {i:Nat} {r:Option (Nat × Value)},ms.map (·.key)=ns.map (·.key)->z9 P (Instr.findAsking kt k ns i)=some r ->
  ∃ r',(∀ w,(Instr.findAsking kt k ms i).run P w = .ok r' w)/\r'.map (·.1)=r.map (·.1)
 | [],[],i,r,_,h=>by
   have h:some none=some r:=h
   simp only [Se] at h
   subst h
   exact ⟨none,fun w=>rfl,rfl⟩
 | [],_ :: _,i,r,e,h=>by simp at e
 | _ :: _,[],i,r,e,h=>by simp at e
 | m :: ms,n :: ns,i,r,e,h=>by
   simp only [TQ,Tn] at e
   simp only [Instr.findAsking] at h
   obtain ⟨b,h1,h2⟩:=nX h
   rw [<- e.1] at h1
   cases b with
   | true=>
     simp only [Sf] at h2
     have h2:some (some (i,n.val))=some r:=h2
     simp only [Se] at h2
     subst h2
     exact ⟨some (i,m.val),fun w=>by simp only [Instr.findAsking,Sj,zj h1,Sg,Sf,Ss],rfl⟩
   | false=>
     simp only [Ti,Sx] at h2
     obtain ⟨r',h3,h4⟩:=UM e.2 h2
     exact ⟨r',fun w=>by simp only [Instr.findAsking,Sj,zj h1,Sg,Ti,Sx,h3],h4⟩
theorem J4 {kt:TypeId} {k:Value} {ms ns:List MapEntry} {r:Option (Nat × Value)} (e:ms.map (·.key)=ns.map (·.key)) (h:z9 P (Instr.findKey kt k ns)=some r) :
  ∃ r',(∀ w,(Instr.findKey kt k ms).run P w = .ok r' w)/\r'.map (·.1)=r.map (·.1):=by
 simp only [Instr.findKey] at h
 obtain ⟨kind,h1,h2⟩:=nX h
 split at h2
 ·rename_i r0 hn
  have h2:some r0=some r:=h2
  simp only [Se] at h2
  subst h2
  obtain ⟨r',h3,h4⟩:=J5 e hn
  exact ⟨r',fun w=>by simp only [Instr.findKey,Sj,zj h1,Sg,h3,Ss],h4⟩
 ·rename_i hn
  obtain ⟨r',h3,h4⟩:=UM e h2
  exact ⟨r',fun w=>by simp only [Instr.findKey,Sj,zj h1,Sg,J6 e hn,h3],h4⟩
theorem gZ {kind:TypeDesc} {k:Value}:∀ {ms:List MapEntry} {i j:Nat} {v:Value},Instr.findNow kind k ms i=some (some (j,v))->i<=j /\ ∃ m,ms[j - i]? = some m/\m.val=v
 | [],i,j,v,h=>by simp [Instr.findNow] at h
 | m :: ms,i,j,v,h=>by
   simp only [Instr.findNow] at h
   split at h
   ·simp only [Se,Sh] at h
    obtain ⟨rfl,rfl⟩:=h
    exact ⟨Sp _,m,by simp,rfl⟩
   ·obtain ⟨h1,x,h2,h3⟩:=gZ h
    exact ⟨by omega,x,by rw [show j - i=(j - (i + 1)) + 1 by omega,So];exact h2,h3⟩
   ·cases h
theorem KC {kt:TypeId} {k:Value}:∀ {ms:List MapEntry} {i j:Nat} {v:Value} {w w':World},(Instr.findAsking kt k ms i).run P w = .ok (some (j,v)) w'->i<=j /\ ∃ m,ms[j - i]? = some m/\m.val=v
 | [],i,j,v,w,w',h=>by simp [Instr.findAsking,Ss] at h
 | m :: ms,i,j,v,w,w',h=>by
   simp only [Instr.findAsking,Sj] at h
   cases he:(Op.equal kt k m.key).run P w with
   | halt a b=>rw [he] at h;cases h
   | ok b w1=>
     rw [he] at h
     simp only [Sg] at h
     cases b with
     | true=>
       simp only [Sf,Ss,Result.ok.injEq,Se,Sh] at h
       obtain ⟨⟨rfl,rfl⟩,_⟩:=h
       exact ⟨Sp _,m,by simp,rfl⟩
     | false=>
       simp only [Ti,Sx] at h
       obtain ⟨h1,x,h2,h3⟩:=KC h
       exact ⟨by omega,x,by rw [show j - i=(j - (i + 1)) + 1 by omega,So];exact h2,h3⟩
theorem BN {kt:TypeId} {k:Value} {ms:List MapEntry} {j:Nat} {v:Value} {w w':World} (h:(Instr.findKey kt k ms).run P w = .ok (some (j,v)) w'):∃ m,ms[j]? = some m/\m.val=v:=by
 simp only [Instr.findKey,Sj] at h
 cases he:(underlying kt).run P w with
 | halt a b=>rw [he] at h;cases h
 | ok kind w1=>
   rw [he] at h
   simp only [Sg] at h
   split at h
   ·rename_i r hn
    simp only [Ss,Result.ok.injEq] at h
    rw [h.1] at hn
    obtain ⟨_,x,h2,h3⟩:=gZ hn
    exact ⟨x,by simpa using h2,h3⟩
   ·obtain ⟨_,x,h2,h3⟩:=KC h
    exact ⟨x,by simpa using h2,h3⟩
theorem W3 {ρ:xn} {kt:TypeId} {k k':Value} {es:List VV} {ms:List MapEntry} {r:Option Nat} (hk:zI ρ k k') (he:YB ρ es ms) (h:ng P kt k es=some r) :
  k'=k /\ ∃ r',(∀ w,(Instr.findKey kt k' ms).run P w = .ok r' w)/\(match r with
   | none=>r'=none
   | some i => ∃ x m,es[i]? = some x/\ms[i]? = some m/\r'=some (i,m.val)/\zI ρ x.2.1 m.val/\m.born=x.2.2/\m.key=x.1):=by
 unfold ng at h
 obtain ⟨hf,h⟩:=Qd h
 simp only [Sm] at hf
 obtain rfl:=kF hk hf.1
 refine ⟨rfl,?_⟩
 split at h
 ·rename_i i v hs
  simp only [Se] at h
  subst h
  obtain ⟨r',h1,h2⟩:=J4 (he.keys hf.2) hs
  refine ⟨r',h1,?_⟩
  cases r' with
  | none=>simp at h2
  | some y=>
    obtain ⟨j,u⟩:=y
    simp only [TG,Se] at h2
    subst h2
    obtain ⟨m,hm,rfl⟩:=BN (h1 default)
    have hlt:j < es.length:=by
     rw [he.1]
     rcases SC j ms.length with hl | hl
     ·exact hl
     ·rw [Sr hl] at hm;cases hm
    have hx:=Sk hlt
    obtain ⟨q1,q2,q3⟩:=he.2 j _ m hx hm
    have hfx:flat (es[j]).1=true:=by
     have:=hf.2
     simp only [SV] at this
     exact this _ (List.getElem_mem hlt)
    exact ⟨_,m,hx,hm,rfl,q2,q3,kF q1 hfx⟩
 ·rename_i hs
  simp only [Se] at h
  subst h
  obtain ⟨r',h1,h2⟩:=J4 (he.keys hf.2) hs
  refine ⟨r',h1,?_⟩
  cases r' with
  | none=>rfl
  | some y=>simp at h2
 ·cases h
theorem WN {w:World} {l:Nat} {ms:Array MapEntry} {c:Nat} (h:w.heap[l]? = some (.map ms c)):(getObj l).run P w = .ok (.map ms c) w:=by
 simp only [getObj,Sem.run,h]
theorem iV {w:World} {l:Nat} {ms:Array MapEntry} {c:Nat} (h:w.heap[l]? = some (.map ms c)) (o:Obj):(setObj l o).run P w = .ok () { w with heap:=w.heap.setIfInBounds l o }:=by
 simp only [setObj,Sem.run,h]
theorem Rel.map {ρ:xn} {h:za} {w:World} (hr:Rel P ρ h w) {b:Nat} {es:List VV} {q:Nat} {pl:Place} (hg:h.get b=some (.map es q)) (hm:ρ.m b=some pl) :
  ∃ ms,w.heap[pl.c]? = some (.map ms q)/\YB ρ es ms.toList:=by
 obtain ⟨pl',hm',ms,h1,h2,h3⟩:=hr.ok b _ hg
 rw [hm] at hm'
 cases hm'
 exact ⟨ms,h1,by simp [h2],fun i x m hx hm=>h3 i x m hx (by simpa using hm)⟩
theorem YB.size {ρ:xn} {es:List VV} {ms:Array MapEntry} (h:YB ρ es ms.toList):ms.isEmpty=es.isEmpty:=by
 have:=h.1
 cases es with
 | nil=>simp at this;rw [TP this.symm];rfl
 | cons x es=>simp at this;cases hs:ms.isEmpty with
   | false=>rfl
   | true=>simp at hs;subst hs;simp at this
def dN (h:za):Value->Option (List VV)
 | .map none=>some []
 | .map (some b)=>(match h.get b with
   | some (.map es _)=>some es
   | _=>none)
 | _=>none
def Z2 (P:Program) (t:TypeId) (x k:Value) (commaOk:Bool) (h:za):Option Value :=
 match z9 P (underlying t),dN h x with
 | some (.map kt et),some es=>(match z9 P (Instr.checkKey es.isEmpty 10000 kt k) with
   | some _=>(match ng P kt k es with
     | some (some i)=>(match es[i]? with
       | some e=>some (cond commaOk (.tuple #[e.2.1,.bool true]) e.2.1)
       | none=>none)
     | some none=>(match wY P et with
       | some z=>some (cond commaOk (.tuple #[z,.bool false]) z)
       | none=>none)
     | none=>none)
   | none=>none)
 | _,_=>none
theorem Cu {ρ:xn} {a b a' b':Value} (h:zI ρ a a') (k:zI ρ b b'):zI ρ (.tuple #[a,b]) (.tuple #[a',b']) :=
 .tuple rfl (fun i x y hx hy=>by
  rcases i with _ | _ | i
  ·simp at hx hy;subst hx hy;exact h
  ·simp at hx hy;subst hx hy;exact k
  ·simp at hx)
theorem lx {ρ:xn} {t:TypeId} {x x' k k' v:Value} {ok:Bool} {h:za} {w:World} (he:Z2 P t x k ok h=some v) (hr:Rel P ρ h w) (hx:zI ρ x x') (hk:zI ρ k k') :
  ∃ v',(Instr.lookup t x' k' ok).run P w = .ok v' w/\zI ρ v v':=by
 unfold Z2 at he
 split at he
 case h_2=>cases he
 rename_i kt et es ht hes
 split at he
 case h_2=>cases he
 rename_i hck
 obtain ⟨ms,hx',hrel⟩:∃ ms:Array MapEntry,((x' = .map none/\ms = #[]) \/ ∃ c q,x' = .map (some c)/\w.heap[c]? = some (.map ms q))/\YB ρ es ms.toList:=by
  cases hx with
  | mapNil=>simp only [dN,Se] at hes;subst hes;exact ⟨#[],.inl ⟨rfl,rfl⟩,.nil⟩
  | map hb hm=>
    simp only [dN] at hes
    split at hes
    ·rename_i g
     simp only [Se] at hes
     subst hes
     obtain ⟨ms,h1,h2⟩:=hr.map g hm
     exact ⟨ms,.inr ⟨_,_,rfl,h1⟩,h2⟩
    ·cases hes
  | _=>cases hes
 have hfin:∀ {q q':Value} {b:Bool},zI ρ q q'->(pure (if ok then .tuple #[q',.bool b] else q'):Sem Value).run P w = .ok (cond ok (.tuple #[q',.bool b]) q') w/\zI ρ (cond ok (.tuple #[q,.bool b]) q) (cond ok (.tuple #[q',.bool b]) q'):=by
  intro q q' b hq
  cases ok
  ·exact ⟨rfl,hq⟩
  ·exact ⟨rfl,Cu hq (.bool b)⟩
 rw [<- hrel.size] at hck
 split at he
 ·rename_i i hf
  obtain ⟨rfl,r',hr',x0,m,hx0,hm,rfl,q1,q2,q3⟩:=W3 hk hrel hf
  rw [hx0] at he
  simp only [Se] at he
  subst he
  refine ⟨_,?_,(hfin (b:=true) q1).2⟩
  rcases hx' with ⟨rfl,rfl⟩ | ⟨c,q,rfl,hg⟩
  ·simp at hm
  ·simp only [Instr.lookup,Sj,zj ht,Sg,WN hg,zj hck,hr',Ss]
   exact (hfin (b:=true) q1).1
 ·rename_i hf
  split at he
  case h_2=>cases he
  rename_i z hz
  simp only [Se] at he
  subst he
  obtain ⟨z1,z2⟩:=Zt (ρ:=ρ) hz w
  obtain ⟨rfl,r',hr',rfl⟩:=W3 hk hrel hf
  refine ⟨_,?_,(hfin (b:=false) z2).2⟩
  rcases hx' with ⟨rfl,rfl⟩ | ⟨c,q,rfl,hg⟩
  ·simp only [Instr.lookup,Sj,zj ht,Sg,zj hck,hr',z1,Ss]
   exact (hfin (b:=false) z2).1
  ·simp only [Instr.lookup,Sj,zj ht,Sg,WN hg,zj hck,hr',z1,Ss]
   exact (hfin (b:=false) z2).1
 ·cases he
def Gs (P:Program) (t:TypeId) (x:Value) (h:za):Option Value :=
 match Is P t x with
 | some v=>some v
 | none=>(match z9 P (underlying t),dN h x with
   | some (.map _ _),some es=>some (goInt es.length)
   | _,_=>none)
theorem sE {ρ:xn} {t:TypeId} {x x' v:Value} {h:za} {w:World} (he:Gs P t x h=some v) (hr:Rel P ρ h w) (hx:zI ρ x x') (r:TypeId):(Builtin.len_ #[t] r #[x']).run P w = .ok v w/\zI ρ v v:=by
 unfold Gs at he
 split at he
 ·rename_i hl
  simp only [Se] at he
  subst he
  exact Bw hl hx r w
 ·split at he
  case h_2=>cases he
  rename_i k e es ht hes
  simp only [Se] at he
  subst he
  refine ⟨?_,.int _ _⟩
  cases hx with
  | mapNil=>simp only [dN,Se] at hes;subst hes;simp [Builtin.len_,zj ht]
  | map hb hm=>
    simp only [dN] at hes
    split at hes
    ·rename_i g
     simp only [Se] at hes
     subst hes
     obtain ⟨ms,h1,h2⟩:=hr.map g hm
     have hsz:=h2.1
     simp only [Tz] at hsz
     simp [Builtin.len_,zj ht,WN h1,hsz]
    ·cases hes
  | _=>cases hes
def vL (h:za):Value × za:=(.map (some h.next),h.push (.map [] 0))
theorem gz {ρ:xn} {h:za} {w:World} (hr:Rel P ρ h w) (t:TypeId) :
  ∃ v' w' ρ',(Instr.makeMap t none).run P w = .ok v' w'/\Step P ρ h w ρ' (vL h).2 w'/\zI ρ' (vL h).1 v':=by
 let pl:Place:=⟨w.heap.size,0,0,0⟩
 refine ⟨.map (some w.heap.size),{ w with heap:=w.heap.push (.map #[] 0) },ρ.ext pl,rfl,Step.Kb hr (ob := .map [] 0) (pl:=pl) rfl rfl ⟨#[],by simp [pl],rfl,fun i x m hx=>by simp at hx⟩ rfl rfl rfl,?_⟩
 exact .map (pl:=pl) (by show h.next < ρ.next + 1;rw [hr.next];omega) (by rw [<- hr.next];exact ρ.kD pl)
theorem Step.HJ {ρ:xn} {h:za} {w:World} (hr:Rel P ρ h w) {b:Nat} {ob:vi} {pl:Place} {wo:Obj} (g:h.get b=some ob) (hm:ρ.m b=some pl) (hro:h.ro<=b) (hg:w.heap[pl.c]? = some wo) {ms':Array MapEntry} {q':Nat} {es':List VV} (hr':YB ρ es' ms'.toList) :
  Step P ρ h w ρ (h.set b (some (.map es' q'))) { w with heap:=w.heap.setIfInBounds pl.c (.map ms' q') }:=by
 refine Step.Ci hr g hm hro (ob' := .map es' q') ⟨ms',?_,by have:=hr'.1;simpa using this.symm,fun i x m hx hm=>hr'.2 i x m hx (by simpa using hm)⟩ rfl rfl rfl (by simp) (fun k hk => ?_)
 ·show (w.heap.setIfInBounds pl.c _)[pl.c]? = _
  rw [Tc,Sn rfl,Sn (Yy hg)]
 ·show (w.heap.setIfInBounds pl.c _)[k]? = _
  rw [Tc,Sl (Ne.symm hk)]
def k7 (P:Program) (t:TypeId) (x k v:Value) (h:za):Option za :=
 match z9 P (underlying t),x with
 | some (.map kt _),.map (some b)=>(match h.get b with
   | some (.map es q)=>(match z9 P (Instr.checkKey false 10000 kt k) with
     | some _=>cond (Nat.ble h.ro b)
       (match ng P kt k es with
        | some (some i)=>(match es[i]? with
          | some e=>cond (Instr.sameBits 10000 e.1 k) (some (h.set b (some (.map (es.set i (k,v,e.2.2)) q)))) none
          | none=>none)
        | some none=>some (h.set b (some (.map (es ++ [(k,v,q)]) (q + 1))))
        | none=>none) none
     | none=>none)
   | _=>none)
 | _,_=>none
theorem cF {ρ:xn} {t:TypeId} {x x' k k' v v':Value} {h h':za} {w:World} (he:k7 P t x k v h=some h') (hr:Rel P ρ h w) (hx:zI ρ x x') (hk:zI ρ k k') (hv:zI ρ v v') :
  ∃ w',(Instr.mapUpdate t x' k' v').run P w = .ok () w'/\Step P ρ h w ρ h' w':=by
 unfold k7 at he
 split at he
 case h_2=>cases he
 rename_i kt et b ht
 cases hx with
 | map hb hm=>
   rename_i pl
   split at he
   case h_2=>cases he
   rename_i es q g
   split at he
   case h_2=>cases he
   rename_i hck
   obtain ⟨hc,he⟩:=Qd he
   have hro:=SH hc
   obtain ⟨ms,hg,hrel⟩:=hr.map g hm
   split at he
   ·rename_i i hf
    obtain ⟨rfl,r',hr',x0,m,hx0,hm0,rfl,q1,q2,q3⟩:=W3 hk hrel hf
    rw [hx0] at he
    simp only [] at he
    obtain ⟨hsb,he⟩:=Qd he
    simp only [Se] at he
    subst he
    have f4':ms[i]? = some m:=by simpa using hm0
    have hkey:((ms[i]?).map (·.key)).getD k'=m.key:=by rw [f4'];rfl
    rw [<- q3] at hsb
    refine ⟨_,?_,Step.HJ hr g hm hro hg (ms':=ms.modify i fun e=>{ e with key:=k',val:=v' }) ?_⟩
    ·simp only [Instr.mapUpdate,Sj,zj ht,Sg,WN hg,zj hck,hr',hkey,Instr.keyThatStays,hsb,Sf,Ss,iV hg]
    ·refine ⟨by simpa using hrel.1,fun j x m1 hx hm1 => ?_⟩
     simp only [Array.toList_modify,List.getElem?_modify] at hm1
     rw [List.getElem?_set] at hx
     by_cases e:i=j
     ·subst e
      rw [Sn rfl] at hx
      split at hx
      ·simp only [Se] at hx
       subst hx
       rw [hm0] at hm1
       simp only [Sf,Option.map_eq_map,TG,Se] at hm1
       subst hm1
       exact ⟨hk,hv,q2⟩
      ·cases hx
     ·rw [Sl e] at hx
      simp only [Sl e,Option.map_eq_map,Option.map_id'] at hm1
      exact hrel.2 j x m1 hx hm1
   ·rename_i hf
    simp only [Se] at he
    subst he
    obtain ⟨rfl,r',hr',rfl⟩:=W3 hk hrel hf
    refine ⟨_,?_,Step.HJ hr g hm hro hg (ms':=ms.push { key:=k',val:=v',born:=q }) (q':=q + 1) ?_⟩
    ·simp only [Instr.mapUpdate,Sj,zj ht,Sg,WN hg,zj hck,hr',iV hg]
    ·refine ⟨by simpa using hrel.1,fun i x m1 hx hm1 => ?_⟩
     have hl:=hrel.1
     simp only [Array.toList_push] at hm1
     rcases SC i es.length with hi | hi
     ·rw [Tl hi] at hx
      rw [Tl (by omega)] at hm1
      exact hrel.2 i x m1 hx hm1
     ·rw [Tu hi] at hx
      rw [Tu (by omega),<- hl] at hm1
      cases hn:i - es.length with
      | zero=>
        rw [hn] at hx hm1
        simp only [Si,Se] at hx hm1
        subst hx hm1
        exact ⟨hk,hv,rfl⟩
      | succ n=>rw [hn] at hx;simp at hx
   ·cases he
def Wt (P:Program) (t:TypeId) (x k:Value) (h:za):Option za:=none
theorem cE {ρ:xn} {ts:Array TypeId} {t:TypeId} {r:TypeId} {x x' k k':Value} {h h':za} {w:World} (he:Wt P t x k h=some h') (hts:ts[0]? = some t) (hr:Rel P ρ h w) (hx:zI ρ x x') (hk:zI ρ k k') :
  ∃ w',(Builtin.delete_ ts r #[x',k']).run P w = .ok undef w'/\Step P ρ h w ρ h' w':=by
 unfold Wt at he
 cases he
def cG (P:Program) (t:TypeId) (x:Value) (h:za):Option (Value × za):=none
theorem oS {ρ:xn} {t:TypeId} {x x' v:Value} {h h':za} {w:World} (he:cG P t x h=some (v,h')) (hr:Rel P ρ h w) (hx:zI ρ x x') :
  ∃ v' w' ρ',(Instr.range t x').run P w = .ok v' w'/\Step P ρ h w ρ' h' w'/\zI ρ' v v':=by
 unfold cG at he
 cases he
def leftOf (es:List VV) (seen:List Nat):List VV:=es.filter fun e => !seen.contains e.2.2
def ni (P:Program) (x:Value) (str:Bool) (h:za):Option (Value × za):=none
theorem YB.left {ρ:xn} (seen:List Nat):∀ {es:List VV} {ms:List MapEntry},YB ρ es ms->YB ρ (leftOf es seen) (ms.filter fun e => !seen.toArray.contains e.born)
 | [],ms,h=>by rw [h.uL];exact .nil
 | x :: es,ms,h=>by
   obtain ⟨m,ms',rfl,h1,h2⟩:=h.cons_inv
   have ih:=YB.left seen h2
   have e:(!seen.toArray.contains m.born) = !seen.contains x.2.2:=by rw [h1.2.2];simp
   simp only [leftOf,TF,e]
   split
   ·refine ⟨by have:=ih.1;simp only [leftOf] at this;simp only [SD,this],fun i a b ha hb => ?_⟩
    cases i with
    | zero=>simp at ha hb;subst ha hb;exact h1
    | succ i=>exact ih.2 i a b (by simpa [leftOf] using ha) (by simpa using hb)
   ·exact ih
theorem YB.all {ρ:xn} (last:Nat):∀ {es:List VV} {ms:List MapEntry},YB ρ es ms->(ms.all fun e=>decide (e.born ≥ last))=es.all fun e=>Nat.ble last e.2.2
 | [],ms,h=>by rw [h.uL];rfl
 | x :: es,ms,h=>by
   obtain ⟨m,ms',rfl,h1,h2⟩:=h.cons_inv
   simp only [Tf,YB.all last h2,h1.2.2]
   congr 1
   rw [Bool.eq_iff_iff];simp
theorem sI {ρ:xn} {t:TypeId} {x x' v:Value} {str:Bool} {h h':za} {w:World} (he:ni P x str h=some (v,h')) (hr:Rel P ρ h w) (hx:zI ρ x x') :
  ∃ v' w' ρ',(Instr.next x' str t).run P w = .ok v' w'/\Step P ρ h w ρ' h' w'/\zI ρ' v v':=by
 unfold ni at he
 cases he
def oJ (x:Value) (h:za):Option Value:=none
theorem YB.find {ρ:xn} (stamp:Nat):∀ {es:List VV} {ms:List MapEntry} {e:VV},YB ρ es ms->(es.find? fun e=>Nat.beq e.2.2 stamp)=some e->∃ m,(ms.find? fun e=>e.born == stamp)=some m/\zI ρ e.1 m.key/\zI ρ e.2.1 m.val
 | [],ms,e,h,he=>by simp at he
 | x :: es,ms,e,h,he=>by
   obtain ⟨m,ms',rfl,h1,h2⟩:=h.cons_inv
   rw [List.find?_cons] at he ⊢
   rw [h1.2.2]
   cases hb:Nat.beq x.2.2 stamp with
   | true=>
     rw [hb] at he
     simp only [Se] at he
     subst he
     have:(x.2.2 == stamp)=true:=by simpa using Sv hb
     rw [this]
     exact ⟨m,rfl,h1.1,h1.2.1⟩
   | false=>
     rw [hb] at he
     have:(x.2.2 == stamp)=false:=by
      cases hq:x.2.2 == stamp with
      | false=>rfl
      | true=>have:=beq_iff_eq.1 hq;rw [this,aaa] at hb;cases hb
     rw [this]
     exact YB.find stamp h2 he
theorem oK {ρ:xn} {x x' v:Value} {h:za} {w:World} (he:oJ x h=some v) (hr:Rel P ρ h w) (hx:zI ρ x x'):∃ v',(Instr.entry x').run P w = .ok v' w/\zI ρ v v':=by
 unfold oJ at he
 cases he
end
noncomputable section
variable {P:Program}
theorem WQ {w:World} {l:Nat} {cs:Array Value} {e:TypeId} {fz:Nat × Nat} (h:w.heap[l]? = some (.cells cs e fz)):w.shape? l=some (e,cs.size):=by
 simp [World.shape?,h]
def Bs (P:Program) (src dst:TypeId) (x:Value) (h:za):Option Value :=
 match P.underlying src,P.underlying dst,x with
 | some (.pointer t),some .unsafePointer,.pointer (some ⟨b,off,none⟩)=>(match h.get b,P.info? t with
   | some (.cells c _),some j=>cond (Nat.blt off c.length && !(Nat.beq j.size 0)) (some (.pointer (some ⟨b,off,none⟩))) none
   | _,_=>none)
 | some .unsafePointer,some (.pointer u),.pointer (some ⟨b,off,none⟩)=>(match h.get b,P.info? u with
   | some (.cells c e),some _=>cond (Nat.beq e u && Nat.blt 0 (P.cellsOf u) && Nat.beq (off % P.cellsOf u) 0 && Nat.ble (off + P.cellsOf u) c.length) (some (.pointer (some ⟨b,off,none⟩))) none
   | _,_=>none)
 | _,_,_=>none
theorem Hm {e:TypeId} {cells o:Nat} (hs:0 < P.cellsOf e) (h0:o % P.cellsOf e=0) (hle:o + P.cellsOf e<=cells):liesAt P P.depth e (cells / P.cellsOf e) o e 1=true:=by
 have hd:P.depth=(2 * (P.types.size + Made.depth) + 1) + 1:=rfl
 have hlt:o / P.cellsOf e + 1<=cells / P.cellsOf e:=by
  have h1:=Nat.div_le_div_right (c:=P.cellsOf e) hle
  rw [Nat.add_div_right _ hs] at h1
  exact h1
 rw [hd]
 simp only [liesAt,Tb]
 left
 rw [hd]
 have hne:P.cellsOf e ≠ 0:=by omega
 simp only [rowAt,Sl hne,h0]
 simp [hlt,sameLayout]
theorem B7 {e:TypeId} (hc:P.cellsOf e=1) {count o n:Nat} (hn:o + n<=count):liesAt P P.depth e count o e n=true:=by
 have hd:P.depth=(2 * (P.types.size + Made.depth) + 1) + 1:=rfl
 rw [hd]
 simp only [liesAt,Tb]
 left
 rw [hd]
 simp [rowAt,hc,hn,sameLayout,Nat.mod_one]
theorem oI {ρ:xn} {src dst:TypeId} {x x' v:Value} {h:za} {w:World} (he:Bs P src dst x h=some v) (hr:Rel P ρ h w) (hx:zI ρ x x') :
  ∃ v',(convert src dst x').run P w = .ok v' w/\zI ρ v v':=by
 unfold Bs at he
 split at he
 ·rename_i t b off hs hd
  cases hx with
  | ptr hb hm=>
    rename_i pl
    split at he
    case h_2=>cases he
    rename_i c e j hg hi
    obtain ⟨hc,he⟩:=Qd he
    simp only [Se] at he
    subst he
    simp only [Sm,S6,Sz] at hc
    obtain ⟨cs,fz,h1,h2,h3,h4,h5,h6⟩:=hr.place hg hm
    have hj:j.size ≠ 0:=by intro ez;rw [ez] at hc;simp at hc
    refine ⟨_,Lib.run_to_unsafe w ⟨pl.c,pl.base + off,none⟩ hs hd hi hj (WQ h1) ?_,.ptr hb hm⟩
    show pl.base + off < cs.size
    omega
 ·rename_i u b off hs hd
  cases hx with
  | ptr hb hm=>
    rename_i pl
    split at he
    case h_2=>cases he
    rename_i c e j hg hi
    obtain ⟨hc,he⟩:=Qd he
    simp only [Se] at he
    subst he
    simp only [Sm,S6] at hc
    obtain ⟨⟨⟨k1,k2⟩,k3⟩,k4⟩:=hc
    obtain rfl:=Sv k1
    have k3:=Sv k3
    have k4:=SH k4
    obtain ⟨cs,fz,h1,h2,⟨h3,h30⟩,h4,h5,h6⟩:=hr.place hg hm
    refine ⟨_,Lib.run_from_unsafe w ⟨pl.c,pl.base + off,none⟩ hs hd hi (WQ h1) (Hm k2 ?_ ?_),.ptr hb hm⟩
    ·show (pl.base + off) % P.cellsOf e=0
     rw [Nat.add_mod,<- h3,h30,h3,k3];simp
    ·show pl.base + off + P.cellsOf e<=cs.size
     omega
 ·cases he
def MI:Value->Option Value
 | .slice none _ _=>some (.pointer none)
 | .slice (some ⟨b,off,none⟩) n _=>cond (Nat.blt 0 n) (some (.pointer (some ⟨b,off,none⟩))) none
 | _=>none
theorem BA {ρ:xn} {x x' v:Value} (he:MI x=some v) (hx:zI ρ x x') (ts:Array TypeId) (ty:TypeId) (w:World):∃ v',(Builtin.unsafeSliceData_ ts ty #[x']).run P w = .ok v' w/\zI ρ v v':=by
 unfold MI at he
 split at he
 ·simp only [Se] at he
  subst he
  cases hx
  exact ⟨_,Lib.run_unsafeSliceData_nil w ts ty _ _,.ptrNil⟩
 ·rename_i b off n c
  obtain ⟨hn,he⟩:=Qd he
  simp only [Se] at he
  subst he
  have hn:0 < n:=by simpa [S6] using hn
  cases hx with
  | slice hb hm hl hc=>exact ⟨_,Lib.run_unsafeSliceData_row w ts ty _ _ _ (by omega),.ptr hb hm⟩
  | sliceOut=>omega
 ·cases he
def Qc:List Value->Option (List UInt8)
 | []=>some []
 | .int .u8 z :: r=>cond (decide (((UInt8.ofNat z.toNat).toNat:Int)=z)) ((Qc r).map fun l=>UInt8.ofNat z.toNat :: l) none
 | _=>none
theorem dH:∀ {c:List Value} {l:List UInt8},Qc c=some l->c.length=l.length /\ ∀ (j:Nat) x,l[j]? = some x->c[j]? = some (.int .u8 x.toNat)
 | [],l,h=>by simp only [Qc,Se] at h;subst h;exact ⟨rfl,fun j x hx=>by simp at hx⟩
 | a :: c,l,h=>by
   unfold Qc at h
   split at h
   ·rename_i e;cases e
   ·rename_i z r e
    simp only [Tn] at e
    obtain ⟨rfl,rfl⟩:=e
    obtain ⟨hz,h⟩:=Qd h
    obtain ⟨l',hl,rfl⟩:=Sw.1 h
    obtain ⟨q1,q2⟩:=dH hl
    have hz:=To hz
    refine ⟨by simp [q1],fun j x hx => ?_⟩
    cases j with
    | zero=>simp only [Si,Se] at hx ⊢;subst hx;rw [hz]
    | succ j=>simpa using q2 j x (by simpa using hx)
   ·cases h
theorem Ki {pt it ty e:TypeId} (hp:P.underlying pt=some (.pointer e)) (hc:P.cellsOf e=1) {w:World} {g o cells:Nat} (hsh:w.shape? g=some (e,cells)) {l:List UInt8} (h0:l ≠ []) (hn:o + l.length<=cells) (h63:l.length<=9223372036854775807)
  (hcell:∀ (j:Nat) x,l[j]? = some x->w.cell? ((⟨g,o,none⟩:Addr).add j)=some (.int .u8 x.toNat)) :
  (Builtin.unsafeString_ #[pt,it] ty #[.pointer (some ⟨g,o,none⟩),.int .i64 l.length]).run P w = .ok (.string ⟨l.toArray⟩) (w.freeze ⟨g,o,none⟩ l.length):=by
 have hl:l.length ≠ 0:=by simpa using h0
 have hlb:=Lib.run_loadBytes (P:=P) w l ⟨g,o,none⟩ .empty hcell
 have hlies:=B7 (P:=P) hc (count:=cells / P.cellsOf e) (o:=o) (n:=l.length) (by rw [hc];simpa using hn)
 have h63':¬ (9223372036854775807:Int) < (l.length:Int):=by omega
 have hmax:IntKind.i64.max=9223372036854775807:=rfl
 have hneg:¬ (l.length:Int) < 0:=by omega
 rw [show Builtin.unsafeString_ #[pt,it] ty #[.pointer (some ⟨g,o,none⟩),.int .i64 l.length]=(asInt (.int .i64 l.length) >>= _) from rfl]
 simp [asInt,asIntOf,hmax,h63',hneg,hl,variablesAt,hsh,elemOf,run_underlying hp,hlies,hlb]
def ptrTo (P:Program) (pt e:TypeId):Bool :=
 match P.underlying pt with
 | some (.pointer e')=>Nat.beq e' e
 | _=>false
theorem HI {pt e:TypeId} (h:ptrTo P pt e=true):P.underlying pt=some (.pointer e):=by
 unfold ptrTo at h
 split at h
 ·rename_i e' he;rw [he,Sv h]
 ·cases h
def Ok (P:Program) (pt:TypeId) (p:Value) (n:Int) (h:za):Option (Value × za) :=
 match p with
 | .pointer none=>cond (decide (n=0)) (some (.string .empty,h)) none
 | .pointer (some ⟨b,off,none⟩)=>cond (decide (n=0)) (some (.string .empty,h)) (match h.get b with
   | some (.cells c e)=>(match Qc ((c.drop off).take n.toNat) with
     | some l=>cond (Nat.ble h.ro b && ptrTo P pt e && Nat.beq (P.cellsOf e) 1 && decide (n=(l.length:Int)) && Nat.blt 0 l.length && Nat.ble l.length 9223372036854775807) (some (.string ⟨l.toArray⟩,h.set b none)) none
     | none=>none)
   | _=>none)
 | _=>none
theorem im (w:World) (p:Addr) (n k:Nat) (hk:k ≠ p.block):(w.freeze p n).heap[k]? = w.heap[k]?:=by
 unfold World.freeze
 split
 ·rfl
 ·simp only [Array.getElem?_modify]
  rw [Sl (by omega)]
theorem po (w:World) (p:Addr) (n:Nat):(w.freeze p n).os=w.os/\(w.freeze p n).tape=w.tape/\(w.freeze p n).output=w.output/\(w.freeze p n).heap.size=w.heap.size:=by
 unfold World.freeze
 split
 ·exact ⟨rfl,rfl,rfl,rfl⟩
 ·exact ⟨rfl,rfl,rfl,by simp⟩
theorem Step.leave {ρ:xn} {h:za} {w w':World} (hr:Rel P ρ h w) {b:Nat} {o:vi} {pl:Place} (hg:h.get b=some o) (hm:ρ.m b=some pl) (hro:h.ro<=b) (hos:w'.os=w.os) (htape:w'.tape=w.tape) (hout:w'.output=w.output) (hsz:w'.heap.size=w.heap.size)
  (hfr:∀ k,k ≠ pl.c->w'.heap[k]? = w.heap[k]?):Step P ρ h w ρ (h.set b none) w':=by
 have hd:=hr.drop b
 refine ⟨xn.le_refl _,⟨hd.next,hd.ro,hd.UL,fun x ox hx => ?_,hd.inj,hd.cN,hd.Z7⟩,rfl,hos,htape,hout,by omega,fun k _ hn=>hfr k (fun e=>hn ⟨b,o,pl,hg,hro,hm,e.symm⟩),fun k hk hM => ?_⟩
 ·obtain ⟨p,hp,hc⟩:=hd.ok x ox hx
  refine ⟨p,hp,hc.other (hfr _ (fun ec => ?_))⟩
  rw [za.yD] at hx
  split at hx
  ·cases hx
  ·rename_i ne
   exact ne (hr.inj x b _ _ p pl hx hg hp hm ec)
 ·obtain ⟨x,ox,p,hx,h1,h2,h3⟩:=hM
  rw [za.yD] at hx
  split at hx
  ·cases hx
  ·exact ⟨x,ox,p,hx,h1,h2,h3⟩
theorem Ej {ρ:xn} {pt it ty:TypeId} {p p' v:Value} {n:Int} {h h':za} {w:World} (he:Ok P pt p n h=some (v,h')) (hr:Rel P ρ h w) (hx:zI ρ p p') :
  ∃ v' w',(Builtin.unsafeString_ #[pt,it] ty #[p',.int .i64 n]).run P w = .ok v' w'/\Step P ρ h w ρ h' w'/\zI ρ v v':=by
 unfold Ok at he
 split at he
 ·obtain ⟨hn,he⟩:=Qd he
  simp only [Se,Sh] at he
  obtain ⟨rfl,rfl⟩:=he
  obtain rfl:=To hn
  cases hx
  exact ⟨_,w,Lib.run_unsafeString_none w _ _ _ _,.refl hr,.string _⟩
 ·rename_i b off
  cases hx with
  | ptr hb hm=>
    rename_i pl
    cases hn:decide (n=0) with
    | true=>
      rw [hn] at he
      simp only [SA,Se,Sh] at he
      obtain ⟨rfl,rfl⟩:=he
      obtain rfl:=To hn
      exact ⟨_,w,Lib.run_unsafeString_none w _ _ _ _,.refl hr,.string _⟩
    | false=>
      rw [hn] at he
      simp only [SK] at he
      split at he
      case h_2=>cases he
      rename_i c e hg
      split at he
      case h_2=>cases he
      rename_i l hl
      obtain ⟨hc,he⟩:=Qd he
      simp only [Se,Sh] at he
      obtain ⟨rfl,rfl⟩:=he
      simp only [Sm,SZ,S6] at hc
      obtain ⟨⟨⟨⟨⟨k1,k2⟩,k3⟩,k4⟩,k5⟩,k6⟩:=hc
      have k1:=SH k1
      have k3:=Sv k3
      have k6:=SH k6
      subst k4
      obtain ⟨q1,q2⟩:=dH hl
      simp only [SJ,aak,T9] at q1
      obtain ⟨cs,fz,h1,h2,h3,h4,h5,h6⟩:=hr.place hg hm
      obtain ⟨f1,f2,f3,f4⟩:=po w ⟨pl.c,pl.base + off,none⟩ l.length
      refine ⟨_,_,Ki (HI k2) k3 (WQ h1) (by intro el;subst el;simp at k5) (by omega) k6 (fun j x hx => ?_),.leave hr hg hm k1 f1 f2 f3 f4 (fun k hk=>im _ _ _ _ hk),.string _⟩
      have hq:=q2 j x hx
      simp only [SJ] at hq
      have hjl:j < l.length:=by
       rcases SC j l.length with h7 | h7
       ·exact h7
       ·rw [Sr h7] at hx;cases hx
      rw [Td hjl,S5] at hq
      obtain ⟨y,hy,hxy⟩:=h6 _ _ hq
      cases hxy
      have ea:(⟨pl.c,pl.base + off,none⟩:Addr).add j=⟨pl.c,pl.base + off + j,none⟩:=jY _ _ _
      rw [ea]
      simp only [World.cell?,h1]
      rw [aah]
      simpa using hy
 ·cases he
def Og (P:Program) (op:BinOp) (t:TypeId) (a b:Value):Option Value :=
 match P.underlying t,a,b with
 | some (.pointer te),.pointer (some ⟨b1,o1,none⟩),.pointer (some ⟨b2,o2,none⟩)=>(match P.info? te with
   | some _=>cond (Nat.beq b1 b2 && Nat.beq o1 o2) (match op with
     | .eql=>some (.bool true)
     | .neq=>some (.bool false)
     | _=>none) none
   | none=>none)
 | _,_,_=>none
def ze (P:Program) (op:BinOp) (t:TypeId) (x y:Operand) (a b:Value):Option Value :=
 match Ea P op t x y a b with
 | some v=>some v
 | none=>Og P op t a b
theorem so {ρ:xn} {op:BinOp} {t:TypeId} {x y:Operand} {a b a' b' v:Value} (h:ze P op t x y a b=some v) (ha:zI ρ a a') (hb:zI ρ b b') (w:World) :
  ∃ v',(do eqGuard op t x y a' b';binOp op t a' b':Sem Value).run P w = .ok v' w/\zI ρ v v':=by
 unfold ze at h
 split at h
 ·rename_i u hu
  simp only [Se] at h
  subst h
  exact Bo hu ha hb w
 ·unfold Og at h
  split at h
  case h_2=>cases h
  rename_i te b1 o1 b2 o2 ht0 ht
  split at h
  case h_2=>cases h
  rename_i j hj
  obtain ⟨hc,hh⟩:=Qd h
  clear h
  simp only [Sm] at hc
  obtain rfl:=Sv hc.1
  obtain rfl:=Sv hc.2
  cases ha with
  | ptr h1 m1=>
    rename_i pl
    cases hb with
    | ptr h2 m2=>
      rename_i pl2
      rw [m1] at m2
      cases m2
      have hg:(eqGuard op t x y (.pointer (some ⟨pl.c,pl.base + o1,none⟩)) (.pointer (some ⟨pl.c,pl.base + o1,none⟩))).run P w = .ok () w:=by cases op <;> simp [eqGuard]
      split at hh
      ·simp only [Se] at hh
       subst hh
       exact ⟨.bool true,by simp only [Sj,hg,Sg,run_eql_ptr_same w _ ht0 hj],.bool true⟩
      ·simp only [Se] at hh
       subst hh
       exact ⟨.bool false,by simp only [Sj,hg,Sg,Lib.run_neq_ptr_same w _ ht0 hj],.bool false⟩
      ·cases hh
def Ms (P:Program) (t:TypeId) (x:Value):Option Value :=
 match z9 P (underlying t),x with
 | some (.slice _),.slice none _ _=>some (goInt 0)
 | some (.slice _),.slice (some ⟨_,_,none⟩) _ c=>cond (Nat.ble 2 c) (some (goInt (c - 2:Nat))) none
 | _,_=>none
theorem Br {ρ:xn} {t:TypeId} {x x' v:Value} (he:Ms P t x=some v) (hx:zI ρ x x') (r:TypeId) (w:World):(Builtin.cap_ #[t] r #[x']).run P w = .ok v w/\zI ρ v v:=by
 unfold Ms at he
 split at he
 ·rename_i hu
  simp only [Se] at he
  subst he
  refine ⟨?_,.int _ _⟩
  cases hx
  simp [Builtin.cap_,zj hu]
 ·rename_i b off n c hu
  obtain ⟨hc,he⟩:=Qd he
  simp only [Se] at he
  subst he
  have hc:=SH hc
  refine ⟨?_,.int _ _⟩
  cases hx with
  | slice hb hm hl hcap=>
    rename_i cap pl
    have:=(hcap (by omega)).2 (c - 2) (by omega)
    subst this
    simp [Builtin.cap_,zj hu]
  | sliceOut hb h2=>
    have:c - 2=0:=by omega
    rw [this]
    simp [Builtin.cap_,zj hu]
 ·cases he
end
noncomputable section
variable {P:Program}
def WO (s:ByteArray):List Value:=s.data.toList.map fun b => .int .u8 b.toNat
def gx (P:Program) (src dst:TypeId) (x:Value) (h:za):Option (Value × za) :=
 match cond (flat x) (fl (z9 P (convert src dst x))) none with
 | some v=>some (v,h)
 | none=>(match z9 P (underlying src),z9 P (underlying dst),x with
   | some _,some (.slice e),.string s=>(match z9 P (underlying e),z9 P (sizeOf e) with
     | some (.int .u8),some 1=>some (.slice (some ⟨h.next,0,none⟩) s.size 1,h.push (.cells (WO s) e))
     | _,_=>none)
   | some (.slice e),some .string,.slice base n c=>(match z9 P (underlying e) with
     | some (.int .u8)=>(Mr h (.slice base n c)).map fun v=>(v,h)
     | _=>none)
   | _,_,_=>none)
theorem UK {t:TypeId} {n:Nat} (h:z9 P (sizeOf t)=some n):P.cellsOf t=n:=by
 simp only [sizeOf,typeInfo,program,Sem.bind,bind,z9] at h
 cases hp:P.info? t with
 | none=>rw [hp] at h;cases h
 | some j=>rw [hp] at h;simp only [pure,Sem.bind,z9,Se] at h;subst h;simp [Program.cellsOf,hp]
theorem Fe {ρ:xn} {h:za} {w:World} {e:TypeId} {s:ByteArray} (hr:Rel P ρ h w) (hsz:z9 P (sizeOf e)=some 1) :
  ∃ v' w' ρ',(Conv.stringToBytes e s).run P w = .ok v' w'/\Step P ρ h w ρ' (h.push (.cells (WO s) e)) w'/\zI ρ' (.slice (some ⟨h.next,0,none⟩) s.size 1) v':=by
 let q:Question := .appendCap s.size 0 e
 let newCap:=q.cut (w.tape w.drawn q)
 have hge:s.size<=newCap:=by show s.size<=s.size + _ % _;omega
 let cs:Array Value:=(s.data.map fun b=>Value.int .u8 b.toNat) ++ Array.replicate (newCap - s.size) (.int .u8 0)
 have hcs:cs.size=newCap:=by simp only [cs,Array.size_append,Array.size_map,Array.size_replicate];show s.size + (newCap - s.size)=newCap;omega
 let w1:World:={ w with drawn:=w.drawn + 1 }
 have hr1:Rel P ρ h w1:=hr.grow (fun k _=>rfl)
 have hesz:=UK hsz
 let w2:World:={ w1 with heap:=w1.heap.push (.cells cs e (cs.size,cs.size + 1)) }
 have st:=Step.push (t:=e) hr1 (c:=WO s) (cs:=cs) (fz:=(cs.size,cs.size + 1)) (w':=w2) rfl (fun i hi hh=>by simp only [] at hh;omega)
  (by simp only [WO,SX,hcs,Tz];exact hge)
  (fun k x hx=>by
   refine ⟨x,?_,?_⟩
   ·have hlt:k < s.data.size:=by
     rcases SC k s.data.size with h | h
     ·exact h
     ·rw [Sr (by simpa [WO] using h)] at hx;cases hx
    rw [Array.getElem?_append_left (by simpa using hlt)]
    simpa [WO] using hx
   ·simp only [WO,SI,Sw] at hx
    obtain ⟨b,_,rfl⟩:=hx
    exact .int _ _) rfl rfl rfl
 refine ⟨.slice (some ⟨w.heap.size,0,none⟩) s.size newCap,w2,_,?_,⟨st.le,st.rel,st.ro,st.os,st.tape,st.output,st.size,st.frame,st.dY⟩,?_⟩
 ·have hq:(choose (.appendCap s.size 0 e)).run P w = .ok newCap w1:=by rw [run_choose];rfl
  simp only [Conv.stringToBytes,Sj,hq,Sg]
  have hn:(newRow e cs).run P w1 = .ok ⟨w.heap.size,0,none⟩ { w1 with heap:=w1.heap.push (.cells cs e) }:=rfl
  rw [show (s.data.map fun b=>Value.int .u8 b.toNat) ++ Array.replicate (newCap - s.size) (.int .u8 0)=cs from rfl,hn]
  have hb:({ w1 with heap:=w1.heap.push (.cells cs e) }:World).heap[w.heap.size]? = some (.cells cs e):=by show (w.heap.push _)[w.heap.size]? = _;simp
  have hsh:(markStringish ⟨w.heap.size,0,none⟩).run P { w1 with heap:=w1.heap.push (.cells cs e) } = .ok () w2:=by
   simp only [markStringish,Sj,run_shape,Sg,World.shape?,hb,run_freeze]
   simp only [World.freeze]
   rw [Sl (by decide)]
   congr 1
   show World.mk _ _ _ _ _=World.mk _ _ _ _ _
   congr 1
   show (w.heap.push _).modify w.heap.size _=w.heap.push _
   apply Array.ext_getElem?
   intro k
   simp only [Array.getElem?_modify,Array.getElem?_push]
   by_cases e:k=w.heap.size
   ·subst e;simp
   ·simp [e];intro e2;exact absurd e2.symm e
  simp only [Sg,hsh,Ss]
 ·have:=zI.slice (ρ:=ρ.ext ⟨w1.heap.size,0,cs.size,P.cellsOf e⟩) (b:=h.next) (off:=0) (len:=s.size) (c:=1) (cap:=newCap) (pl:=⟨w1.heap.size,0,cs.size,P.cellsOf e⟩)
   (by show h.next < ρ.next + 1;rw [hr.next];exact Tv _) (by rw [<- hr.next];exact ρ.kD _) hge (fun _=>⟨by simp [hesz,hcs],fun k hk=>by omega⟩)
  exact this
theorem oG {ρ:xn} {src dst:TypeId} {x x' v:Value} {h h':za} {w:World} (he:gx P src dst x h=some (v,h')) (hr:Rel P ρ h w) (hx:zI ρ x x') :
  ∃ v' w' ρ',(convert src dst x').run P w = .ok v' w'/\Step P ρ h w ρ' h' w'/\zI ρ' v v':=by
 unfold gx at he
 split at he
 ·rename_i u hu
  simp only [Se,Sh] at he
  obtain ⟨rfl,rfl⟩:=he
  cases hf:flat x with
  | false=>rw [hf] at hu;cases hu
  | true=>
    rw [hf] at hu
    obtain ⟨h1,h2⟩:=W7 hu
    obtain rfl:=kF hx hf
    exact ⟨u,w,ρ,zj h1 w,.refl hr,.of_flat ρ h2⟩
 ·split at he
  ·rename_i e s hs hd _
   cases hx
   split at he
   ·rename_i hu hz
    simp only [Se,Sh] at he
    obtain ⟨rfl,rfl⟩:=he
    obtain ⟨v',w',ρ',e1,st,hv⟩:=Fe (e:=e) (s:=s) hr hz
    refine ⟨v',w',ρ',?_,st,hv⟩
    simp only [convert,Sj,zj hs,zj hd,Sg,zj hu,e1]
   ·cases he
  ·rename_i e base n c hs hd _
   split at he
   ·rename_i hu
    simp only [Sw,Sh] at he
    obtain ⟨r,hb,rfl,rfl⟩:=he
    obtain ⟨e1,hv⟩:=Bn hb hr hx
    refine ⟨r,w,ρ,?_,.refl hr,hv⟩
    cases hx <;> simp only [convert,Sj,zj hs,zj hd,Sg,zj hu,e1]
   ·cases he
  ·cases he
def u5 (P:Program) (src dst:TypeId) (x:Value) (h:za):Option (Value × za) :=
 match gx P src dst x h with
 | some r=>some r
 | none=>(Bs P src dst x h).map fun v=>(v,h)
theorem sA {ρ:xn} {src dst:TypeId} {x x' v:Value} {h h':za} {w:World} (he:u5 P src dst x h=some (v,h')) (hr:Rel P ρ h w) (hx:zI ρ x x') :
  ∃ v' w' ρ',(convert src dst x').run P w = .ok v' w'/\Step P ρ h w ρ' h' w'/\zI ρ' v v':=by
 unfold u5 at he
 split at he
 ·rename_i r hc
  simp only [Se] at he
  subst he
  exact oG hc hr hx
 ·simp only [Sw,Sh] at he
  obtain ⟨u,hu,rfl,rfl⟩:=he
  obtain ⟨v',e,hv⟩:=oI hu hr hx
  exact ⟨v',w,ρ,e,.refl hr,hv⟩
def xU (P:Program) (t:TypeId) (len:Nat) (parts:List (Nat × Value)) (h:za):Option (Value × za) :=
 match z9 P (underlying t) with
 | some (.slice elem)=>(match z9 P (sizeOf elem),wY P elem with
   | some n,some z=>cond (Nat.ble (len * n) (2 ^ 24) && Nat.blt 0 z.cells.size && Nat.blt 0 n) (match Instr.fill (fun i=>some (i * n,n)) (ZV z.cells.toList (len * n)).toArray parts with
     | some cs=>cond (Nat.beq cs.size (len * n)) (some (.slice (some ⟨h.next,0,none⟩) len (len + 2),h.push (.cells cs.toList elem))) none
     | none=>none) none
   | _,_=>none)
 | _=>none
theorem JN {ρ:xn} {t:TypeId} {len:Nat} {parts parts':List (Nat × Value)} {h h':za} {v:Value} {w:World} (he:xU P t len parts h=some (v,h')) (hr:Rel P ρ h w) (hp:eM ρ parts parts') :
  ∃ v' w' ρ',(Instr.buildSlice t len parts'.toArray).run P w = .ok v' w'/\Step P ρ h w ρ' h' w'/\zI ρ' v v':=by
 unfold xU at he
 split at he
 case h_2=>cases he
 rename_i elem hu
 split at he
 case h_2=>cases he
 rename_i n z hn hz
 cases hc:(Nat.ble (len * n) (2 ^ 24) && Nat.blt 0 z.cells.size && Nat.blt 0 n) with
 | false=>rw [hc] at he;cases he
 | true=>
   rw [hc] at he
   simp only [Sm] at hc
   have h24:=SH hc.1.1
   have hzs:0 < z.cells.size:=by simpa [S6] using hc.1.2
   obtain ⟨z1,z2⟩:=Zt (ρ:=ρ) hz w
   simp only [SA] at he
   split at he
   case h_2=>cases he
   rename_i cs hfill
   cases hsz:Nat.beq cs.size (len * n) with
   | false=>rw [hsz] at he;cases he
   | true=>
     rw [hsz] at he
     simp only [SA,Se,Sh] at he
     obtain ⟨rfl,rfl⟩:=he
     have hsz:=Sv hsz
     obtain ⟨cs',hf',hv⟩:=J2 _ _ _ (ZV z.cells.toList (len * n)).toArray _ hp (i7 z2 (by omega) _) hfill
     obtain ⟨e,st⟩:=Jn (t:=elem) hr (c:=cs.toList) (cs:=cs') (by rw [hv.1,Tz];exact Sp _) (fun i x hx=>by
      obtain ⟨y,hy,hxy⟩:=hv.get hx
      exact ⟨y,by simpa using hy,hxy⟩)
     have hcsz:cs'.size=len * n:=by have:=hv.1;simp only [Tz] at this;omega
     refine ⟨.slice (some ⟨w.heap.size,0,none⟩) len len,_,_,?_,st,?_⟩
     ·simp only [Instr.buildSlice,Sj,zj hu,Sg,zj hn]
      rw [Sl (by omega)]
      by_cases h0:len * n=0
      ·rw [Sn h0]
       have:((Array.range (len * n)).map fun k=>(#[]:Array Value)[k % (#[]:Array Value).size]!)=(ZV z.cells.toList (len * n)).toArray:=by rw [h0];simp [ZV]
       simp only [Sj,Ss,Sg,this,hf',e]
      ·rw [Sl h0]
       simp only [Sj,z1,Ss,Sg,nZ,hf',e]
     ·exact zI.slice (ρ:=ρ.ext _) (b:=h.next) (off:=0) (pl:=⟨w.heap.size,0,cs'.size,P.cellsOf elem⟩) (by show h.next < ρ.next + 1;rw [hr.next];exact Tv _) (by rw [<- hr.next];exact ρ.kD _) (Sp _)
       (fun _=>⟨by simp [UK hn,hcsz],fun k hk=>by omega⟩)
theorem zv {α:Type} {b:Bool} {x:Option α} {y:α} (h:cond b x none=some y):b=true/\x=some y:=by
 cases b with
 | true=>exact ⟨rfl,h⟩
 | false=>cases h
def lA (s:Env):Option Operand->Option (Option Value)
 | none=>some none
 | some x=>(jb s x).map some
theorem Ue {ρ:xn} {s:Env} {a:Act} (hs:vN ρ s a.tmps) {x:Option Operand} {v:Option Value} (h:lA s x=some v):DD ρ v (x.map a.eval):=by
 cases x with
 | none=>simp only [lA,Se] at h;subst h;exact ⟨fun v hv=>by (cases hv),fun _=>rfl⟩
 | some x=>
   simp only [lA,Sw] at h
   obtain ⟨u,hu,rfl⟩:=h
   exact ⟨fun v hv=>by cases hv;exact ⟨_,rfl,zV hs hu⟩,fun hn=>by cases hn⟩
def tW:Option Value->Bool
 | none=>true
 | some v=>flat v
def zn (P:Program) (b:Builtin) (ts:List TypeId) (r:TypeId) (vs:List Value) (h:za):Option (Value × za) :=
 match b,ts,vs with
 | .append,[sT,xT],[s,x]=>W1 P sT xT s x h
 | .copy,t :: _,[d,x]=>sC P t d x h
 | .len,[t],[x]=>(Gs P t x h).map fun v=>(v,h)
 | .clear,[t],[x]=>(gu P t x h).map fun h'=>(undef,h')
 | .min,_,_=>cond (vs.all flat) ((fl (z9 P (Builtin.min_ ts.toArray r vs.toArray))).map fun v=>(v,h)) none
 | .max,_,_=>cond (vs.all flat) ((fl (z9 P (Builtin.max_ ts.toArray r vs.toArray))).map fun v=>(v,h)) none
 | .delete,t :: _,[x,k]=>(Wt P t x k h).map fun h'=>(undef,h')
 | .cap,[t],[x]=>(Ms P t x).map fun v=>(v,h)
 | .unsafeSliceData,_,[x]=>(MI x).map fun v=>(v,h)
 | .unsafeString,[pt,it],[p,.int .i64 n]=>Ok P pt p n h
 | _,_,_=>none
theorem Js {ρ:xn}:∀ {xs ys:List Value},wz ρ xs ys->xs.all flat=true->ys=xs
 | [],ys,h,_=>h.uL
 | x :: xs,ys,h,hf=>by
   obtain ⟨y,ys',rfl,h1,h2⟩:=h.cons_inv
   simp only [Tf,Sm] at hf
   rw [kF h1 hf.1,Js h2 hf.2]
theorem gk {ρ:xn} {b:Builtin} {ts:Array TypeId} {r:TypeId} {vs vs':List Value} {cs:Array Bool} {v:Value} {h h':za} {w:World} (he:zn P b ts.toList r vs h=some (v,h')) (hr:Rel P ρ h w) (hv:wz ρ vs vs') :
  ∃ v' w' ρ',(builtin b ts r cs vs'.toArray).run P w = .ok (.value v') w'/\Step P ρ h w ρ' h' w'/\zI ρ' v v':=by
 unfold zn at he
 split at he
 ·rename_i sT xT s x hts
  obtain ⟨s',l1,rfl,v1,hv⟩:=hv.cons_inv
  obtain ⟨x',l2,rfl,v2,hv⟩:=hv.cons_inv
  cases hv.uL
  have:ts = #[sT,xT]:=by rw [<- TT (xs:=ts),hts]
  subst this
  obtain ⟨v',w',ρ',e,st,hv'⟩:=lp (r:=r) he hr v1 v2
  exact ⟨v',w',ρ',by simp only [builtin,Sj];rw [e];rfl,st,hv'⟩
 ·rename_i t ts' d x hts
  obtain ⟨d',l1,rfl,v1,hv⟩:=hv.cons_inv
  obtain ⟨x',l2,rfl,v2,hv⟩:=hv.cons_inv
  cases hv.uL
  obtain ⟨v',w',e,st,hv'⟩:=sD (ts:=ts) (r:=r) he hr v1 v2 (by rw [<- Array.getElem?_toList,hts];rfl)
  exact ⟨v',w',ρ,by simp only [builtin,Sj];rw [e];rfl,st,hv'⟩
 ·rename_i t x hts
  obtain ⟨x',l1,rfl,v1,hv⟩:=hv.cons_inv
  cases hv.uL
  have:ts = #[t]:=by rw [<- TT (xs:=ts),hts]
  subst this
  simp only [Sw,Sh] at he
  obtain ⟨u,hu,rfl,rfl⟩:=he
  obtain ⟨e,hv'⟩:=sE hu hr v1 r
  exact ⟨u,w,ρ,by simp only [builtin,Sj];rw [e];rfl,.refl hr,hv'⟩
 ·rename_i t x hts
  obtain ⟨x',l1,rfl,v1,hv⟩:=hv.cons_inv
  cases hv.uL
  have:ts = #[t]:=by rw [<- TT (xs:=ts),hts]
  subst this
  simp only [Sw,Sh] at he
  obtain ⟨u,hu,rfl,rfl⟩:=he
  obtain ⟨w',e,st⟩:=oF (r:=r) hu hr v1
  exact ⟨undef,w',ρ,by simp only [builtin,Sj];rw [e];rfl,st,.Zw _ rfl⟩
 ·obtain ⟨hf,he⟩:=zv he
  simp only [Sw,Sh] at he
  obtain ⟨u,hu,rfl,rfl⟩:=he
  obtain ⟨h1,h2⟩:=W7 hu
  obtain rfl:=Js hv hf
  refine ⟨u,w,ρ,?_,.refl hr,.of_flat _ h2⟩
  have h1:=zj h1 w
  rw [TT] at h1
  simp only [builtin,Sj,h1];rfl
 ·obtain ⟨hf,he⟩:=zv he
  simp only [Sw,Sh] at he
  obtain ⟨u,hu,rfl,rfl⟩:=he
  obtain ⟨h1,h2⟩:=W7 hu
  obtain rfl:=Js hv hf
  refine ⟨u,w,ρ,?_,.refl hr,.of_flat _ h2⟩
  have h1:=zj h1 w
  rw [TT] at h1
  simp only [builtin,Sj,h1];rfl
 ·rename_i t ts' x k hts
  obtain ⟨x',l1,rfl,v1,hv⟩:=hv.cons_inv
  obtain ⟨k',l2,rfl,v2,hv⟩:=hv.cons_inv
  cases hv.uL
  simp only [Sw,Sh] at he
  obtain ⟨u,hu,rfl,rfl⟩:=he
  obtain ⟨w',e,st⟩:=cE (ts:=ts) (r:=r) hu (by rw [<- Array.getElem?_toList,hts];rfl) hr v1 v2
  exact ⟨undef,w',ρ,by simp only [builtin,Sj];rw [e];rfl,st,.Zw _ rfl⟩
 ·rename_i t x hts
  obtain ⟨x',l1,rfl,v1,hv⟩:=hv.cons_inv
  cases hv.uL
  have:ts = #[t]:=by rw [<- TT (xs:=ts),hts]
  subst this
  simp only [Sw,Sh] at he
  obtain ⟨u,hu,rfl,rfl⟩:=he
  obtain ⟨e,hv'⟩:=Br hu v1 r w
  exact ⟨u,w,ρ,by simp only [builtin,Sj];rw [e];rfl,.refl hr,hv'⟩
 ·rename_i ts' x hts
  obtain ⟨x',l1,rfl,v1,hv⟩:=hv.cons_inv
  cases hv.uL
  simp only [Sw,Sh] at he
  obtain ⟨u,hu,rfl,rfl⟩:=he
  obtain ⟨v',e,hv'⟩:=BA hu v1 ts r w
  exact ⟨v',w,ρ,by simp only [builtin,Sj];rw [e];rfl,.refl hr,hv'⟩
 ·rename_i pt it p n hts
  obtain ⟨p',l1,rfl,v1,hv⟩:=hv.cons_inv
  obtain ⟨n',l2,rfl,v2,hv⟩:=hv.cons_inv
  cases hv.uL
  cases v2
  have:ts = #[pt,it]:=by rw [<- TT (xs:=ts),hts]
  subst this
  obtain ⟨v',w',e,st,hv'⟩:=Ej (it:=it) (ty:=r) he hr v1
  exact ⟨v',w',ρ,by simp only [builtin,Sj];rw [e];rfl,st,hv'⟩
 ·cases he
def one (h:za) (x:Option Value):Option (Value × za):=match x with | none=>none | some v=>some (v,h)
def Kz (P:Program) (s:Env) (o:Oper) (h:za):Option (Value × za) :=
 match o.op with
 | .move x | .assign x=>one h (jb s x)
 | .pick c a b=>(match jb s c with
   | some (.bool true)=>one h (jb s a)
   | some (.bool false)=>one h (jb s b)
   | _=>none)
 | .box t x=>(match jb s x with
   | some v=>some (lG h v.cells.toList t)
   | none=>none)
 | .alloc t=>(match wY P t with
   | some z=>some (lG h z.cells.toList t)
   | none=>none)
 | .build t parts=>(match Wv s parts.toList with
   | some ps=>one h (xo P t ps)
   | none=>none)
 | .buildSlice t len parts=>(match Wv s parts.toList with
   | some ps=>xU P t len ps h
   | none=>none)
 | .load t a=>(match jb s a with
   | some v=>one h (zd P t v h)
   | none=>none)
 | .store t a x=>(match jb s a,jb s x with
   | some p,some v=>(match zl P t p v h with
     | some h'=>some (undef,h')
     | none=>none)
   | _,_=>none)
 | .nilCheck x=>(match jb s x with
   | some (.pointer (some a))=>some (.pointer (some a),h)
   | some (.func (.func f) a c)=>some (.func (.func f) a c,h)
   | _=>none)
 | .binOp op t x y _=>(match jb s x,jb s y with
   | some a,some b=>one h (ze P op t x y a b)
   | _,_=>none)
 | .unOp op _ x=>(match jb s x with
   | some a=>cond (flat a) (one h (fl (z9 P (Op.unary op a)))) none
   | none=>none)
 | .convert src dst x=>(match jb s x with
   | some a=>u5 P src dst a h
   | none=>none)
 | .makeInterface t x=>(match jb s x with
   | some a=>(match z9 P (Instr.makeInterface t (.bool true)) with
     | some _=>some (.iface t a,h)
     | none=>none)
   | none=>none)
 | .makeFunc (.func f) first captured=>(match VC s first.toList,VC s captured.toList with
   | some a,some c=>some (.func (.func f) a.toArray c.toArray,h)
   | _,_=>none)
 | .makeSlice t l c=>(match jb s l,jb s c with
   | some a,some b=>W4 P t a b h
   | _,_=>none)
 | .slice t x lo hi none=>(match jb s x,lA s lo,lA s hi with
   | some (.string str),some a,some b=>(match flatSlice P t str a b with
     | some v=>some (v,h)
     | none=>none)
   | some v,some a,some b=>one h (cH P t v a b h)
   | _,_,_=>none)
 | .fieldAddr t x f=>(match jb s x with
   | some a=>one h (zb P t a f)
   | none=>none)
 | .field t x f=>(match jb s x with
   | some (.agg cs)=>(match z9 P (underlying t) with
     | some (.struct fields)=>(match fields[f]? with
       | some fd=>one h (apart P fd.type cs.toList fd.offset)
       | none=>none)
     | _=>none)
   | _=>none)
 | .indexAddr t x i=>(match jb s x,jb s i with
   | some a,some b=>one h (zA P t a b)
   | _,_=>none)
 | .index t x i=>(match jb s x,jb s i with
   | some a,some b=>cond (flat a && flat b) (one h (fl (z9 P (Instr.index t a b)))) none
   | _,_=>none)
 | .extract x i=>(match jb s x with
   | some (.tuple vs)=>one h vs[i]?
   | _=>none)
 | .call { callee := .builtin b,args,argTypes }=>(match VC s args.toList with
   | some vs=>zn P b argTypes.toList o.type vs h
   | none=>none)
 | .makeMap _ none=>some (vL h)
 | .lookup t x k ok=>(match jb s x,jb s k with
   | some a,some b=>one h (Z2 P t a b ok h)
   | _,_=>none)
 | .mapUpdate t m k x=>(match jb s m,jb s k,jb s x with
   | some a,some b,some c=>(match k7 P t a b c h with
     | some h'=>some (undef,h')
     | none=>none)
   | _,_,_=>none)
 | .range t x=>(match jb s x with
   | some a=>cG P t a h
   | none=>none)
 | .next x str=>(match jb s x with
   | some a=>ni P a str h
   | none=>none)
 | .entry x=>(match jb s x with
   | some a=>one h (oJ a h)
   | none=>none)
 | _=>none
 where
  flatSlice (P:Program) (t:TypeId) (str:ByteArray) (a b:Option Value):Option Value :=
   cond (tW a && tW b) (fl (z9 P (Instr.sliceAt t (.string str) a b none))) none
end
noncomputable section
variable {P:Program}
def eU (P:Program) (ρ:xn) (h:za) (w:World) (s:Sem Next) (v:Value) (h':za):Prop :=
 ∃ n w' ρ' v',s.run P w = .ok n w'/\(n = .value v'\/(n = .skip/\v'=undef))/\Step P ρ h w ρ' h' w'/\zI ρ' v v'
theorem eU.val {ρ:xn} {h h':za} {w:World} {s:Sem Value} {v:Value} (e:∃ v' w' ρ',s.run P w = .ok v' w'/\Step P ρ h w ρ' h' w'/\zI ρ' v v') :
  eU P ρ h w (do pure (.value (<- s))) v h':=by
 obtain ⟨v',w',ρ',e,st,hv⟩:=e
 exact ⟨.value v',w',ρ',v',by rw [Sj,e];rfl,.inl rfl,st,hv⟩
theorem eU.still {ρ:xn} {h:za} {w:World} {s:Sem Value} {v:Value} (hr:Rel P ρ h w) (e:∃ v',s.run P w = .ok v' w/\zI ρ v v') :
  eU P ρ h w (do pure (.value (<- s))) v h:=by
 obtain ⟨v',e,hv⟩:=e
 exact .val ⟨v',w,ρ,e,.refl hr,hv⟩
theorem eU.pure {ρ:xn} {h:za} {w:World} {v v':Value} (hr:Rel P ρ h w) (hv:zI ρ v v'):eU P ρ h w (Pure.pure (.value v')) v h :=
 ⟨.value v',w,ρ,v',rfl,.inl rfl,.refl hr,hv⟩
theorem vM {h h':za} {x:Option Value} {v:Value} (e:one h x=some (v,h')):x=some v/\h'=h:=by
 unfold one at e
 split at e
 ·cases e
 ·simp only [Se,Sh] at e;obtain ⟨rfl,rfl⟩:=e;exact ⟨rfl,rfl⟩
theorem iL {ρ:xn} {h:za} {w:World} {c v:Value} {b:Bool} {va vb:Value} (hr:Rel P ρ h w) (hc:zI ρ (.bool b) c) (hv:zI ρ v (if b=true then va else vb)) :
  eU P ρ h w (do Pure.pure (.value (if <- asBool c then va else vb))) v h:=by
 cases hc
 exact ⟨_,w,ρ,_,by simp only [asBool,Sj,Ss,Sg],.inl rfl,.refl hr,hv⟩
theorem lu {ρ:xn} {t:TypeId} {a b a' b' v:Value} (hf:(flat a && flat b)=true) (h:fl (z9 P (Instr.index t a b))=some v) (ha:zI ρ a a') (hb:zI ρ b b') (w:World) :
  ∃ v',(Instr.index t a' b').run P w = .ok v' w/\zI ρ v v':=by
 simp only [Sm] at hf
 obtain rfl:=kF ha hf.1
 obtain rfl:=kF hb hf.2
 obtain ⟨h1,h2⟩:=W7 h
 exact ⟨v,zj h1 w,.of_flat ρ h2⟩
theorem nT {ρ:xn} {x x':Option Value} (h:DD ρ x x') (hf:tW x=true):x'=x:=by
 cases x with
 | none=>exact h.2 rfl
 | some v=>obtain ⟨v',rfl,hv⟩:=h.1 v rfl;rw [kF hv hf]
set_option maxHeartbeats 1000000 in
theorem nj {ρ:xn} {s:Env} {a:Act} {o:Oper} {h h':za} {v:Value} {w:World} (he:Kz P s o h=some (v,h')) (hr:Rel P ρ h w) (hs:vN ρ s a.tmps) :
  eU P ρ h w (execOp a.eval o) v h':=by
 unfold Kz at he
 split at he
 ·
  rename_i x yU
  obtain ⟨h1,rfl⟩:=vM he
  simp only [execOp,yU]
  exact .pure hr (zV hs h1)
 ·
  rename_i x yU
  obtain ⟨h1,rfl⟩:=vM he
  simp only [execOp,yU]
  exact .pure hr (zV hs h1)
 ·
  rename_i c x y yU
  simp only [execOp,yU]
  split at he
  ·rename_i hc
   obtain ⟨h1,rfl⟩:=vM he
   exact iL hr (zV hs hc) (by rw [Sn rfl];exact zV hs h1)
  ·rename_i hc
   obtain ⟨h1,rfl⟩:=vM he
   exact iL hr (zV hs hc) (by rw [Sl (by decide)];exact zV hs h1)
  ·cases he
 ·
  rename_i t x yU
  simp only [execOp,yU]
  split at he
  case h_2=>cases he
  rename_i u hu
  simp only [Se,lG,Sh] at he
  obtain ⟨rfl,rfl⟩:=he
  obtain ⟨a',w',ρ',e,st,hv⟩:=aG hr (zV hs hu) t
  exact .val ⟨_,w',ρ',by simp only [Instr.box,Sj,e,Sg,Ss],st,hv⟩
 ·
  rename_i t yU
  simp only [execOp,yU]
  split at he
  case h_2=>cases he
  rename_i z hz
  simp only [Se,lG,Sh] at he
  obtain ⟨rfl,rfl⟩:=he
  obtain ⟨z1,z2⟩:=Zt (ρ:=ρ) hz w
  obtain ⟨a',w',ρ',e,st,hv⟩:=aG hr z2 t
  exact .val ⟨_,w',ρ',by simp only [Instr.alloc,Sj,z1,e,Sg,Ss],st,hv⟩
 ·
  rename_i t parts yU
  simp only [execOp,yU]
  split at he
  case h_2=>cases he
  rename_i ps hps
  obtain ⟨h1,rfl⟩:=vM he
  have hp:=Ug hs hps
  obtain ⟨v',e,hv⟩:=oE h1 hp w
  refine .still hr ⟨v',?_,hv⟩
  rw [<- e]
  congr 1
  congr 1
  apply T7
  simp
 ·
  rename_i t len parts yU
  simp only [execOp,yU]
  split at he
  case h_2=>cases he
  rename_i ps hps
  have hp:=Ug hs hps
  obtain ⟨v',w',ρ',e,st,hv⟩:=JN he hr hp
  refine .val ⟨v',w',ρ',?_,st,hv⟩
  rw [<- e]
  congr 1
  congr 1
  apply T7
  simp
 ·
  rename_i t x yU
  simp only [execOp,yU]
  split at he
  case h_2=>cases he
  rename_i u hu
  obtain ⟨h1,rfl⟩:=vM he
  exact .still hr (dD h1 hr (zV hs hu))
 ·
  rename_i t p x yU
  simp only [execOp,yU]
  split at he
  case h_2=>cases he
  rename_i pv xv hp hx
  split at he
  case h_2=>cases he
  rename_i h2 hst
  simp only [Se,Sh] at he
  obtain ⟨rfl,rfl⟩:=he
  obtain ⟨w',e,st⟩:=oV hst hr (zV hs hp) (zV hs hx)
  exact ⟨.skip,w',ρ,undef,by rw [Sj,e];rfl,.inr ⟨rfl,rfl⟩,st,.Zw _ rfl⟩
 ·
  rename_i x yU
  simp only [execOp,yU]
  split at he
  ·rename_i p hp
   simp only [Se,Sh] at he
   obtain ⟨rfl,rfl⟩:=he
   have e:=zV hs hp
   generalize a.eval x=xv at e
   cases e with
   | ptr hb hm=>exact .pure hr (.ptr hb hm)
   | Z7=>exact .pure hr .Z7
  ·rename_i f fa fc hp
   simp only [Se,Sh] at he
   obtain ⟨rfl,rfl⟩:=he
   have e:=zV hs hp
   generalize a.eval x=xv at e
   cases e with
   | func h1 h2 h3 h4=>exact .pure hr (.func h1 h2 h3 h4)
  ·cases he
 ·
  rename_i op t x y yt yU
  simp only [execOp,yU]
  split at he
  case h_2=>cases he
  rename_i xv yv hx hy
  obtain ⟨h1,rfl⟩:=vM he
  exact .still hr (so h1 (zV hs hx) (zV hs hy) w)
 ·
  rename_i op t x yU
  simp only [execOp,yU]
  split at he
  case h_2=>cases he
  rename_i xv hx
  obtain ⟨hf,he⟩:=zv he
  obtain ⟨h1,rfl⟩:=vM he
  obtain ⟨h2,h3⟩:=W7 h1
  rw [kF (zV hs hx) hf]
  exact .still hr ⟨v,zj h2 w,.of_flat ρ h3⟩
 ·
  rename_i src dst x yU
  simp only [execOp,yU]
  split at he
  case h_2=>cases he
  rename_i xv hx
  exact .val (sA he hr (zV hs hx))
 ·
  rename_i t x yU
  simp only [execOp,yU]
  split at he
  case h_2=>cases he
  rename_i xv hx
  split at he
  case h_2=>cases he
  rename_i u hu
  simp only [Se,Sh] at he
  obtain ⟨rfl,rfl⟩:=he
  refine .still hr ⟨.iface t (a.eval x),?_,.iface (zV hs hx)⟩
  have:=zj hu w
  simp only [Instr.makeInterface,Sj] at this ⊢
  cases hun:(underlying t).run P w with
  | halt e w2=>rw [hun] at this;cases this
  | ok d w2=>
    rw [hun] at this
    simp only [Sg] at this ⊢
    cases d <;> simp_all
 ·
  rename_i f first captured yU
  simp only [execOp,yU]
  split at he
  case h_2=>cases he
  rename_i av cv ha hc
  simp only [Se,Sh] at he
  obtain ⟨rfl,rfl⟩:=he
  have e1:=jS hs ha
  have e2:=jS hs hc
  refine .still hr ⟨.func (.func f) (first.map a.eval) (captured.map a.eval),rfl,.func (by simpa using e1.1) (by simpa using e2.1) (fun i x y hx hy=>e1.2 i x y (by simpa using hx) (by simpa using hy)) (fun i x y hx hy=>e2.2 i x y (by simpa using hx) (by simpa using hy))⟩
 ·
  rename_i t l c yU
  simp only [execOp,yU]
  split at he
  case h_2=>cases he
  rename_i lv cv hl hc
  exact .val (sG he hr (zV hs hl) (zV hs hc))
 ·
  rename_i t x lo hi yU
  simp only [execOp,yU]
  split at he
  ·rename_i str av bv hx ha hb
   split at he
   case h_2=>cases he
   rename_i u hu
   simp only [Se,Sh] at he
   obtain ⟨rfl,rfl⟩:=he
   obtain ⟨hf,hu⟩:=zv hu
   simp only [Sm] at hf
   obtain ⟨h1,h2⟩:=W7 hu
   rw [kF (zV hs hx) rfl,nT (Ue hs ha) hf.1,nT (Ue hs hb) hf.2]
   exact .still hr ⟨u,zj h1 w,.of_flat ρ h2⟩
  ·rename_i xv av bv _ hx ha hb
   obtain ⟨h1,rfl⟩:=vM he
   exact .still hr (oU h1 hr (zV hs hx) (Ue hs ha) (Ue hs hb))
  ·cases he
 ·
  rename_i t x f yU
  simp only [execOp,yU]
  split at he
  case h_2=>cases he
  rename_i xv hx
  obtain ⟨h1,rfl⟩:=vM he
  exact .still hr (oO h1 (zV hs hx) w)
 ·
  rename_i t x f yU
  simp only [execOp,yU]
  split at he
  case h_2=>cases he
  rename_i cs hx
  split at he
  case h_2=>cases he
  rename_i fields hu
  split at he
  case h_2=>cases he
  rename_i fd hfd
  obtain ⟨h1,rfl⟩:=vM he
  have e:=zV hs hx
  generalize a.eval x=xv at e
  cases e with
  | agg h2 h3=>
    rename_i cs'
    obtain ⟨v',e,hv⟩:=sJ (cs':=cs') h1 ⟨by simpa using h2,fun i x y hx hy=>h3 i x y (by simpa using hx) (by simpa using hy)⟩ w
    refine .still hr ⟨v',?_,hv⟩
    simp only [Instr.field,Sj,zj hu,Sg,hfd,asAgg,Ss,e]
 ·
  rename_i t x i yU
  simp only [execOp,yU]
  split at he
  case h_2=>cases he
  rename_i xv iv hx hi
  obtain ⟨h1,rfl⟩:=vM he
  exact .still hr (oP h1 (zV hs hx) (zV hs hi) w)
 ·
  rename_i t x i yU
  simp only [execOp,yU]
  split at he
  case h_2=>cases he
  rename_i xv iv hx hi
  obtain ⟨hf,he⟩:=zv he
  obtain ⟨h1,rfl⟩:=vM he
  exact .still hr (lu hf h1 (zV hs hx) (zV hs hi) w)
 ·
  rename_i x i yU
  simp only [execOp,yU]
  split at he
  case h_2=>cases he
  rename_i vs hx
  obtain ⟨h1,rfl⟩:=vM he
  have e:=zV hs hx
  generalize a.eval x=xv at e
  cases e with
  | tuple h2 h3=>
    rename_i vs'
    have hlt:i < vs.size:=by
     rcases SC i vs.size with h | h
     ·exact h
     ·rw [SN h] at h1;cases h1
    have hy:vs'[i]? = some vs'[i]:=SO (h2 ▸ hlt)
    refine .still hr ⟨vs'[i]'(h2 ▸ hlt),?_,h3 i _ _ h1 hy⟩
    simp only [Instr.extract,hy,Ss]
 ·
  rename_i b args ts yU
  simp only [execOp,yU]
  split at he
  case h_2=>cases he
  rename_i vs hvs
  have e:=jS hs hvs
  obtain ⟨v',w',ρ',e1,st,hv⟩:=gk (cs:=args.map fun | .const _=>true | _=>false) he hr e
  refine ⟨.value v',w',ρ',v',?_,.inl rfl,st,hv⟩
  simp only [resolve,Sj,Ss,Sg,invoke]
  rw [<- e1]
  congr 2
  apply T7
  simp
 ·
  rename_i t yU
  simp only [execOp,yU]
  simp only [Se] at he
  obtain ⟨v',w',ρ',e,st,hv⟩:=gz hr t
  rw [he] at st hv
  exact .val ⟨v',w',ρ',e,st,hv⟩
 ·
  rename_i t x k ok yU
  simp only [execOp,yU]
  split at he
  case h_2=>cases he
  rename_i xv kv hx hk
  obtain ⟨h1,rfl⟩:=vM he
  exact .still hr (lx h1 hr (zV hs hx) (zV hs hk))
 ·
  rename_i t m k x yU
  simp only [execOp,yU]
  split at he
  case h_2=>cases he
  rename_i mv kv xv hm hk hx
  split at he
  case h_2=>cases he
  rename_i h2 hu
  simp only [Se,Sh] at he
  obtain ⟨rfl,rfl⟩:=he
  obtain ⟨w',e,st⟩:=cF hu hr (zV hs hm) (zV hs hk) (zV hs hx)
  exact ⟨.skip,w',ρ,undef,by simp only [Sj,e,Sg,Ss],.inr ⟨rfl,rfl⟩,st,.Zw _ rfl⟩
 ·
  rename_i t x yU
  simp only [execOp,yU]
  split at he
  case h_2=>cases he
  rename_i xv hx
  exact .val (oS he hr (zV hs hx))
 ·
  rename_i x str yU
  simp only [execOp,yU]
  split at he
  case h_2=>cases he
  rename_i xv hx
  exact .val (sI he hr (zV hs hx))
 ·
  rename_i x yU
  simp only [execOp,yU]
  split at he
  case h_2=>cases he
  rename_i xv hx
  obtain ⟨h1,rfl⟩:=vM he
  exact .still hr (oK h1 hr (zV hs hx))
 ·cases he
end
noncomputable section
variable {P:Program}
def vH (b:Frame) (tm:Array Value) (ds:List Deferred) (todo:List Item):Frame :=
 { fn:=b.fn,tmps:=tm,todo,defers:=ds,mode := .run,kind:=b.kind,roundOf:=b.roundOf }
theorem gX (b:Frame) (tm:Array Value) (ds:List Deferred) (todo:List Item):(vH b tm ds todo).eval=(Act.eval ⟨tm,ds⟩):=by
 funext x;cases x <;> rfl
section moves
variable {b:Frame} {tm:Array Value} {ds:List Deferred} {k:List Item} {cs:List Frame} {w:World}
theorem BU:step P (lone (vH b tm ds (.code .skip :: k)) cs w) = .next (lone (vH b tm ds k) cs w):=step_lone_go (by simp [stepG,stepG.exec,vH])
theorem tC {l:Nat}:step P (lone (vH b tm ds (.code (.label l) :: k)) cs w) = .next (lone (vH b tm ds k) cs w):=step_lone_go (by simp [stepG,stepG.exec,vH])
theorem lE {id:Nat}:step P (lone (vH b tm ds (.inBlock id :: k)) cs w) = .next (lone (vH b tm ds k) cs w):=step_lone_go (by simp [stepG,stepG.exec,vH])
theorem lF {c:Code}:step P (lone (vH b tm ds (.inScope c :: k)) cs w) = .next (lone (vH b tm ds k) cs w):=step_lone_go (by simp [stepG,stepG.exec,vH])
theorem cL {x y:Code}:step P (lone (vH b tm ds (.code (.seq x y) :: k)) cs w) = .next (lone (vH b tm ds (.code x :: .code y :: k)) cs w):=step_lone_go (by simp [stepG,stepG.exec,vH])
theorem BS {c:Operand} {x y:Code} {t:Bool} (h:Act.eval ⟨tm,ds⟩ c = .bool t):step P (lone (vH b tm ds (.code (.cond c x y) :: k)) cs w) = .next (lone (vH b tm ds (.code (if t then x else y) :: k)) cs w) :=
 step_lone_go (by
  have:=congrFun (gX b tm ds (.code (.cond c x y) :: k)) c
  simp only [vH] at this
  simp [stepG,stepG.exec,vH,this,h])
theorem W9 {id:Nat} {c:Code}:step P (lone (vH b tm ds (.code (.block id c) :: k)) cs w) = .next (lone (vH b tm ds (.code c :: .inBlock id :: k)) cs w):=step_lone_go (by simp [stepG,stepG.exec,vH])
theorem Qi {c:Code}:step P (lone (vH b tm ds (.code (.scope c) :: k)) cs w) = .next (lone (vH b tm ds (.code c :: .inScope c :: k)) cs w):=step_lone_go (by simp [stepG,stepG.exec,vH])
theorem Us {c:Code}:step P (lone (vH b tm ds (.code (.loop c) :: k)) cs w) = .next (lone (vH b tm ds (.code c :: .inLoop c :: k)) cs w):=step_lone_go (by simp [stepG,stepG.exec,vH])
theorem pr {c:Code}:step P (lone (vH b tm ds (.inLoop c :: k)) cs w) = .next (lone (vH b tm ds (.code c :: .inLoop c :: k)) cs w):=step_lone_go (by simp [stepG,stepG.exec,vH])
theorem BT {id:Nat} {k':List Item} (h:exitTo id k=some k'):step P (lone (vH b tm ds (.code (.exit id) :: k)) cs w) = .next (lone (vH b tm ds k') cs w):=step_lone_go (by simp [stepG,stepG.exec,vH,h])
theorem pw {id:Nat} {ops:Array Oper}:step P (lone (vH b tm ds (.code (.region id ops false) :: k)) cs w) = .next (lone (vH b tm ds (.inRegion ops (List.range ops.size) :: k)) cs w):=step_lone_go (by simp [stepG,stepG.exec,vH])
theorem Va {id:Nat} {ops:Array Oper}:step P (lone (vH b tm ds (.code (.region id ops true) :: k)) cs w) =
  .next (lone (vH b tm ds (.inRegion ops (Region.schedule (P.follows .mixedOrders) ops (w.tape w.drawn (.order b.fn id))) :: k)) cs { w with drawn:=w.drawn + 1 }) :=
 step_lone_go (by simp [stepG,stepG.exec,vH,choose,Sem.run,Question.forced,Question.cut])
theorem Xh {ops:Array Oper}:step P (lone (vH b tm ds (.inRegion ops [] :: k)) cs w) = .next (lone (vH b tm ds k) cs w):=step_lone_go (by simp [stepG,stepG.exec,vH])
theorem EI (hb:b.roundOf=none):step P (lone (vH b tm ds (.code .ret :: k)) cs w) = .next (lone { vH b tm ds (.code .ret :: k) with mode := .returning } cs w) :=
 step_lone_go (by simp [stepG,stepG.exec,vH,hb])
theorem EH (hb:b.roundOf=none):step P (lone (vH b tm ds []) cs w) = .next (lone { vH b tm ds [] with mode := .returning } cs w) :=
 step_lone_go (by simp [stepG,stepG.exec,vH,hb])
theorem jU (ops:Array Oper) (i:Nat) (rest:List Nat) (v:Value) :
  (vH b tm ds (.inRegion ops (i :: rest) :: k)).finish v=vH b (ql tm ((ops[i]?).bind (·.dst)) v) ds (.inRegion ops rest :: k):=by
 cases h:(ops[i]?).bind (·.dst) <;> simp [Frame.finish,vH,ql,h]
theorem KD {ops:Array Oper} {i:Nat} {rest:List Nat} (h:((ops[i]?).map (Region.wanted · (yielded ops tm))).getD false=false) :
  step P (lone (vH b tm ds (.inRegion ops (i :: rest) :: k)) cs w) = .next (lone ((vH b tm ds (.inRegion ops (i :: rest) :: k)).finish undef) cs w):=by
 exact step_lone_go (by
  have h':=h
  simp only [vH] at *
  simp [stepG,stepG.exec,h'])
def Xq:Op->Bool
 | .defer _=>true
 | _=>false
theorem Kf {ops:Array Oper} {i:Nat} {rest:List Nat} {o:Oper} (ho:ops[i]? = some o) (hw:Region.wanted o (yielded ops tm)=true) (hd:Xq o.op=false) :
  stepG P true { frame:=vH b tm ds (.inRegion ops (i :: rest) :: k),callers:=cs,status := .running,dying:=none } w =
   stepG.apply P true (vH b tm ds (.inRegion ops (i :: rest) :: k)) cs none (execOp (Act.eval ⟨tm,ds⟩) o) w:=by
 have he:=gX b tm ds (.inRegion ops (i :: rest) :: k)
 have hw':((ops[i]?).map (Region.wanted · (yielded ops tm))).getD false=true:=by rw [ho];exact hw
 have h2:(vH b tm ds (.inRegion ops (i :: rest) :: k)).oper? = some o:=by simp [Frame.oper?,vH,ho]
 have h1:stepG P true { frame:=vH b tm ds (.inRegion ops (i :: rest) :: k),callers:=cs,status := .running,dying:=none } w=stepG.oper P true (vH b tm ds (.inRegion ops (i :: rest) :: k)) cs none w:=by
  simp only [stepG,vH]
  simp only [stepG.exec,hw']
  rfl
 rw [h1]
 simp only [stepG.oper,h2,he]
 cases hro:(vH b tm ds (.inRegion ops (i :: rest) :: k)).roundOf with
 | none=>rfl
 | some l=>cases yU:o.op <;> first | rfl | (rw [yU] at hd;cases hd)
theorem YM {ops:Array Oper} {i:Nat} {rest:List Nat} {o:Oper} (ho:ops[i]? = some o) (hw:Region.wanted o (yielded ops tm)=true) (hd:Xq o.op=false) {v:Value} {w':World}
  (hr:(execOp (Act.eval ⟨tm,ds⟩) o).run P w = .ok (.value v) w') :
  step P (lone (vH b tm ds (.inRegion ops (i :: rest) :: k)) cs w) = .next (lone ((vH b tm ds (.inRegion ops (i :: rest) :: k)).finish v) cs w') :=
 step_lone_go (by rw [Kf ho hw hd];simp [stepG.apply,hr])
theorem Xp {ops:Array Oper} {i:Nat} {rest:List Nat} {o:Oper} (ho:ops[i]? = some o) (hw:Region.wanted o (yielded ops tm)=true) (hd:Xq o.op=false) {w':World}
  (hr:(execOp (Act.eval ⟨tm,ds⟩) o).run P w = .ok .skip w') :
  step P (lone (vH b tm ds (.inRegion ops (i :: rest) :: k)) cs w) = .next (lone ((vH b tm ds (.inRegion ops (i :: rest) :: k)).finish undef) cs w') :=
 step_lone_go (by rw [Kf ho hw hd];simp [stepG.apply,hr])
theorem Qh {ops:Array Oper} {i:Nat} {rest:List Nat} {o:Oper} (ho:ops[i]? = some o) (hw:Region.wanted o (yielded ops tm)=true) (hd:Xq o.op=false) {f:FuncId} {args:Array Value} {w':World}
  (hr:(execOp (Act.eval ⟨tm,ds⟩) o).run P w = .ok (.enter f args) w') :
  step P (lone (vH b tm ds (.inRegion ops (i :: rest) :: k)) cs w) = .next (lone (Frame.enter P f args .normal) (vH b tm ds (.inRegion ops (i :: rest) :: k) :: cs) w') :=
 step_lone_go (by rw [Kf ho hw hd];simp [stepG.apply,hr,vH])
end moves
end
noncomputable section
variable {P:Program}
inductive Ex where
 | normal
 | exit (id:Nat)
 | ret
 deriving DecidableEq
def PJ (P:Program) (m:Machine) (b:Frame) (k:List Item) (cs:List Frame) (e:Ex) (tm:Array Value) (ds:List Deferred) (w:World):Prop :=
 match e with
 | .normal=>Steps P m (lone (vH b tm ds k) cs w)
 | .exit id => ∃ todo,exitTo id todo=exitTo id k/\Steps P m (lone (vH b tm ds (.code (.exit id) :: todo)) cs w)
 | .ret => ∃ todo,Steps P m (lone (vH b tm ds (.code .ret :: todo)) cs w)
theorem PJ.of_steps {m m₁:Machine} {b:Frame} {k:List Item} {cs:List Frame} {e:Ex} {tm:Array Value} {ds:List Deferred} {w:World} (h:Steps P m m₁) (h':PJ P m₁ b k cs e tm ds w):PJ P m b k cs e tm ds w:=by
 cases e with
 | normal=>exact h.trans h'
 | exit id=>obtain ⟨t,e,s⟩:=h';exact ⟨t,e,h.trans s⟩
 | ret=>obtain ⟨t,s⟩:=h';exact ⟨t,h.trans s⟩
theorem Hy {ρ:xn} {h:za} {w:World} (hr:Rel P ρ h w) {r:Nat} {o:Obj} (ho:w.heap[r]? = some o) (hn:∃ x,o = .deferred x):¬ Ju ρ h r:=by
 rintro ⟨b,ob,pl,hg,_,hm,rfl⟩
 obtain ⟨x,rfl⟩:=hn
 have hc:=hr.HA hg hm
 cases ob with
 | cells c t=>obtain ⟨cs,fz,h1,_⟩:=hc;rw [h1] at ho;cases ho
 | map es q=>obtain ⟨ms,h1,_⟩:=hc;rw [h1] at ho;cases ho
 | iter m a b c=>obtain ⟨m',h1,_⟩:=hc;rw [h1] at ho;cases ho
 | tab c=>obtain ⟨t,cs,fz,h1,_⟩:=hc;rw [h1] at ho;cases ho
 | siter s pos=>have h1:w.heap[pl.c]? = _:=hc.1;rw [h1] at ho;cases ho
 | loop l=>obtain ⟨tm,d,fn,h1,_⟩:=hc;rw [h1] at ho;cases ho
theorem cS {w:World} {r:Nat} {o:Obj} (h:w.heap[r]? = some o):r < w.heap.size:=by
 rcases SC r w.heap.size with hl | hl
 ·exact hl
 ·rw [SN hl] at h;cases h
def tP (r:Nat):Deferred:={ target := .collected r,args := #[] }
def UT (w:World) (ds:List Deferred) (w':World) (ds':List Deferred):Prop :=
 ∃ rs:List Nat,ds'=rs.map tP ++ ds/\rs.Nodup /\ ∀ r,r ∈ rs->w.heap.size<=r/\w'.heap[r]? = some (.deferred (some []))
theorem UT.refl (w w':World) (ds:List Deferred):UT w ds w' ds:=⟨[],rfl,List.nodup_nil,fun r h=>by cases h⟩
theorem UT.trans {ρ ρ':xn} {h h':za} {w w1 w2:World} {ds ds1 ds2:List Deferred} (a:UT w ds w1 ds1) (b:UT w1 ds1 w2 ds2) (hle:w.heap.size<=w1.heap.size) (hr:Rel P ρ h w1) (st:Step P ρ h w1 ρ' h' w2):UT w ds w2 ds2:=by
 obtain ⟨rs,h1,h2,h3⟩:=a
 obtain ⟨rs2,k1,k2,k3⟩:=b
 refine ⟨rs2 ++ rs,by rw [k1,h1,aae,List.append_assoc],List.nodup_append.2 ⟨k2,h2,fun x hx y hy e => ?_⟩,fun r hr' => ?_⟩
 ·have:=(k3 x hx).1
  have:=cS (h3 y hy).2
  omega
 ·rcases Ta.1 hr' with hm | hm
  ·exact ⟨S4 hle (k3 r hm).1,(k3 r hm).2⟩
  ·have:=(h3 r hm).2
   refine ⟨(h3 r hm).1,?_⟩
   rw [st.frame r (cS this) (Hy hr this ⟨_,rfl⟩)]
   exact this
def Rd (ρ:xn) (rd:Option Nat) (b:Frame):Prop :=
 match rd with
 | none=>b.roundOf=none
 | some l=>l < ρ.next /\ ∃ pl,ρ.m l=some pl/\b.roundOf=some pl.c
theorem Rd.mono {ρ ρ':xn} (hle:ρ.le ρ') {rd:Option Nat} {b:Frame} (h:Rd ρ rd b):Rd ρ' rd b:=by
 cases rd with
 | none=>exact h
 | some l=>exact ⟨Sq h.1 hle.1,by obtain ⟨pl,hp,hb⟩:=h.2;exact ⟨pl,(hle.2 l h.1).trans hp,hb⟩⟩
def T (P:Program) (rd:Option Nat) (c:Code) (s:Env) (h:za) (Q:Ex->Env->za->Prop):Prop :=
 ∀ (ρ:xn) (w:World) (tm:Array Value) (ds:List Deferred),Rel P ρ h w->vN ρ s tm->∀ (b:Frame),Rd ρ rd b->∀ (k:List Item) (cs:List Frame),
   ∃ e s' h' ρ' w' tm' ds',Q e s' h'/\Step P ρ h w ρ' h' w'/\vN ρ' s' tm'/\UT w ds w' ds'/\PJ P (lone (vH b tm ds (.code c :: k)) cs w) b k cs e tm' ds' w'
def TO (P:Program) (ops:Array Oper) (l:List Nat) (s:Env) (h:za) (Q:Env->za->Prop):Prop :=
 ∀ (ρ:xn) (w:World) (tm:Array Value) (ds:List Deferred),Rel P ρ h w->vN ρ s tm->∀ (b:Frame) (k:List Item) (cs:List Frame),
   ∃ s' h' ρ' w' tm',Q s' h'/\Step P ρ h w ρ' h' w'/\vN ρ' s' tm'/\Steps P (lone (vH b tm ds (.inRegion ops l :: k)) cs w) (lone (vH b tm' ds (.inRegion ops [] :: k)) cs w')
def TC (P:Program) (f:FuncId) (args:List Value) (h:za) (R:Value->za->Prop):Prop :=
 ∀ (ρ:xn) (w:World) (cargs:List Value),Rel P ρ h w->wz ρ args cargs ->
   Calls P f cargs.toArray w fun e w' => ∃ v v' h' ρ',e = .returned v'/\R v h'/\Step P ρ h w ρ' h' w'/\zI ρ' v v'
section rules
variable {rd:Option Nat} {s:Env} {h:za} {Q:Ex->Env->za->Prop}
theorem T.mono {c:Code} {Q':Ex->Env->za->Prop} (ht:T P rd c s h Q) (hq:∀ e s h,Q e s h->Q' e s h):T P rd c s h Q':=by
 intro ρ w tm ds hr hs b hb k cs
 obtain ⟨e,s',h',ρ',w',tm',ds',q,r⟩:=ht ρ w tm ds hr hs b hb k cs
 exact ⟨e,s',h',ρ',w',tm',ds',hq _ _ _ q,r⟩
theorem TC.mono {f:FuncId} {args:List Value} {R R':Value->za->Prop} (ht:TC P f args h R) (hq:∀ v h,R v h->R' v h):TC P f args h R':=by
 intro ρ w cargs hr hv
 refine (ht ρ w cargs hr hv).mono fun e w' => ?_
 rintro ⟨v,v',h',ρ',e1,q,r⟩
 exact ⟨v,v',h',ρ',e1,hq _ _ q,r⟩
theorem Fz (hq:Q .normal s h):T P rd .skip s h Q:=fun ρ w tm ds hr hs b hb k cs=>⟨.normal,s,h,ρ,w,tm,ds,hq,.refl hr,hs,.refl _ _ _,.one BU⟩
theorem CF {l:Nat} (hq:Q .normal s h):T P rd (.label l) s h Q:=fun ρ w tm ds hr hs b hb k cs=>⟨.normal,s,h,ρ,w,tm,ds,hq,.refl hr,hs,.refl _ _ _,.one tC⟩
theorem Fy {id:Nat} (hq:Q (.exit id) s h):T P rd (.exit id) s h Q:=fun ρ w tm ds hr hs b hb k cs=>⟨.exit id,s,h,ρ,w,tm,ds,hq,.refl hr,hs,.refl _ _ _,k,rfl,.refl P _⟩
theorem LM (hq:Q .ret s h):T P rd .ret s h Q:=fun ρ w tm ds hr hs b hb k cs=>⟨.ret,s,h,ρ,w,tm,ds,hq,.refl hr,hs,.refl _ _ _,k,.refl P _⟩
theorem CH {x y:Code} (ht:T P rd x s h (fun e s1 h1=>match e with | .normal=>T P rd y s1 h1 Q | e=>Q e s1 h1)):T P rd (.seq x y) s h Q:=by
 intro ρ w tm ds hr hs b hb k cs
 obtain ⟨e,s1,h1,ρ1,w1,tm1,ds1,q,st,hs1,hd1,ha⟩:=ht ρ w tm ds hr hs b hb (.code y :: k) cs
 cases e with
 | normal=>
   obtain ⟨e2,s2,h2,ρ2,w2,tm2,ds2,q2,st2,hs2,hd2,ha2⟩:=q ρ1 w1 tm1 ds1 st.rel hs1 b (hb.mono st.le) k cs
   exact ⟨e2,s2,h2,ρ2,w2,tm2,ds2,q2,st.trans st2,hs2,hd1.trans hd2 st.size st.rel st2,.of_steps (.head cL ha) ha2⟩
 | exit id=>obtain ⟨t,et,sx⟩:=ha;exact ⟨_,s1,h1,ρ1,w1,tm1,ds1,q,st,hs1,hd1,t,et,.head cL sx⟩
 | ret=>obtain ⟨t,sx⟩:=ha;exact ⟨_,s1,h1,ρ1,w1,tm1,ds1,q,st,hs1,hd1,t,.head cL sx⟩
theorem n6 {c:Operand} {x y:Code} {t:Bool} (hc:jb s c=some (.bool t)) (ht:T P rd (if t then x else y) s h Q):T P rd (.cond c x y) s h Q:=by
 intro ρ w tm ds hr hs b hb k cs
 obtain ⟨e,s1,h1,ρ1,w1,tm1,ds1,q,st,hs1,hd1,ha⟩:=ht ρ w tm ds hr hs b hb k cs
 have he:=zV (a:=⟨tm,ds⟩) hs hc
 have:Act.eval ⟨tm,ds⟩ c = .bool t:=by
  generalize Act.eval ⟨tm,ds⟩ c=v at he
  cases he;rfl
 exact ⟨e,s1,h1,ρ1,w1,tm1,ds1,q,st,hs1,hd1,.of_steps (.one (BS this)) ha⟩
theorem Jx {id:Nat} {c:Code} (ht:T P rd c s h (fun e s1 h1=>if e = .exit id then Q .normal s1 h1 else Q e s1 h1)):T P rd (.block id c) s h Q:=by
 intro ρ w tm ds hr hs b hb k cs
 obtain ⟨e,s1,h1,ρ1,w1,tm1,ds1,q,st,hs1,hd1,ha⟩:=ht ρ w tm ds hr hs b hb (.inBlock id :: k) cs
 cases e with
 | normal=>rw [Sl (by simp)] at q;exact ⟨.normal,s1,h1,ρ1,w1,tm1,ds1,q,st,hs1,hd1,.head W9 (T3 ha (.one lE))⟩
 | exit id'=>
   obtain ⟨t,et,sx⟩:=ha
   by_cases hid:id'=id
   ·subst hid
    rw [Sn rfl] at q
    refine ⟨.normal,s1,h1,ρ1,w1,tm1,ds1,q,st,hs1,hd1,.head W9 (sx.trans (.one (BT (k':=k) ?_)))⟩
    rw [et];simp [exitTo]
   ·rw [Sl (by simpa using hid)] at q
    refine ⟨.exit id',s1,h1,ρ1,w1,tm1,ds1,q,st,hs1,hd1,t,?_,.head W9 sx⟩
    rw [et]
    have:(id == id')=false:=by simp;exact fun h=>hid h.symm
    simp [exitTo,this]
 | ret=>obtain ⟨t,sx⟩:=ha;rw [Sl (by simp)] at q;exact ⟨.ret,s1,h1,ρ1,w1,tm1,ds1,q,st,hs1,hd1,t,.head W9 sx⟩
theorem CG {c:Code} (ht:T P rd c s h Q):T P rd (.scope c) s h Q:=by
 intro ρ w tm ds hr hs b hb k cs
 obtain ⟨e,s1,h1,ρ1,w1,tm1,ds1,q,st,hs1,hd1,ha⟩:=ht ρ w tm ds hr hs b hb (.inScope c :: k) cs
 cases e with
 | normal=>exact ⟨.normal,s1,h1,ρ1,w1,tm1,ds1,q,st,hs1,hd1,.head Qi (T3 ha (.one lF))⟩
 | exit id=>obtain ⟨t,et,sx⟩:=ha;exact ⟨_,s1,h1,ρ1,w1,tm1,ds1,q,st,hs1,hd1,t,by rw [et];simp [exitTo],.head Qi sx⟩
 | ret=>obtain ⟨t,sx⟩:=ha;exact ⟨_,s1,h1,ρ1,w1,tm1,ds1,q,st,hs1,hd1,t,.head Qi sx⟩
theorem WV {c:Code} (ht:T P rd c s h (fun e s1 h1=>match e with | .normal=>T P rd (.loop c) s1 h1 Q | e=>Q e s1 h1)):T P rd (.loop c) s h Q:=by
 intro ρ w tm ds hr hs b hb k cs
 obtain ⟨e,s1,h1,ρ1,w1,tm1,ds1,q,st,hs1,hd1,ha⟩:=ht ρ w tm ds hr hs b hb (.inLoop c :: k) cs
 cases e with
 | normal=>
   obtain ⟨e2,s2,h2,ρ2,w2,tm2,ds2,q2,st2,hs2,hd2,ha2⟩:=q ρ1 w1 tm1 ds1 st.rel hs1 b (hb.mono st.le) k cs
   refine ⟨e2,s2,h2,ρ2,w2,tm2,ds2,q2,st.trans st2,hs2,hd1.trans hd2 st.size st.rel st2,?_⟩
   have e0:step P (lone (vH b tm1 ds1 (.inLoop c :: k)) cs w1)=step P (lone (vH b tm1 ds1 (.code (.loop c) :: k)) cs w1):=by rw [pr,Us]
   have key:∀ m',Steps P (lone (vH b tm1 ds1 (.code (.loop c) :: k)) cs w1) m'->(m'=lone (vH b tm1 ds1 (.code (.loop c) :: k)) cs w1)\/Steps P (lone (vH b tm1 ds1 (.inLoop c :: k)) cs w1) m':=by
    rintro m' ⟨n,hn⟩
    cases n with
    | zero=>left;simp [runN] at hn;exact hn.symm
    | succ n=>right;exact ⟨n + 1,by simp only [runN] at hn ⊢;rw [e0];exact hn⟩
   have go:∀ m',Steps P (lone (vH b tm1 ds1 (.code (.loop c) :: k)) cs w1) m'->m' ≠ lone (vH b tm1 ds1 (.code (.loop c) :: k)) cs w1->Steps P (lone (vH b tm ds (.code (.loop c) :: k)) cs w) m':=by
    intro m' hm hne
    exact (Steps.head Us ha).trans ((key m' hm).resolve_left hne)
   have neq:∀ (k':List Item) tm' ds' w',(k'=k\/(∃ x t,k' = .code x :: t /\ ∀ c,x ≠ .loop c))->lone (vH b tm' ds' k') cs w' ≠ lone (vH b tm1 ds1 (.code (.loop c) :: k)) cs w1:=by
    intro k' tm' ds' w' hk' e
    simp only [lone,Machine.mk.injEq,Array.mk.injEq,Tn,Goroutine.mk.injEq,vH,Frame.mk.injEq] at e
    have e:=e.2.1.1.1.2.2.1
    rcases hk' with rfl | ⟨x,t,rfl,hx⟩
    ·have:=congrArg List.length e;simp at this
    ·simp only [Tn,Item.code.injEq] at e;exact hx c e.1
   cases e2 with
   | normal=>exact go _ ha2 (neq _ _ _ _ (.inl rfl))
   | exit id=>obtain ⟨t,et,sx⟩:=ha2;exact ⟨t,et,go _ sx (neq _ _ _ _ (.inr ⟨_,_,rfl,fun c=>by simp⟩))⟩
   | ret=>obtain ⟨t,sx⟩:=ha2;exact ⟨t,go _ sx (neq _ _ _ _ (.inr ⟨_,_,rfl,fun c=>by simp⟩))⟩
 | exit id=>obtain ⟨t,et,sx⟩:=ha;exact ⟨_,s1,h1,ρ1,w1,tm1,ds1,q,st,hs1,hd1,t,by rw [et];simp [exitTo],.head Us sx⟩
 | ret=>obtain ⟨t,sx⟩:=ha;exact ⟨_,s1,h1,ρ1,w1,tm1,ds1,q,st,hs1,hd1,t,.head Us sx⟩
end rules
def yw (ops:Array Oper) (s:Env) (o:Oper):Bool :=
 match o.guard with
 | none=>true
 | some (j,want)=>(match (ops[j]?).bind (·.dst) with
   | none=>false
   | some d=>(match s.get d with
     | .bool b=>b == want
     | _=>false))
theorem Xe {ρ:xn} {s:Env} {tm:Array Value} (hs:vN ρ s tm) (ops:Array Oper) (o:Oper):Region.wanted o (yielded ops tm)=yw ops s o:=by
 unfold Region.wanted yw
 split
 ·rename_i e;rw [e]
 ·rename_i j want e
  rw [e]
  simp only [yielded]
  cases hd:(ops[j]?).bind (·.dst) with
  | none=>rfl
  | some d=>
    simp only [SS]
    have hv:=hs.get d
    cases ht:tm[d]? with
    | none=>
      have:tm.getD d undef=undef:=by simp [SB,ht]
      rw [this] at hv
      generalize s.get d=sv at hv
      cases hv with
      | pZ h=>cases h
      | tuple _ _=>rfl
    | some tv=>
      have:tm.getD d undef=tv:=by simp [SB,ht]
      rw [this] at hv
      generalize s.get d=sv at hv
      cases hv with
      | pZ h=>cases tv <;> first | rfl | cases h
      | bool bb=>cases bb <;> cases want <;> rfl
      | _=>rfl
section ops
variable {s:Env} {h:za} {Q:Env->za->Prop} {ops:Array Oper}
theorem Fx (hq:Q s h):TO P ops [] s h Q:=fun ρ w tm ds hr hs b k cs=>⟨s,h,ρ,w,tm,hq,.refl hr,hs,.refl P _⟩
theorem WG {o:Oper} {v:Value} {h1:za} (ho:Kz P s o h=some (v,h1)):Xq o.op=false:=by
 cases yU:o.op <;> first | rfl | (unfold Kz at ho;rw [yU] at ho;cases ho)
theorem LJ {i:Nat} {rest:List Nat} {o:Oper} (ho:ops[i]? = some o) (hw:yw ops s o=true) {v:Value} {h1:za} {s1:Env} (hd:Xq o.op=false) (hok:∀ (ρ:xn) (w:World) (a:Act),Rel P ρ h w->vN ρ s a.tmps->eU P ρ h w (execOp a.eval o) v h1) (hp:s.put o.dst v=some s1) (ht:TO P ops rest s1 h1 Q) :
  TO P ops (i :: rest) s h Q:=by
 intro ρ w tm ds hr hs b k cs
 obtain ⟨n,w1,ρ1,v',e,hn,st,hv⟩:=hok ρ w ⟨tm,ds⟩ hr hs
 have hs1:vN ρ1 s1 (ql tm o.dst v'):=(hs.mono st.le).put hv hp
 obtain ⟨s2,h2,ρ2,w2,tm2,q,st2,hs2,sx⟩:=ht ρ1 w1 _ ds st.rel hs1 b k cs
 have hw':Region.wanted o (yielded ops tm)=true:=(Xe hs ops o).trans hw
 refine ⟨s2,h2,ρ2,w2,tm2,q,st.trans st2,hs2,.head ?_ sx⟩
 have hfin:(vH b tm ds (.inRegion ops (i :: rest) :: k)).finish v'=vH b (ql tm o.dst v') ds (.inRegion ops rest :: k):=by
  rw [jU,ho];rfl
 rw [<- hfin]
 rcases hn with rfl | ⟨rfl,rfl⟩
 ·exact YM ho hw' hd e
 ·exact Xp ho hw' hd e
theorem LL {i:Nat} {rest:List Nat} {o:Oper} (ho:ops[i]? = some o) (hw:yw ops s o=true) {v:Value} {h1:za} {s1:Env} (yU:Kz P s o h=some (v,h1)) (hp:s.put o.dst v=some s1) (ht:TO P ops rest s1 h1 Q) :
  TO P ops (i :: rest) s h Q:=by
 intro ρ w tm ds hr hs b k cs
 obtain ⟨n,w1,ρ1,v',e,hn,st,hv⟩:=nj (a:=⟨tm,ds⟩) yU hr hs
 have hs1:vN ρ1 s1 (ql tm o.dst v'):=(hs.mono st.le).put hv hp
 obtain ⟨s2,h2,ρ2,w2,tm2,q,st2,hs2,sx⟩:=ht ρ1 w1 _ ds st.rel hs1 b k cs
 have hw':Region.wanted o (yielded ops tm)=true:=(Xe hs ops o).trans hw
 refine ⟨s2,h2,ρ2,w2,tm2,q,st.trans st2,hs2,.head ?_ sx⟩
 have hfin:(vH b tm ds (.inRegion ops (i :: rest) :: k)).finish v'=vH b (ql tm o.dst v') ds (.inRegion ops rest :: k):=by
  rw [jU,ho];rfl
 rw [<- hfin]
 rcases hn with rfl | ⟨rfl,rfl⟩
 ·exact YM ho hw' (WG yU) e
 ·exact Xp ho hw' (WG yU) e
theorem CE {i:Nat} {rest:List Nat} {o:Oper} (ho:ops[i]? = some o) (hw:yw ops s o=false) {s1:Env} (hp:s.put o.dst undef=some s1) (ht:TO P ops rest s1 h Q):TO P ops (i :: rest) s h Q:=by
 intro ρ w tm ds hr hs b k cs
 have hs1:vN ρ s1 (ql tm o.dst undef):=hs.put (.Zw _ rfl) hp
 obtain ⟨s2,h2,ρ2,w2,tm2,q,st2,hs2,sx⟩:=ht ρ w _ ds hr hs1 b k cs
 refine ⟨s2,h2,ρ2,w2,tm2,q,st2,hs2,.head ?_ sx⟩
 have hw':Region.wanted o (yielded ops tm)=false:=(Xe hs ops o).trans hw
 rw [KD (by rw [ho];exact hw'),jU,ho]
 rfl
def ux (P:Program) (g:FuncId):Bool :=
 match P.funcs[g]? with
 | some fn=>fn.body.isSome && !(fn.name == "runtime.NumGoroutine")
 | none=>false
theorem CC {i:Nat} {rest:List Nat} {o:Oper} {f:Operand} {cargs:Array Operand} {ts:Array TypeId} {g:FuncId} {fa fc:Array Value} {vs:List Value} {R:Value->za->Prop}
  (ho:ops[i]? = some o) (hw:yw ops s o=true) (yU:o.op = .call { callee := .value f,args:=cargs,argTypes:=ts }) (hf:jb s f=some (.func (.func g) fa fc)) (hargs:VC s cargs.toList=some vs)
  (hcall:ux P g=true) (hc:TC P g (fa.toList ++ vs ++ fc.toList) h R) (ht:∀ v h1,R v h1->∃ s1,s.put o.dst v=some s1/\TO P ops rest s1 h1 Q):TO P ops (i :: rest) s h Q:=by
 intro ρ w tm ds hr hs b k cs
 have hw':Region.wanted o (yielded ops tm)=true:=(Xe hs ops o).trans hw
 have e1:=zV (a:=⟨tm,ds⟩) hs hf
 have e2:=jS (a:=⟨tm,ds⟩) hs hargs
 generalize hfv:Act.eval ⟨tm,ds⟩ f=fv at e1
 cases e1 with
 | func ha hcs h1 h2=>
   rename_i fa' fc'
   let full:=fa'.toList ++ cargs.toList.map (Act.eval ⟨tm,ds⟩) ++ fc'.toList
   have hfull:wz ρ (fa.toList ++ vs ++ fc.toList) full :=
    (wz.append ⟨by simpa using ha,fun i x y hx hy=>h1 i x y (by simpa using hx) (by simpa using hy)⟩ e2).append ⟨by simpa using hcs,fun i x y hx hy=>h2 i x y (by simpa using hx) (by simpa using hy)⟩
   have hrun:(execOp (Act.eval ⟨tm,ds⟩) o).run P w = .ok (.enter g full.toArray) w:=by
    have hargs':fa' ++ cargs.map (Act.eval ⟨tm,ds⟩) ++ fc'=full.toArray:=by apply T7;simp [full]
    simp only [execOp,yU,resolve,hfv,Deferred.ofValue,Sj,Ss,Sg,invoke,callFunc,run_program,hargs']
    unfold ux at hcall
    cases hfn:P.funcs[g]? with
    | none=>rw [hfn] at hcall;cases hcall
    | some fn=>
      rw [hfn] at hcall
      simp only [Sm,Sz] at hcall
      simp only [hcall.2,Ti,Sx]
      rw [Sl (by cases hb:fn.body <;> simp_all)]
      rfl
   obtain ⟨e,w1,fr,⟨v,v',h',ρ',rfl,hR,st,hv⟩,hcomes,_,hleave⟩:=hc ρ w full hr hfull (vH b tm ds (.inRegion ops (i :: rest) :: k) :: cs)
   obtain ⟨s1,hp,hrest⟩:=ht v h' hR
   have hs1:vN ρ' s1 (ql tm o.dst v'):=(hs.mono st.le).put hv hp
   obtain ⟨s2,h2,ρ2,w2,tm2,q,st2,hs2,sx⟩:=hrest ρ' w1 _ ds st.rel hs1 b k cs
   have hd:Xq o.op=false:=by rw [yU];rfl
   refine ⟨s2,h2,ρ2,w2,tm2,q,st.trans st2,hs2,.head (Qh ho hw' hd hrun) (T3 hcomes (.head (step_leave_returned hleave) ?_))⟩
   rw [jU,ho]
   exact sx
end ops
def Dg (P:Program) (g:FuncId) (args:List Value) (h:za):Option (Value × za) :=
 match P.funcs[g]? with
 | some fn=>cond (fn.body.isNone && decide (fn.name = "internal/abi.NoEscape") && (Extern.findNext fn).isNone) (match args with
   | [x]=>some (x,h)
   | _=>none) none
 | none=>none
theorem BO {fn:Func} (h:fn.name = "internal/abi.NoEscape"):Extern.find fn=some Extern.AbiNoEscape.same:=by
 unfold Extern.find
 rw [h]
 rfl
theorem Hx {ρ:xn} {s:Env} {h h1:za} {w:World} {a:Act} {o:Oper} {f:Operand} {cargs:Array Operand} {ts:Array TypeId} {g:FuncId} {fa fc:Array Value} {vs:List Value} {v:Value}
  (yU:o.op = .call { callee := .value f,args:=cargs,argTypes:=ts }) (hf:jb s f=some (.func (.func g) fa fc)) (hargs:VC s cargs.toList=some vs) (he:Dg P g (fa.toList ++ vs ++ fc.toList) h=some (v,h1)) (hr:Rel P ρ h w) (hs:vN ρ s a.tmps) :
  eU P ρ h w (execOp a.eval o) v h1:=by
 have e1:=zV hs hf
 have e2:=jS hs hargs
 generalize hfv:a.eval f=fv at e1
 cases e1 with
 | func ha hcs q1 q2=>
   rename_i fa' fc'
   let full:=fa'.toList ++ cargs.toList.map a.eval ++ fc'.toList
   have hfull:wz ρ (fa.toList ++ vs ++ fc.toList) full :=
    (wz.append ⟨by simpa using ha,fun i x y hx hy=>q1 i x y (by simpa using hx) (by simpa using hy)⟩ e2).append ⟨by simpa using hcs,fun i x y hx hy=>q2 i x y (by simpa using hx) (by simpa using hy)⟩
   have hargs':fa' ++ cargs.map a.eval ++ fc'=full.toArray:=by apply T7;simp [full]
   unfold Dg at he
   split at he
   case h_2=>cases he
   rename_i fn hfn
   obtain ⟨hc,he⟩:=zv he
   simp only [Sm,SZ] at hc
   obtain ⟨⟨hb,hn⟩,hx⟩:=hc
   split at he
   case h_2=>cases he
   rename_i x hl
   simp only [Se,Sh] at he
   obtain ⟨rfl,rfl⟩:=he
   rw [hl] at hfull
   obtain ⟨y,ys,hy,v1,hv2⟩:=hfull.cons_inv
   cases hv2.uL
   have hfn':Extern.findNext fn=none:=by simpa using hx
   refine ⟨.value y,w,ρ,y,?_,.inl rfl,.refl hr,v1⟩
   simp only [execOp,yU,resolve,hfv,Deferred.ofValue,Sj,Ss,Sg,invoke,hargs',hy]
   rw [Go.run_callFunc_extern hfn (by rw [hn];decide) hb hfn' (BO hn)]
   rfl
def iF (P:Program) (g:FuncId) (args:List Value) (h:za):Option (Value × za) :=
 match P.funcs[g]?,args with
 | some fn,[.int .i64 n]=>cond (fn.body.isNone && decide (fn.name = "internal/bytealg.MakeNoZero") && (Extern.findNext fn).isNone && decide (0<=n) && decide (n<=2 ^ 48))
   (match fn.resultTypes[0]? with
    | some t=>(match z9 P (underlying t) with
      | some (.slice e)=>cond (Nat.beq (P.cellsOf e) 1) (some (.slice (some ⟨h.next,0,none⟩) n.toNat 1,h.push (.cells [] e))) none
      | _=>none)
    | none=>none) none
 | _,_=>none
theorem lD {fn:Func} (h:fn.name = "internal/bytealg.MakeNoZero"):Extern.find fn=some (Extern.BytealgMakeNoZero.makeNoZero fn.params fn.resultTypes):=by
 unfold Extern.find
 rw [h]
 rfl
theorem pT {ρ:xn} {h:za} {w:World} (hr:Rel P ρ h w) {ps rs:Array TypeId} {t e:TypeId} {n:Int} (ht:rs[0]? = some t) (hu:z9 P (underlying t)=some (.slice e)) (hc:P.cellsOf e=1) (h0:0<=n) (hn:n<=2 ^ 48) :
  ∃ v' w' ρ',(Extern.BytealgMakeNoZero.makeNoZero ps rs #[.int .i64 n]).run P w = .ok v' w'/\Step P ρ h w ρ' (h.push (.cells [] e)) w'/\zI ρ' (.slice (some ⟨h.next,0,none⟩) n.toNat 1) v':=by
 let q:Question := .appendCap n.toNat 0 e
 let cap:=q.cut (w.tape w.drawn q)
 have hge:n.toNat<=cap:=by show n.toNat<=n.toNat + _ % _;omega
 let w1:World:={ w with drawn:=w.drawn + 1 }
 let q2:Question := .extern "internal/bytealg.MakeNoZero.bytes" 0
 let bytes:=q2.cut (w1.tape w1.drawn q2)
 let w2:World:={ w1 with drawn:=w1.drawn + 1 }
 let cs:=Extern.BytealgMakeNoZero.digits cap bytes #[]
 have hcs:cs.size=cap:=by simp only [cs,Lib.size_digits];simp
 have hr2:Rel P ρ h w2:=hr.grow (fun k _=>rfl)
 let w3:World:={ w2 with heap:=w2.heap.push (.cells cs e) }
 have st:=Step.push (t:=e) hr2 (c:=[]) (cs:=cs) (fz:=(0,0)) (w':=w3) rfl (fun i _ hi=>by simp at hi) (by simp) (fun k x hx=>by simp at hx) rfl rfl rfl
 refine ⟨.slice (some ⟨w.heap.size,0,none⟩) n.toNat cap,w3,_,?_,⟨st.le,st.rel,st.ro,st.os,st.tape,st.output,st.size,st.frame,st.dY⟩,?_⟩
 ·have hq:(choose (.appendCap n.toNat 0 e)).run P w = .ok cap w1:=by rw [run_choose];rfl
  have hq2:(choose (.extern "internal/bytealg.MakeNoZero.bytes" 0)).run P w1 = .ok bytes w2:=by rw [run_choose];rfl
  have hneg:¬ (n < 0\/n > 2 ^ 48):=by omega
  have hnr:(newRow e cs).run P w2 = .ok ⟨w.heap.size,0,none⟩ w3:=rfl
  rw [show Extern.BytealgMakeNoZero.makeNoZero ps rs #[.int .i64 n]=(match rs[0]? with | some t=>(underlying t >>= _) | _=>_) from rfl]
  simp only [ht,Sj,zj hu,Sg]
  rw [Sl (by simpa using hneg)]
  simp only [Sj,hq,Sg,run_askRoom,hq2]
  rw [show Extern.BytealgMakeNoZero.digits cap bytes #[]=cs from rfl,hnr]
  rfl
 ·have:=zI.slice (ρ:=ρ.ext ⟨w2.heap.size,0,cs.size,P.cellsOf e⟩) (b:=h.next) (off:=0) (len:=n.toNat) (c:=1) (cap:=cap) (pl:=⟨w2.heap.size,0,cs.size,P.cellsOf e⟩)
   (by show h.next < ρ.next + 1;rw [hr.next];exact Tv _) (by rw [<- hr.next];exact ρ.kD _) hge (fun _=>⟨by simp [hc,hcs],fun k hk=>by omega⟩)
  exact this
def oM (P:Program) (g:FuncId) (args:List Value) (h:za):Option (Value × za) :=
 match Dg P g args h with
 | some r=>some r
 | none=>iF P g args h
theorem oN {ρ:xn} {s:Env} {h h1:za} {w:World} {a:Act} {o:Oper} {f:Operand} {cargs:Array Operand} {ts:Array TypeId} {g:FuncId} {fa fc:Array Value} {vs:List Value} {v:Value}
  (yU:o.op = .call { callee := .value f,args:=cargs,argTypes:=ts }) (hf:jb s f=some (.func (.func g) fa fc)) (hargs:VC s cargs.toList=some vs) (he:oM P g (fa.toList ++ vs ++ fc.toList) h=some (v,h1)) (hr:Rel P ρ h w) (hs:vN ρ s a.tmps) :
  eU P ρ h w (execOp a.eval o) v h1:=by
 unfold oM at he
 split at he
 ·rename_i r hn
  simp only [Se] at he
  subst he
  exact Hx yU hf hargs hn hr hs
 ·have e1:=zV hs hf
  have e2:=jS hs hargs
  generalize hfv:a.eval f=fv at e1
  cases e1 with
  | func ha hcs q1 q2=>
    rename_i fa' fc'
    let full:=fa'.toList ++ cargs.toList.map a.eval ++ fc'.toList
    have hfull:wz ρ (fa.toList ++ vs ++ fc.toList) full :=
     (wz.append ⟨by simpa using ha,fun i x y hx hy=>q1 i x y (by simpa using hx) (by simpa using hy)⟩ e2).append ⟨by simpa using hcs,fun i x y hx hy=>q2 i x y (by simpa using hx) (by simpa using hy)⟩
    have hargs':fa' ++ cargs.map a.eval ++ fc'=full.toArray:=by apply T7;simp [full]
    unfold iF at he
    split at he
    case h_2=>cases he
    rename_i fn n hfn hl
    obtain ⟨hc,he2⟩:=zv he
    clear he
    simp only [Sm,SZ] at hc
    obtain ⟨⟨⟨⟨hb,hn⟩,hx⟩,h0⟩,h48⟩:=hc
    split at he2
    case h_2=>cases he2
    rename_i t ht
    split at he2
    case h_2=>cases he2
    rename_i e hu
    obtain ⟨hce,he3⟩:=zv he2
    simp only [Se,Sh] at he3
    obtain ⟨rfl,rfl⟩:=he3
    rw [hl] at hfull
    obtain ⟨y,ys,hy,v1,hv2⟩:=hfull.cons_inv
    cases hv2.uL
    cases v1
    have hfn':Extern.findNext fn=none:=by simpa using hx
    obtain ⟨v',w',ρ',er,st,hv⟩:=pT (ps:=fn.params) hr ht hu (Sv hce) h0 h48
    refine ⟨.value v',w',ρ',v',?_,.inl rfl,st,hv⟩
    simp only [execOp,yU,resolve,hfv,Deferred.ofValue,Sj,Ss,Sg,invoke,hargs',hy]
    rw [Go.run_callFunc_extern hfn (by rw [hn];decide) hb hfn' (lD hn),er]
    rfl
def cZ:Value->Bool
 | .tuple a=>a.toList.all flat
 | v=>flat v
theorem Dt {ρ:xn} {v v':Value} (h:zI ρ v v') (hp:cZ v=true) (ρ2:xn):zI ρ2 v v':=by
 cases v with
 | tuple a=>
   cases h with
   | tuple ha hv=>
     simp only [cZ,SV] at hp
     refine .tuple ha (fun i x y hx hy => ?_)
     have hf:=hp x (S7 (by simpa using hx))
     rw [kF (hv i x y hx hy) hf]
     exact .of_flat _ hf
 | _=>rw [kF h hp];exact .of_flat _ hp
theorem Rel.lock {ρ:xn} {h:za} {w:World} (hr:Rel P ρ h w):Rel P ρ h.lock w :=
 ⟨hr.next,Sp _,hr.UL,fun b o hb=>by obtain ⟨pl,hp,hc⟩:=hr.ok b o hb;exact ⟨pl,hp,hc.Fk (fun e=>by
  have:h.next<=b:=To e
  have:=hr.UL b _ hb
  omega)⟩,hr.inj,S4 hr.cN hr.ro,hr.Z7⟩
theorem TC.quiet {f:FuncId} {args:List Value} {h:za} {R:Value->za->Prop} (ht:TC P f args h.lock R) (hsc:∀ v h1,R v h1->cZ v=true):TC P f args h (fun v h1=>(∃ h2,R v h2)/\h1=h):=by
 intro ρ w cargs hr hv
 refine (ht ρ w cargs hr.lock hv).mono fun e w' => ?_
 rintro ⟨v,v',h',ρ',e1,hR,st,hvv⟩
 have hsame:∀ c,c < w.heap.size->w'.heap[c]? = w.heap[c]?:=fun c hc=>st.frame c hc (by
  rintro ⟨b,o,pl,hg,hro,_⟩
  have h1:h.next<=b:=hro
  have h2:=hr.UL b o hg
  omega)
 exact ⟨v,v',h,ρ,e1,⟨⟨h',hR⟩,rfl⟩,⟨xn.le_refl _,hr.grow hsame,rfl,st.os,st.tape,st.output,st.size,fun c hc _=>hsame c hc,fun c _ hm=>hm⟩,Dt hvv (hsc v h' hR) ρ⟩
theorem ri {rd:Option Nat} {id:Nat} {ops:Array Oper} {s:Env} {h:za} {Q:Ex->Env->za->Prop} (ht:TO P ops (List.range ops.size) s h (fun s1 h1=>Q .normal s1 h1)):T P rd (.region id ops false) s h Q:=by
 intro ρ w tm ds hr hs b hb k cs
 obtain ⟨s1,h1,ρ1,w1,tm1,q,st,hs1,sx⟩:=ht ρ w tm ds hr hs b k cs
 exact ⟨.normal,s1,h1,ρ1,w1,tm1,ds,q,st,hs1,.refl _ _ _,.head pw (sx.trans (.one Xh))⟩
end
noncomputable section
variable {P:Program}
theorem tM (fr:Frame) (hm:fr.mode = .returning):∀ (rs:List Nat) (w:World),fr.defers=rs.map tP->rs.Nodup->(∀ r,r ∈ rs->w.heap[r]? = some (.deferred (some [])))->∀ cs,
  ∃ w',Steps P (lone fr cs w) (lone { fr with defers:=[] } cs w')/\w'.os=w.os/\w'.tape=w.tape/\w'.output=w.output/\w'.heap.size=w.heap.size/\(∀ k,k ∉ rs->w'.heap[k]? = w.heap[k]?):=by
 intro rs
 induction rs generalizing fr with
 | nil=>intro w hd _ _ cs;refine ⟨w,?_,rfl,rfl,rfl,rfl,fun _ _=>rfl⟩;rw [show fr = { fr with defers:=[] } by cases fr;simp_all];exact .refl P _
 | cons r rs ih=>
   intro w hd hn hb cs
   have hr:=hb r (by simp)
   have hlt:=cS hr
   let w1:World:={ w with heap:=w.heap.setIfInBounds r (.deferred none) }
   have hn:=List.nodup_cons.1 hn
   have hother:∀ k,k ≠ r->w1.heap[k]? = w.heap[k]?:=fun k hk=>by show (w.heap.setIfInBounds r _)[k]? = _;rw [Tc,Sl (Ne.symm hk)]
   obtain ⟨w',hs,h1,h2,h3,h4,h5⟩:=ih { fr with defers:=rs.map tP } hm w1 rfl hn.2 (fun k hk=>(hother k (fun e=>hn.1 (e ▸ hk))).trans (hb k (by simp [hk]))) cs
   refine ⟨w',.head ?_ hs,h1,h2,h3,by rw [h4];simp [w1],fun k hk => ?_⟩
   ·refine step_lone_go ?_
    have hd':fr.defers = { target := .collected r,args := #[] } :: rs.map tP:=hd
    have hrun:(Instr.takeDeferred r).run P w = .ok [] w1:=by
     simp only [Instr.takeDeferred,getObj,setObj,Sj]
     simp only [Sem.run,hr,Sg,Sj]
     rfl
    simp only [stepG,hm,unwind,hd',Sem.runT_eq,hrun,GStep.bare_after]
    simp [GStep.bare]
   ·simp only [Tq,not_or] at hk
    exact (h5 k hk.2).trans (hother k hk.1)
def qO (P:Program) (s:Env) (h:za):List ResultVar->Option (List Value)
 | []=>some []
 | .tmp t :: rs=>(match qO P s h rs with
   | some vs=>some (s.get t :: vs)
   | none=>none)
 | .cell a t :: rs=>(match zd P t (s.get a) h with
   | some v=>(match qO P s h rs with
     | some vs=>some (v :: vs)
     | none=>none)
   | none=>none)
def jT:List Value->Value
 | [v]=>v
 | vs => .tuple vs.toArray
def Ac (tm:Array Value):ResultVar->Sem Value
 | .tmp t=>pure (tm.getD t undef)
 | .cell a t=>do loadVar t (<- asAddr (tm.getD a undef))
theorem Ck (fn:Func) (tm:Array Value):results fn tm=(do let vs <- fn.results.mapM (Ac tm);pure (if h:vs.size=1 then vs[0] else .tuple vs)):=rfl
theorem Ww {ρ:xn} {s:Env} {h:za} {w:World} {tm:Array Value} (hr:Rel P ρ h w) (hs:vN ρ s tm):∀ {rs:List ResultVar} {vs:List Value},qO P s h rs=some vs ->
  ∃ vs',(rs.mapM (Ac tm)).run P w = .ok vs' w/\wz ρ vs vs'
 | [],vs,he=>by simp only [qO,Se] at he;subst he;exact ⟨[],rfl,.nil ρ⟩
 | .tmp t :: rs,vs,he=>by
   simp only [qO] at he
   split at he
   case h_2=>cases he
   rename_i vs0 h0
   simp only [Se] at he
   subst he
   obtain ⟨vs',e,hv⟩:=Ww hr hs h0
   exact ⟨_,by simp only [List.mapM_cons,Ac,Sj,Ss,Sg,e],.cons (hs.get t) hv⟩
 | .cell a t :: rs,vs,he=>by
   simp only [qO] at he
   split at he
   case h_2=>cases he
   rename_i v hv0
   split at he
   case h_2=>cases he
   rename_i vs0 h0
   simp only [Se] at he
   subst he
   obtain ⟨vs',e,hv⟩:=Ww hr hs h0
   obtain ⟨v',e1,hv1⟩:=dD hv0 hr (hs.get a)
   have e2:(do loadVar t (<- asAddr (tm.getD a undef)):Sem Value).run P w = .ok v' w:=by
    have hp:=hs.get a
    generalize tm.getD a undef=x at hp e1 ⊢
    unfold zd at hv0
    split at hv0
    ·rename_i hb
     rw [hb] at hp
     cases hp
     simpa [Instr.loadAt,Instr.sureAddr,asAddr] using e1
    ·rename_i hb
     rw [hb] at hp
     cases hp
     simpa [Instr.loadAt,Instr.sureAddr,asAddr] using e1
    ·cases hv0
   exact ⟨_,by rw [List.mapM_cons,Sj,show Ac tm (.cell a t)=(do loadVar t (<- asAddr (tm.getD a undef)):Sem Value) from rfl,e2];simp only [Sj,Sg,e,Ss],.cons hv1 hv⟩
theorem Ad {ρ:xn} {s:Env} {h:za} {w:World} {tm:Array Value} (hr:Rel P ρ h w) (hs:vN ρ s tm) {fn:Func} {vs:List Value} (he:qO P s h fn.results.toList=some vs) :
  ∃ v',(results fn tm).run P w = .ok v' w/\zI ρ (jT vs) v':=by
 obtain ⟨vs',e,hv⟩:=Ww hr hs he
 have em:(fn.results.mapM (Ac tm)).run P w = .ok vs'.toArray w:=by
  rw [Array.mapM_eq_mapM_toList,Sem.run_map,e];rfl
 rw [Ck]
 simp only [Sj]
 refine ⟨if h:vs'.toArray.size=1 then vs'.toArray[0] else .tuple vs'.toArray,?_,?_⟩
 ·rw [em];simp only [Sg,Ss]
 ·unfold jT
  split
  ·rename_i v
   obtain ⟨y,ys,rfl,h1,h2⟩:=hv.cons_inv
   cases h2.uL
   simpa using h1
  ·rename_i hne
   rw [dif_neg (by
    intro h1
    have h1:vs'.length=1:=by simpa using h1
    have h2:vs.length=1:=by rw [hv.1];exact h1
    cases vs with
    | nil=>cases h2
    | cons v vs=>cases vs with
      | nil=>exact hne v rfl
      | cons=>simp at h2)]
   exact .tuple (by simpa using hv.1) (fun i x y hx hy=>hv.2 i x y (by simpa using hx) (by simpa using hy))
theorem CB {f:FuncId} {fn:Func} {c:Code} {args:List Value} {h:za} {R:Value->za->Prop} (hf:P.funcs[f]? = some fn) (hb:fn.body=some c)
  (ht:T P none c (Env.enter args fn.ntmps) h (fun e s1 h1=>(e = .normal\/e = .ret) /\ ∃ vs,qO P s1 h1 fn.results.toList=some vs/\R (jT vs) h1)):TC P f args h R:=by
 intro ρ w cargs hr hv cs
 let b:Frame:={ (default:Frame) with fn:=f,kind := .normal,roundOf:=none }
 let tm:Array Value:=cargs.toArray ++ Array.replicate (fn.ntmps - cargs.toArray.size) undef
 have henter:Frame.enter P f cargs.toArray .normal=vH b tm [] [.code c]:=by simp [Frame.enter,vH,hf,hb,b,tm]
 have hs:vN ρ (Env.enter args fn.ntmps) tm:=by
  refine ⟨?_,fun i => ?_⟩
  ·simp only [Env.td,tm,Array.size_append,Array.size_replicate,List.size_toArray,hv.1];omega
  ·rw [Env.EJ]
   rcases SC i args.length with hi | hi
   ·obtain ⟨y,hy,hxy⟩:=hv.get (Sk hi)
    have e1:tm[i]? = some y:=by
     rw [Array.getElem?_append_left (by simp;rw [<- hv.1];exact hi)]
     simpa using hy
    rw [Sk hi]
    simp only [T6,SB,e1]
    exact hxy
   ·rw [Sr hi]
    have e1:tm.getD i undef=undef:=by
     simp only [SB,tm]
     rw [Array.getElem?_append_right (by simp;rw [<- hv.1];exact hi)]
     rw [TW]
     split <;> rfl
    rw [e1]
    exact .Zw ρ rfl
 obtain ⟨e,s1,h1,ρ1,w1,tm1,ds1,⟨he,vs,hvs,hR⟩,st,hs1,⟨rs,hd1,hnd,hb1⟩,ha⟩:=ht ρ w tm [] hr hs b rfl [] cs
 obtain ⟨todo,hret⟩:∃ todo,Steps P (lone (Frame.enter P f cargs.toArray .normal) cs w) (lone { vH b tm1 ds1 todo with mode := .returning } cs w1):=by
  rw [henter]
  rcases he with rfl | rfl
  ·exact ⟨[],T3 ha (.one (EH rfl))⟩
  ·obtain ⟨t,sx⟩:=ha;exact ⟨_,sx.trans (.one (EI rfl))⟩
 rw [List.append_nil] at hd1
 obtain ⟨w2,hs2,e1,e2,e3,e4,e5⟩:=tM (P:=P) { vH b tm1 ds1 todo with mode := .returning } rfl rs w1 hd1 hnd (fun r hr=>(hb1 r hr).2) cs
 have hnot:∀ b0 o pl,h1.get b0=some o->ρ1.m b0=some pl->pl.c ∉ rs:=by
  intro b0 o pl hg hm hin
  have hc:=st.rel.HA hg hm
  have hx:=(hb1 _ hin).2
  cases o with
  | cells c t=>obtain ⟨cs,fz,q1,_⟩:=hc;rw [hx] at q1;cases q1
  | map es q=>obtain ⟨ms,q1,_⟩:=hc;rw [hx] at q1;cases q1
  | iter m a b c=>obtain ⟨m',q1,_⟩:=hc;rw [hx] at q1;cases q1
  | tab c=>obtain ⟨t,cs,fz,q1,_⟩:=hc;rw [hx] at q1;cases q1
  | siter s pos=>have q1:w1.heap[pl.c]? = _:=hc.1;rw [hx] at q1;cases q1
  | loop l=>obtain ⟨tm,d,fn',q1,_⟩:=hc;rw [hx] at q1;cases q1
 have hr2:Rel P ρ1 h1 w2:=⟨st.rel.next,st.rel.ro,st.rel.UL,fun b0 o0 hg=>by
  obtain ⟨pl,hp,hc⟩:=st.rel.ok b0 o0 hg
  exact ⟨pl,hp,hc.other (e5 _ (hnot _ _ _ hg hp))⟩,st.rel.inj,st.rel.cN,st.rel.Z7⟩
 obtain ⟨v',hv',hvr⟩:=Ad hr2 hs1 hvs
 refine ⟨.returned v',w2,{ vH b tm1 ds1 todo with mode := .returning,defers:=[] },⟨jT vs,v',h1,ρ1,rfl,hR,?_,hvr⟩,hret.trans hs2,rfl,rfl,rfl,rfl,fn,hf,hv'⟩
 exact ⟨st.le,hr2,st.ro,e1.trans st.os,e2.trans st.tape,e3.trans st.output,by rw [e4];exact st.size,
  fun c hc hn=>(e5 c (fun hin=>by have:=(hb1 c hin).1;omega)).trans (st.frame c hc hn),st.dY⟩
end
end Go.Ai
