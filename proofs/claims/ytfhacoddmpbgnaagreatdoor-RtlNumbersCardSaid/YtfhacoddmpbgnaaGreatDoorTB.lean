/- A part of the proof. -/
import Derived.Test.YtfhacoddmpbgnaaGreatDoorTA
import GoSem.Builtin.Delete
import Derived.Lib.Builder
import Derived.Lib.UnsafeStr
import Derived.LaidEqlPtr
import GoSem.Builtin.Cap
import GoSem.Builtin.UnsafeString
import Derived.Laws.Externs
import Derived.Lib.MakeNoZero
import Derived.Orders
set_option linter.unusedVariables false
set_option linter.unusedSimpArgs false
set_option maxRecDepth 100000
namespace Go.Ai
noncomputable section
variable {P:Program}
def K7 (h:za) (b off:Nat) (new:List Value):Option za :=
 cond (Nat.beq new.length 0) (some h) (match h.get b with
  | some (.cells cs t)=>cond (Nat.ble h.ro b && Nat.ble (off + new.length) cs.length && new.all cellOk) (some (h.set b (some (.cells (zf cs off new) t)))) none
  | _=>none)
theorem nM {ρ:yN} {h h':za} {w:World} {b off:Nat} {pl:Place} {new new':List Value} (he:K7 h b off new=some h') (hr:Rel P ρ h w) (hm:ρ.m b=some pl) (hv:xf ρ new new') :
  ∃ w',(storeCells ⟨pl.c,pl.base + off,none⟩ new').run P w = .ok () w'/\Step P ρ h w ρ h' w':=by
 unfold K7 at he
 cases hz:Nat.beq new.length 0 with
 | true=>
   rw [hz] at he
   simp only [cond_true,aaa] at he
   subst he
   have:new = []:=abw (aam hz)
   subst this
   cases hv.vp
   exact ⟨w,rfl,.refl hr⟩
 | false=>
   rw [hz] at he
   simp only [cond_false] at he
   split at he
   case h_2=>cases he
   rename_i cs t hg
   cases hc:(Nat.ble h.ro b && Nat.ble (off + new.length) cs.length && new.all cellOk) with
   | false=>rw [hc] at he;cases he
   | true=>
     rw [hc] at he
     simp only [cond_true,aaa] at he
     subst he
     simp only [aac,aas] at hc
     exact KB (o:=off) hm new new' h w cs 0 hr hg (aaA hc.1.1) (by have:=aaA hc.1.2;omega) hv hc.2
def Bh (P:Program) (dT:TypeId) (d x:Value) (h:za):Option (Value × za) :=
 match yi P (underlying dT),d,Zy x with
 | some (.slice elem),.slice base dl _,some m=>(match yi P (typeInfo elem) with
   | none=>none
   | some i=>(match xA h (Nat.min m dl) i.size x with
     | none=>none
     | some new=>(match base with
       | none=>some (goInt (Nat.min m dl),h)
       | some ⟨b,off,none⟩=>(K7 h b off new).map fun h'=>(goInt (Nat.min m dl),h')
       | some _=>none)))
 | _,_,_=>none
theorem Bi {ρ:yN} {dT r:TypeId} {ts:Array TypeId} {d d' x x' v:Value} {h h':za} {w:World} (he:Bh P dT d x h=some (v,h')) (hr:Rel P ρ h w) (hd:zK ρ d d') (hx:zK ρ x x') (hts:ts[0]? = some dT) :
  ∃ v' w',(Builtin.copy_ ts r #[d',x']).run P w = .ok v' w'/\Step P ρ h w ρ h' w'/\zK ρ v v':=by
 unfold Bh at he
 split at he
 case h_2=>cases he
 rename_i elem base dl c m hu hm
 split at he
 case h_1=>cases he
 rename_i i hi
 obtain ⟨sz1,sz2⟩:=qX hi
 split at he
 case h_1=>cases he
 rename_i new hnew
 have hlen:=fun w=>gE (P:=P) hm hx w
 obtain ⟨new',hnew',vnew⟩:=U8 hnew hr hx (by intro b l cap e;subst e;simp only [Zy,aaa] at hm;subst hm;exact Nat.min_le_left _ _)
 cases hd with
 | sliceNil=>
   simp only [aaa,aae] at he
   obtain ⟨rfl,rfl⟩:=he
   refine ⟨goInt (Nat.min m 0),w,?_,.refl hr,.int _ _⟩
   simp only [Builtin.copy_,hts]
   simp only [abI,aaf,aal,aag,zk hu,aad,hlen,sz2,hnew',aan]
 | slice hb hmm hl hc=>
   simp only [aao,aae] at he
   obtain ⟨h2,hsp,rfl,rfl⟩:=he
   obtain ⟨w',e,st⟩:=nM hsp hr hmm vnew
   refine ⟨_,w',?_,st,.int _ _⟩
   simp only [Builtin.copy_,hts]
   simp only [abI,aaf,aal,aag,zk hu,aad,hlen,sz2,hnew',e,aan]
   rfl
 | sliceOut hb hc=>
   simp only [aao,aae] at he
   obtain ⟨h2,hsp,rfl,rfl⟩:=he
   have hmin:Nat.min m 0=0:=Nat.min_zero m
   have hnil:new = []:=by
    rw [hmin] at hnew
    cases hx with
    | sliceNil=>simp only [xA,aaa] at hnew;exact hnew.symm
    | slice=>simp only [xA,acC,ab5,cond_true,aaa] at hnew;exact hnew.symm
    | sliceOut=>simp only [xA,acC,ab5,cond_true,aaa] at hnew;exact hnew.symm
    | string=>simp only [xA,aaa] at hnew;rw [<- hnew];simp
    | _=>cases hm
   subst hnil
   cases vnew.vp
   simp only [K7,aaw,ab5,cond_true,aaa] at hsp
   subst hsp
   refine ⟨goInt (Nat.min m 0),w,?_,.refl hr,.int _ _⟩
   simp only [Builtin.copy_,hts]
   simp only [abI,aaf,aal,aag,zk hu,aad,hlen,sz2,hnew',aan,storeCells]
def lT (P:Program) (t:TypeId) (x:Value) (h:za):Option za:=none
theorem sK {ρ:yN} {t r:TypeId} {x x':Value} {h h':za} {w:World} (he:lT P t x h=some h') (hr:Rel P ρ h w) (hx:zK ρ x x') :
  ∃ w',(Builtin.clear_ #[t] r #[x']).run P w = .ok undef w'/\Step P ρ h w ρ h' w':=by
 unfold lT at he
 cases he
def bytesOf:List Value->ByteArray->Option ByteArray
 | [],s=>some s
 | .int .u8 n :: l,s=>bytesOf l (s.push (UInt8.ofNat n.toNat))
 | _ :: _,_=>none
def OL (h:za) (x:Value):Option Value :=
 match x with
 | .slice none _ _=>some (.string .empty)
 | .slice (some ⟨b,off,none⟩) n _=>cond (Nat.beq n 0) (some (.string .empty)) (match h.get b with
   | some (.cells c _)=>cond (Nat.ble (off + n) c.length) ((bytesOf ((c.drop off).take n) .empty).map .string) none
   | _=>none)
 | _=>none
theorem gN {ρ:yN}:∀ (l l':List Value) (s r:ByteArray),bytesOf l s=some r->xf ρ l l'->∀ w:World,
  (forIn l' s fun c s=>(match c with
   | .int .u8 n=>pure (ForInStep.yield (s.push (UInt8.ofNat n.toNat)))
   | _=>(do stuck "bytesToString: byte expected";pure (ForInStep.yield s)):Sem (ForInStep ByteArray))).run P w = .ok r w
 | [],l',s,r,h,hv,w=>by
   cases hv.vp
   simp only [bytesOf,aaa] at h
   subst h;rfl
 | x :: l,l',s,r,h,hv,w=>by
   obtain ⟨y,ys,rfl,h1,h2⟩:=hv.cons_inv
   unfold bytesOf at h
   split at h
   ·rename_i e;cases e
   ·rename_i e
    simp only [aa9] at e
    obtain ⟨rfl,rfl⟩:=e
    cases h1
    rw [List.forIn_cons]
    simp only [aag,aan,aad]
    exact gN _ _ _ _ h h2 w
   ·cases h
theorem Dd {ρ:yN} {h:za} {w:World} {x x' v:Value} (he:OL h x=some v) (hr:Rel P ρ h w) (hx:zK ρ x x'):(Conv.bytesToString x').run P w = .ok v w/\zK ρ v v:=by
 unfold OL at he
 split at he
 ·simp only [aaa] at he
  subst he
  cases hx
  exact ⟨rfl,.string _⟩
 ·rename_i b off n c
  cases hz:Nat.beq n 0 with
  | true=>
    rw [hz] at he
    obtain rfl:=aam hz
    simp only [cond_true,aaa] at he
    subst he
    refine ⟨?_,.string _⟩
    cases hx <;> (simp only [Conv.bytesToString,loadCells,loadCellsFrom,aag,aan,aad];rw [<- Array.forIn_toList];rfl)
  | false=>
    rw [hz] at he
    simp only [cond_false] at he
    split at he
    case h_2=>cases he
    rename_i cs t hg
    cases hle:Nat.ble (off + n) cs.length with
    | false=>rw [hle] at he;cases he
    | true=>
      rw [hle] at he
      simp only [cond_true,aao] at he
      obtain ⟨r,hb,rfl⟩:=he
      refine ⟨?_,.string _⟩
      cases hx with
      | slice hb' hm hl hc=>
        obtain ⟨ys,hys,hv⟩:=qW (hr.place hg hm) off n (aaA hle)
        simp only [Conv.bytesToString,aag,hys,aad]
        rw [<- Array.forIn_toList]
        have:=gN (P:=P) _ _ _ _ hb hv w
        rw [show ys.toArray.toList=ys from rfl]
        exact (congrArg (fun q:Result ByteArray=>q.andThen fun a w'=>Sem.run P (pure (Value.string a)) w') this)
      | sliceOut=>simp at hz
 ·cases he
end
noncomputable section
variable {P:Program}
theorem gP {α:Type} {b:Bool} {x:Option α} {y:α} (h:cond b x none=some y):b=true/\x=some y:=by
 cases b
 ·cases h
 ·exact ⟨rfl,h⟩
abbrev aT:=Value × Value × Nat
def XK (ρ:yN) (es:List aT) (ms:List MapEntry):Prop:=es.length=ms.length /\ ∀ (i:Nat) x m,es[i]? = some x->ms[i]? = some m->zK ρ x.1 m.key/\zK ρ x.2.1 m.val/\m.born=x.2.2
theorem XK.tail {ρ:yN} {x:aT} {es:List aT} {m:MapEntry} {ms:List MapEntry} (h:XK ρ (x :: es) (m :: ms)):(zK ρ x.1 m.key/\zK ρ x.2.1 m.val/\m.born=x.2.2)/\XK ρ es ms :=
 ⟨h.2 0 x m rfl rfl,by simpa using h.1,fun i a b ha hb=>h.2 (i + 1) a b (by simpa using ha) (by simpa using hb)⟩
theorem XK.nil {ρ:yN}:XK ρ [] []:=⟨rfl,fun i x m hx=>by simp at hx⟩
theorem XK.vp {ρ:yN} {ms:List MapEntry} (h:XK ρ [] ms):ms = []:=abw (by have:=h.1;simpa using this.symm)
theorem XK.cons_inv {ρ:yN} {x:aT} {es:List aT} {ms:List MapEntry} (h:XK ρ (x :: es) ms):∃ m ms',ms=m :: ms'/\(zK ρ x.1 m.key/\zK ρ x.2.1 m.val/\m.born=x.2.2)/\XK ρ es ms':=by
 cases ms with
 | nil=>have:=h.1;simp at this
 | cons m ms=>exact ⟨m,ms,rfl,h.tail⟩
theorem Eb {w:World} {l:Nat} {ms:Array MapEntry} {c:Nat} (h:w.heap[l]? = some (.map ms c)):(getObj l).run P w = .ok (.map ms c) w:=by
 simp only [getObj,Sem.run,h]
theorem Rel.map {ρ:yN} {h:za} {w:World} (hr:Rel P ρ h w) {b:Nat} {es:List aT} {q:Nat} {pl:Place} (hg:h.get b=some (.map es q)) (hm:ρ.m b=some pl) :
  ∃ ms,w.heap[pl.c]? = some (.map ms q)/\XK ρ es ms.toList:=by
 obtain ⟨pl',hm',ms,h1,h2,h3⟩:=hr.ok b _ hg
 rw [hm] at hm'
 cases hm'
 exact ⟨ms,h1,by simp [h2],fun i x m hx hm=>h3 i x m hx (by simpa using hm)⟩
theorem XK.size {ρ:yN} {es:List aT} {ms:Array MapEntry} (h:XK ρ es ms.toList):ms.isEmpty=es.isEmpty:=by
 have:=h.1
 cases es with
 | nil=>simp at this;rw [abH this.symm];rfl
 | cons x es=>simp at this;cases hs:ms.isEmpty with
   | false=>rfl
   | true=>simp at hs;subst hs;simp at this
def L7 (h:za):Value->Option (List aT)
 | .map none=>some []
 | .map (some b)=>(match h.get b with
   | some (.map es _)=>some es
   | _=>none)
 | _=>none
def iz (P:Program) (t:TypeId) (x k:Value) (commaOk:Bool) (h:za):Option Value:=none
theorem nI {ρ:yN} {t:TypeId} {x x' k k' v:Value} {ok:Bool} {h:za} {w:World} (he:iz P t x k ok h=some v) (hr:Rel P ρ h w) (hx:zK ρ x x') (hk:zK ρ k k') :
  ∃ v',(Instr.lookup t x' k' ok).run P w = .ok v' w/\zK ρ v v':=by
 unfold iz at he
 cases he
def IS (P:Program) (t:TypeId) (x:Value) (h:za):Option Value :=
 match IQ P t x with
 | some v=>some v
 | none=>(match yi P (underlying t),L7 h x with
   | some (.map _ _),some es=>some (goInt es.length)
   | _,_=>none)
theorem Bk {ρ:yN} {t:TypeId} {x x' v:Value} {h:za} {w:World} (he:IS P t x h=some v) (hr:Rel P ρ h w) (hx:zK ρ x x') (r:TypeId):(Builtin.len_ #[t] r #[x']).run P w = .ok v w/\zK ρ v v:=by
 unfold IS at he
 split at he
 ·rename_i hl
  simp only [aaa] at he
  subst he
  exact Dk hl hx r w
 ·split at he
  case h_2=>cases he
  rename_i k e es ht hes
  simp only [aaa] at he
  subst he
  refine ⟨?_,.int _ _⟩
  cases hx with
  | mapNil=>simp only [L7,aaa] at hes;subst hes;simp [Builtin.len_,zk ht]
  | map hb hm=>
    simp only [L7] at hes
    split at hes
    ·rename_i g
     simp only [aaa] at hes
     subst hes
     obtain ⟨ms,h1,h2⟩:=hr.map g hm
     have hsz:=h2.1
     simp only [abt] at hsz
     simp [Builtin.len_,zk ht,Eb h1,hsz]
    ·cases hes
  | _=>cases hes
def V7 (h:za):Value × za:=(.map (some h.next),h.push (.map [] 0))
theorem lW {ρ:yN} {h:za} {w:World} (hr:Rel P ρ h w) (t:TypeId) :
  ∃ v' w' ρ',(Instr.makeMap t none).run P w = .ok v' w'/\Step P ρ h w ρ' (V7 h).2 w'/\zK ρ' (V7 h).1 v':=by
 let pl:Place:=⟨w.heap.size,0,0,0⟩
 refine ⟨.map (some w.heap.size),{ w with heap:=w.heap.push (.map #[] 0) },ρ.ext pl,rfl,Step.Jd hr (ob := .map [] 0) (pl:=pl) rfl rfl ⟨#[],by simp [pl],rfl,fun i x m hx=>by simp at hx⟩ rfl rfl rfl,?_⟩
 exact .map (pl:=pl) (by show h.next < ρ.next + 1;rw [hr.next];omega) (by rw [<- hr.next];exact ρ.qo pl)
def Yw (P:Program) (t:TypeId) (x k v:Value) (h:za):Option za:=none
theorem eJ {ρ:yN} {t:TypeId} {x x' k k' v v':Value} {h h':za} {w:World} (he:Yw P t x k v h=some h') (hr:Rel P ρ h w) (hx:zK ρ x x') (hk:zK ρ k k') (hv:zK ρ v v') :
  ∃ w',(Instr.mapUpdate t x' k' v').run P w = .ok () w'/\Step P ρ h w ρ h' w':=by
 unfold Yw at he
 cases he
def X9 (P:Program) (t:TypeId) (x k:Value) (h:za):Option za:=none
theorem eI {ρ:yN} {ts:Array TypeId} {t:TypeId} {r:TypeId} {x x' k k':Value} {h h':za} {w:World} (he:X9 P t x k h=some h') (hts:ts[0]? = some t) (hr:Rel P ρ h w) (hx:zK ρ x x') (hk:zK ρ k k') :
  ∃ w',(Builtin.delete_ ts r #[x',k']).run P w = .ok undef w'/\Step P ρ h w ρ h' w':=by
 unfold X9 at he
 cases he
def eK (P:Program) (t:TypeId) (x:Value) (h:za):Option (Value × za):=none
theorem sZ {ρ:yN} {t:TypeId} {x x' v:Value} {h h':za} {w:World} (he:eK P t x h=some (v,h')) (hr:Rel P ρ h w) (hx:zK ρ x x') :
  ∃ v' w' ρ',(Instr.range t x').run P w = .ok v' w'/\Step P ρ h w ρ' h' w'/\zK ρ' v v':=by
 unfold eK at he
 cases he
def leftOf (es:List aT) (seen:List Nat):List aT:=es.filter fun e => !seen.contains e.2.2
def p9 (P:Program) (x:Value) (str:Bool) (h:za):Option (Value × za):=none
theorem XK.left {ρ:yN} (seen:List Nat):∀ {es:List aT} {ms:List MapEntry},XK ρ es ms->XK ρ (leftOf es seen) (ms.filter fun e => !seen.toArray.contains e.born)
 | [],ms,h=>by rw [h.vp];exact .nil
 | x :: es,ms,h=>by
   obtain ⟨m,ms',rfl,h1,h2⟩:=h.cons_inv
   have ih:=XK.left seen h2
   have e:(!seen.toArray.contains m.born) = !seen.contains x.2.2:=by rw [h1.2.2];simp
   simp only [leftOf,aby,e]
   split
   ·refine ⟨by have:=ih.1;simp only [leftOf] at this;simp only [aaz,this],fun i a b ha hb => ?_⟩
    cases i with
    | zero=>simp at ha hb;subst ha hb;exact h1
    | succ i=>exact ih.2 i a b (by simpa [leftOf] using ha) (by simpa using hb)
   ·exact ih
theorem XK.all {ρ:yN} (last:Nat):∀ {es:List aT} {ms:List MapEntry},XK ρ es ms->(ms.all fun e=>decide (e.born ≥ last))=es.all fun e=>Nat.ble last e.2.2
 | [],ms,h=>by rw [h.vp];rfl
 | x :: es,ms,h=>by
   obtain ⟨m,ms',rfl,h1,h2⟩:=h.cons_inv
   simp only [aaX,XK.all last h2,h1.2.2]
   congr 1
   rw [Bool.eq_iff_iff];simp
theorem Bn {ρ:yN} {t:TypeId} {x x' v:Value} {str:Bool} {h h':za} {w:World} (he:p9 P x str h=some (v,h')) (hr:Rel P ρ h w) (hx:zK ρ x x') :
  ∃ v' w' ρ',(Instr.next x' str t).run P w = .ok v' w'/\Step P ρ h w ρ' h' w'/\zK ρ' v v':=by
 unfold p9 at he
 cases he
def sO (x:Value) (h:za):Option Value:=none
theorem XK.find {ρ:yN} (stamp:Nat):∀ {es:List aT} {ms:List MapEntry} {e:aT},XK ρ es ms->(es.find? fun e=>Nat.beq e.2.2 stamp)=some e->∃ m,(ms.find? fun e=>e.born == stamp)=some m/\zK ρ e.1 m.key/\zK ρ e.2.1 m.val
 | [],ms,e,h,he=>by simp at he
 | x :: es,ms,e,h,he=>by
   obtain ⟨m,ms',rfl,h1,h2⟩:=h.cons_inv
   rw [List.find?_cons] at he ⊢
   rw [h1.2.2]
   cases hb:Nat.beq x.2.2 stamp with
   | true=>
     rw [hb] at he
     simp only [aaa] at he
     subst he
     have:(x.2.2 == stamp)=true:=by simpa using aam hb
     rw [this]
     exact ⟨m,rfl,h1.1,h1.2.1⟩
   | false=>
     rw [hb] at he
     have:(x.2.2 == stamp)=false:=by
      cases hq:x.2.2 == stamp with
      | false=>rfl
      | true=>have:=beq_iff_eq.1 hq;rw [this,ab5] at hb;cases hb
     rw [this]
     exact XK.find stamp h2 he
theorem sP {ρ:yN} {x x' v:Value} {h:za} {w:World} (he:sO x h=some v) (hr:Rel P ρ h w) (hx:zK ρ x x'):∃ v',(Instr.entry x').run P w = .ok v' w/\zK ρ v v':=by
 unfold sO at he
 cases he
end
noncomputable section
variable {P:Program}
theorem Wu {w:World} {l:Nat} {cs:Array Value} {e:TypeId} {fz:Nat × Nat} (h:w.heap[l]? = some (.cells cs e fz)):w.shape? l=some (e,cs.size):=by
 simp [World.shape?,h]
def Di (P:Program) (src dst:TypeId) (x:Value) (h:za):Option Value :=
 match P.underlying src,P.underlying dst,x with
 | some (.pointer t),some .unsafePointer,.pointer (some ⟨b,off,none⟩)=>(match h.get b,P.info? t with
   | some (.cells c _),some j=>cond (Nat.blt off c.length && !(Nat.beq j.size 0)) (some (.pointer (some ⟨b,off,none⟩))) none
   | _,_=>none)
 | some .unsafePointer,some (.pointer u),.pointer (some ⟨b,off,none⟩)=>(match h.get b,P.info? u with
   | some (.cells c e),some _=>cond (Nat.beq e u && Nat.blt 0 (P.cellsOf u) && Nat.beq (off % P.cellsOf u) 0 && Nat.ble (off + P.cellsOf u) c.length) (some (.pointer (some ⟨b,off,none⟩))) none
   | _,_=>none)
 | _,_,_=>none
theorem L3 {e:TypeId} {cells o:Nat} (hs:0 < P.cellsOf e) (h0:o % P.cellsOf e=0) (hle:o + P.cellsOf e<=cells):liesAt P P.depth e (cells / P.cellsOf e) o e 1=true:=by
 have hd:P.depth=(2 * (P.types.size + Made.depth) + 1) + 1:=rfl
 have hlt:o / P.cellsOf e + 1<=cells / P.cellsOf e:=by
  have h1:=Nat.div_le_div_right (c:=P.cellsOf e) hle
  rw [Nat.add_div_right _ hs] at h1
  exact h1
 rw [hd]
 simp only [liesAt,aaV]
 left
 rw [hd]
 have hne:P.cellsOf e ≠ 0:=by omega
 simp only [rowAt,if_neg hne,h0]
 simp [hlt,sameLayout]
theorem DW {e:TypeId} (hc:P.cellsOf e=1) {count o n:Nat} (hn:o + n<=count):liesAt P P.depth e count o e n=true:=by
 have hd:P.depth=(2 * (P.types.size + Made.depth) + 1) + 1:=rfl
 rw [hd]
 simp only [liesAt,aaV]
 left
 rw [hd]
 simp [rowAt,hc,hn,sameLayout,Nat.mod_one]
theorem sN {ρ:yN} {src dst:TypeId} {x x' v:Value} {h:za} {w:World} (he:Di P src dst x h=some v) (hr:Rel P ρ h w) (hx:zK ρ x x') :
  ∃ v',(convert src dst x').run P w = .ok v' w/\zK ρ v v':=by
 unfold Di at he
 split at he
 ·rename_i t b off hs hd
  cases hx with
  | ptr hb hm=>
    rename_i pl
    split at he
    case h_2=>cases he
    rename_i c e j hg hi
    obtain ⟨hc,he⟩:=gP he
    simp only [aaa] at he
    subst he
    simp only [aac,aaR,aat] at hc
    obtain ⟨cs,fz,h1,h2,h3,h4,h5,h6⟩:=hr.place hg hm
    have hj:j.size ≠ 0:=by intro ez;rw [ez] at hc;simp at hc
    refine ⟨_,Lib.run_to_unsafe w ⟨pl.c,pl.base + off,none⟩ hs hd hi hj (Wu h1) ?_,.ptr hb hm⟩
    show pl.base + off < cs.size
    omega
 ·rename_i u b off hs hd
  cases hx with
  | ptr hb hm=>
    rename_i pl
    split at he
    case h_2=>cases he
    rename_i c e j hg hi
    obtain ⟨hc,he⟩:=gP he
    simp only [aaa] at he
    subst he
    simp only [aac,aaR] at hc
    obtain ⟨⟨⟨k1,k2⟩,k3⟩,k4⟩:=hc
    obtain rfl:=aam k1
    have k3:=aam k3
    have k4:=aaA k4
    obtain ⟨cs,fz,h1,h2,⟨h3,h30⟩,h4,h5,h6⟩:=hr.place hg hm
    refine ⟨_,Lib.run_from_unsafe w ⟨pl.c,pl.base + off,none⟩ hs hd hi (Wu h1) (L3 k2 ?_ ?_),.ptr hb hm⟩
    ·show (pl.base + off) % P.cellsOf e=0
     rw [Nat.add_mod,<- h3,h30,h3,k3];simp
    ·show pl.base + off + P.cellsOf e<=cs.size
     omega
 ·cases he
def OX:Value->Option Value
 | .slice none _ _=>some (.pointer none)
 | .slice (some ⟨b,off,none⟩) n _=>cond (Nat.blt 0 n) (some (.pointer (some ⟨b,off,none⟩))) none
 | _=>none
theorem Dq {ρ:yN} {x x' v:Value} (he:OX x=some v) (hx:zK ρ x x') (ts:Array TypeId) (ty:TypeId) (w:World):∃ v',(Builtin.unsafeSliceData_ ts ty #[x']).run P w = .ok v' w/\zK ρ v v':=by
 unfold OX at he
 split at he
 ·simp only [aaa] at he
  subst he
  cases hx
  exact ⟨_,Lib.run_unsafeSliceData_nil w ts ty _ _,.ptrNil⟩
 ·rename_i b off n c
  obtain ⟨hn,he⟩:=gP he
  simp only [aaa] at he
  subst he
  have hn:0 < n:=by simpa [aaR] using hn
  cases hx with
  | slice hb hm hl hc=>exact ⟨_,Lib.run_unsafeSliceData_row w ts ty _ _ _ (by omega),.ptr hb hm⟩
  | sliceOut=>omega
 ·cases he
def Ke:List Value->Option (List UInt8)
 | []=>some []
 | .int .u8 z :: r=>cond (decide (((UInt8.ofNat z.toNat).toNat:Int)=z)) ((Ke r).map fun l=>UInt8.ofNat z.toNat :: l) none
 | _=>none
theorem gL:∀ {c:List Value} {l:List UInt8},Ke c=some l->c.length=l.length /\ ∀ (j:Nat) x,l[j]? = some x->c[j]? = some (.int .u8 x.toNat)
 | [],l,h=>by simp only [Ke,aaa] at h;subst h;exact ⟨rfl,fun j x hx=>by simp at hx⟩
 | a :: c,l,h=>by
   unfold Ke at h
   split at h
   ·rename_i e;cases e
   ·rename_i z r e
    simp only [aa9] at e
    obtain ⟨rfl,rfl⟩:=e
    obtain ⟨hz,h⟩:=gP h
    obtain ⟨l',hl,rfl⟩:=aao.1 h
    obtain ⟨q1,q2⟩:=gL hl
    have hz:=of_decide_eq_true hz
    refine ⟨by simp [q1],fun j x hx => ?_⟩
    cases j with
    | zero=>simp only [aaf,aaa] at hx ⊢;subst hx;rw [hz]
    | succ j=>simpa using q2 j x (by simpa using hx)
   ·cases h
theorem Jn {pt it ty e:TypeId} (hp:P.underlying pt=some (.pointer e)) (hc:P.cellsOf e=1) {w:World} {g o cells:Nat} (hsh:w.shape? g=some (e,cells)) {l:List UInt8} (h0:l ≠ []) (hn:o + l.length<=cells) (h63:l.length<=9223372036854775807)
  (hcell:∀ (j:Nat) x,l[j]? = some x->w.cell? ((⟨g,o,none⟩:Addr).add j)=some (.int .u8 x.toNat)) :
  (Builtin.unsafeString_ #[pt,it] ty #[.pointer (some ⟨g,o,none⟩),.int .i64 l.length]).run P w = .ok (.string ⟨l.toArray⟩) (w.freeze ⟨g,o,none⟩ l.length):=by
 have hl:l.length ≠ 0:=by simpa using h0
 have hlb:=Lib.run_loadBytes (P:=P) w l ⟨g,o,none⟩ .empty hcell
 have hlies:=DW (P:=P) hc (count:=cells / P.cellsOf e) (o:=o) (n:=l.length) (by rw [hc];simpa using hn)
 have h63':¬ (9223372036854775807:Int) < (l.length:Int):=by omega
 have hmax:IntKind.i64.max=9223372036854775807:=rfl
 have hneg:¬ (l.length:Int) < 0:=by omega
 rw [show Builtin.unsafeString_ #[pt,it] ty #[.pointer (some ⟨g,o,none⟩),.int .i64 l.length]=(asInt (.int .i64 l.length) >>= _) from rfl]
 simp [asInt,asIntOf,hmax,h63',hneg,hl,variablesAt,hsh,elemOf,run_underlying hp,hlies,hlb]
def ptrTo (P:Program) (pt e:TypeId):Bool :=
 match P.underlying pt with
 | some (.pointer e')=>Nat.beq e' e
 | _=>false
theorem Mn {pt e:TypeId} (h:ptrTo P pt e=true):P.underlying pt=some (.pointer e):=by
 unfold ptrTo at h
 split at h
 ·rename_i e' he;rw [he,aam h]
 ·cases h
def RY (P:Program) (pt:TypeId) (p:Value) (n:Int) (h:za):Option (Value × za) :=
 match p with
 | .pointer none=>cond (decide (n=0)) (some (.string .empty,h)) none
 | .pointer (some ⟨b,off,none⟩)=>cond (decide (n=0)) (some (.string .empty,h)) (match h.get b with
   | some (.cells c e)=>(match Ke ((c.drop off).take n.toNat) with
     | some l=>cond (Nat.ble h.ro b && ptrTo P pt e && Nat.beq (P.cellsOf e) 1 && decide (n=(l.length:Int)) && Nat.blt 0 l.length && Nat.ble l.length 9223372036854775807) (some (.string ⟨l.toArray⟩,h.set b none)) none
     | none=>none)
   | _=>none)
 | _=>none
theorem mK (w:World) (p:Addr) (n k:Nat) (hk:k ≠ p.block):(w.freeze p n).heap[k]? = w.heap[k]?:=by
 unfold World.freeze
 split
 ·rfl
 ·simp only [Array.getElem?_modify]
  rw [if_neg (by omega)]
theorem tw (w:World) (p:Addr) (n:Nat):(w.freeze p n).os=w.os/\(w.freeze p n).tape=w.tape/\(w.freeze p n).output=w.output/\(w.freeze p n).heap.size=w.heap.size:=by
 unfold World.freeze
 split
 ·exact ⟨rfl,rfl,rfl,rfl⟩
 ·exact ⟨rfl,rfl,rfl,by simp⟩
theorem Step.leave {ρ:yN} {h:za} {w w':World} (hr:Rel P ρ h w) {b:Nat} {o:xE} {pl:Place} (hg:h.get b=some o) (hm:ρ.m b=some pl) (hro:h.ro<=b) (hos:w'.os=w.os) (htape:w'.tape=w.tape) (hout:w'.output=w.output) (hsz:w'.heap.size=w.heap.size)
  (hfr:∀ k,k ≠ pl.c->w'.heap[k]? = w.heap[k]?):Step P ρ h w ρ (h.set b none) w':=by
 have hd:=hr.drop b
 refine ⟨yN.le_refl _,⟨hd.next,hd.ro,hd.Qs,fun x ox hx => ?_,hd.inj,hd.eV,hd.Zg⟩,rfl,hos,htape,hout,by omega,fun k _ hn=>hfr k (fun e=>hn ⟨b,o,pl,hg,hro,hm,e.symm⟩),fun k hk hM => ?_⟩
 ·obtain ⟨p,hp,hc⟩:=hd.ok x ox hx
  refine ⟨p,hp,hc.other (hfr _ (fun ec => ?_))⟩
  rw [za.yb] at hx
  split at hx
  ·cases hx
  ·rename_i ne
   exact ne (hr.inj x b _ _ p pl hx hg hp hm ec)
 ·obtain ⟨x,ox,p,hx,h1,h2,h3⟩:=hM
  rw [za.yb] at hx
  split at hx
  ·cases hx
  ·exact ⟨x,ox,p,hx,h1,h2,h3⟩
theorem GQ {ρ:yN} {pt it ty:TypeId} {p p' v:Value} {n:Int} {h h':za} {w:World} (he:RY P pt p n h=some (v,h')) (hr:Rel P ρ h w) (hx:zK ρ p p') :
  ∃ v' w',(Builtin.unsafeString_ #[pt,it] ty #[p',.int .i64 n]).run P w = .ok v' w'/\Step P ρ h w ρ h' w'/\zK ρ v v':=by
 unfold RY at he
 split at he
 ·obtain ⟨hn,he⟩:=gP he
  simp only [aaa,aae] at he
  obtain ⟨rfl,rfl⟩:=he
  obtain rfl:=of_decide_eq_true hn
  cases hx
  exact ⟨_,w,Lib.run_unsafeString_none w _ _ _ _,.refl hr,.string _⟩
 ·rename_i b off
  cases hx with
  | ptr hb hm=>
    rename_i pl
    cases hn:decide (n=0) with
    | true=>
      rw [hn] at he
      simp only [cond_true,aaa,aae] at he
      obtain ⟨rfl,rfl⟩:=he
      obtain rfl:=of_decide_eq_true hn
      exact ⟨_,w,Lib.run_unsafeString_none w _ _ _ _,.refl hr,.string _⟩
    | false=>
      rw [hn] at he
      simp only [cond_false] at he
      split at he
      case h_2=>cases he
      rename_i c e hg
      split at he
      case h_2=>cases he
      rename_i l hl
      obtain ⟨hc,he⟩:=gP he
      simp only [aaa,aae] at he
      obtain ⟨rfl,rfl⟩:=he
      simp only [aac,decide_eq_true_eq,aaR] at hc
      obtain ⟨⟨⟨⟨⟨k1,k2⟩,k3⟩,k4⟩,k5⟩,k6⟩:=hc
      have k1:=aaA k1
      have k3:=aam k3
      have k6:=aaA k6
      subst k4
      obtain ⟨q1,q2⟩:=gL hl
      simp only [aau,abL,abU] at q1
      obtain ⟨cs,fz,h1,h2,h3,h4,h5,h6⟩:=hr.place hg hm
      obtain ⟨f1,f2,f3,f4⟩:=tw w ⟨pl.c,pl.base + off,none⟩ l.length
      refine ⟨_,_,Jn (Mn k2) k3 (Wu h1) (by intro el;subst el;simp at k5) (by omega) k6 (fun j x hx => ?_),.leave hr hg hm k1 f1 f2 f3 f4 (fun k hk=>mK _ _ _ _ hk),.string _⟩
      have hq:=q2 j x hx
      simp only [aau] at hq
      have hjl:j < l.length:=by
       rcases aar j l.length with h7 | h7
       ·exact h7
       ·rw [aaj h7] at hx;cases hx
      rw [aaL hjl,aaN] at hq
      obtain ⟨y,hy,hxy⟩:=h6 _ _ hq
      cases hxy
      have ea:(⟨pl.c,pl.base + off,none⟩:Addr).add j=⟨pl.c,pl.base + off + j,none⟩:=ko _ _ _
      rw [ea]
      simp only [World.cell?,h1]
      rw [ab6]
      simpa using hy
 ·cases he
def RO (P:Program) (op:BinOp) (t:TypeId) (a b:Value):Option Value :=
 match P.underlying t,a,b with
 | some (.pointer te),.pointer (some ⟨b1,o1,none⟩),.pointer (some ⟨b2,o2,none⟩)=>(match P.info? te with
   | some _=>cond (Nat.beq b1 b2 && Nat.beq o1 o2) (match op with
     | .eql=>some (.bool true)
     | .neq=>some (.bool false)
     | _=>none) none
   | none=>none)
 | _,_,_=>none
def ze (P:Program) (op:BinOp) (t:TypeId) (x y:Operand) (a b:Value):Option Value :=
 match GC P op t x y a b with
 | some v=>some v
 | none=>RO P op t a b
theorem Bb {ρ:yN} {op:BinOp} {t:TypeId} {x y:Operand} {a b a' b' v:Value} (h:ze P op t x y a b=some v) (ha:zK ρ a a') (hb:zK ρ b b') (w:World) :
  ∃ v',(do eqGuard op t x y a' b';binOp op t a' b':Sem Value).run P w = .ok v' w/\zK ρ v v':=by
 unfold ze at h
 split at h
 ·rename_i u hu
  simp only [aaa] at h
  subst h
  exact De hu ha hb w
 ·unfold RO at h
  split at h
  case h_2=>cases h
  rename_i te b1 o1 b2 o2 ht0 ht
  split at h
  case h_2=>cases h
  rename_i j hj
  obtain ⟨hc,hh⟩:=gP h
  clear h
  simp only [aac] at hc
  obtain rfl:=aam hc.1
  obtain rfl:=aam hc.2
  cases ha with
  | ptr h1 m1=>
    rename_i pl
    cases hb with
    | ptr h2 m2=>
      rename_i pl2
      rw [m1] at m2
      cases m2
      have hg:(eqGuard op t x y (.pointer (some ⟨pl.c,pl.base + o1,none⟩)) (.pointer (some ⟨pl.c,pl.base + o1,none⟩))).run P w = .ok () w:=by cases op <;> simp [eqGuard]
      split at hh
      ·simp only [aaa] at hh
       subst hh
       exact ⟨.bool true,by simp only [aag,hg,aad,run_eql_ptr_same w _ ht0 hj],.bool true⟩
      ·simp only [aaa] at hh
       subst hh
       exact ⟨.bool false,by simp only [aag,hg,aad,Lib.run_neq_ptr_same w _ ht0 hj],.bool false⟩
      ·cases hh
def OM (P:Program) (t:TypeId) (x:Value):Option Value :=
 match yi P (underlying t),x with
 | some (.slice _),.slice none _ _=>some (goInt 0)
 | some (.slice _),.slice (some ⟨_,_,none⟩) _ c=>cond (Nat.ble 2 c) (some (goInt (c - 2:Nat))) none
 | _,_=>none
theorem Dh {ρ:yN} {t:TypeId} {x x' v:Value} (he:OM P t x=some v) (hx:zK ρ x x') (r:TypeId) (w:World):(Builtin.cap_ #[t] r #[x']).run P w = .ok v w/\zK ρ v v:=by
 unfold OM at he
 split at he
 ·rename_i hu
  simp only [aaa] at he
  subst he
  refine ⟨?_,.int _ _⟩
  cases hx
  simp [Builtin.cap_,zk hu]
 ·rename_i b off n c hu
  obtain ⟨hc,he⟩:=gP he
  simp only [aaa] at he
  subst he
  have hc:=aaA hc
  refine ⟨?_,.int _ _⟩
  cases hx with
  | slice hb hm hl hcap=>
    rename_i cap pl
    have:=(hcap (by omega)).2 (c - 2) (by omega)
    subst this
    simp [Builtin.cap_,zk hu]
  | sliceOut hb h2=>
    have:c - 2=0:=by omega
    rw [this]
    simp [Builtin.cap_,zk hu]
 ·cases he
end
noncomputable section
variable {P:Program}
def Wt (s:ByteArray):List Value:=s.data.toList.map fun b => .int .u8 b.toNat
def lU (P:Program) (src dst:TypeId) (x:Value) (h:za):Option (Value × za) :=
 match cond (flat x) (fl (yi P (convert src dst x))) none with
 | some v=>some (v,h)
 | none=>(match yi P (underlying src),yi P (underlying dst),x with
   | some _,some (.slice e),.string s=>(match yi P (underlying e),yi P (sizeOf e) with
     | some (.int .u8),some 1=>some (.slice (some ⟨h.next,0,none⟩) s.size 1,h.push (.cells (Wt s) e))
     | _,_=>none)
   | some (.slice e),some .string,.slice base n c=>(match yi P (underlying e) with
     | some (.int .u8)=>(OL h (.slice base n c)).map fun v=>(v,h)
     | _=>none)
   | _,_,_=>none)
theorem Qr {t:TypeId} {n:Nat} (h:yi P (sizeOf t)=some n):P.cellsOf t=n:=by
 simp only [sizeOf,typeInfo,program,Sem.bind,bind,yi] at h
 cases hp:P.info? t with
 | none=>rw [hp] at h;cases h
 | some j=>rw [hp] at h;simp only [pure,Sem.bind,yi,aaa] at h;subst h;simp [Program.cellsOf,hp]
theorem HE {ρ:yN} {h:za} {w:World} {e:TypeId} {s:ByteArray} (hr:Rel P ρ h w) (hsz:yi P (sizeOf e)=some 1) :
  ∃ v' w' ρ',(Conv.stringToBytes e s).run P w = .ok v' w'/\Step P ρ h w ρ' (h.push (.cells (Wt s) e)) w'/\zK ρ' (.slice (some ⟨h.next,0,none⟩) s.size 1) v':=by
 let q:Question := .appendCap s.size 0 e
 let newCap:=q.cut (w.tape w.drawn q)
 have hge:s.size<=newCap:=by show s.size<=s.size + _ % _;omega
 let cs:Array Value:=(s.data.map fun b=>Value.int .u8 b.toNat) ++ Array.replicate (newCap - s.size) (.int .u8 0)
 have hcs:cs.size=newCap:=by simp only [cs,Array.size_append,Array.size_map,Array.size_replicate];show s.size + (newCap - s.size)=newCap;omega
 let w1:World:={ w with drawn:=w.drawn + 1 }
 have hr1:Rel P ρ h w1:=hr.grow (fun k _=>rfl)
 have hesz:=Qr hsz
 let w2:World:={ w1 with heap:=w1.heap.push (.cells cs e (cs.size,cs.size + 1)) }
 have st:=Step.push (t:=e) hr1 (c:=Wt s) (cs:=cs) (fz:=(cs.size,cs.size + 1)) (w':=w2) rfl (fun i hi hh=>by simp only [] at hh;omega)
  (by simp only [Wt,aak,hcs,abt];exact hge)
  (fun k x hx=>by
   refine ⟨x,?_,?_⟩
   ·have hlt:k < s.data.size:=by
     rcases aar k s.data.size with h | h
     ·exact h
     ·rw [aaj (by simpa [Wt] using h)] at hx;cases hx
    rw [Array.getElem?_append_left (by simpa using hlt)]
    simpa [Wt] using hx
   ·simp only [Wt,aap,aao] at hx
    obtain ⟨b,_,rfl⟩:=hx
    exact .int _ _) rfl rfl rfl
 refine ⟨.slice (some ⟨w.heap.size,0,none⟩) s.size newCap,w2,_,?_,⟨st.le,st.rel,st.ro,st.os,st.tape,st.output,st.size,st.frame,st.im⟩,?_⟩
 ·have hq:(choose (.appendCap s.size 0 e)).run P w = .ok newCap w1:=by rw [run_choose];rfl
  simp only [Conv.stringToBytes,aag,hq,aad]
  have hn:(newRow e cs).run P w1 = .ok ⟨w.heap.size,0,none⟩ { w1 with heap:=w1.heap.push (.cells cs e) }:=rfl
  rw [show (s.data.map fun b=>Value.int .u8 b.toNat) ++ Array.replicate (newCap - s.size) (.int .u8 0)=cs from rfl,hn]
  have hb:({ w1 with heap:=w1.heap.push (.cells cs e) }:World).heap[w.heap.size]? = some (.cells cs e):=by show (w.heap.push _)[w.heap.size]? = _;simp
  have hsh:(markStringish ⟨w.heap.size,0,none⟩).run P { w1 with heap:=w1.heap.push (.cells cs e) } = .ok () w2:=by
   simp only [markStringish,aag,run_shape,aad,World.shape?,hb,run_freeze]
   simp only [World.freeze]
   rw [if_neg (by decide)]
   congr 1
   show World.mk _ _ _ _ _=World.mk _ _ _ _ _
   congr 1
   show (w.heap.push _).modify w.heap.size _=w.heap.push _
   apply Array.ext_getElem?
   intro k
   simp only [Array.getElem?_modify,Array.getElem?_push]
   by_cases e:k=w.heap.size
   ·subst e;simp
   ·simp [e];intro e2;exact absurd e2.symm e
  simp only [aad,hsh,aan]
 ·have:=zK.slice (ρ:=ρ.ext ⟨w1.heap.size,0,cs.size,P.cellsOf e⟩) (b:=h.next) (off:=0) (len:=s.size) (c:=1) (cap:=newCap) (pl:=⟨w1.heap.size,0,cs.size,P.cellsOf e⟩)
   (by show h.next < ρ.next + 1;rw [hr.next];exact aaD _) (by rw [<- hr.next];exact ρ.qo _) hge (fun _=>⟨by simp [hesz,hcs],fun k hk=>by omega⟩)
  exact this
theorem sL {ρ:yN} {src dst:TypeId} {x x' v:Value} {h h':za} {w:World} (he:lU P src dst x h=some (v,h')) (hr:Rel P ρ h w) (hx:zK ρ x x') :
  ∃ v' w' ρ',(convert src dst x').run P w = .ok v' w'/\Step P ρ h w ρ' h' w'/\zK ρ' v v':=by
 unfold lU at he
 split at he
 ·rename_i u hu
  simp only [aaa,aae] at he
  obtain ⟨rfl,rfl⟩:=he
  cases hf:flat x with
  | false=>rw [hf] at hu;cases hu
  | true=>
    rw [hf] at hu
    obtain ⟨h1,h2⟩:=Ve hu
    obtain rfl:=kJ hx hf
    exact ⟨u,w,ρ,zk h1 w,.refl hr,.of_flat ρ h2⟩
 ·split at he
  ·rename_i e s hs hd _
   cases hx
   split at he
   ·rename_i hu hz
    simp only [aaa,aae] at he
    obtain ⟨rfl,rfl⟩:=he
    obtain ⟨v',w',ρ',e1,st,hv⟩:=HE (e:=e) (s:=s) hr hz
    refine ⟨v',w',ρ',?_,st,hv⟩
    simp only [convert,aag,zk hs,zk hd,aad,zk hu,e1]
   ·cases he
  ·rename_i e base n c hs hd _
   split at he
   ·rename_i hu
    simp only [aao,aae] at he
    obtain ⟨r,hb,rfl,rfl⟩:=he
    obtain ⟨e1,hv⟩:=Dd hb hr hx
    refine ⟨r,w,ρ,?_,.refl hr,hv⟩
    cases hx <;> simp only [convert,aag,zk hs,zk hd,aad,zk hu,e1]
   ·cases he
  ·cases he
def uf (P:Program) (src dst:TypeId) (x:Value) (h:za):Option (Value × za) :=
 match lU P src dst x h with
 | some r=>some r
 | none=>(Di P src dst x h).map fun v=>(v,h)
theorem Bf {ρ:yN} {src dst:TypeId} {x x' v:Value} {h h':za} {w:World} (he:uf P src dst x h=some (v,h')) (hr:Rel P ρ h w) (hx:zK ρ x x') :
  ∃ v' w' ρ',(convert src dst x').run P w = .ok v' w'/\Step P ρ h w ρ' h' w'/\zK ρ' v v':=by
 unfold uf at he
 split at he
 ·rename_i r hc
  simp only [aaa] at he
  subst he
  exact sL hc hr hx
 ·simp only [aao,aae] at he
  obtain ⟨u,hu,rfl,rfl⟩:=he
  obtain ⟨v',e,hv⟩:=sN hu hr hx
  exact ⟨v',w,ρ,e,.refl hr,hv⟩
def zO (P:Program) (t:TypeId) (len:Nat) (parts:List (Nat × Value)) (h:za):Option (Value × za) :=
 match yi P (underlying t) with
 | some (.slice elem)=>(match yi P (sizeOf elem),yV P elem with
   | some n,some z=>cond (Nat.ble (len * n) (2 ^ 24) && Nat.blt 0 z.cells.size && Nat.blt 0 n) (match Instr.fill (fun i=>some (i * n,n)) (uJ z.cells.toList (len * n)).toArray parts with
     | some cs=>cond (Nat.beq cs.size (len * n)) (some (.slice (some ⟨h.next,0,none⟩) len (len + 2),h.push (.cells cs.toList elem))) none
     | none=>none) none
   | _,_=>none)
 | _=>none
theorem bY {ρ:yN} {t:TypeId} {len:Nat} {parts parts':List (Nat × Value)} {h h':za} {v:Value} {w:World} (he:zO P t len parts h=some (v,h')) (hr:Rel P ρ h w) (hp:iC ρ parts parts') :
  ∃ v' w' ρ',(Instr.buildSlice t len parts'.toArray).run P w = .ok v' w'/\Step P ρ h w ρ' h' w'/\zK ρ' v v':=by
 unfold zO at he
 split at he
 case h_2=>cases he
 rename_i elem hu
 split at he
 case h_2=>cases he
 rename_i n z hn hz
 cases hc:(Nat.ble (len * n) (2 ^ 24) && Nat.blt 0 z.cells.size && Nat.blt 0 n) with
 | false=>rw [hc] at he;cases he
 | true=>
   rw [hc] at he
   simp only [aac] at hc
   have h24:=aaA hc.1.1
   have hzs:0 < z.cells.size:=by simpa [aaR] using hc.1.2
   obtain ⟨z1,z2⟩:=ZA (ρ:=ρ) hz w
   simp only [cond_true] at he
   split at he
   case h_2=>cases he
   rename_i cs hfill
   cases hsz:Nat.beq cs.size (len * n) with
   | false=>rw [hsz] at he;cases he
   | true=>
     rw [hsz] at he
     simp only [cond_true,aaa,aae] at he
     obtain ⟨rfl,rfl⟩:=he
     have hsz:=aam hsz
     obtain ⟨cs',hf',hv⟩:=cQ _ _ _ (uJ z.cells.toList (len * n)).toArray _ hp (nt z2 (by omega) _) hfill
     obtain ⟨e,st⟩:=aL (t:=elem) hr (c:=cs.toList) (cs:=cs') (by rw [hv.1,abt];exact aah _) (fun i x hx=>by
      obtain ⟨y,hy,hxy⟩:=hv.get hx
      exact ⟨y,by simpa using hy,hxy⟩)
     have hcsz:cs'.size=len * n:=by have:=hv.1;simp only [abt] at this;omega
     refine ⟨.slice (some ⟨w.heap.size,0,none⟩) len len,_,_,?_,st,?_⟩
     ·simp only [Instr.buildSlice,aag,zk hu,aad,zk hn]
      rw [if_neg (by omega)]
      by_cases h0:len * n=0
      ·rw [if_pos h0]
       have:((Array.range (len * n)).map fun k=>(#[]:Array Value)[k % (#[]:Array Value).size]!)=(uJ z.cells.toList (len * n)).toArray:=by rw [h0];simp [uJ]
       simp only [aag,aan,aad,this,hf',e]
      ·rw [if_neg h0]
       simp only [aag,z1,aan,aad,sr,hf',e]
     ·exact zK.slice (ρ:=ρ.ext _) (b:=h.next) (off:=0) (pl:=⟨w.heap.size,0,cs'.size,P.cellsOf elem⟩) (by show h.next < ρ.next + 1;rw [hr.next];exact aaD _) (by rw [<- hr.next];exact ρ.qo _) (aah _)
       (fun _=>⟨by simp [Qr hn,hcsz],fun k hk=>by omega⟩)
theorem zv {α:Type} {b:Bool} {x:Option α} {y:α} (h:cond b x none=some y):b=true/\x=some y:=by
 cases b with
 | true=>exact ⟨rfl,h⟩
 | false=>cases h
def nL (s:Env):Option Operand->Option (Option Value)
 | none=>some none
 | some x=>(qP s x).map some
theorem UX {ρ:yN} {s:Env} {a:Act} (hs:wt ρ s a.tmps) {x:Option Operand} {v:Option Value} (h:nL s x=some v):F5 ρ v (x.map a.eval):=by
 cases x with
 | none=>simp only [nL,aaa] at h;subst h;exact ⟨fun v hv=>by (cases hv),fun _=>rfl⟩
 | some x=>
   simp only [nL,aao] at h
   obtain ⟨u,hu,rfl⟩:=h
   exact ⟨fun v hv=>by cases hv;exact ⟨_,rfl,zS hs hu⟩,fun hn=>by cases hn⟩
def Cd:Option Value->Bool
 | none=>true
 | some v=>flat v
def zg (P:Program) (b:Builtin) (ts:List TypeId) (r:TypeId) (vs:List Value) (h:za):Option (Value × za) :=
 match b,ts,vs with
 | .append,[sT,xT],[s,x]=>Vb P sT xT s x h
 | .copy,t :: _,[d,x]=>Bh P t d x h
 | .len,[t],[x]=>(IS P t x h).map fun v=>(v,h)
 | .clear,[t],[x]=>(lT P t x h).map fun h'=>(undef,h')
 | .min,_,_=>cond (vs.all flat) ((fl (yi P (Builtin.min_ ts.toArray r vs.toArray))).map fun v=>(v,h)) none
 | .max,_,_=>cond (vs.all flat) ((fl (yi P (Builtin.max_ ts.toArray r vs.toArray))).map fun v=>(v,h)) none
 | .delete,t :: _,[x,k]=>(X9 P t x k h).map fun h'=>(undef,h')
 | .cap,[t],[x]=>(OM P t x).map fun v=>(v,h)
 | .unsafeSliceData,_,[x]=>(OX x).map fun v=>(v,h)
 | .unsafeString,[pt,it],[p,.int .i64 n]=>RY P pt p n h
 | _,_,_=>none
theorem aQ {ρ:yN}:∀ {xs ys:List Value},xf ρ xs ys->xs.all flat=true->ys=xs
 | [],ys,h,_=>h.vp
 | x :: xs,ys,h,hf=>by
   obtain ⟨y,ys',rfl,h1,h2⟩:=h.cons_inv
   simp only [aaX,aac] at hf
   rw [kJ h1 hf.1,aQ h2 hf.2]
theorem lS {ρ:yN} {b:Builtin} {ts:Array TypeId} {r:TypeId} {vs vs':List Value} {cs:Array Bool} {v:Value} {h h':za} {w:World} (he:zg P b ts.toList r vs h=some (v,h')) (hr:Rel P ρ h w) (hv:xf ρ vs vs') :
  ∃ v' w' ρ',(builtin b ts r cs vs'.toArray).run P w = .ok (.value v') w'/\Step P ρ h w ρ' h' w'/\zK ρ' v v':=by
 unfold zg at he
 split at he
 ·rename_i sT xT s x hts
  obtain ⟨s',l1,rfl,v1,hv⟩:=hv.cons_inv
  obtain ⟨x',l2,rfl,v2,hv⟩:=hv.cons_inv
  cases hv.vp
  have:ts = #[sT,xT]:=by rw [<- abK (xs:=ts),hts]
  subst this
  obtain ⟨v',w',ρ',e,st,hv'⟩:=nF (r:=r) he hr v1 v2
  exact ⟨v',w',ρ',by simp only [builtin,aag];rw [e];rfl,st,hv'⟩
 ·rename_i t ts' d x hts
  obtain ⟨d',l1,rfl,v1,hv⟩:=hv.cons_inv
  obtain ⟨x',l2,rfl,v2,hv⟩:=hv.cons_inv
  cases hv.vp
  obtain ⟨v',w',e,st,hv'⟩:=Bi (ts:=ts) (r:=r) he hr v1 v2 (by rw [<- Array.getElem?_toList,hts];rfl)
  exact ⟨v',w',ρ,by simp only [builtin,aag];rw [e];rfl,st,hv'⟩
 ·rename_i t x hts
  obtain ⟨x',l1,rfl,v1,hv⟩:=hv.cons_inv
  cases hv.vp
  have:ts = #[t]:=by rw [<- abK (xs:=ts),hts]
  subst this
  simp only [aao,aae] at he
  obtain ⟨u,hu,rfl,rfl⟩:=he
  obtain ⟨e,hv'⟩:=Bk hu hr v1 r
  exact ⟨u,w,ρ,by simp only [builtin,aag];rw [e];rfl,.refl hr,hv'⟩
 ·rename_i t x hts
  obtain ⟨x',l1,rfl,v1,hv⟩:=hv.cons_inv
  cases hv.vp
  have:ts = #[t]:=by rw [<- abK (xs:=ts),hts]
  subst this
  simp only [aao,aae] at he
  obtain ⟨u,hu,rfl,rfl⟩:=he
  obtain ⟨w',e,st⟩:=sK (r:=r) hu hr v1
  exact ⟨undef,w',ρ,by simp only [builtin,aag];rw [e];rfl,st,.jt _ rfl⟩
 ·obtain ⟨hf,he⟩:=zv he
  simp only [aao,aae] at he
  obtain ⟨u,hu,rfl,rfl⟩:=he
  obtain ⟨h1,h2⟩:=Ve hu
  obtain rfl:=aQ hv hf
  refine ⟨u,w,ρ,?_,.refl hr,.of_flat _ h2⟩
  have h1:=zk h1 w
  rw [abK] at h1
  simp only [builtin,aag,h1];rfl
 ·obtain ⟨hf,he⟩:=zv he
  simp only [aao,aae] at he
  obtain ⟨u,hu,rfl,rfl⟩:=he
  obtain ⟨h1,h2⟩:=Ve hu
  obtain rfl:=aQ hv hf
  refine ⟨u,w,ρ,?_,.refl hr,.of_flat _ h2⟩
  have h1:=zk h1 w
  rw [abK] at h1
  simp only [builtin,aag,h1];rfl
 ·rename_i t ts' x k hts
  obtain ⟨x',l1,rfl,v1,hv⟩:=hv.cons_inv
  obtain ⟨k',l2,rfl,v2,hv⟩:=hv.cons_inv
  cases hv.vp
  simp only [aao,aae] at he
  obtain ⟨u,hu,rfl,rfl⟩:=he
  obtain ⟨w',e,st⟩:=eI (ts:=ts) (r:=r) hu (by rw [<- Array.getElem?_toList,hts];rfl) hr v1 v2
  exact ⟨undef,w',ρ,by simp only [builtin,aag];rw [e];rfl,st,.jt _ rfl⟩
 ·rename_i t x hts
  obtain ⟨x',l1,rfl,v1,hv⟩:=hv.cons_inv
  cases hv.vp
  have:ts = #[t]:=by rw [<- abK (xs:=ts),hts]
  subst this
  simp only [aao,aae] at he
  obtain ⟨u,hu,rfl,rfl⟩:=he
  obtain ⟨e,hv'⟩:=Dh hu v1 r w
  exact ⟨u,w,ρ,by simp only [builtin,aag];rw [e];rfl,.refl hr,hv'⟩
 ·rename_i ts' x hts
  obtain ⟨x',l1,rfl,v1,hv⟩:=hv.cons_inv
  cases hv.vp
  simp only [aao,aae] at he
  obtain ⟨u,hu,rfl,rfl⟩:=he
  obtain ⟨v',e,hv'⟩:=Dq hu v1 ts r w
  exact ⟨v',w,ρ,by simp only [builtin,aag];rw [e];rfl,.refl hr,hv'⟩
 ·rename_i pt it p n hts
  obtain ⟨p',l1,rfl,v1,hv⟩:=hv.cons_inv
  obtain ⟨n',l2,rfl,v2,hv⟩:=hv.cons_inv
  cases hv.vp
  cases v2
  have:ts = #[pt,it]:=by rw [<- abK (xs:=ts),hts]
  subst this
  obtain ⟨v',w',e,st,hv'⟩:=GQ (it:=it) (ty:=r) he hr v1
  exact ⟨v',w',ρ,by simp only [builtin,aag];rw [e];rfl,st,hv'⟩
 ·cases he
def one (h:za) (x:Option Value):Option (Value × za):=match x with | none=>none | some v=>some (v,h)
def Jt (P:Program) (s:Env) (o:Oper) (h:za):Option (Value × za) :=
 match o.op with
 | .move x | .assign x=>one h (qP s x)
 | .pick c a b=>(match qP s c with
   | some (.bool true)=>one h (qP s a)
   | some (.bool false)=>one h (qP s b)
   | _=>none)
 | .box t x=>(match qP s x with
   | some v=>some (nT h v.cells.toList t)
   | none=>none)
 | .alloc t=>(match yV P t with
   | some z=>some (nT h z.cells.toList t)
   | none=>none)
 | .build t parts=>(match Wb s parts.toList with
   | some ps=>one h (yg P t ps)
   | none=>none)
 | .buildSlice t len parts=>(match Wb s parts.toList with
   | some ps=>zO P t len ps h
   | none=>none)
 | .load t a=>(match qP s a with
   | some v=>one h (zd P t v h)
   | none=>none)
 | .store t a x=>(match qP s a,qP s x with
   | some p,some v=>(match zh P t p v h with
     | some h'=>some (undef,h')
     | none=>none)
   | _,_=>none)
 | .nilCheck x=>(match qP s x with
   | some (.pointer (some a))=>some (.pointer (some a),h)
   | some (.func (.func f) a c)=>some (.func (.func f) a c,h)
   | _=>none)
 | .binOp op t x y _=>(match qP s x,qP s y with
   | some a,some b=>one h (ze P op t x y a b)
   | _,_=>none)
 | .unOp op _ x=>(match qP s x with
   | some a=>cond (flat a) (one h (fl (yi P (Op.unary op a)))) none
   | none=>none)
 | .convert src dst x=>(match qP s x with
   | some a=>uf P src dst a h
   | none=>none)
 | .makeInterface t x=>(match qP s x with
   | some a=>(match yi P (Instr.makeInterface t (.bool true)) with
     | some _=>some (.iface t a,h)
     | none=>none)
   | none=>none)
 | .makeFunc (.func f) first captured=>(match V5 s first.toList,V5 s captured.toList with
   | some a,some c=>some (.func (.func f) a.toArray c.toArray,h)
   | _,_=>none)
 | .makeSlice t l c=>(match qP s l,qP s c with
   | some a,some b=>ZY P t a b h
   | _,_=>none)
 | .slice t x lo hi none=>(match qP s x,nL s lo,nL s hi with
   | some (.string str),some a,some b=>(match flatSlice P t str a b with
     | some v=>some (v,h)
     | none=>none)
   | some v,some a,some b=>one h (eL P t v a b h)
   | _,_,_=>none)
 | .fieldAddr t x f=>(match qP s x with
   | some a=>one h (zb P t a f)
   | none=>none)
 | .field t x f=>(match qP s x with
   | some (.agg cs)=>(match yi P (underlying t) with
     | some (.struct fields)=>(match fields[f]? with
       | some fd=>one h (apart P fd.type cs.toList fd.offset)
       | none=>none)
     | _=>none)
   | _=>none)
 | .indexAddr t x i=>(match qP s x,qP s i with
   | some a,some b=>one h (zw P t a b)
   | _,_=>none)
 | .index t x i=>(match qP s x,qP s i with
   | some a,some b=>cond (flat a && flat b) (one h (fl (yi P (Instr.index t a b)))) none
   | _,_=>none)
 | .extract x i=>(match qP s x with
   | some (.tuple vs)=>one h vs[i]?
   | _=>none)
 | .call { callee := .builtin b,args,argTypes }=>(match V5 s args.toList with
   | some vs=>zg P b argTypes.toList o.type vs h
   | none=>none)
 | .makeMap _ none=>some (V7 h)
 | .lookup t x k ok=>(match qP s x,qP s k with
   | some a,some b=>one h (iz P t a b ok h)
   | _,_=>none)
 | .mapUpdate t m k x=>(match qP s m,qP s k,qP s x with
   | some a,some b,some c=>(match Yw P t a b c h with
     | some h'=>some (undef,h')
     | none=>none)
   | _,_,_=>none)
 | .range t x=>(match qP s x with
   | some a=>eK P t a h
   | none=>none)
 | .next x str=>(match qP s x with
   | some a=>p9 P a str h
   | none=>none)
 | .entry x=>(match qP s x with
   | some a=>one h (sO a h)
   | none=>none)
 | _=>none
 where
  flatSlice (P:Program) (t:TypeId) (str:ByteArray) (a b:Option Value):Option Value :=
   cond (Cd a && Cd b) (fl (yi P (Instr.sliceAt t (.string str) a b none))) none
end
noncomputable section
variable {P:Program}
def iM (P:Program) (ρ:yN) (h:za) (w:World) (s:Sem Next) (v:Value) (h':za):Prop :=
 ∃ n w' ρ' v',s.run P w = .ok n w'/\(n = .value v'\/(n = .skip/\v'=undef))/\Step P ρ h w ρ' h' w'/\zK ρ' v v'
theorem iM.val {ρ:yN} {h h':za} {w:World} {s:Sem Value} {v:Value} (e:∃ v' w' ρ',s.run P w = .ok v' w'/\Step P ρ h w ρ' h' w'/\zK ρ' v v') :
  iM P ρ h w (do pure (.value (<- s))) v h':=by
 obtain ⟨v',w',ρ',e,st,hv⟩:=e
 exact ⟨.value v',w',ρ',v',by rw [aag,e];rfl,.inl rfl,st,hv⟩
theorem iM.still {ρ:yN} {h:za} {w:World} {s:Sem Value} {v:Value} (hr:Rel P ρ h w) (e:∃ v',s.run P w = .ok v' w/\zK ρ v v') :
  iM P ρ h w (do pure (.value (<- s))) v h:=by
 obtain ⟨v',e,hv⟩:=e
 exact .val ⟨v',w,ρ,e,.refl hr,hv⟩
theorem iM.pure {ρ:yN} {h:za} {w:World} {v v':Value} (hr:Rel P ρ h w) (hv:zK ρ v v'):iM P ρ h w (Pure.pure (.value v')) v h :=
 ⟨.value v',w,ρ,v',rfl,.inl rfl,.refl hr,hv⟩
theorem wq {h h':za} {x:Option Value} {v:Value} (e:one h x=some (v,h')):x=some v/\h'=h:=by
 unfold one at e
 split at e
 ·cases e
 ·simp only [aaa,aae] at e;obtain ⟨rfl,rfl⟩:=e;exact ⟨rfl,rfl⟩
theorem m6 {ρ:yN} {h:za} {w:World} {c v:Value} {b:Bool} {va vb:Value} (hr:Rel P ρ h w) (hc:zK ρ (.bool b) c) (hv:zK ρ v (if b=true then va else vb)) :
  iM P ρ h w (do Pure.pure (.value (if <- asBool c then va else vb))) v h:=by
 cases hc
 exact ⟨_,w,ρ,_,by simp only [asBool,aag,aan,aad],.inl rfl,.refl hr,hv⟩
theorem nG {ρ:yN} {t:TypeId} {a b a' b' v:Value} (hf:(flat a && flat b)=true) (h:fl (yi P (Instr.index t a b))=some v) (ha:zK ρ a a') (hb:zK ρ b b') (w:World) :
  ∃ v',(Instr.index t a' b').run P w = .ok v' w/\zK ρ v v':=by
 simp only [aac] at hf
 obtain rfl:=kJ ha hf.1
 obtain rfl:=kJ hb hf.2
 obtain ⟨h1,h2⟩:=Ve h
 exact ⟨v,zk h1 w,.of_flat ρ h2⟩
theorem r7 {ρ:yN} {x x':Option Value} (h:F5 ρ x x') (hf:Cd x=true):x'=x:=by
 cases x with
 | none=>exact h.2 rfl
 | some v=>obtain ⟨v',rfl,hv⟩:=h.1 v rfl;rw [kJ hv hf]
set_option maxHeartbeats 1000000 in
theorem re {ρ:yN} {s:Env} {a:Act} {o:Oper} {h h':za} {v:Value} {w:World} (he:Jt P s o h=some (v,h')) (hr:Rel P ρ h w) (hs:wt ρ s a.tmps) :
  iM P ρ h w (execOp a.eval o) v h':=by
 unfold Jt at he
 split at he
 ·
  rename_i x yF
  obtain ⟨h1,rfl⟩:=wq he
  simp only [execOp,yF]
  exact .pure hr (zS hs h1)
 ·
  rename_i x yF
  obtain ⟨h1,rfl⟩:=wq he
  simp only [execOp,yF]
  exact .pure hr (zS hs h1)
 ·
  rename_i c x y yF
  simp only [execOp,yF]
  split at he
  ·rename_i hc
   obtain ⟨h1,rfl⟩:=wq he
   exact m6 hr (zS hs hc) (by rw [if_pos rfl];exact zS hs h1)
  ·rename_i hc
   obtain ⟨h1,rfl⟩:=wq he
   exact m6 hr (zS hs hc) (by rw [if_neg (by decide)];exact zS hs h1)
  ·cases he
 ·
  rename_i t x yF
  simp only [execOp,yF]
  split at he
  case h_2=>cases he
  rename_i u hu
  simp only [aaa,nT,aae] at he
  obtain ⟨rfl,rfl⟩:=he
  obtain ⟨a',w',ρ',e,st,hv⟩:=dk hr (zS hs hu) t
  exact .val ⟨_,w',ρ',by simp only [Instr.box,aag,e,aad,aan],st,hv⟩
 ·
  rename_i t yF
  simp only [execOp,yF]
  split at he
  case h_2=>cases he
  rename_i z hz
  simp only [aaa,nT,aae] at he
  obtain ⟨rfl,rfl⟩:=he
  obtain ⟨z1,z2⟩:=ZA (ρ:=ρ) hz w
  obtain ⟨a',w',ρ',e,st,hv⟩:=dk hr z2 t
  exact .val ⟨_,w',ρ',by simp only [Instr.alloc,aag,z1,e,aad,aan],st,hv⟩
 ·
  rename_i t parts yF
  simp only [execOp,yF]
  split at he
  case h_2=>cases he
  rename_i ps hps
  obtain ⟨h1,rfl⟩:=wq he
  have hp:=UZ hs hps
  obtain ⟨v',e,hv⟩:=sJ h1 hp w
  refine .still hr ⟨v',?_,hv⟩
  rw [<- e]
  congr 1
  congr 1
  apply ab2
  simp
 ·
  rename_i t len parts yF
  simp only [execOp,yF]
  split at he
  case h_2=>cases he
  rename_i ps hps
  have hp:=UZ hs hps
  obtain ⟨v',w',ρ',e,st,hv⟩:=bY he hr hp
  refine .val ⟨v',w',ρ',?_,st,hv⟩
  rw [<- e]
  congr 1
  congr 1
  apply ab2
  simp
 ·
  rename_i t x yF
  simp only [execOp,yF]
  split at he
  case h_2=>cases he
  rename_i u hu
  obtain ⟨h1,rfl⟩:=wq he
  exact .still hr (gG h1 hr (zS hs hu))
 ·
  rename_i t p x yF
  simp only [execOp,yF]
  split at he
  case h_2=>cases he
  rename_i pv xv hp hx
  split at he
  case h_2=>cases he
  rename_i h2 hst
  simp only [aaa,aae] at he
  obtain ⟨rfl,rfl⟩:=he
  obtain ⟨w',e,st⟩:=tg hst hr (zS hs hp) (zS hs hx)
  exact ⟨.skip,w',ρ,undef,by rw [aag,e];rfl,.inr ⟨rfl,rfl⟩,st,.jt _ rfl⟩
 ·
  rename_i x yF
  simp only [execOp,yF]
  split at he
  ·rename_i p hp
   simp only [aaa,aae] at he
   obtain ⟨rfl,rfl⟩:=he
   have e:=zS hs hp
   generalize a.eval x=xv at e
   cases e with
   | ptr hb hm=>exact .pure hr (.ptr hb hm)
   | Zg=>exact .pure hr .Zg
  ·rename_i f fa fc hp
   simp only [aaa,aae] at he
   obtain ⟨rfl,rfl⟩:=he
   have e:=zS hs hp
   generalize a.eval x=xv at e
   cases e with
   | func h1 h2 h3 h4=>exact .pure hr (.func h1 h2 h3 h4)
  ·cases he
 ·
  rename_i op t x y yt yF
  simp only [execOp,yF]
  split at he
  case h_2=>cases he
  rename_i xv yv hx hy
  obtain ⟨h1,rfl⟩:=wq he
  exact .still hr (Bb h1 (zS hs hx) (zS hs hy) w)
 ·
  rename_i op t x yF
  simp only [execOp,yF]
  split at he
  case h_2=>cases he
  rename_i xv hx
  obtain ⟨hf,he⟩:=zv he
  obtain ⟨h1,rfl⟩:=wq he
  obtain ⟨h2,h3⟩:=Ve h1
  rw [kJ (zS hs hx) hf]
  exact .still hr ⟨v,zk h2 w,.of_flat ρ h3⟩
 ·
  rename_i src dst x yF
  simp only [execOp,yF]
  split at he
  case h_2=>cases he
  rename_i xv hx
  exact .val (Bf he hr (zS hs hx))
 ·
  rename_i t x yF
  simp only [execOp,yF]
  split at he
  case h_2=>cases he
  rename_i xv hx
  split at he
  case h_2=>cases he
  rename_i u hu
  simp only [aaa,aae] at he
  obtain ⟨rfl,rfl⟩:=he
  refine .still hr ⟨.iface t (a.eval x),?_,.iface (zS hs hx)⟩
  have:=zk hu w
  simp only [Instr.makeInterface,aag] at this ⊢
  cases hun:(underlying t).run P w with
  | halt e w2=>rw [hun] at this;cases this
  | ok d w2=>
    rw [hun] at this
    simp only [aad] at this ⊢
    cases d <;> simp_all
 ·
  rename_i f first captured yF
  simp only [execOp,yF]
  split at he
  case h_2=>cases he
  rename_i av cv ha hc
  simp only [aaa,aae] at he
  obtain ⟨rfl,rfl⟩:=he
  have e1:=kf hs ha
  have e2:=kf hs hc
  refine .still hr ⟨.func (.func f) (first.map a.eval) (captured.map a.eval),rfl,.func (by simpa using e1.1) (by simpa using e2.1) (fun i x y hx hy=>e1.2 i x y (by simpa using hx) (by simpa using hy)) (fun i x y hx hy=>e2.2 i x y (by simpa using hx) (by simpa using hy))⟩
 ·
  rename_i t l c yF
  simp only [execOp,yF]
  split at he
  case h_2=>cases he
  rename_i lv cv hl hc
  exact .val (Bl he hr (zS hs hl) (zS hs hc))
 ·
  rename_i t x lo hi yF
  simp only [execOp,yF]
  split at he
  ·rename_i str av bv hx ha hb
   split at he
   case h_2=>cases he
   rename_i u hu
   simp only [aaa,aae] at he
   obtain ⟨rfl,rfl⟩:=he
   obtain ⟨hf,hu⟩:=zv hu
   simp only [aac] at hf
   obtain ⟨h1,h2⟩:=Ve hu
   rw [kJ (zS hs hx) rfl,r7 (UX hs ha) hf.1,r7 (UX hs hb) hf.2]
   exact .still hr ⟨u,zk h1 w,.of_flat ρ h2⟩
  ·rename_i xv av bv _ hx ha hb
   obtain ⟨h1,rfl⟩:=wq he
   exact .still hr (td h1 hr (zS hs hx) (UX hs ha) (UX hs hb))
  ·cases he
 ·
  rename_i t x f yF
  simp only [execOp,yF]
  split at he
  case h_2=>cases he
  rename_i xv hx
  obtain ⟨h1,rfl⟩:=wq he
  exact .still hr (sU h1 (zS hs hx) w)
 ·
  rename_i t x f yF
  simp only [execOp,yF]
  split at he
  case h_2=>cases he
  rename_i cs hx
  split at he
  case h_2=>cases he
  rename_i fields hu
  split at he
  case h_2=>cases he
  rename_i fd hfd
  obtain ⟨h1,rfl⟩:=wq he
  have e:=zS hs hx
  generalize a.eval x=xv at e
  cases e with
  | agg h2 h3=>
    rename_i cs'
    obtain ⟨v',e,hv⟩:=Bo (cs':=cs') h1 ⟨by simpa using h2,fun i x y hx hy=>h3 i x y (by simpa using hx) (by simpa using hy)⟩ w
    refine .still hr ⟨v',?_,hv⟩
    simp only [Instr.field,aag,zk hu,aad,hfd,asAgg,aan,e]
 ·
  rename_i t x i yF
  simp only [execOp,yF]
  split at he
  case h_2=>cases he
  rename_i xv iv hx hi
  obtain ⟨h1,rfl⟩:=wq he
  exact .still hr (sW h1 (zS hs hx) (zS hs hi) w)
 ·
  rename_i t x i yF
  simp only [execOp,yF]
  split at he
  case h_2=>cases he
  rename_i xv iv hx hi
  obtain ⟨hf,he⟩:=zv he
  obtain ⟨h1,rfl⟩:=wq he
  exact .still hr (nG hf h1 (zS hs hx) (zS hs hi) w)
 ·
  rename_i x i yF
  simp only [execOp,yF]
  split at he
  case h_2=>cases he
  rename_i vs hx
  obtain ⟨h1,rfl⟩:=wq he
  have e:=zS hs hx
  generalize a.eval x=xv at e
  cases e with
  | tuple h2 h3=>
    rename_i vs'
    have hlt:i < vs.size:=by
     rcases aar i vs.size with h | h
     ·exact h
     ·rw [aaF h] at h1;cases h1
    have hy:vs'[i]? = some vs'[i]:=aaG (h2 ▸ hlt)
    refine .still hr ⟨vs'[i]'(h2 ▸ hlt),?_,h3 i _ _ h1 hy⟩
    simp only [Instr.extract,hy,aan]
 ·
  rename_i b args ts yF
  simp only [execOp,yF]
  split at he
  case h_2=>cases he
  rename_i vs hvs
  have e:=kf hs hvs
  obtain ⟨v',w',ρ',e1,st,hv⟩:=lS (cs:=args.map fun | .const _=>true | _=>false) he hr e
  refine ⟨.value v',w',ρ',v',?_,.inl rfl,st,hv⟩
  simp only [resolve,aag,aan,aad,invoke]
  rw [<- e1]
  congr 2
  apply ab2
  simp
 ·
  rename_i t yF
  simp only [execOp,yF]
  simp only [aaa] at he
  obtain ⟨v',w',ρ',e,st,hv⟩:=lW hr t
  rw [he] at st hv
  exact .val ⟨v',w',ρ',e,st,hv⟩
 ·
  rename_i t x k ok yF
  simp only [execOp,yF]
  split at he
  case h_2=>cases he
  rename_i xv kv hx hk
  obtain ⟨h1,rfl⟩:=wq he
  exact .still hr (nI h1 hr (zS hs hx) (zS hs hk))
 ·
  rename_i t m k x yF
  simp only [execOp,yF]
  split at he
  case h_2=>cases he
  rename_i mv kv xv hm hk hx
  split at he
  case h_2=>cases he
  rename_i h2 hu
  simp only [aaa,aae] at he
  obtain ⟨rfl,rfl⟩:=he
  obtain ⟨w',e,st⟩:=eJ hu hr (zS hs hm) (zS hs hk) (zS hs hx)
  exact ⟨.skip,w',ρ,undef,by simp only [aag,e,aad,aan],.inr ⟨rfl,rfl⟩,st,.jt _ rfl⟩
 ·
  rename_i t x yF
  simp only [execOp,yF]
  split at he
  case h_2=>cases he
  rename_i xv hx
  exact .val (sZ he hr (zS hs hx))
 ·
  rename_i x str yF
  simp only [execOp,yF]
  split at he
  case h_2=>cases he
  rename_i xv hx
  exact .val (Bn he hr (zS hs hx))
 ·
  rename_i x yF
  simp only [execOp,yF]
  split at he
  case h_2=>cases he
  rename_i xv hx
  obtain ⟨h1,rfl⟩:=wq he
  exact .still hr (sP h1 hr (zS hs hx))
 ·cases he
end
noncomputable section
variable {P:Program}
def wi (b:Frame) (tm:Array Value) (ds:List Deferred) (todo:List Item):Frame :=
 { fn:=b.fn,tmps:=tm,todo,defers:=ds,mode := .run,kind:=b.kind,roundOf:=b.roundOf }
theorem mz (b:Frame) (tm:Array Value) (ds:List Deferred) (todo:List Item):(wi b tm ds todo).eval=(Act.eval ⟨tm,ds⟩):=by
 funext x;cases x <;> rfl
section moves
variable {b:Frame} {tm:Array Value} {ds:List Deferred} {k:List Item} {cs:List Frame} {w:World}
theorem DL:step P (lone (wi b tm ds (.code .skip :: k)) cs w) = .next (lone (wi b tm ds k) cs w):=step_lone_go (by simp [stepG,stepG.exec,wi])
theorem BS {l:Nat}:step P (lone (wi b tm ds (.code (.label l) :: k)) cs w) = .next (lone (wi b tm ds k) cs w):=step_lone_go (by simp [stepG,stepG.exec,wi])
theorem nQ {id:Nat}:step P (lone (wi b tm ds (.inBlock id :: k)) cs w) = .next (lone (wi b tm ds k) cs w):=step_lone_go (by simp [stepG,stepG.exec,wi])
theorem nR {c:Code}:step P (lone (wi b tm ds (.inScope c :: k)) cs w) = .next (lone (wi b tm ds k) cs w):=step_lone_go (by simp [stepG,stepG.exec,wi])
theorem eU {x y:Code}:step P (lone (wi b tm ds (.code (.seq x y) :: k)) cs w) = .next (lone (wi b tm ds (.code x :: .code y :: k)) cs w):=step_lone_go (by simp [stepG,stepG.exec,wi])
theorem DJ {c:Operand} {x y:Code} {t:Bool} (h:Act.eval ⟨tm,ds⟩ c = .bool t):step P (lone (wi b tm ds (.code (.cond c x y) :: k)) cs w) = .next (lone (wi b tm ds (.code (if t then x else y) :: k)) cs w) :=
 step_lone_go (by
  have:=congrFun (mz b tm ds (.code (.cond c x y) :: k)) c
  simp only [wi] at this
  simp [stepG,stepG.exec,wi,this,h])
theorem Vf {id:Nat} {c:Code}:step P (lone (wi b tm ds (.code (.block id c) :: k)) cs w) = .next (lone (wi b tm ds (.code c :: .inBlock id :: k)) cs w):=step_lone_go (by simp [stepG,stepG.exec,wi])
theorem Kl {c:Code}:step P (lone (wi b tm ds (.code (.scope c) :: k)) cs w) = .next (lone (wi b tm ds (.code c :: .inScope c :: k)) cs w):=step_lone_go (by simp [stepG,stepG.exec,wi])
theorem U9 {c:Code}:step P (lone (wi b tm ds (.code (.loop c) :: k)) cs w) = .next (lone (wi b tm ds (.code c :: .inLoop c :: k)) cs w):=step_lone_go (by simp [stepG,stepG.exec,wi])
theorem tz {c:Code}:step P (lone (wi b tm ds (.inLoop c :: k)) cs w) = .next (lone (wi b tm ds (.code c :: .inLoop c :: k)) cs w):=step_lone_go (by simp [stepG,stepG.exec,wi])
theorem DK {id:Nat} {k':List Item} (h:exitTo id k=some k'):step P (lone (wi b tm ds (.code (.exit id) :: k)) cs w) = .next (lone (wi b tm ds k') cs w):=step_lone_go (by simp [stepG,stepG.exec,wi,h])
theorem tA {id:Nat} {ops:Array Oper}:step P (lone (wi b tm ds (.code (.region id ops false) :: k)) cs w) = .next (lone (wi b tm ds (.inRegion ops (List.range ops.size) :: k)) cs w):=step_lone_go (by simp [stepG,stepG.exec,wi])
theorem Vg {id:Nat} {ops:Array Oper}:step P (lone (wi b tm ds (.code (.region id ops true) :: k)) cs w) =
  .next (lone (wi b tm ds (.inRegion ops (Region.schedule (P.follows .mixedOrders) ops (w.tape w.drawn (.order b.fn id))) :: k)) cs { w with drawn:=w.drawn + 1 }) :=
 step_lone_go (by simp [stepG,stepG.exec,wi,choose,Sem.run,Question.forced,Question.cut])
theorem YC {ops:Array Oper}:step P (lone (wi b tm ds (.inRegion ops [] :: k)) cs w) = .next (lone (wi b tm ds k) cs w):=step_lone_go (by simp [stepG,stepG.exec,wi])
theorem Hc (hb:b.roundOf=none):step P (lone (wi b tm ds (.code .ret :: k)) cs w) = .next (lone { wi b tm ds (.code .ret :: k) with mode := .returning } cs w) :=
 step_lone_go (by simp [stepG,stepG.exec,wi,hb])
theorem Hb (hb:b.roundOf=none):step P (lone (wi b tm ds []) cs w) = .next (lone { wi b tm ds [] with mode := .returning } cs w) :=
 step_lone_go (by simp [stepG,stepG.exec,wi,hb])
theorem kg (ops:Array Oper) (i:Nat) (rest:List Nat) (v:Value) :
  (wi b tm ds (.inRegion ops (i :: rest) :: k)).finish v=wi b (vU tm ((ops[i]?).bind (·.dst)) v) ds (.inRegion ops rest :: k):=by
 cases h:(ops[i]?).bind (·.dst) <;> simp [Frame.finish,wi,vU,h]
theorem Jx {ops:Array Oper} {i:Nat} {rest:List Nat} (h:((ops[i]?).map (Region.wanted · (yielded ops tm))).getD false=false) :
  step P (lone (wi b tm ds (.inRegion ops (i :: rest) :: k)) cs w) = .next (lone ((wi b tm ds (.inRegion ops (i :: rest) :: k)).finish undef) cs w):=by
 exact step_lone_go (by
  have h':=h
  simp only [wi] at *
  simp [stepG,stepG.exec,h'])
def YO:Op->Bool
 | .defer _=>true
 | _=>false
theorem Ji {ops:Array Oper} {i:Nat} {rest:List Nat} {o:Oper} (ho:ops[i]? = some o) (hw:Region.wanted o (yielded ops tm)=true) (hd:YO o.op=false) :
  stepG P true { frame:=wi b tm ds (.inRegion ops (i :: rest) :: k),callers:=cs,status := .running,dying:=none } w =
   stepG.apply P true (wi b tm ds (.inRegion ops (i :: rest) :: k)) cs none (execOp (Act.eval ⟨tm,ds⟩) o) w:=by
 have he:=mz b tm ds (.inRegion ops (i :: rest) :: k)
 have hw':((ops[i]?).map (Region.wanted · (yielded ops tm))).getD false=true:=by rw [ho];exact hw
 have h2:(wi b tm ds (.inRegion ops (i :: rest) :: k)).oper? = some o:=by simp [Frame.oper?,wi,ho]
 have h1:stepG P true { frame:=wi b tm ds (.inRegion ops (i :: rest) :: k),callers:=cs,status := .running,dying:=none } w=stepG.oper P true (wi b tm ds (.inRegion ops (i :: rest) :: k)) cs none w:=by
  simp only [stepG,wi]
  simp only [stepG.exec,hw']
  rfl
 rw [h1]
 simp only [stepG.oper,h2,he]
 cases hro:(wi b tm ds (.inRegion ops (i :: rest) :: k)).roundOf with
 | none=>rfl
 | some l=>cases yF:o.op <;> first | rfl | (rw [yF] at hd;cases hd)
theorem ZL {ops:Array Oper} {i:Nat} {rest:List Nat} {o:Oper} (ho:ops[i]? = some o) (hw:Region.wanted o (yielded ops tm)=true) (hd:YO o.op=false) {v:Value} {w':World}
  (hr:(execOp (Act.eval ⟨tm,ds⟩) o).run P w = .ok (.value v) w') :
  step P (lone (wi b tm ds (.inRegion ops (i :: rest) :: k)) cs w) = .next (lone ((wi b tm ds (.inRegion ops (i :: rest) :: k)).finish v) cs w') :=
 step_lone_go (by rw [Ji ho hw hd];simp [stepG.apply,hr])
theorem YN {ops:Array Oper} {i:Nat} {rest:List Nat} {o:Oper} (ho:ops[i]? = some o) (hw:Region.wanted o (yielded ops tm)=true) (hd:YO o.op=false) {w':World}
  (hr:(execOp (Act.eval ⟨tm,ds⟩) o).run P w = .ok .skip w') :
  step P (lone (wi b tm ds (.inRegion ops (i :: rest) :: k)) cs w) = .next (lone ((wi b tm ds (.inRegion ops (i :: rest) :: k)).finish undef) cs w') :=
 step_lone_go (by rw [Ji ho hw hd];simp [stepG.apply,hr])
theorem Kk {ops:Array Oper} {i:Nat} {rest:List Nat} {o:Oper} (ho:ops[i]? = some o) (hw:Region.wanted o (yielded ops tm)=true) (hd:YO o.op=false) {f:FuncId} {args:Array Value} {w':World}
  (hr:(execOp (Act.eval ⟨tm,ds⟩) o).run P w = .ok (.enter f args) w') :
  step P (lone (wi b tm ds (.inRegion ops (i :: rest) :: k)) cs w) = .next (lone (Frame.enter P f args .normal) (wi b tm ds (.inRegion ops (i :: rest) :: k) :: cs) w') :=
 step_lone_go (by rw [Ji ho hw hd];simp [stepG.apply,hr,wi])
end moves
end
noncomputable section
variable {P:Program}
inductive Ex where
 | normal
 | exit (id:Nat)
 | ret
 deriving DecidableEq
def SL (P:Program) (m:Machine) (b:Frame) (k:List Item) (cs:List Frame) (e:Ex) (tm:Array Value) (ds:List Deferred) (w:World):Prop :=
 match e with
 | .normal=>Steps P m (lone (wi b tm ds k) cs w)
 | .exit id => ∃ todo,exitTo id todo=exitTo id k/\Steps P m (lone (wi b tm ds (.code (.exit id) :: todo)) cs w)
 | .ret => ∃ todo,Steps P m (lone (wi b tm ds (.code .ret :: todo)) cs w)
theorem SL.of_steps {m m₁:Machine} {b:Frame} {k:List Item} {cs:List Frame} {e:Ex} {tm:Array Value} {ds:List Deferred} {w:World} (h:Steps P m m₁) (h':SL P m₁ b k cs e tm ds w):SL P m b k cs e tm ds w:=by
 cases e with
 | normal=>exact h.trans h'
 | exit id=>obtain ⟨t,e,s⟩:=h';exact ⟨t,e,h.trans s⟩
 | ret=>obtain ⟨t,s⟩:=h';exact ⟨t,h.trans s⟩
theorem Me {ρ:yN} {h:za} {w:World} (hr:Rel P ρ h w) {r:Nat} {o:Obj} (ho:w.heap[r]? = some o) (hn:∃ x,o = .deferred x):¬ aV ρ h r:=by
 rintro ⟨b,ob,pl,hg,_,hm,rfl⟩
 obtain ⟨x,rfl⟩:=hn
 have hc:=hr.Mg hg hm
 cases ob with
 | cells c t=>obtain ⟨cs,fz,h1,_⟩:=hc;rw [h1] at ho;cases ho
 | map es q=>obtain ⟨ms,h1,_⟩:=hc;rw [h1] at ho;cases ho
 | iter m a b c=>obtain ⟨m',h1,_⟩:=hc;rw [h1] at ho;cases ho
 | tab c=>obtain ⟨t,cs,fz,h1,_⟩:=hc;rw [h1] at ho;cases ho
 | siter s pos=>have h1:w.heap[pl.c]? = _:=hc.1;rw [h1] at ho;cases ho
 | loop l=>obtain ⟨tm,d,fn,h1,_⟩:=hc;rw [h1] at ho;cases ho
theorem e9 {w:World} {r:Nat} {o:Obj} (h:w.heap[r]? = some o):r < w.heap.size:=by
 rcases aar r w.heap.size with hl | hl
 ·exact hl
 ·rw [aaF hl] at h;cases h
def B6 (r:Nat):Deferred:={ target := .collected r,args := #[] }
def Qx (w:World) (ds:List Deferred) (w':World) (ds':List Deferred):Prop :=
 ∃ rs:List Nat,ds'=rs.map B6 ++ ds/\rs.Nodup /\ ∀ r,r ∈ rs->w.heap.size<=r/\w'.heap[r]? = some (.deferred (some []))
theorem Qx.refl (w w':World) (ds:List Deferred):Qx w ds w' ds:=⟨[],rfl,List.nodup_nil,fun r h=>by cases h⟩
theorem Qx.trans {ρ ρ':yN} {h h':za} {w w1 w2:World} {ds ds1 ds2:List Deferred} (a:Qx w ds w1 ds1) (b:Qx w1 ds1 w2 ds2) (hle:w.heap.size<=w1.heap.size) (hr:Rel P ρ h w1) (st:Step P ρ h w1 ρ' h' w2):Qx w ds w2 ds2:=by
 obtain ⟨rs,h1,h2,h3⟩:=a
 obtain ⟨rs2,k1,k2,k3⟩:=b
 refine ⟨rs2 ++ rs,by rw [k1,h1,aaU,ace],List.nodup_append.2 ⟨k2,h2,fun x hx y hy e => ?_⟩,fun r hr' => ?_⟩
 ·have:=(k3 x hx).1
  have:=e9 (h3 y hy).2
  omega
 ·rcases aaP.1 hr' with hm | hm
  ·exact ⟨aaH hle (k3 r hm).1,(k3 r hm).2⟩
  ·have:=(h3 r hm).2
   refine ⟨(h3 r hm).1,?_⟩
   rw [st.frame r (e9 this) (Me hr this ⟨_,rfl⟩)]
   exact this
def Rd (ρ:yN) (rd:Option Nat) (b:Frame):Prop :=
 match rd with
 | none=>b.roundOf=none
 | some l=>l < ρ.next /\ ∃ pl,ρ.m l=some pl/\b.roundOf=some pl.c
theorem Rd.mono {ρ ρ':yN} (hle:ρ.le ρ') {rd:Option Nat} {b:Frame} (h:Rd ρ rd b):Rd ρ' rd b:=by
 cases rd with
 | none=>exact h
 | some l=>exact ⟨aai h.1 hle.1,by obtain ⟨pl,hp,hb⟩:=h.2;exact ⟨pl,(hle.2 l h.1).trans hp,hb⟩⟩
def T (P:Program) (rd:Option Nat) (c:Code) (s:Env) (h:za) (Q:Ex->Env->za->Prop):Prop :=
 ∀ (ρ:yN) (w:World) (tm:Array Value) (ds:List Deferred),Rel P ρ h w->wt ρ s tm->∀ (b:Frame),Rd ρ rd b->∀ (k:List Item) (cs:List Frame),
   ∃ e s' h' ρ' w' tm' ds',Q e s' h'/\Step P ρ h w ρ' h' w'/\wt ρ' s' tm'/\Qx w ds w' ds'/\SL P (lone (wi b tm ds (.code c :: k)) cs w) b k cs e tm' ds' w'
def TO (P:Program) (ops:Array Oper) (l:List Nat) (s:Env) (h:za) (Q:Env->za->Prop):Prop :=
 ∀ (ρ:yN) (w:World) (tm:Array Value) (ds:List Deferred),Rel P ρ h w->wt ρ s tm->∀ (b:Frame) (k:List Item) (cs:List Frame),
   ∃ s' h' ρ' w' tm',Q s' h'/\Step P ρ h w ρ' h' w'/\wt ρ' s' tm'/\Steps P (lone (wi b tm ds (.inRegion ops l :: k)) cs w) (lone (wi b tm' ds (.inRegion ops [] :: k)) cs w')
def TC (P:Program) (f:FuncId) (args:List Value) (h:za) (R:Value->za->Prop):Prop :=
 ∀ (ρ:yN) (w:World) (cargs:List Value),Rel P ρ h w->xf ρ args cargs ->
   Calls P f cargs.toArray w fun e w' => ∃ v v' h' ρ',e = .returned v'/\R v h'/\Step P ρ h w ρ' h' w'/\zK ρ' v v'
section rules
variable {rd:Option Nat} {s:Env} {h:za} {Q:Ex->Env->za->Prop}
theorem T.mono {c:Code} {Q':Ex->Env->za->Prop} (ht:T P rd c s h Q) (hq:∀ e s h,Q e s h->Q' e s h):T P rd c s h Q':=by
 intro ρ w tm ds hr hs b hb k cs
 obtain ⟨e,s',h',ρ',w',tm',ds',q,r⟩:=ht ρ w tm ds hr hs b hb k cs
 exact ⟨e,s',h',ρ',w',tm',ds',hq _ _ _ q,r⟩
theorem TC.mono {f:FuncId} {args:List Value} {R R':Value->za->Prop} (ht:TC P f args h R) (hq:∀ v h,R v h->R' v h):TC P f args h R':=by
 intro ρ w cargs hr hv
 refine (ht ρ w cargs hr hv).mono fun e w' => ?_
 rintro ⟨v,v',h',ρ',e1,q,r⟩
 exact ⟨v,v',h',ρ',e1,hq _ _ q,r⟩
theorem H0 (hq:Q .normal s h):T P rd .skip s h Q:=fun ρ w tm ds hr hs b hb k cs=>⟨.normal,s,h,ρ,w,tm,ds,hq,.refl hr,hs,.refl _ _ _,.one DL⟩
theorem Et {l:Nat} (hq:Q .normal s h):T P rd (.label l) s h Q:=fun ρ w tm ds hr hs b hb k cs=>⟨.normal,s,h,ρ,w,tm,ds,hq,.refl hr,hs,.refl _ _ _,.one BS⟩
theorem HZ {id:Nat} (hq:Q (.exit id) s h):T P rd (.exit id) s h Q:=fun ρ w tm ds hr hs b hb k cs=>⟨.exit id,s,h,ρ,w,tm,ds,hq,.refl hr,hs,.refl _ _ _,k,rfl,.refl P _⟩
theorem N5 (hq:Q .ret s h):T P rd .ret s h Q:=fun ρ w tm ds hr hs b hb k cs=>⟨.ret,s,h,ρ,w,tm,ds,hq,.refl hr,hs,.refl _ _ _,k,.refl P _⟩
theorem Ev {x y:Code} (ht:T P rd x s h (fun e s1 h1=>match e with | .normal=>T P rd y s1 h1 Q | e=>Q e s1 h1)):T P rd (.seq x y) s h Q:=by
 intro ρ w tm ds hr hs b hb k cs
 obtain ⟨e,s1,h1,ρ1,w1,tm1,ds1,q,st,hs1,hd1,ha⟩:=ht ρ w tm ds hr hs b hb (.code y :: k) cs
 cases e with
 | normal=>
   obtain ⟨e2,s2,h2,ρ2,w2,tm2,ds2,q2,st2,hs2,hd2,ha2⟩:=q ρ1 w1 tm1 ds1 st.rel hs1 b (hb.mono st.le) k cs
   exact ⟨e2,s2,h2,ρ2,w2,tm2,ds2,q2,st.trans st2,hs2,hd1.trans hd2 st.size st.rel st2,.of_steps (.head eU ha) ha2⟩
 | exit id=>obtain ⟨t,et,sx⟩:=ha;exact ⟨_,s1,h1,ρ1,w1,tm1,ds1,q,st,hs1,hd1,t,et,.head eU sx⟩
 | ret=>obtain ⟨t,sx⟩:=ha;exact ⟨_,s1,h1,ρ1,w1,tm1,ds1,q,st,hs1,hd1,t,.head eU sx⟩
theorem su {c:Operand} {x y:Code} {t:Bool} (hc:qP s c=some (.bool t)) (ht:T P rd (if t then x else y) s h Q):T P rd (.cond c x y) s h Q:=by
 intro ρ w tm ds hr hs b hb k cs
 obtain ⟨e,s1,h1,ρ1,w1,tm1,ds1,q,st,hs1,hd1,ha⟩:=ht ρ w tm ds hr hs b hb k cs
 have he:=zS (a:=⟨tm,ds⟩) hs hc
 have:Act.eval ⟨tm,ds⟩ c = .bool t:=by
  generalize Act.eval ⟨tm,ds⟩ c=v at he
  cases he;rfl
 exact ⟨e,s1,h1,ρ1,w1,tm1,ds1,q,st,hs1,hd1,.of_steps (.one (DJ this)) ha⟩
theorem aX {id:Nat} {c:Code} (ht:T P rd c s h (fun e s1 h1=>if e = .exit id then Q .normal s1 h1 else Q e s1 h1)):T P rd (.block id c) s h Q:=by
 intro ρ w tm ds hr hs b hb k cs
 obtain ⟨e,s1,h1,ρ1,w1,tm1,ds1,q,st,hs1,hd1,ha⟩:=ht ρ w tm ds hr hs b hb (.inBlock id :: k) cs
 cases e with
 | normal=>rw [if_neg (by simp)] at q;exact ⟨.normal,s1,h1,ρ1,w1,tm1,ds1,q,st,hs1,hd1,.head Vf (abW ha (.one nQ))⟩
 | exit id'=>
   obtain ⟨t,et,sx⟩:=ha
   by_cases hid:id'=id
   ·subst hid
    rw [if_pos rfl] at q
    refine ⟨.normal,s1,h1,ρ1,w1,tm1,ds1,q,st,hs1,hd1,.head Vf (sx.trans (.one (DK (k':=k) ?_)))⟩
    rw [et];simp [exitTo]
   ·rw [if_neg (by simpa using hid)] at q
    refine ⟨.exit id',s1,h1,ρ1,w1,tm1,ds1,q,st,hs1,hd1,t,?_,.head Vf sx⟩
    rw [et]
    have:(id == id')=false:=by simp;exact fun h=>hid h.symm
    simp [exitTo,this]
 | ret=>obtain ⟨t,sx⟩:=ha;rw [if_neg (by simp)] at q;exact ⟨.ret,s1,h1,ρ1,w1,tm1,ds1,q,st,hs1,hd1,t,.head Vf sx⟩
theorem Eu {c:Code} (ht:T P rd c s h Q):T P rd (.scope c) s h Q:=by
 intro ρ w tm ds hr hs b hb k cs
 obtain ⟨e,s1,h1,ρ1,w1,tm1,ds1,q,st,hs1,hd1,ha⟩:=ht ρ w tm ds hr hs b hb (.inScope c :: k) cs
 cases e with
 | normal=>exact ⟨.normal,s1,h1,ρ1,w1,tm1,ds1,q,st,hs1,hd1,.head Kl (abW ha (.one nR))⟩
 | exit id=>obtain ⟨t,et,sx⟩:=ha;exact ⟨_,s1,h1,ρ1,w1,tm1,ds1,q,st,hs1,hd1,t,by rw [et];simp [exitTo],.head Kl sx⟩
 | ret=>obtain ⟨t,sx⟩:=ha;exact ⟨_,s1,h1,ρ1,w1,tm1,ds1,q,st,hs1,hd1,t,.head Kl sx⟩
theorem WB {c:Code} (ht:T P rd c s h (fun e s1 h1=>match e with | .normal=>T P rd (.loop c) s1 h1 Q | e=>Q e s1 h1)):T P rd (.loop c) s h Q:=by
 intro ρ w tm ds hr hs b hb k cs
 obtain ⟨e,s1,h1,ρ1,w1,tm1,ds1,q,st,hs1,hd1,ha⟩:=ht ρ w tm ds hr hs b hb (.inLoop c :: k) cs
 cases e with
 | normal=>
   obtain ⟨e2,s2,h2,ρ2,w2,tm2,ds2,q2,st2,hs2,hd2,ha2⟩:=q ρ1 w1 tm1 ds1 st.rel hs1 b (hb.mono st.le) k cs
   refine ⟨e2,s2,h2,ρ2,w2,tm2,ds2,q2,st.trans st2,hs2,hd1.trans hd2 st.size st.rel st2,?_⟩
   have e0:step P (lone (wi b tm1 ds1 (.inLoop c :: k)) cs w1)=step P (lone (wi b tm1 ds1 (.code (.loop c) :: k)) cs w1):=by rw [tz,U9]
   have key:∀ m',Steps P (lone (wi b tm1 ds1 (.code (.loop c) :: k)) cs w1) m'->(m'=lone (wi b tm1 ds1 (.code (.loop c) :: k)) cs w1)\/Steps P (lone (wi b tm1 ds1 (.inLoop c :: k)) cs w1) m':=by
    rintro m' ⟨n,hn⟩
    cases n with
    | zero=>left;simp [runN] at hn;exact hn.symm
    | succ n=>right;exact ⟨n + 1,by simp only [runN] at hn ⊢;rw [e0];exact hn⟩
   have go:∀ m',Steps P (lone (wi b tm1 ds1 (.code (.loop c) :: k)) cs w1) m'->m' ≠ lone (wi b tm1 ds1 (.code (.loop c) :: k)) cs w1->Steps P (lone (wi b tm ds (.code (.loop c) :: k)) cs w) m':=by
    intro m' hm hne
    exact (Steps.head U9 ha).trans ((key m' hm).resolve_left hne)
   have neq:∀ (k':List Item) tm' ds' w',(k'=k\/(∃ x t,k' = .code x :: t /\ ∀ c,x ≠ .loop c))->lone (wi b tm' ds' k') cs w' ≠ lone (wi b tm1 ds1 (.code (.loop c) :: k)) cs w1:=by
    intro k' tm' ds' w' hk' e
    simp only [lone,Machine.mk.injEq,Array.mk.injEq,aa9,Goroutine.mk.injEq,wi,Frame.mk.injEq] at e
    have e:=e.2.1.1.1.2.2.1
    rcases hk' with rfl | ⟨x,t,rfl,hx⟩
    ·have:=congrArg List.length e;simp at this
    ·simp only [aa9,Item.code.injEq] at e;exact hx c e.1
   cases e2 with
   | normal=>exact go _ ha2 (neq _ _ _ _ (.inl rfl))
   | exit id=>obtain ⟨t,et,sx⟩:=ha2;exact ⟨t,et,go _ sx (neq _ _ _ _ (.inr ⟨_,_,rfl,fun c=>by simp⟩))⟩
   | ret=>obtain ⟨t,sx⟩:=ha2;exact ⟨t,go _ sx (neq _ _ _ _ (.inr ⟨_,_,rfl,fun c=>by simp⟩))⟩
 | exit id=>obtain ⟨t,et,sx⟩:=ha;exact ⟨_,s1,h1,ρ1,w1,tm1,ds1,q,st,hs1,hd1,t,by rw [et];simp [exitTo],.head U9 sx⟩
 | ret=>obtain ⟨t,sx⟩:=ha;exact ⟨_,s1,h1,ρ1,w1,tm1,ds1,q,st,hs1,hd1,t,.head U9 sx⟩
end rules
def yh (ops:Array Oper) (s:Env) (o:Oper):Bool :=
 match o.guard with
 | none=>true
 | some (j,want)=>(match (ops[j]?).bind (·.dst) with
   | none=>false
   | some d=>(match s.get d with
     | .bool b=>b == want
     | _=>false))
theorem Yy {ρ:yN} {s:Env} {tm:Array Value} (hs:wt ρ s tm) (ops:Array Oper) (o:Oper):Region.wanted o (yielded ops tm)=yh ops s o:=by
 unfold Region.wanted yh
 split
 ·rename_i e;rw [e]
 ·rename_i j want e
  rw [e]
  simp only [yielded]
  cases hd:(ops[j]?).bind (·.dst) with
  | none=>rfl
  | some d=>
    simp only [aaC]
    have hv:=hs.get d
    cases ht:tm[d]? with
    | none=>
      have:tm.getD d undef=undef:=by simp [aay,ht]
      rw [this] at hv
      generalize s.get d=sv at hv
      cases hv with
      | t7 h=>cases h
      | tuple _ _=>rfl
    | some tv=>
      have:tm.getD d undef=tv:=by simp [aay,ht]
      rw [this] at hv
      generalize s.get d=sv at hv
      cases hv with
      | t7 h=>cases tv <;> first | rfl | cases h
      | bool bb=>cases bb <;> cases want <;> rfl
      | _=>rfl
section ops
variable {s:Env} {h:za} {Q:Env->za->Prop} {ops:Array Oper}
theorem HY (hq:Q s h):TO P ops [] s h Q:=fun ρ w tm ds hr hs b k cs=>⟨s,h,ρ,w,tm,hq,.refl hr,hs,.refl P _⟩
theorem Wm {o:Oper} {v:Value} {h1:za} (ho:Jt P s o h=some (v,h1)):YO o.op=false:=by
 cases yF:o.op <;> first | rfl | (unfold Jt at ho;rw [yF] at ho;cases ho)
theorem N3 {i:Nat} {rest:List Nat} {o:Oper} (ho:ops[i]? = some o) (hw:yh ops s o=true) {v:Value} {h1:za} {s1:Env} (hd:YO o.op=false) (hok:∀ (ρ:yN) (w:World) (a:Act),Rel P ρ h w->wt ρ s a.tmps->iM P ρ h w (execOp a.eval o) v h1) (hp:s.put o.dst v=some s1) (ht:TO P ops rest s1 h1 Q) :
  TO P ops (i :: rest) s h Q:=by
 intro ρ w tm ds hr hs b k cs
 obtain ⟨n,w1,ρ1,v',e,hn,st,hv⟩:=hok ρ w ⟨tm,ds⟩ hr hs
 have hs1:wt ρ1 s1 (vU tm o.dst v'):=(hs.mono st.le).put hv hp
 obtain ⟨s2,h2,ρ2,w2,tm2,q,st2,hs2,sx⟩:=ht ρ1 w1 _ ds st.rel hs1 b k cs
 have hw':Region.wanted o (yielded ops tm)=true:=(Yy hs ops o).trans hw
 refine ⟨s2,h2,ρ2,w2,tm2,q,st.trans st2,hs2,.head ?_ sx⟩
 have hfin:(wi b tm ds (.inRegion ops (i :: rest) :: k)).finish v'=wi b (vU tm o.dst v') ds (.inRegion ops rest :: k):=by
  rw [kg,ho];rfl
 rw [<- hfin]
 rcases hn with rfl | ⟨rfl,rfl⟩
 ·exact ZL ho hw' hd e
 ·exact YN ho hw' hd e
theorem N4 {i:Nat} {rest:List Nat} {o:Oper} (ho:ops[i]? = some o) (hw:yh ops s o=true) {v:Value} {h1:za} {s1:Env} (yF:Jt P s o h=some (v,h1)) (hp:s.put o.dst v=some s1) (ht:TO P ops rest s1 h1 Q) :
  TO P ops (i :: rest) s h Q:=by
 intro ρ w tm ds hr hs b k cs
 obtain ⟨n,w1,ρ1,v',e,hn,st,hv⟩:=re (a:=⟨tm,ds⟩) yF hr hs
 have hs1:wt ρ1 s1 (vU tm o.dst v'):=(hs.mono st.le).put hv hp
 obtain ⟨s2,h2,ρ2,w2,tm2,q,st2,hs2,sx⟩:=ht ρ1 w1 _ ds st.rel hs1 b k cs
 have hw':Region.wanted o (yielded ops tm)=true:=(Yy hs ops o).trans hw
 refine ⟨s2,h2,ρ2,w2,tm2,q,st.trans st2,hs2,.head ?_ sx⟩
 have hfin:(wi b tm ds (.inRegion ops (i :: rest) :: k)).finish v'=wi b (vU tm o.dst v') ds (.inRegion ops rest :: k):=by
  rw [kg,ho];rfl
 rw [<- hfin]
 rcases hn with rfl | ⟨rfl,rfl⟩
 ·exact ZL ho hw' (Wm yF) e
 ·exact YN ho hw' (Wm yF) e
theorem Er {i:Nat} {rest:List Nat} {o:Oper} (ho:ops[i]? = some o) (hw:yh ops s o=false) {s1:Env} (hp:s.put o.dst undef=some s1) (ht:TO P ops rest s1 h Q):TO P ops (i :: rest) s h Q:=by
 intro ρ w tm ds hr hs b k cs
 have hs1:wt ρ s1 (vU tm o.dst undef):=hs.put (.jt _ rfl) hp
 obtain ⟨s2,h2,ρ2,w2,tm2,q,st2,hs2,sx⟩:=ht ρ w _ ds hr hs1 b k cs
 refine ⟨s2,h2,ρ2,w2,tm2,q,st2,hs2,.head ?_ sx⟩
 have hw':Region.wanted o (yielded ops tm)=false:=(Yy hs ops o).trans hw
 rw [Jx (by rw [ho];exact hw'),kg,ho]
 rfl
def x9 (P:Program) (g:FuncId):Bool :=
 match P.funcs[g]? with
 | some fn=>fn.body.isSome && !(fn.name == "runtime.NumGoroutine")
 | none=>false
theorem Ep {i:Nat} {rest:List Nat} {o:Oper} {f:Operand} {cargs:Array Operand} {ts:Array TypeId} {g:FuncId} {fa fc:Array Value} {vs:List Value} {R:Value->za->Prop}
  (ho:ops[i]? = some o) (hw:yh ops s o=true) (yF:o.op = .call { callee := .value f,args:=cargs,argTypes:=ts }) (hf:qP s f=some (.func (.func g) fa fc)) (hargs:V5 s cargs.toList=some vs)
  (hcall:x9 P g=true) (hc:TC P g (fa.toList ++ vs ++ fc.toList) h R) (ht:∀ v h1,R v h1->∃ s1,s.put o.dst v=some s1/\TO P ops rest s1 h1 Q):TO P ops (i :: rest) s h Q:=by
 intro ρ w tm ds hr hs b k cs
 have hw':Region.wanted o (yielded ops tm)=true:=(Yy hs ops o).trans hw
 have e1:=zS (a:=⟨tm,ds⟩) hs hf
 have e2:=kf (a:=⟨tm,ds⟩) hs hargs
 generalize hfv:Act.eval ⟨tm,ds⟩ f=fv at e1
 cases e1 with
 | func ha hcs h1 h2=>
   rename_i fa' fc'
   let full:=fa'.toList ++ cargs.toList.map (Act.eval ⟨tm,ds⟩) ++ fc'.toList
   have hfull:xf ρ (fa.toList ++ vs ++ fc.toList) full :=
    (xf.append ⟨by simpa using ha,fun i x y hx hy=>h1 i x y (by simpa using hx) (by simpa using hy)⟩ e2).append ⟨by simpa using hcs,fun i x y hx hy=>h2 i x y (by simpa using hx) (by simpa using hy)⟩
   have hrun:(execOp (Act.eval ⟨tm,ds⟩) o).run P w = .ok (.enter g full.toArray) w:=by
    have hargs':fa' ++ cargs.map (Act.eval ⟨tm,ds⟩) ++ fc'=full.toArray:=by apply ab2;simp [full]
    simp only [execOp,yF,resolve,hfv,Deferred.ofValue,aag,aan,aad,invoke,callFunc,run_program,hargs']
    unfold x9 at hcall
    cases hfn:P.funcs[g]? with
    | none=>rw [hfn] at hcall;cases hcall
    | some fn=>
      rw [hfn] at hcall
      simp only [aac,aat] at hcall
      simp only [hcall.2,aa8,if_false]
      rw [if_neg (by cases hb:fn.body <;> simp_all)]
      rfl
   obtain ⟨e,w1,fr,⟨v,v',h',ρ',rfl,hR,st,hv⟩,hcomes,_,hleave⟩:=hc ρ w full hr hfull (wi b tm ds (.inRegion ops (i :: rest) :: k) :: cs)
   obtain ⟨s1,hp,hrest⟩:=ht v h' hR
   have hs1:wt ρ' s1 (vU tm o.dst v'):=(hs.mono st.le).put hv hp
   obtain ⟨s2,h2,ρ2,w2,tm2,q,st2,hs2,sx⟩:=hrest ρ' w1 _ ds st.rel hs1 b k cs
   have hd:YO o.op=false:=by rw [yF];rfl
   refine ⟨s2,h2,ρ2,w2,tm2,q,st.trans st2,hs2,.head (Kk ho hw' hd hrun) (abW hcomes (.head (step_leave_returned hleave) ?_))⟩
   rw [kg,ho]
   exact sx
end ops
def Fy (P:Program) (g:FuncId) (args:List Value) (h:za):Option (Value × za) :=
 match P.funcs[g]? with
 | some fn=>cond (fn.body.isNone && decide (fn.name = "internal/abi.NoEscape") && (Extern.findNext fn).isNone) (match args with
   | [x]=>some (x,h)
   | _=>none) none
 | none=>none
theorem DF {fn:Func} (h:fn.name = "internal/abi.NoEscape"):Extern.find fn=some Extern.AbiNoEscape.same:=by
 unfold Extern.find
 rw [h]
 rfl
theorem Md {ρ:yN} {s:Env} {h h1:za} {w:World} {a:Act} {o:Oper} {f:Operand} {cargs:Array Operand} {ts:Array TypeId} {g:FuncId} {fa fc:Array Value} {vs:List Value} {v:Value}
  (yF:o.op = .call { callee := .value f,args:=cargs,argTypes:=ts }) (hf:qP s f=some (.func (.func g) fa fc)) (hargs:V5 s cargs.toList=some vs) (he:Fy P g (fa.toList ++ vs ++ fc.toList) h=some (v,h1)) (hr:Rel P ρ h w) (hs:wt ρ s a.tmps) :
  iM P ρ h w (execOp a.eval o) v h1:=by
 have e1:=zS hs hf
 have e2:=kf hs hargs
 generalize hfv:a.eval f=fv at e1
 cases e1 with
 | func ha hcs q1 q2=>
   rename_i fa' fc'
   let full:=fa'.toList ++ cargs.toList.map a.eval ++ fc'.toList
   have hfull:xf ρ (fa.toList ++ vs ++ fc.toList) full :=
    (xf.append ⟨by simpa using ha,fun i x y hx hy=>q1 i x y (by simpa using hx) (by simpa using hy)⟩ e2).append ⟨by simpa using hcs,fun i x y hx hy=>q2 i x y (by simpa using hx) (by simpa using hy)⟩
   have hargs':fa' ++ cargs.map a.eval ++ fc'=full.toArray:=by apply ab2;simp [full]
   unfold Fy at he
   split at he
   case h_2=>cases he
   rename_i fn hfn
   obtain ⟨hc,he⟩:=zv he
   simp only [aac,decide_eq_true_eq] at hc
   obtain ⟨⟨hb,hn⟩,hx⟩:=hc
   split at he
   case h_2=>cases he
   rename_i x hl
   simp only [aaa,aae] at he
   obtain ⟨rfl,rfl⟩:=he
   rw [hl] at hfull
   obtain ⟨y,ys,hy,v1,hv2⟩:=hfull.cons_inv
   cases hv2.vp
   have hfn':Extern.findNext fn=none:=by simpa using hx
   refine ⟨.value y,w,ρ,y,?_,.inl rfl,.refl hr,v1⟩
   simp only [execOp,yF,resolve,hfv,Deferred.ofValue,aag,aan,aad,invoke,hargs',hy]
   rw [Go.run_callFunc_extern hfn (by rw [hn];decide) hb hfn' (DF hn)]
   rfl
def mU (P:Program) (g:FuncId) (args:List Value) (h:za):Option (Value × za) :=
 match P.funcs[g]?,args with
 | some fn,[.int .i64 n]=>cond (fn.body.isNone && decide (fn.name = "internal/bytealg.MakeNoZero") && (Extern.findNext fn).isNone && decide (0<=n) && decide (n<=2 ^ 48))
   (match fn.resultTypes[0]? with
    | some t=>(match yi P (underlying t) with
      | some (.slice e)=>cond (Nat.beq (P.cellsOf e) 1) (some (.slice (some ⟨h.next,0,none⟩) n.toNat 1,h.push (.cells [] e))) none
      | _=>none)
    | none=>none) none
 | _,_=>none
theorem nP {fn:Func} (h:fn.name = "internal/bytealg.MakeNoZero"):Extern.find fn=some (Extern.BytealgMakeNoZero.makeNoZero fn.params fn.resultTypes):=by
 unfold Extern.find
 rw [h]
 rfl
theorem tU {ρ:yN} {h:za} {w:World} (hr:Rel P ρ h w) {ps rs:Array TypeId} {t e:TypeId} {n:Int} (ht:rs[0]? = some t) (hu:yi P (underlying t)=some (.slice e)) (hc:P.cellsOf e=1) (h0:0<=n) (hn:n<=2 ^ 48) :
  ∃ v' w' ρ',(Extern.BytealgMakeNoZero.makeNoZero ps rs #[.int .i64 n]).run P w = .ok v' w'/\Step P ρ h w ρ' (h.push (.cells [] e)) w'/\zK ρ' (.slice (some ⟨h.next,0,none⟩) n.toNat 1) v':=by
 let q:Question := .appendCap n.toNat 0 e
 let cap:=q.cut (w.tape w.drawn q)
 have hge:n.toNat<=cap:=by show n.toNat<=n.toNat + _ % _;omega
 let w1:World:={ w with drawn:=w.drawn + 1 }
 let q2:Question := .extern "internal/bytealg.MakeNoZero.bytes" 0
 let bytes:=q2.cut (w1.tape w1.drawn q2)
 let w2:World:={ w1 with drawn:=w1.drawn + 1 }
 let cs:=Extern.BytealgMakeNoZero.digits cap bytes #[]
 have hcs:cs.size=cap:=by simp only [cs,Lib.size_digits];simp
 have hr2:Rel P ρ h w2:=hr.grow (fun k _=>rfl)
 let w3:World:={ w2 with heap:=w2.heap.push (.cells cs e) }
 have st:=Step.push (t:=e) hr2 (c:=[]) (cs:=cs) (fz:=(0,0)) (w':=w3) rfl (fun i _ hi=>by simp at hi) (by simp) (fun k x hx=>by simp at hx) rfl rfl rfl
 refine ⟨.slice (some ⟨w.heap.size,0,none⟩) n.toNat cap,w3,_,?_,⟨st.le,st.rel,st.ro,st.os,st.tape,st.output,st.size,st.frame,st.im⟩,?_⟩
 ·have hq:(choose (.appendCap n.toNat 0 e)).run P w = .ok cap w1:=by rw [run_choose];rfl
  have hq2:(choose (.extern "internal/bytealg.MakeNoZero.bytes" 0)).run P w1 = .ok bytes w2:=by rw [run_choose];rfl
  have hneg:¬ (n < 0\/n > 2 ^ 48):=by omega
  have hnr:(newRow e cs).run P w2 = .ok ⟨w.heap.size,0,none⟩ w3:=rfl
  rw [show Extern.BytealgMakeNoZero.makeNoZero ps rs #[.int .i64 n]=(match rs[0]? with | some t=>(underlying t >>= _) | _=>_) from rfl]
  simp only [ht,aag,zk hu,aad]
  rw [if_neg (by simpa using hneg)]
  simp only [aag,hq,aad,run_askRoom,hq2]
  rw [show Extern.BytealgMakeNoZero.digits cap bytes #[]=cs from rfl,hnr]
  rfl
 ·have:=zK.slice (ρ:=ρ.ext ⟨w2.heap.size,0,cs.size,P.cellsOf e⟩) (b:=h.next) (off:=0) (len:=n.toNat) (c:=1) (cap:=cap) (pl:=⟨w2.heap.size,0,cs.size,P.cellsOf e⟩)
   (by show h.next < ρ.next + 1;rw [hr.next];exact aaD _) (by rw [<- hr.next];exact ρ.qo _) hge (fun _=>⟨by simp [hc,hcs],fun k hk=>by omega⟩)
  exact this
def sR (P:Program) (g:FuncId) (args:List Value) (h:za):Option (Value × za) :=
 match Fy P g args h with
 | some r=>some r
 | none=>mU P g args h
theorem sS {ρ:yN} {s:Env} {h h1:za} {w:World} {a:Act} {o:Oper} {f:Operand} {cargs:Array Operand} {ts:Array TypeId} {g:FuncId} {fa fc:Array Value} {vs:List Value} {v:Value}
  (yF:o.op = .call { callee := .value f,args:=cargs,argTypes:=ts }) (hf:qP s f=some (.func (.func g) fa fc)) (hargs:V5 s cargs.toList=some vs) (he:sR P g (fa.toList ++ vs ++ fc.toList) h=some (v,h1)) (hr:Rel P ρ h w) (hs:wt ρ s a.tmps) :
  iM P ρ h w (execOp a.eval o) v h1:=by
 unfold sR at he
 split at he
 ·rename_i r hn
  simp only [aaa] at he
  subst he
  exact Md yF hf hargs hn hr hs
 ·have e1:=zS hs hf
  have e2:=kf hs hargs
  generalize hfv:a.eval f=fv at e1
  cases e1 with
  | func ha hcs q1 q2=>
    rename_i fa' fc'
    let full:=fa'.toList ++ cargs.toList.map a.eval ++ fc'.toList
    have hfull:xf ρ (fa.toList ++ vs ++ fc.toList) full :=
     (xf.append ⟨by simpa using ha,fun i x y hx hy=>q1 i x y (by simpa using hx) (by simpa using hy)⟩ e2).append ⟨by simpa using hcs,fun i x y hx hy=>q2 i x y (by simpa using hx) (by simpa using hy)⟩
    have hargs':fa' ++ cargs.map a.eval ++ fc'=full.toArray:=by apply ab2;simp [full]
    unfold mU at he
    split at he
    case h_2=>cases he
    rename_i fn n hfn hl
    obtain ⟨hc,he2⟩:=zv he
    clear he
    simp only [aac,decide_eq_true_eq] at hc
    obtain ⟨⟨⟨⟨hb,hn⟩,hx⟩,h0⟩,h48⟩:=hc
    split at he2
    case h_2=>cases he2
    rename_i t ht
    split at he2
    case h_2=>cases he2
    rename_i e hu
    obtain ⟨hce,he3⟩:=zv he2
    simp only [aaa,aae] at he3
    obtain ⟨rfl,rfl⟩:=he3
    rw [hl] at hfull
    obtain ⟨y,ys,hy,v1,hv2⟩:=hfull.cons_inv
    cases hv2.vp
    cases v1
    have hfn':Extern.findNext fn=none:=by simpa using hx
    obtain ⟨v',w',ρ',er,st,hv⟩:=tU (ps:=fn.params) hr ht hu (aam hce) h0 h48
    refine ⟨.value v',w',ρ',v',?_,.inl rfl,st,hv⟩
    simp only [execOp,yF,resolve,hfv,Deferred.ofValue,aag,aan,aad,invoke,hargs',hy]
    rw [Go.run_callFunc_extern hfn (by rw [hn];decide) hb hfn' (nP hn),er]
    rfl
def fy:Value->Bool
 | .tuple a=>a.toList.all flat
 | v=>flat v
theorem FI {ρ:yN} {v v':Value} (h:zK ρ v v') (hp:fy v=true) (ρ2:yN):zK ρ2 v v':=by
 cases v with
 | tuple a=>
   cases h with
   | tuple ha hv=>
     simp only [fy,aas] at hp
     refine .tuple ha (fun i x y hx hy => ?_)
     have hf:=hp x (aaq (by simpa using hx))
     rw [kJ (hv i x y hx hy) hf]
     exact .of_flat _ hf
 | _=>rw [kJ h hp];exact .of_flat _ hp
theorem Rel.lock {ρ:yN} {h:za} {w:World} (hr:Rel P ρ h w):Rel P ρ h.lock w :=
 ⟨hr.next,aah _,hr.Qs,fun b o hb=>by obtain ⟨pl,hp,hc⟩:=hr.ok b o hb;exact ⟨pl,hp,hc.HR (fun e=>by
  have:h.next<=b:=of_decide_eq_true e
  have:=hr.Qs b _ hb
  omega)⟩,hr.inj,aaH hr.eV hr.ro,hr.Zg⟩
theorem TC.quiet {f:FuncId} {args:List Value} {h:za} {R:Value->za->Prop} (ht:TC P f args h.lock R) (hsc:∀ v h1,R v h1->fy v=true):TC P f args h (fun v h1=>(∃ h2,R v h2)/\h1=h):=by
 intro ρ w cargs hr hv
 refine (ht ρ w cargs hr.lock hv).mono fun e w' => ?_
 rintro ⟨v,v',h',ρ',e1,hR,st,hvv⟩
 have hsame:∀ c,c < w.heap.size->w'.heap[c]? = w.heap[c]?:=fun c hc=>st.frame c hc (by
  rintro ⟨b,o,pl,hg,hro,_⟩
  have h1:h.next<=b:=hro
  have h2:=hr.Qs b o hg
  omega)
 exact ⟨v,v',h,ρ,e1,⟨⟨h',hR⟩,rfl⟩,⟨yN.le_refl _,hr.grow hsame,rfl,st.os,st.tape,st.output,st.size,fun c hc _=>hsame c hc,fun c _ hm=>hm⟩,FI hvv (hsc v h' hR) ρ⟩
theorem Af {rd:Option Nat} {id:Nat} {ops:Array Oper} {s:Env} {h:za} {Q:Ex->Env->za->Prop} (ht:TO P ops (List.range ops.size) s h (fun s1 h1=>Q .normal s1 h1)):T P rd (.region id ops false) s h Q:=by
 intro ρ w tm ds hr hs b hb k cs
 obtain ⟨s1,h1,ρ1,w1,tm1,q,st,hs1,sx⟩:=ht ρ w tm ds hr hs b k cs
 exact ⟨.normal,s1,h1,ρ1,w1,tm1,ds,q,st,hs1,.refl _ _ _,.head tA (sx.trans (.one YC))⟩
end
noncomputable section
variable {P:Program}
theorem B5 (fr:Frame) (hm:fr.mode = .returning):∀ (rs:List Nat) (w:World),fr.defers=rs.map B6->rs.Nodup->(∀ r,r ∈ rs->w.heap[r]? = some (.deferred (some [])))->∀ cs,
  ∃ w',Steps P (lone fr cs w) (lone { fr with defers:=[] } cs w')/\w'.os=w.os/\w'.tape=w.tape/\w'.output=w.output/\w'.heap.size=w.heap.size/\(∀ k,k ∉ rs->w'.heap[k]? = w.heap[k]?):=by
 intro rs
 induction rs generalizing fr with
 | nil=>intro w hd _ _ cs;refine ⟨w,?_,rfl,rfl,rfl,rfl,fun _ _=>rfl⟩;rw [show fr = { fr with defers:=[] } by cases fr;simp_all];exact .refl P _
 | cons r rs ih=>
   intro w hd hn hb cs
   have hr:=hb r (by simp)
   have hlt:=e9 hr
   let w1:World:={ w with heap:=w.heap.setIfInBounds r (.deferred none) }
   have hn:=List.nodup_cons.1 hn
   have hother:∀ k,k ≠ r->w1.heap[k]? = w.heap[k]?:=fun k hk=>by show (w.heap.setIfInBounds r _)[k]? = _;rw [abc,if_neg (Ne.symm hk)]
   obtain ⟨w',hs,h1,h2,h3,h4,h5⟩:=ih { fr with defers:=rs.map B6 } hm w1 rfl hn.2 (fun k hk=>(hother k (fun e=>hn.1 (e ▸ hk))).trans (hb k (by simp [hk]))) cs
   refine ⟨w',.head ?_ hs,h1,h2,h3,by rw [h4];simp [w1],fun k hk => ?_⟩
   ·refine step_lone_go ?_
    have hd':fr.defers = { target := .collected r,args := #[] } :: rs.map B6:=hd
    have hrun:(Instr.takeDeferred r).run P w = .ok [] w1:=by
     simp only [Instr.takeDeferred,getObj,setObj,aag]
     simp only [Sem.run,hr,aad,aag]
     rfl
    simp only [stepG,hm,unwind,hd',Sem.runT_eq,hrun,GStep.bare_after]
    simp [GStep.bare]
   ·simp only [abf,not_or] at hk
    exact (h5 k hk.2).trans (hother k hk.1)
def uG (P:Program) (s:Env) (h:za):List ResultVar->Option (List Value)
 | []=>some []
 | .tmp t :: rs=>(match uG P s h rs with
   | some vs=>some (s.get t :: vs)
   | none=>none)
 | .cell a t :: rs=>(match zd P t (s.get a) h with
   | some v=>(match uG P s h rs with
     | some vs=>some (v :: vs)
     | none=>none)
   | none=>none)
def jF:List Value->Value
 | [v]=>v
 | vs => .tuple vs.toArray
def Cp (tm:Array Value):ResultVar->Sem Value
 | .tmp t=>pure (tm.getD t undef)
 | .cell a t=>do loadVar t (<- asAddr (tm.getD a undef))
theorem Ea (fn:Func) (tm:Array Value):results fn tm=(do let vs <- fn.results.mapM (Cp tm);pure (if h:vs.size=1 then vs[0] else .tuple vs)):=rfl
theorem Wc {ρ:yN} {s:Env} {h:za} {w:World} {tm:Array Value} (hr:Rel P ρ h w) (hs:wt ρ s tm):∀ {rs:List ResultVar} {vs:List Value},uG P s h rs=some vs ->
  ∃ vs',(rs.mapM (Cp tm)).run P w = .ok vs' w/\xf ρ vs vs'
 | [],vs,he=>by simp only [uG,aaa] at he;subst he;exact ⟨[],rfl,.nil ρ⟩
 | .tmp t :: rs,vs,he=>by
   simp only [uG] at he
   split at he
   case h_2=>cases he
   rename_i vs0 h0
   simp only [aaa] at he
   subst he
   obtain ⟨vs',e,hv⟩:=Wc hr hs h0
   exact ⟨_,by simp only [List.mapM_cons,Cp,aag,aan,aad,e],.cons (hs.get t) hv⟩
 | .cell a t :: rs,vs,he=>by
   simp only [uG] at he
   split at he
   case h_2=>cases he
   rename_i v hv0
   split at he
   case h_2=>cases he
   rename_i vs0 h0
   simp only [aaa] at he
   subst he
   obtain ⟨vs',e,hv⟩:=Wc hr hs h0
   obtain ⟨v',e1,hv1⟩:=gG hv0 hr (hs.get a)
   have e2:(do loadVar t (<- asAddr (tm.getD a undef)):Sem Value).run P w = .ok v' w:=by
    have hp:=hs.get a
    generalize tm.getD a undef=x at hp e1 ⊢
    unfold zd at hv0
    split at hv0
    ·rename_i hb
     rw [hb] at hp
     cases hp
     simpa [Instr.loadAt,Instr.sureAddr,asAddr] using e1
    ·rename_i hb
     rw [hb] at hp
     cases hp
     simpa [Instr.loadAt,Instr.sureAddr,asAddr] using e1
    ·cases hv0
   exact ⟨_,by rw [List.mapM_cons,aag,show Cp tm (.cell a t)=(do loadVar t (<- asAddr (tm.getD a undef)):Sem Value) from rfl,e2];simp only [aag,aad,e,aan],.cons hv1 hv⟩
theorem Cq {ρ:yN} {s:Env} {h:za} {w:World} {tm:Array Value} (hr:Rel P ρ h w) (hs:wt ρ s tm) {fn:Func} {vs:List Value} (he:uG P s h fn.results.toList=some vs) :
  ∃ v',(results fn tm).run P w = .ok v' w/\zK ρ (jF vs) v':=by
 obtain ⟨vs',e,hv⟩:=Wc hr hs he
 have em:(fn.results.mapM (Cp tm)).run P w = .ok vs'.toArray w:=by
  rw [Array.mapM_eq_mapM_toList,Sem.run_map,e];rfl
 rw [Ea]
 simp only [aag]
 refine ⟨if h:vs'.toArray.size=1 then vs'.toArray[0] else .tuple vs'.toArray,?_,?_⟩
 ·rw [em];simp only [aad,aan]
 ·unfold jF
  split
  ·rename_i v
   obtain ⟨y,ys,rfl,h1,h2⟩:=hv.cons_inv
   cases h2.vp
   simpa using h1
  ·rename_i hne
   rw [dif_neg (by
    intro h1
    have h1:vs'.length=1:=by simpa using h1
    have h2:vs.length=1:=by rw [hv.1];exact h1
    cases vs with
    | nil=>cases h2
    | cons v vs=>cases vs with
      | nil=>exact hne v rfl
      | cons=>simp at h2)]
   exact .tuple (by simpa using hv.1) (fun i x y hx hy=>hv.2 i x y (by simpa using hx) (by simpa using hy))
theorem Eo {f:FuncId} {fn:Func} {c:Code} {args:List Value} {h:za} {R:Value->za->Prop} (hf:P.funcs[f]? = some fn) (hb:fn.body=some c)
  (ht:T P none c (Env.enter args fn.ntmps) h (fun e s1 h1=>(e = .normal\/e = .ret) /\ ∃ vs,uG P s1 h1 fn.results.toList=some vs/\R (jF vs) h1)):TC P f args h R:=by
 intro ρ w cargs hr hv cs
 let b:Frame:={ (default:Frame) with fn:=f,kind := .normal,roundOf:=none }
 let tm:Array Value:=cargs.toArray ++ Array.replicate (fn.ntmps - cargs.toArray.size) undef
 have henter:Frame.enter P f cargs.toArray .normal=wi b tm [] [.code c]:=by simp [Frame.enter,wi,hf,hb,b,tm]
 have hs:wt ρ (Env.enter args fn.ntmps) tm:=by
  refine ⟨?_,fun i => ?_⟩
  ·simp only [Env.mm,tm,Array.size_append,Array.size_replicate,List.size_toArray,hv.1];omega
  ·rw [Env.Hd]
   rcases aar i args.length with hi | hi
   ·obtain ⟨y,hy,hxy⟩:=hv.get (aab hi)
    have e1:tm[i]? = some y:=by
     rw [Array.getElem?_append_left (by simp;rw [<- hv.1];exact hi)]
     simpa using hy
    rw [aab hi]
    simp only [abx,aay,e1]
    exact hxy
   ·rw [aaj hi]
    have e1:tm.getD i undef=undef:=by
     simp only [aay,tm]
     rw [Array.getElem?_append_right (by simp;rw [<- hv.1];exact hi)]
     rw [abR]
     split <;> rfl
    rw [e1]
    exact .jt ρ rfl
 obtain ⟨e,s1,h1,ρ1,w1,tm1,ds1,⟨he,vs,hvs,hR⟩,st,hs1,⟨rs,hd1,hnd,hb1⟩,ha⟩:=ht ρ w tm [] hr hs b rfl [] cs
 obtain ⟨todo,hret⟩:∃ todo,Steps P (lone (Frame.enter P f cargs.toArray .normal) cs w) (lone { wi b tm1 ds1 todo with mode := .returning } cs w1):=by
  rw [henter]
  rcases he with rfl | rfl
  ·exact ⟨[],abW ha (.one (Hb rfl))⟩
  ·obtain ⟨t,sx⟩:=ha;exact ⟨_,sx.trans (.one (Hc rfl))⟩
 rw [abD] at hd1
 obtain ⟨w2,hs2,e1,e2,e3,e4,e5⟩:=B5 (P:=P) { wi b tm1 ds1 todo with mode := .returning } rfl rs w1 hd1 hnd (fun r hr=>(hb1 r hr).2) cs
 have hnot:∀ b0 o pl,h1.get b0=some o->ρ1.m b0=some pl->pl.c ∉ rs:=by
  intro b0 o pl hg hm hin
  have hc:=st.rel.Mg hg hm
  have hx:=(hb1 _ hin).2
  cases o with
  | cells c t=>obtain ⟨cs,fz,q1,_⟩:=hc;rw [hx] at q1;cases q1
  | map es q=>obtain ⟨ms,q1,_⟩:=hc;rw [hx] at q1;cases q1
  | iter m a b c=>obtain ⟨m',q1,_⟩:=hc;rw [hx] at q1;cases q1
  | tab c=>obtain ⟨t,cs,fz,q1,_⟩:=hc;rw [hx] at q1;cases q1
  | siter s pos=>have q1:w1.heap[pl.c]? = _:=hc.1;rw [hx] at q1;cases q1
  | loop l=>obtain ⟨tm,d,fn',q1,_⟩:=hc;rw [hx] at q1;cases q1
 have hr2:Rel P ρ1 h1 w2:=⟨st.rel.next,st.rel.ro,st.rel.Qs,fun b0 o0 hg=>by
  obtain ⟨pl,hp,hc⟩:=st.rel.ok b0 o0 hg
  exact ⟨pl,hp,hc.other (e5 _ (hnot _ _ _ hg hp))⟩,st.rel.inj,st.rel.eV,st.rel.Zg⟩
 obtain ⟨v',hv',hvr⟩:=Cq hr2 hs1 hvs
 refine ⟨.returned v',w2,{ wi b tm1 ds1 todo with mode := .returning,defers:=[] },⟨jF vs,v',h1,ρ1,rfl,hR,?_,hvr⟩,hret.trans hs2,rfl,rfl,rfl,rfl,fn,hf,hv'⟩
 exact ⟨st.le,hr2,st.ro,e1.trans st.os,e2.trans st.tape,e3.trans st.output,by rw [e4];exact st.size,
  fun c hc hn=>(e5 c (fun hin=>by have:=(hb1 c hin).1;omega)).trans (st.frame c hc hn),st.im⟩
end
noncomputable section
variable {P:Program}
theorem Ys {s s':Env}:∀ {xs:List Operand},(∀ x,x ∈ xs->qP s x=qP s' x)->V5 s xs=V5 s' xs
 | [],_=>rfl
 | x :: xs,h=>by simp only [V5];rw [h x (by simp),Ys (fun y hy=>h y (by simp [hy]))]
theorem UY {s s':Env}:∀ {ps:List (Nat × Operand)},(∀ x,x ∈ ps->qP s x.2=qP s' x.2)->Wb s ps=Wb s' ps
 | [],_=>rfl
 | (i,x) :: ps,h=>by simp only [Wb];rw [h (i,x) (by simp),UY (fun y hy=>h y (by simp [hy]))]
theorem GK {s s':Env} {o:Oper} {g:za} (h:∀ x,x ∈ o.op.operands->qP s x=qP s' x):Jt P s o g=Jt P s' o g:=by
 obtain ⟨dst,op,type,pos,after,guard⟩:=o
 have one:∀ x,x ∈ op.operands->qP s x=qP s' x:=h
 have opt:∀ x:Option Operand,(∀ y,x=some y->y ∈ op.operands)->nL s x=nL s' x:=by
  intro x hx
  cases x with
  | none=>rfl
  | some y=>simp only [nL];rw [one y (hx y rfl)]
 unfold Jt
 cases op <;> simp only [] <;> first
  | rfl
  | (rw [one _ (by simp [Op.operands])];done)
  | (rw [one _ (by simp [Op.operands]),one _ (by simp [Op.operands])];done)
  | skip
 case pick c a b=>rw [one c (by simp [Op.operands]),one a (by simp [Op.operands]),one b (by simp [Op.operands])]
 case build t parts=>rw [UY (fun x hx=>one _ (by simp only [Op.operands,List.mem_toArray,aba];exact ⟨x,hx,rfl⟩))]
 case buildSlice t n parts=>rw [UY (fun x hx=>one _ (by simp only [Op.operands,List.mem_toArray,aba];exact ⟨x,hx,rfl⟩))]
 case makeFunc fn first captured=>
  cases fn <;> simp only []
  rw [Ys (s:=s) (s':=s') (xs:=first.toList) (fun x hx=>one x (by simp [Op.operands];exact .inl (by simpa using hx))),Ys (s:=s) (s':=s') (xs:=captured.toList) (fun x hx=>one x (by simp [Op.operands];exact .inr (by simpa using hx)))]
 case slice t x lo hi mx=>
  cases mx <;> simp only []
  rw [one x (by simp [Op.operands]),opt lo (fun y e=>by subst e;simp [Op.operands]),opt hi (fun y e=>by subst e;simp [Op.operands])]
 case makeMap t r=>cases r <;> rfl
 case mapUpdate t m k x=>rw [one m (by simp [Op.operands]),one k (by simp [Op.operands]),one x (by simp [Op.operands])]
 case call c=>
  obtain ⟨callee,args,ts⟩:=c
  cases callee <;> simp only []
  rw [Ys (s:=s) (s':=s') (fun x hx=>one x (by simp [Op.operands,Call.operands];simpa using hx))]
def Env.only (s:Env) (l:List Nat):Env:={ t:=l.foldl (fun t i=>t.set i (some (s.get i))) .e,size:=s.size }
theorem Env.LN (s:Env) (l:List Nat) (i:Nat):(s.only l).get i=if i ∈ l then s.get i else undef:=by
 have key:∀ (l:List Nat) (t:Tr Value),(l.foldl (fun t i=>t.set i (some (s.get i))) t).get i=if i ∈ l then some (s.get i) else t.get i:=by
  intro l
  induction l with
  | nil=>intro t;simp
  | cons j l ih=>
    intro t
    rw [List.foldl_cons,ih,Tr.yb]
    by_cases hi:i ∈ l
    ·simp [hi]
    ·by_cases e:i=j
     ·subst e;simp [hi]
     ·simp [hi,e]
 have:=key l .e
 simp only [Env.get_eq,Env.only] at this ⊢
 rw [this]
 split <;> simp
theorem sQ {s s':Env} {ops:Array Oper} {o:Oper} (h:∀ t,t ∈ o.looksAt ops->s.get t=s'.get t):∀ x,x ∈ o.op.operands->qP s x=qP s' x:=by
 intro x hx
 cases x with
 | tmp t=>
   simp only [qP]
   rw [h t (by simp only [Oper.looksAt,aaP,List.mem_filterMap];exact .inl ⟨.tmp t,by simpa using hx,rfl⟩)]
 | _=>rfl
theorem Vz {tm tm':Array Value} {ds:List Deferred} {ops:Array Oper} {o:Oper} (h:∀ t,t ∈ o.looksAt ops->tm.getD t undef=tm'.getD t undef):∀ x,x ∈ o.op.operands->Act.eval ⟨tm,ds⟩ x=Act.eval ⟨tm',ds⟩ x:=by
 intro x hx
 cases x with
 | tmp t=>exact h t (by simp only [Oper.looksAt,aaP,List.mem_filterMap];exact .inl ⟨.tmp t,by simpa using hx,rfl⟩)
 | _=>rfl
theorem nN {s s':Env} {ops:Array Oper} {o:Oper} (h:∀ t,t ∈ o.looksAt ops->s.get t=s'.get t):yh ops s o=yh ops s' o:=by
 unfold yh
 split
 ·rfl
 ·rename_i j want e
  split
  ·rfl
  ·rename_i d hd
   rw [h d (by simp only [Oper.looksAt,aaP];right;rw [e];simp [hd])]
def kO (P:Program) (ops:Array Oper) (s:Env) (o:Oper) (g:za) (v:Value) (g':za):Prop :=
 (yh ops s o=false/\v=undef/\g'=g) \/
 (yh ops s o=true/\(Jt P s o g=some (v,g') \/
  (∃ f cargs ts fid fa fc vs,o.op = .call { callee := .value f,args:=cargs,argTypes:=ts } /\ qP s f=some (.func (.func fid) fa fc)/\V5 s cargs.toList=some vs/\x9 P fid=true /\
   TC P fid (fa.toList ++ vs ++ fc.toList) g (fun v1 h1=>v1=v/\h1=g')) \/
  (∃ f cargs ts fid fa fc vs,o.op = .call { callee := .value f,args:=cargs,argTypes:=ts } /\ qP s f=some (.func (.func fid) fa fc)/\V5 s cargs.toList=some vs/\sR P fid (fa.toList ++ vs ++ fc.toList) g=some (v,g'))))
theorem kO.congr {ops:Array Oper} {s s':Env} {o:Oper} {g g':za} {v:Value} (hs:kO P ops s o g v g') (h:∀ t,t ∈ o.looksAt ops->s.get t=s'.get t):kO P ops s' o g v g':=by
 have e1:=sQ h
 unfold kO at *
 rw [<- nN h]
 rcases hs with hs | ⟨hw,hs | ⟨f,cargs,ts,fid,fa,fc,vs,h1,h2,h3,h4,h5⟩ | ⟨f,cargs,ts,fid,fa,fc,vs,h1,h2,h3,h4⟩⟩
 ·exact .inl hs
 ·exact .inr ⟨hw,.inl (by rw [<- GK e1];exact hs)⟩
 ·refine .inr ⟨hw,.inr (.inl ⟨f,cargs,ts,fid,fa,fc,vs,h1,?_,?_,h4,h5⟩)⟩
  ·rw [<- e1 f (by rw [h1];simp [Op.operands,Call.operands])];exact h2
  ·rw [<- Ys (s:=s) (s':=s') (xs:=cargs.toList) (fun x hx=>e1 x (by rw [h1];simp only [Op.operands,Call.operands];simp;right;simpa using hx))];exact h3
 ·refine .inr ⟨hw,.inr (.inr ⟨f,cargs,ts,fid,fa,fc,vs,h1,?_,?_,h4⟩)⟩
  ·rw [<- e1 f (by rw [h1];simp [Op.operands,Call.operands])];exact h2
  ·rw [<- Ys (s:=s) (s':=s') (xs:=cargs.toList) (fun x hx=>e1 x (by rw [h1];simp only [Op.operands,Call.operands];simp;right;simpa using hx))];exact h3
theorem Kw {ops:Array Oper} {s:Env} {o:Oper} {g g':za} {v:Value} {j:Nat} {ρ:yN} {w:World} {tm:Array Value} (ho:ops[j]? = some o) (hsem:kO P ops s o g v g') (hr:Rel P ρ g w)
  (hsz:s.size=tm.size) (hl:∀ t,t ∈ o.looksAt ops->zK ρ (s.get t) (tm.getD t undef)) (ds:List Deferred) (rest:List Nat) (b:Frame) (k:List Item) (cs:List Frame) :
  ∃ v' w' ρ',Step P ρ g w ρ' g' w'/\zK ρ' v v' /\
    Steps P (lone (wi b tm ds (.inRegion ops (j :: rest) :: k)) cs w) (lone (wi b (vU tm o.dst v') ds (.inRegion ops rest :: k)) cs w'):=by
 let L:=o.looksAt ops
 let s2:=s.only L
 let tm2:Array Value:=(Array.range tm.size).map fun t=>if t ∈ L then tm.getD t undef else undef
 have hg2:∀ t,s2.get t=if t ∈ L then s.get t else undef:=Env.LN s L
 have ht2:∀ t,t ∈ L->tm2.getD t undef=tm.getD t undef:=by
  intro t ht
  simp only [tm2,aay,Array.getElem?_map]
  by_cases hlt:t < tm.size
  ·rw [Array.getElem?_range,if_pos hlt];simp [ht]
  ·rw [Array.getElem?_range,if_neg hlt];simp [aaF (ack hlt)]
 have ht2':∀ t,t ∉ L->tm2.getD t undef=undef:=by
  intro t ht
  simp only [tm2,aay,Array.getElem?_map]
  by_cases hlt:t < tm.size
  ·rw [Array.getElem?_range,if_pos hlt];simp [ht]
  ·rw [Array.getElem?_range,if_neg hlt];rfl
 have hs2:wt ρ s2 tm2:=by
  refine ⟨by show s.size=_;simp [tm2,hsz],fun t => ?_⟩
  rw [hg2]
  by_cases ht:t ∈ L
  ·rw [if_pos ht,ht2 t ht];exact hl t ht
  ·rw [if_neg ht,ht2' t ht];exact .jt ρ rfl
 have hsem2:kO P ops s2 o g v g':=hsem.congr (fun t ht=>by rw [hg2,if_pos ht])
 have hwant:Region.wanted o (yielded ops tm)=yh ops s2 o:=by
  rw [<- Yy hs2 ops o]
  unfold Region.wanted
  cases hgd:o.guard with
  | none=>rfl
  | some gw=>
    obtain ⟨q,want⟩:=gw
    simp only []
    have:yielded ops tm q=yielded ops tm2 q:=by
     unfold yielded
     cases hd:(ops[q]?).bind (·.dst) with
     | none=>rfl
     | some d=>
       have hdl:d ∈ L:=by simp only [L,Oper.looksAt,aaP];right;rw [hgd];simp [hd]
       simp only [aaC]
       have e:=ht2 d hdl
       simp only [aay] at e
       have Fh:tm2.size=tm.size:=by simp [tm2]
       by_cases hlt:d < tm.size
       ·rw [aaG hlt,aaG (Fh ▸ hlt)] at e ⊢
        simp only [abx] at e
        rw [e]
       ·rw [aaF (ack hlt),aaF (by rw [Fh];exact ack hlt)]
    rw [this]
 rcases hsem2 with ⟨hw,rfl,rfl⟩ | ⟨hw,hs | ⟨f,cargs,ts,fid,fa,fc,vs,h1,h2,h3,h4,h5⟩ | ⟨f,cargs,ts,fid,fa,fc,vs,h1,h2,h3,h4⟩⟩
 ·refine ⟨undef,w,ρ,.refl hr,.jt ρ rfl,.one ?_⟩
  rw [Jx (by rw [ho];exact hwant.trans hw),kg,ho]
  rfl
 ·obtain ⟨n,w1,ρ1,v',e,hn,st,hv⟩:=re (a:=⟨tm2,[]⟩) hs hr hs2
  refine ⟨v',w1,ρ1,st,hv,.one ?_⟩
  have hnd:=Wm hs
  have hnsel:∀ cs' b',o.op ≠ .select cs' b':=by intro cs' b' e;unfold Jt at hs;rw [e] at hs;cases hs
  have e':(execOp (Act.eval ⟨tm,ds⟩) o).run P w = .ok n w1:=by
   rw [<- e]
   congr 1
   refine execOp_congr o hnsel (fun x hx => ?_)
   exact (Vz (ds:=ds) (fun t ht=>(ht2 t ht).symm) x hx).trans (by cases x <;> rfl)
  have hfin:(wi b tm ds (.inRegion ops (j :: rest) :: k)).finish v'=wi b (vU tm o.dst v') ds (.inRegion ops rest :: k):=by rw [kg,ho];rfl
  rw [<- hfin]
  rcases hn with rfl | ⟨rfl,rfl⟩
  ·exact ZL ho (hwant.trans hw) hnd e'
  ·exact YN ho (hwant.trans hw) hnd e'
 ·have e1:=zS (a:=⟨tm2,[]⟩) hs2 h2
  have e2:=kf (a:=⟨tm2,[]⟩) hs2 h3
  have hlook:∀ (ds:List Deferred) x,x ∈ o.op.operands->Act.eval ⟨tm2,[]⟩ x=Act.eval ⟨tm,ds⟩ x:=fun ds x hx=>
   (show Act.eval ⟨tm2,[]⟩ x=Act.eval ⟨tm2,ds⟩ x by cases x <;> rfl).trans (Vz (ds:=ds) (fun t ht=>ht2 t ht) x hx)
  generalize hfv:Act.eval ⟨tm2,[]⟩ f=fv at e1
  cases e1 with
  | func ha hcs q1 q2=>
    rename_i fa' fc'
    let full:=fa'.toList ++ cargs.toList.map (Act.eval ⟨tm2,[]⟩) ++ fc'.toList
    have hfull:xf ρ (fa.toList ++ vs ++ fc.toList) full :=
     (xf.append ⟨by simpa using ha,fun i x y hx hy=>q1 i x y (by simpa using hx) (by simpa using hy)⟩ e2).append ⟨by simpa using hcs,fun i x y hx hy=>q2 i x y (by simpa using hx) (by simpa using hy)⟩
    have hrun:(execOp (Act.eval ⟨tm,ds⟩) o).run P w = .ok (.enter fid full.toArray) w:=by
     have hnsel:∀ cs' b',o.op ≠ .select cs' b':=by intro cs' b' e;rw [h1] at e;cases e
     rw [<- execOp_congr o hnsel (hlook ds)]
     have hargs':fa' ++ cargs.map (Act.eval ⟨tm2,[]⟩) ++ fc'=full.toArray:=by apply ab2;simp [full]
     simp only [execOp,h1,resolve,hfv,Deferred.ofValue,aag,aan,aad,invoke,callFunc,run_program,hargs']
     unfold x9 at h4
     cases hfn:P.funcs[fid]? with
     | none=>rw [hfn] at h4;cases h4
     | some fn=>
       rw [hfn] at h4
       simp only [aac,aat] at h4
       simp only [h4.2,aa8,if_false]
       rw [if_neg (by cases hb:fn.body <;> simp_all)]
       rfl
    obtain ⟨e,w1,fr,⟨v0,v',h',ρ',rfl,⟨rfl,rfl⟩,st,hv⟩,hcomes,_,hleave⟩:=h5 ρ w full hr hfull (wi b tm ds (.inRegion ops (j :: rest) :: k) :: cs)
    refine ⟨v',w1,ρ',st,hv,.head (Kk ho (hwant.trans hw) (by rw [h1];rfl) hrun) (abW hcomes (.one ?_))⟩
    rw [step_leave_returned hleave,kg,ho]
    rfl
 ·obtain ⟨n,w1,ρ1,v',e,hn,st,hv⟩:=sS (a:=⟨tm2,[]⟩) h1 h2 h3 h4 hr hs2
  refine ⟨v',w1,ρ1,st,hv,.one ?_⟩
  have hnd:YO o.op=false:=by rw [h1];rfl
  have hnsel:∀ cs' b',o.op ≠ .select cs' b':=by intro cs' b' e;rw [h1] at e;cases e
  have e':(execOp (Act.eval ⟨tm,ds⟩) o).run P w = .ok n w1:=by
   rw [<- e]
   congr 1
   refine execOp_congr o hnsel (fun x hx => ?_)
   exact (Vz (ds:=ds) (fun t ht=>(ht2 t ht).symm) x hx).trans (by cases x <;> rfl)
  have hfin:(wi b tm ds (.inRegion ops (j :: rest) :: k)).finish v'=wi b (vU tm o.dst v') ds (.inRegion ops rest :: k):=by rw [kg,ho];rfl
  rw [<- hfin]
  rcases hn with rfl | ⟨rfl,rfl⟩
  ·exact ZL ho (hwant.trans hw) hnd e'
  ·exact YN ho (hwant.trans hw) hnd e'
end
end Go.Ai
