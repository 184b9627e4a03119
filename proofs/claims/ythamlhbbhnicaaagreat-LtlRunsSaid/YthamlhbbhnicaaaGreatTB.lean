/- A part of the proof. -/
import Derived.Test.YthamlhbbhnicaaaGreatTA
import GoSem.Builtin.Delete
import Derived.Lib.Builder
import Derived.Lib.UnsafeStr
import Derived.LaidEqlPtr
import GoSem.Builtin.Cap
import GoSem.Builtin.UnsafeString
import Derived.Laws.Externs
import Derived.Lib.MakeNoZero
import Derived.Orders
set_option linter.unusedVariables false
set_option linter.unusedSimpArgs false
set_option maxRecDepth 100000
namespace Go.Ai
noncomputable section
variable {P:Program}
theorem AG{α:Type}{b:Bool}{x:Option α}{y:α}(h:cond b x none=some y):b=true/\x=some y:=by
 cases b
 ·cases h
 ·exact⟨rfl,h⟩
abbrev om:=aaa×aaa×Nat
def Qr(ρ:xt)(es:List om)(ms:List MapEntry):Prop:=es.length=ms.length /\ ∀(i:Nat) x m,es[i]? = some x->ms[i]? = some m->zS ρ x.1 m.key/\zS ρ x.2.1 m.val/\m.born=x.2.2
theorem Qr.tail{ρ:xt}{x:om}{es:List om}{m:MapEntry}{ms:List MapEntry}(h:Qr ρ (x::es) (m::ms)):(zS ρ x.1 m.key/\zS ρ x.2.1 m.val/\m.born=x.2.2)/\Qr ρ es ms :=
 ⟨h.2 0 x m rfl rfl,by simpa using h.1,λi a b ha hb=>h.2 (i+1) a b (by simpa using ha) (by simpa using hb)⟩
theorem Qr.nil{ρ:xt}:Qr ρ [] []:=⟨rfl,λi x m hx=>by simp at hx⟩
theorem Qr.uW{ρ:xt}{ms:List MapEntry}(h:Qr ρ [] ms):ms=[]:=abJ (by have:=h.1;simpa using this.symm)
theorem Qr.cons_inv{ρ:xt}{x:om}{es:List om}{ms:List MapEntry}(h:Qr ρ (x::es) ms):∃m ms',ms=m::ms'/\(zS ρ x.1 m.key/\zS ρ x.2.1 m.val/\m.born=x.2.2)/\Qr ρ es ms':=by
 cases ms with
 |nil=>have:=h.1;simp at this
 |cons m ms=>exact⟨m,ms,rfl,h.tail⟩
theorem Pt{w:World}{l:Nat}{ms:Array MapEntry}{c:Nat}(h:w.heap[l]? = some (.map ms c)):(getObj l).run P w=.ok (.map ms c) w:=by
 simp only[getObj,Sem.run,h]
theorem Rel.map{ρ:xt}{h:za}{w:World}(hr:Rel P ρ h w){b:Nat}{es:List om}{q:Nat}{pl:Place}(hg:h.get b=some (.map es q))(hm:ρ.m b=some pl) :
  ∃ms,w.heap[pl.c]? = some (.map ms q)/\Qr ρ es ms.toList:=by
 obtain⟨pl',hm',ms,h1,h2,h3⟩:=hr.ok b _ hg;rw[hm]at hm';cases hm';exact⟨ms,h1,by simp[h2],λi x m hx hm=>h3 i x m hx (by simpa using hm)⟩
theorem Qr.size{ρ:xt}{es:List om}{ms:Array MapEntry}(h:Qr ρ es ms.toList):ms.isEmpty=es.isEmpty:=by
 have:=h.1;cases es with
 |nil=>simp at this;rw[ab2 this.symm];rfl
 |cons x es=>simp at this;cases hs:ms.isEmpty with
  |false=>rfl
  |true=>simp at hs;subst hs;simp at this
def zdh(h:za):aaa->Option (List om)
 | .map none=>some []
 | .map (some b)=>(match h.get b with
   |some (.map es _)=>some es
   |_=>none)
 |_=>none
def Bc(P:Program)(t:TypeId)(x k:aaa)(commaOk:Bool)(h:za):Option aaa:=none
theorem Ey{ρ:xt}{t:TypeId}{x x' k k' v:aaa}{ok:Bool}{h:za}{w:World}(he:Bc P t x k ok h=some v)(hr:Rel P ρ h w)(hx:zS ρ x x')(hk:zS ρ k k') :
  ∃v',(Instr.lookup t x' k' ok).run P w=.ok v' w/\zS ρ v v':=by
 unfold Bc at he;cases he
def zbW(P:Program)(t:TypeId)(x:aaa)(h:za):Option aaa :=
 match zbV P t x with
 |some v=>some v
 |none=>(match yQ P (underlying t),zdh h x with
  |some (.map _ _),some es=>some (goInt es.length)
  |_,_=>none)
theorem L7{ρ:xt}{t:TypeId}{x x' v:aaa}{h:za}{w:World}(he:zbW P t x h=some v)(hr:Rel P ρ h w)(hx:zS ρ x x')(r:TypeId):(Builtin.len_ #[t] r #[x']).run P w=.ok v w/\zS ρ v v:=by
 unfold zbW at he;split at he
 ·rename_i hl;simp only[aab]at he;subst he;exact On hl hx r w
 ·split at he
  case h_2=>cases he
  rename_i k e es ht hes;simp only[aab]at he;subst he;refine⟨?_,.int _ _⟩;cases hx with
  |mapNil=>simp only[zdh,aab]at hes;subst hes;simp[Builtin.len_,zv ht]
  |map hb hm=>
   simp only[zdh]at hes;split at hes
   ·rename_i g;simp only[aab]at hes;subst hes;obtain⟨ms,h1,h2⟩:=hr.map g hm;have hsz:=h2.1;simp only[abP]at hsz;simp[Builtin.len_,zv ht,Pt h1,hsz]
   ·cases hes
  |_=>cases hes
def aU(h:za):aaa×za:=(.map (some h.next),h.push (.map [] 0))
theorem CX{ρ:xt}{h:za}{w:World}(hr:Rel P ρ h w)(t:TypeId) :
  ∃v' w' ρ',(Instr.makeMap t none).run P w=.ok v' w'/\Step P ρ h w ρ' (aU h).2 w'/\zS ρ' (aU h).1 v':=by
 let pl:Place:=⟨w.heap.size,0,0,0⟩
 refine⟨.map (some w.heap.size),{w with heap:=w.heap.push (.map #[] 0)},ρ.ext pl,rfl,Step.lW hr (ob := .map [] 0) (pl:=pl) rfl rfl ⟨#[],by simp[pl],rfl,λi x m hx=>by simp at hx⟩ rfl rfl rfl,?_⟩;exact .map (pl:=pl) (by show h.next<ρ.next+1;rw[hr.next];omega) (by rw[<- hr.next];exact ρ.jC pl)
def VC(P:Program)(t:TypeId)(x k v:aaa)(h:za):Option za:=none
theorem sZ{ρ:xt}{t:TypeId}{x x' k k' v v':aaa}{h h':za}{w:World}(he:VC P t x k v h=some h')(hr:Rel P ρ h w)(hx:zS ρ x x')(hk:zS ρ k k')(hv:zS ρ v v') :
  ∃w',(Instr.mapUpdate t x' k' v').run P w=.ok () w'/\Step P ρ h w ρ h' w':=by
 unfold VC at he;cases he
def QJ(P:Program)(t:TypeId)(x k:aaa)(h:za):Option za:=none
theorem sY{ρ:xt}{ts:Array TypeId}{t:TypeId}{r:TypeId}{x x' k k':aaa}{h h':za}{w:World}(he:QJ P t x k h=some h')(hts:ts[0]? = some t)(hr:Rel P ρ h w)(hx:zS ρ x x')(hk:zS ρ k k') :
  ∃w',(Builtin.delete_ ts r #[x',k']).run P w=.ok undef w'/\Step P ρ h w ρ h' w':=by
 unfold QJ at he;cases he
def td(P:Program)(t:TypeId)(x:aaa)(h:za):Option (aaa×za):=none
theorem Hu{ρ:xt}{t:TypeId}{x x' v:aaa}{h h':za}{w:World}(he:td P t x h=some (v,h'))(hr:Rel P ρ h w)(hx:zS ρ x x') :
  ∃v' w' ρ',(Instr.range t x').run P w=.ok v' w'/\Step P ρ h w ρ' h' w'/\zS ρ' v v':=by
 unfold td at he;cases he
def leftOf(es:List om)(seen:List Nat):List om:=es.filter λe => !seen.contains e.2.2
def FX(P:Program)(x:aaa)(str:Bool)(h:za):Option (aaa×za):=none
theorem Qr.left{ρ:xt}(seen:List Nat):∀{es:List om} {ms:List MapEntry},Qr ρ es ms->Qr ρ (leftOf es seen) (ms.filter λe => !seen.toArray.contains e.born)
 |[],ms,h=>by rw[h.uW];exact .nil
 |x::es,ms,h=>by
  obtain⟨m,ms',rfl,h1,h2⟩:=h.cons_inv;have ih:=Qr.left seen h2;have e:(!seen.toArray.contains m.born) = !seen.contains x.2.2:=by rw[h1.2.2];simp
  simp only[leftOf,abS,e];split
  ·refine⟨by have:=ih.1;simp only[leftOf]at this;simp only[aaE,this],λi a b ha hb=>?_⟩;cases i with
   |zero=>simp at ha hb;subst ha hb;exact h1
   |succ i=>exact ih.2 i a b (by simpa [leftOf] using ha) (by simpa using hb)
  ·exact ih
theorem Qr.all{ρ:xt}(last:Nat):∀{es:List om} {ms:List MapEntry},Qr ρ es ms->(ms.all λe=>decide (e.born ≥ last))=es.all λe=>Nat.ble last e.2.2
 |[],ms,h=>by rw[h.uW];rfl
 |x::es,ms,h=>by
  obtain⟨m,ms',rfl,h1,h2⟩:=h.cons_inv;simp only[aa6,Qr.all last h2,h1.2.2]
  congr 1
  rw[Bool.eq_iff_iff];simp
theorem Ma{ρ:xt}{t:TypeId}{x x' v:aaa}{str:Bool}{h h':za}{w:World}(he:FX P x str h=some (v,h'))(hr:Rel P ρ h w)(hx:zS ρ x x') :
  ∃v' w' ρ',(Instr.next x' str t).run P w=.ok v' w'/\Step P ρ h w ρ' h' w'/\zS ρ' v v':=by
 unfold FX at he;cases he
def Hk(x:aaa)(h:za):Option aaa:=none
theorem Qr.find{ρ:xt}(stamp:Nat):∀{es:List om} {ms:List MapEntry} {e:om},Qr ρ es ms->(es.find? λe=>Nat.beq e.2.2 stamp)=some e->∃m,(ms.find? λe=>e.born == stamp)=some m/\zS ρ e.1 m.key/\zS ρ e.2.1 m.val
 |[],ms,e,h,he=>by simp at he
 |x::es,ms,e,h,he=>by
  obtain⟨m,ms',rfl,h1,h2⟩:=h.cons_inv;rw[List.find?_cons]at he ⊢;rw[h1.2.2];cases hb:Nat.beq x.2.2 stamp with
  |true=>
   rw[hb]at he;simp only[aab]at he;subst he;have:(x.2.2 == stamp)=true:=by simpa using aav hb
   rw[this];exact⟨m,rfl,h1.1,h1.2.1⟩
  |false=>
   rw[hb]at he
   have:(x.2.2 == stamp)=false:=by
    cases hq:x.2.2 == stamp with
    |false=>rfl
    |true=>have:=beq_iff_eq.1 hq;rw[this,acy]at hb;cases hb
   rw[this];exact Qr.find stamp h2 he
theorem Hl{ρ:xt}{x x' v:aaa}{h:za}{w:World}(he:Hk x h=some v)(hr:Rel P ρ h w)(hx:zS ρ x x'):∃v',(Instr.entry x').run P w=.ok v' w/\zS ρ v v':=by
 unfold Hk at he;cases he
end
noncomputable section
variable {P:Program}
theorem Q6{w:World}{l:Nat}{cs:Array aaa}{e:TypeId}{fz:Nat×Nat}(h:w.heap[l]? = some (.cells cs e fz)):w.shape? l=some (e,cs.size):=by
 simp[World.shape?,h]
def Ol(P:Program)(src dst:TypeId)(x:aaa)(h:za):Option aaa :=
 match P.underlying src,P.underlying dst,x with
 |some (.pointer t),some .unsafePointer,.pointer (some ⟨b,off,none⟩)=>(match h.get b,P.info? t with
  |some (.cells c _),some j=>cond (Nat.blt off c.length && !(Nat.beq j.size 0)) (some (.pointer (some ⟨b,off,none⟩))) none
  |_,_=>none)
 |some .unsafePointer,some (.pointer u),.pointer (some ⟨b,off,none⟩)=>(match h.get b,P.info? u with
  |some (.cells c e),some _=>cond (Nat.beq e u&&Nat.blt 0 (P.cellsOf u)&&Nat.beq (off%P.cellsOf u) 0&&Nat.ble (off+P.cellsOf u) c.length) (some (.pointer (some ⟨b,off,none⟩))) none
  |_,_=>none)
 |_,_,_=>none
theorem zdc{e:TypeId}{cells o:Nat}(hs:0<P.cellsOf e)(h0:o%P.cellsOf e=0)(hle:o+P.cellsOf e<=cells):liesAt P P.depth e (cells/P.cellsOf e) o e 1=true:=by
 have hd:P.depth=(2*(P.types.size+Made.depth)+1)+1:=rfl
 have hlt:o/P.cellsOf e+1<=cells/P.cellsOf e:=by
  have h1:=Nat.div_le_div_right (c:=P.cellsOf e) hle;rw[Nat.add_div_right _ hs]at h1;exact h1
 rw[hd];simp only[liesAt,abf]
 left
 rw[hd];have hne:P.cellsOf e≠0:=by omega
 simp only[rowAt,aac hne,h0];simp[hlt,sameLayout]
theorem O6{e:TypeId}(hc:P.cellsOf e=1){count o n:Nat}(hn:o+n<=count):liesAt P P.depth e count o e n=true:=by
 have hd:P.depth=(2*(P.types.size+Made.depth)+1)+1:=rfl;rw[hd];simp only[liesAt,abf]
 left
 rw[hd];simp[rowAt,hc,hn,sameLayout,Nat.mod_one]
theorem Hi{ρ:xt}{src dst:TypeId}{x x' v:aaa}{h:za}{w:World}(he:Ol P src dst x h=some v)(hr:Rel P ρ h w)(hx:zS ρ x x') :
  ∃v',(convert src dst x').run P w=.ok v' w/\zS ρ v v':=by
 unfold Ol at he;split at he
 ·rename_i t b off hs hd;cases hx with
  |ptr hb hm=>
   rename_i pl;split at he
   case h_2=>cases he
   rename_i c e j hg hi;obtain⟨hc,he⟩:=AG he;simp only[aab]at he;subst he;simp only[aag,aa7,aaA]at hc;obtain⟨cs,fz,h1,h2,h3,h4,h5,h6⟩:=hr.place hg hm;have hj:j.size≠0:=by intro ez;rw[ez]at hc;simp at hc
   refine⟨_,Lib.run_to_unsafe w ⟨pl.c,pl.base+off,none⟩ hs hd hi hj (Q6 h1) ?_,.ptr hb hm⟩;show pl.base+off<cs.size;omega
 ·rename_i u b off hs hd;cases hx with
  |ptr hb hm=>
   rename_i pl;split at he
   case h_2=>cases he
   rename_i c e j hg hi;obtain⟨hc,he⟩:=AG he;simp only[aab]at he;subst he;simp only[aag,aa7]at hc;obtain⟨⟨⟨k1,k2⟩,k3⟩,k4⟩:=hc;obtain rfl:=aav k1;have k3:=aav k3;have k4:=aaL k4;obtain⟨cs,fz,h1,h2,⟨h3,h30⟩,h4,h5,h6⟩:=hr.place hg hm;refine⟨_,Lib.run_from_unsafe w ⟨pl.c,pl.base+off,none⟩ hs hd hi (Q6 h1) (zdc k2 ?_ ?_),.ptr hb hm⟩
   ·show(pl.base+off)%P.cellsOf e=0;rw[Nat.add_mod,<- h3,h30,h3,k3];simp
   ·show pl.base+off+P.cellsOf e<=cs.size;omega
 ·cases he
def zgh:aaa->Option aaa
 | .slice none _ _=>some (.pointer none)
 | .slice (some ⟨b,off,none⟩) n _=>cond (Nat.blt 0 n) (some (.pointer (some ⟨b,off,none⟩))) none
 |_=>none
theorem Ot{ρ:xt}{x x' v:aaa}(he:zgh x=some v)(hx:zS ρ x x')(ts:Array TypeId)(ty:TypeId)(w:World):∃v',(Builtin.unsafeSliceData_ ts ty #[x']).run P w=.ok v' w/\zS ρ v v':=by
 unfold zgh at he;split at he
 ·simp only[aab]at he;subst he;cases hx;exact⟨_,Lib.run_unsafeSliceData_nil w ts ty _ _,.ptrNil⟩
 ·rename_i b off n c;obtain⟨hn,he⟩:=AG he;simp only[aab]at he;subst he;have hn:0<n:=by simpa [aa7] using hn
  cases hx with
  |slice hb hm hl hc=>exact⟨_,Lib.run_unsafeSliceData_row w ts ty _ _ _ (by omega),.ptr hb hm⟩
  |sliceOut=>omega
 ·cases he
def ij:List aaa->Option (List UInt8)
 |[]=>some []
 | .int .u8 z::r=>cond (decide (((UInt8.ofNat z.toNat).toNat:Int)=z)) ((ij r).map λl=>UInt8.ofNat z.toNat::l) none
 |_=>none
theorem AD:∀{c:List aaa} {l:List UInt8},ij c=some l->c.length=l.length /\ ∀(j:Nat) x,l[j]? = some x->c[j]? = some (.int .u8 x.toNat)
 |[],l,h=>by simp only[ij,aab]at h;subst h;exact⟨rfl,λj x hx=>by simp at hx⟩
 |a::c,l,h=>by
  unfold ij at h;split at h
  ·rename_i e;cases e
  ·rename_i z r e;simp only[abE]at e;obtain⟨rfl,rfl⟩:=e;obtain⟨hz,h⟩:=AG h;obtain⟨l',hl,rfl⟩:=aat.1 h;obtain⟨q1,q2⟩:=AD hl;have hz:=abv hz;refine⟨by simp[q1],λj x hx=>?_⟩;cases j with
   |zero=>simp only[aak,aab]at hx ⊢;subst hx;rw[hz]
   |succ j=>simpa using q2 j x (by simpa using hx)
  ·cases h
theorem mi{pt it ty e:TypeId}(hp:P.underlying pt=some (.pointer e))(hc:P.cellsOf e=1){w:World}{g o cells:Nat}(hsh:w.shape? g=some (e,cells)){l:List UInt8}(h0:l≠[])(hn:o+l.length<=cells)(h63:l.length<=9223372036854775807)
  (hcell:∀(j:Nat) x,l[j]? = some x->w.cell? ((⟨g,o,none⟩:Addr).add j)=some (.int .u8 x.toNat)) :
  (Builtin.unsafeString_ #[pt,it] ty #[.pointer (some ⟨g,o,none⟩),.int .i64 l.length]).run P w=.ok (.string ⟨l.toArray⟩) (w.freeze ⟨g,o,none⟩ l.length):=by
 have hl:l.length≠0:=by simpa using h0
 have hlb:=Lib.run_loadBytes (P:=P) w l ⟨g,o,none⟩ .empty hcell;have hlies:=O6 (P:=P) hc (count:=cells/P.cellsOf e) (o:=o) (n:=l.length) (by rw[hc];simpa using hn);have h63':¬(9223372036854775807:Int)<(l.length:Int):=by omega
 have hmax:IntKind.i64.max=9223372036854775807:=rfl;have hneg:¬(l.length:Int)<0:=by omega
 rw[show Builtin.unsafeString_ #[pt,it] ty #[.pointer (some ⟨g,o,none⟩),.int .i64 l.length]=(asInt (.int .i64 l.length) >>= _) from rfl];simp[asInt,asIntOf,hmax,h63',hneg,hl,variablesAt,hsh,elemOf,run_underlying hp,hlies,hlb]
def ptrTo(P:Program)(pt e:TypeId):Bool :=
 match P.underlying pt with
 |some (.pointer e')=>Nat.beq e' e
 |_=>false
theorem zdz{pt e:TypeId}(h:ptrTo P pt e=true):P.underlying pt=some (.pointer e):=by
 unfold ptrTo at h;split at h
 ·rename_i e' he;rw[he,aav h]
 ·cases h
def aus(P:Program)(pt:TypeId)(p:aaa)(n:Int)(h:za):Option (aaa×za) :=
 match p with
 | .pointer none=>cond (decide (n=0)) (some (.string .empty,h)) none
 | .pointer (some ⟨b,off,none⟩)=>cond (decide (n=0)) (some (.string .empty,h)) (match h.get b with
   |some (.cells c e)=>(match ij ((c.drop off).take n.toNat) with
    |some l=>cond (Nat.ble h.ro b&&ptrTo P pt e&&Nat.beq (P.cellsOf e) 1&&decide (n=(l.length:Int))&&Nat.blt 0 l.length&&Nat.ble l.length 9223372036854775807) (some (.string ⟨l.toArray⟩,h.set b none)) none
    |none=>none)
   |_=>none)
 |_=>none
theorem Du(w:World)(p:Addr)(n k:Nat)(hk:k≠p.block):(w.freeze p n).heap[k]? = w.heap[k]?:=by
 unfold World.freeze;split
 ·rfl
 ·simp only[Array.getElem?_modify];rw[aac (by omega)]
theorem HQ(w:World)(p:Addr)(n:Nat):(w.freeze p n).os=w.os/\(w.freeze p n).tape=w.tape/\(w.freeze p n).output=w.output/\(w.freeze p n).heap.size=w.heap.size:=by
 unfold World.freeze;split
 ·exact⟨rfl,rfl,rfl,rfl⟩
 ·exact⟨rfl,rfl,rfl,by simp⟩
theorem Step.leave{ρ:xt}{h:za}{w w':World}(hr:Rel P ρ h w){b:Nat}{o:wA}{pl:Place}(hg:h.get b=some o)(hm:ρ.m b=some pl)(hro:h.ro<=b)(hos:w'.os=w.os)(htape:w'.tape=w.tape)(hout:w'.output=w.output)(hsz:w'.heap.size=w.heap.size)
  (hfr:∀k,k≠pl.c->w'.heap[k]? = w.heap[k]?):Step P ρ h w ρ (h.set b none) w':=by
 have hd:=hr.drop b;refine⟨xt.le_refl _,⟨hd.next,hd.ro,hd.eU,λx ox hx=>?_,hd.inj,hd.tB,hd.XR⟩,rfl,hos,htape,hout,by omega,λk _ hn=>hfr k (λe=>hn ⟨b,o,pl,hg,hro,hm,e.symm⟩),λk hk hM=>?_⟩
 ·obtain⟨p,hp,hc⟩:=hd.ok x ox hx;refine⟨p,hp,hc.other (hfr _ (λec=>?_))⟩;rw[za.yI]at hx;split at hx
  ·cases hx
  ·rename_i ne;exact ne (hr.inj x b _ _ p pl hx hg hp hm ec)
 ·obtain⟨x,ox,p,hx,h1,h2,h3⟩:=hM;rw[za.yI]at hx;split at hx
  ·cases hx
  ·exact⟨x,ox,p,hx,h1,h2,h3⟩
theorem T0{ρ:xt}{pt it ty:TypeId}{p p' v:aaa}{n:Int}{h h':za}{w:World}(he:aus P pt p n h=some (v,h'))(hr:Rel P ρ h w)(hx:zS ρ p p') :
  ∃v' w',(Builtin.unsafeString_ #[pt,it] ty #[p',.int .i64 n]).run P w=.ok v' w'/\Step P ρ h w ρ h' w'/\zS ρ v v':=by
 unfold aus at he;split at he
 ·obtain⟨hn,he⟩:=AG he;simp only[aab,aaj]at he;obtain⟨rfl,rfl⟩:=he;obtain rfl:=abv hn;cases hx;exact⟨_,w,Lib.run_unsafeString_none w _ _ _ _,.refl hr,.string _⟩
 ·rename_i b off;cases hx with
  |ptr hb hm=>
   rename_i pl;cases hn:decide (n=0) with
   |true=>
    rw[hn]at he;simp only[aaC,aab,aaj]at he;obtain⟨rfl,rfl⟩:=he;obtain rfl:=abv hn;exact⟨_,w,Lib.run_unsafeString_none w _ _ _ _,.refl hr,.string _⟩
   |false=>
    rw[hn]at he;simp only[aaK]at he;split at he
    case h_2=>cases he
    rename_i c e hg;split at he
    case h_2=>cases he
    rename_i l hl;obtain⟨hc,he⟩:=AG he;simp only[aab,aaj]at he;obtain⟨rfl,rfl⟩:=he;simp only[aag,aaR,aa7]at hc;obtain⟨⟨⟨⟨⟨k1,k2⟩,k3⟩,k4⟩,k5⟩,k6⟩:=hc;have k1:=aaL k1;have k3:=aav k3;have k6:=aaL k6;subst k4;obtain⟨q1,q2⟩:=AD hl;simp only[aax,acw,acI]at q1;obtain⟨cs,fz,h1,h2,h3,h4,h5,h6⟩:=hr.place hg hm;obtain⟨f1,f2,f3,f4⟩:=HQ w ⟨pl.c,pl.base+off,none⟩ l.length;refine⟨_,_,mi (zdz k2) k3 (Q6 h1) (by intro el;subst el;simp at k5) (by omega) k6 (λj x hx=>?_),.leave hr hg hm k1 f1 f2 f3 f4 (λk hk=>Du _ _ _ _ hk),.string _⟩;have hq:=q2 j x hx;simp only[aax]at hq
    have hjl:j<l.length:=by
     rcases aar j l.length with h7|h7
     ·exact h7
     ·rw[aal h7]at hx;cases hx
    rw[aaX hjl,aa1]at hq;obtain⟨y,hy,hxy⟩:=h6 _ _ hq;cases hxy;have ea:(⟨pl.c,pl.base+off,none⟩:Addr).add j=⟨pl.c,pl.base+off+j,none⟩:=ZO _ _ _;rw[ea];simp only[World.cell?,h1];rw[acz];simpa using hy
 ·cases he
def zhW(P:Program)(op:BinOp)(t:TypeId)(a b:aaa):Option aaa :=
 match P.underlying t,a,b with
 |some (.pointer te),.pointer (some ⟨b1,o1,none⟩),.pointer (some ⟨b2,o2,none⟩)=>(match P.info? te with
  |some _=>cond (Nat.beq b1 b2&&Nat.beq o1 o2) (match op with
   | .eql=>some (.bool true)
   | .neq=>some (.bool false)
   |_=>none) none
  |none=>none)
 |_,_,_=>none
def zX(P:Program)(op:BinOp)(t:TypeId)(x y:Operand)(a b:aaa):Option aaa :=
 match TP P op t x y a b with
 |some v=>some v
 |none=>zhW P op t a b
theorem LV{ρ:xt}{op:BinOp}{t:TypeId}{x y:Operand}{a b a' b' v:aaa}(h:zX P op t x y a b=some v)(ha:zS ρ a a')(hb:zS ρ b b')(w:World) :
  ∃v',(do eqGuard op t x y a' b';binOp op t a' b':Sem aaa).run P w=.ok v' w/\zS ρ v v':=by
 unfold zX at h;split at h
 ·rename_i u hu;simp only[aab]at h;subst h;exact Oh hu ha hb w
 ·unfold zhW at h;split at h
  case h_2=>cases h
  rename_i te b1 o1 b2 o2 ht0 ht;split at h
  case h_2=>cases h
  rename_i j hj;obtain⟨hc,hh⟩:=AG h;clear h;simp only[aag]at hc;obtain rfl:=aav hc.1;obtain rfl:=aav hc.2;cases ha with
  |ptr h1 m1=>
   rename_i pl;cases hb with
   |ptr h2 m2=>
    rename_i pl2;rw[m1]at m2;cases m2;have hg:(eqGuard op t x y (.pointer (some ⟨pl.c,pl.base+o1,none⟩)) (.pointer (some ⟨pl.c,pl.base+o1,none⟩))).run P w=.ok () w:=by cases op <;> simp[eqGuard]
    split at hh
    ·simp only[aab]at hh;subst hh;exact⟨.bool true,by simp only[aan,hg,aah,run_eql_ptr_same w _ ht0 hj],.bool true⟩
    ·simp only[aab]at hh;subst hh;exact⟨.bool false,by simp only[aan,hg,aah,Lib.run_neq_ptr_same w _ ht0 hj],.bool false⟩
    ·cases hh
def zga(P:Program)(t:TypeId)(x:aaa):Option aaa :=
 match yQ P (underlying t),x with
 |some (.slice _),.slice none _ _=>some (goInt 0)
 |some (.slice _),.slice (some ⟨_,_,none⟩) _ c=>cond (Nat.ble 2 c) (some (goInt (c-2:Nat))) none
 |_,_=>none
theorem Ok{ρ:xt}{t:TypeId}{x x' v:aaa}(he:zga P t x=some v)(hx:zS ρ x x')(r:TypeId)(w:World):(Builtin.cap_ #[t] r #[x']).run P w=.ok v w/\zS ρ v v:=by
 unfold zga at he;split at he
 ·rename_i hu;simp only[aab]at he;subst he;refine⟨?_,.int _ _⟩;cases hx;simp[Builtin.cap_,zv hu]
 ·rename_i b off n c hu;obtain⟨hc,he⟩:=AG he;simp only[aab]at he;subst he;have hc:=aaL hc;refine⟨?_,.int _ _⟩;cases hx with
  |slice hb hm hl hcap=>
   rename_i cap pl;have:=(hcap (by omega)).2 (c-2) (by omega);subst this;simp[Builtin.cap_,zv hu]
  |sliceOut hb h2=>
   have:c-2=0:=by omega
   rw[this];simp[Builtin.cap_,zv hu]
 ·cases he
end
noncomputable section
variable {P:Program}
def Q3(s:ByteArray):List aaa:=s.data.toList.map λb => .int .u8 b.toNat
def CT(P:Program)(src dst:TypeId)(x:aaa)(h:za):Option (aaa×za) :=
 match cond (flat x) (fl (yQ P (convert src dst x))) none with
 |some v=>some (v,h)
 |none=>(match yQ P (underlying src),yQ P (underlying dst),x with
  |some _,some (.slice e),.string s=>(match yQ P (underlying e),yQ P (sizeOf e) with
   |some (.int .u8),some 1=>some (.slice (some ⟨h.next,0,none⟩) s.size 1,h.push (.cells (Q3 s) e))
   |_,_=>none)
  |some (.slice e),some .string,.slice base n c=>(match yQ P (underlying e) with
   |some (.int .u8)=>(zf9 h (.slice base n c)).map λv=>(v,h)
   |_=>none)
  |_,_,_=>none)
theorem eS{t:TypeId}{n:Nat}(h:yQ P (sizeOf t)=some n):P.cellsOf t=n:=by
 simp only[sizeOf,typeInfo,program,Sem.bind,bind,yQ]at h;cases hp:P.info? t with
 |none=>rw[hp]at h;cases h
 |some j=>rw[hp]at h;simp only[pure,Sem.bind,yQ,aab]at h;subst h;simp[Program.cellsOf,hp]
theorem zaQ{ρ:xt}{h:za}{w:World}{e:TypeId}{s:ByteArray}(hr:Rel P ρ h w)(hsz:yQ P (sizeOf e)=some 1) :
  ∃v' w' ρ',(Conv.stringToBytes e s).run P w=.ok v' w'/\Step P ρ h w ρ' (h.push (.cells (Q3 s) e)) w'/\zS ρ' (.slice (some ⟨h.next,0,none⟩) s.size 1) v':=by
 let q:Question := .appendCap s.size 0 e
 let newCap:=q.cut (w.tape w.drawn q)
 have hge:s.size<=newCap:=by show s.size<=s.size+_%_;omega
 let cs:Array aaa:=(s.data.map λb=>Value.int .u8 b.toNat)++Array.replicate (newCap-s.size) (.int .u8 0)
 have hcs:cs.size=newCap:=by simp only[cs,Array.size_append,Array.size_map,Array.size_replicate];show s.size+(newCap-s.size)=newCap;omega
 let w1:World:={w with drawn:=w.drawn+1}
 have hr1:Rel P ρ h w1:=hr.grow (λk _=>rfl);have hesz:=eS hsz
 let w2:World:={w1 with heap:=w1.heap.push (.cells cs e (cs.size,cs.size+1))}
 have st:=Step.push (t:=e) hr1 (c:=Q3 s) (cs:=cs) (fz:=(cs.size,cs.size+1)) (w':=w2) rfl (λi hi hh=>by simp only[]at hh;omega)
  (by simp only[Q3,aaf,hcs,abP];exact hge)
  (λk x hx=>by
   refine⟨x,?_,?_⟩
   ·have hlt:k<s.data.size:=by
     rcases aar k s.data.size with h|h
     ·exact h
     ·rw[aal (by simpa [Q3] using h)]at hx;cases hx
    rw[Array.getElem?_append_left (by simpa using hlt)];simpa [Q3] using hx
   ·simp only[Q3,aaq,aat]at hx;obtain⟨b,_,rfl⟩:=hx;exact .int _ _) rfl rfl rfl
 refine⟨.slice (some ⟨w.heap.size,0,none⟩) s.size newCap,w2,_,?_,⟨st.le,st.rel,st.ro,st.os,st.tape,st.output,st.size,st.frame,st.A6⟩,?_⟩
 ·have hq:(choose (.appendCap s.size 0 e)).run P w=.ok newCap w1:=by rw[run_choose];rfl
  simp only[Conv.stringToBytes,aan,hq,aah];have hn:(newRow e cs).run P w1=.ok ⟨w.heap.size,0,none⟩ {w1 with heap:=w1.heap.push (.cells cs e)}:=rfl;rw[show(s.data.map λb=>Value.int .u8 b.toNat)++Array.replicate (newCap-s.size) (.int .u8 0)=cs from rfl,hn];have hb:({w1 with heap:=w1.heap.push (.cells cs e)}:World).heap[w.heap.size]? = some (.cells cs e):=by show(w.heap.push _)[w.heap.size]? = _;simp
  have hsh:(markStringish ⟨w.heap.size,0,none⟩).run P {w1 with heap:=w1.heap.push (.cells cs e)} = .ok () w2:=by
   simp only[markStringish,aan,run_shape,aah,World.shape?,hb,run_freeze];simp only[World.freeze];rw[aac (by decide)]
   congr 1
   show World.mk _ _ _ _ _=World.mk _ _ _ _ _
   congr 1
   show(w.heap.push _).modify w.heap.size _=w.heap.push _;apply Array.ext_getElem?;intro k;simp only[Array.getElem?_modify,Array.getElem?_push];by_cases e:k=w.heap.size
   ·subst e;simp
   ·simp[e];intro e2;exact absurd e2.symm e
  simp only[aah,hsh,aaw]
 ·have:=zS.slice (ρ:=ρ.ext ⟨w1.heap.size,0,cs.size,P.cellsOf e⟩) (b:=h.next) (off:=0) (len:=s.size) (c:=1) (cap:=newCap) (pl:=⟨w1.heap.size,0,cs.size,P.cellsOf e⟩)
   (by show h.next<ρ.next+1;rw[hr.next];exact aaH _) (by rw[<- hr.next];exact ρ.jC _) hge (λ_=>⟨by simp[hesz,hcs],λk hk=>by omega⟩)
  exact this
theorem Hg{ρ:xt}{src dst:TypeId}{x x' v:aaa}{h h':za}{w:World}(he:CT P src dst x h=some (v,h'))(hr:Rel P ρ h w)(hx:zS ρ x x') :
  ∃v' w' ρ',(convert src dst x').run P w=.ok v' w'/\Step P ρ h w ρ' h' w'/\zS ρ' v v':=by
 unfold CT at he;split at he
 ·rename_i u hu;simp only[aab,aaj]at he;obtain⟨rfl,rfl⟩:=he;cases hf:flat x with
  |false=>rw[hf]at hu;cases hu
  |true=>
   rw[hf]at hu;obtain⟨h1,h2⟩:=KR hu;obtain rfl:=Yg hx hf;exact⟨u,w,ρ,zv h1 w,.refl hr,.of_flat ρ h2⟩
 ·split at he
  ·rename_i e s hs hd _;cases hx;split at he
   ·rename_i hu hz;simp only[aab,aaj]at he;obtain⟨rfl,rfl⟩:=he;obtain⟨v',w',ρ',e1,st,hv⟩:=zaQ (e:=e) (s:=s) hr hz;refine⟨v',w',ρ',?_,st,hv⟩;simp only[convert,aan,zv hs,zv hd,aah,zv hu,e1]
   ·cases he
  ·rename_i e base n c hs hd _;split at he
   ·rename_i hu;simp only[aat,aaj]at he;obtain⟨r,hb,rfl,rfl⟩:=he;obtain⟨e1,hv⟩:=Og hb hr hx;refine⟨r,w,ρ,?_,.refl hr,hv⟩;cases hx <;> simp only[convert,aan,zv hs,zv hd,aah,zv hu,e1]
   ·cases he
  ·cases he
def ud(P:Program)(src dst:TypeId)(x:aaa)(h:za):Option (aaa×za) :=
 match CT P src dst x h with
 |some r=>some r
 |none=>(Ol P src dst x h).map λv=>(v,h)
theorem LZ{ρ:xt}{src dst:TypeId}{x x' v:aaa}{h h':za}{w:World}(he:ud P src dst x h=some (v,h'))(hr:Rel P ρ h w)(hx:zS ρ x x') :
  ∃v' w' ρ',(convert src dst x').run P w=.ok v' w'/\Step P ρ h w ρ' h' w'/\zS ρ' v v':=by
 unfold ud at he;split at he
 ·rename_i r hc;simp only[aab]at he;subst he;exact Hg hc hr hx
 ·simp only[aat,aaj]at he;obtain⟨u,hu,rfl,rfl⟩:=he;obtain⟨v',e,hv⟩:=Hi hu hr hx;exact⟨v',w,ρ,e,.refl hr,hv⟩
def zH(P:Program)(t:TypeId)(len:Nat)(parts:List (Nat×aaa))(h:za):Option (aaa×za) :=
 match yQ P (underlying t) with
 |some (.slice elem)=>(match yQ P (sizeOf elem),Yd P elem with
  |some n,some z=>cond (Nat.ble (len*n) (2^24)&&Nat.blt 0 z.cells.size&&Nat.blt 0 n) (match Instr.fill (λi=>some (i*n,n)) (qX z.cells.toList (len*n)).toArray parts with
   |some cs=>cond (Nat.beq cs.size (len*n)) (some (.slice (some ⟨h.next,0,none⟩) len (len+2),h.push (.cells cs.toList elem))) none
   |none=>none) none
  |_,_=>none)
 |_=>none
theorem pz{ρ:xt}{t:TypeId}{len:Nat}{parts parts':List (Nat×aaa)}{h h':za}{v:aaa}{w:World}(he:zH P t len parts h=some (v,h'))(hr:Rel P ρ h w)(hp:Bi ρ parts parts') :
  ∃v' w' ρ',(Instr.buildSlice t len parts'.toArray).run P w=.ok v' w'/\Step P ρ h w ρ' h' w'/\zS ρ' v v':=by
 unfold zH at he;split at he
 case h_2=>cases he
 rename_i elem hu;split at he
 case h_2=>cases he
 rename_i n z hn hz;cases hc:(Nat.ble (len*n) (2^24)&&Nat.blt 0 z.cells.size&&Nat.blt 0 n) with
 |false=>rw[hc]at he;cases he
 |true=>
  rw[hc]at he;simp only[aag]at hc;have h24:=aaL hc.1.1;have hzs:0<z.cells.size:=by simpa [aa7] using hc.1.2
  obtain⟨z1,z2⟩:=Wq (ρ:=ρ) hz w;simp only[aaC]at he;split at he
  case h_2=>cases he
  rename_i cs hfill;cases hsz:Nat.beq cs.size (len*n) with
  |false=>rw[hsz]at he;cases he
  |true=>
   rw[hsz]at he;simp only[aaC,aab,aaj]at he;obtain⟨rfl,rfl⟩:=he;have hsz:=aav hsz;obtain⟨cs',hf',hv⟩:=pY _ _ _ (qX z.cells.toList (len*n)).toArray _ hp (Ej z2 (by omega) _) hfill
   obtain⟨e,st⟩:=nT (t:=elem) hr (c:=cs.toList) (cs:=cs') (by rw[hv.1,abP];exact aam _) (λi x hx=>by
    obtain⟨y,hy,hxy⟩:=hv.get hx;exact⟨y,by simpa using hy,hxy⟩)
   have hcsz:cs'.size=len*n:=by have:=hv.1;simp only[abP]at this;omega
   refine⟨.slice (some ⟨w.heap.size,0,none⟩) len len,_,_,?_,st,?_⟩
   ·simp only[Instr.buildSlice,aan,zv hu,aah,zv hn];rw[aac (by omega)];by_cases h0:len*n=0
    ·rw[aai h0];have:((Array.range (len*n)).map λk=>(#[]:Array aaa)[k%(#[]:Array aaa).size]!)=(qX z.cells.toList (len*n)).toArray:=by rw[h0];simp[qX]
     simp only[aan,aaw,aah,this,hf',e]
    ·rw[aac h0];simp only[aan,z1,aaw,aah,GU,hf',e]
   ·exact zS.slice (ρ:=ρ.ext _) (b:=h.next) (off:=0) (pl:=⟨w.heap.size,0,cs'.size,P.cellsOf elem⟩) (by show h.next<ρ.next+1;rw[hr.next];exact aaH _) (by rw[<- hr.next];exact ρ.jC _) (aam _)
     (λ_=>⟨by simp[eS hn,hcsz],λk hk=>by omega⟩)
theorem zE{α:Type}{b:Bool}{x:Option α}{y:α}(h:cond b x none=some y):b=true/\x=some y:=by
 cases b with
 |true=>exact⟨rfl,h⟩
 |false=>cases h
def EB(s:Env):Option Operand->Option (Option aaa)
 |none=>some none
 |some x=>(j6 s x).map some
theorem dG{ρ:xt}{s:Env}{a:Act}(hs:vE ρ s a.tmps){x:Option Operand}{v:Option aaa}(h:EB s x=some v):Tt ρ v (x.map a.eval):=by
 cases x with
 |none=>simp only[EB,aab]at h;subst h;exact⟨λv hv=>by(cases hv),λ_=>rfl⟩
 |some x=>
  simp only[EB,aat]at h;obtain⟨u,hu,rfl⟩:=h;exact⟨λv hv=>by cases hv;exact⟨_,rfl,yk hs hu⟩,λhn=>by cases hn⟩
def Nb:Option aaa->Bool
 |none=>true
 |some v=>flat v
def zB(P:Program)(b:Builtin)(ts:List TypeId)(r:TypeId)(vs:List aaa)(h:za):Option (aaa×za) :=
 match b,ts,vs with
 | .append,[sT,xT],[s,x]=>KN P sT xT s x h
 | .copy,t::_,[d,x]=>L4 P t d x h
 | .len,[t],[x]=>(zbW P t x h).map λv=>(v,h)
 | .clear,[t],[x]=>(CS P t x h).map λh'=>(undef,h')
 | .min,_,_=>cond (vs.all flat) ((fl (yQ P (Builtin.min_ ts.toArray r vs.toArray))).map λv=>(v,h)) none
 | .max,_,_=>cond (vs.all flat) ((fl (yQ P (Builtin.max_ ts.toArray r vs.toArray))).map λv=>(v,h)) none
 | .delete,t::_,[x,k]=>(QJ P t x k h).map λh'=>(undef,h')
 | .cap,[t],[x]=>(zga P t x).map λv=>(v,h)
 | .unsafeSliceData,_,[x]=>(zgh x).map λv=>(v,h)
 | .unsafeString,[pt,it],[p,.int .i64 n]=>aus P pt p n h
 |_,_,_=>none
theorem nZ{ρ:xt}:∀{xs ys:List aaa},xV ρ xs ys->xs.all flat=true->ys=xs
 |[],ys,h,_=>h.uW
 |x::xs,ys,h,hf=>by
  obtain⟨y,ys',rfl,h1,h2⟩:=h.cons_inv;simp only[aa6,aag]at hf;rw[Yg h1 hf.1,nZ h2 hf.2]
theorem CR{ρ:xt}{b:Builtin}{ts:Array TypeId}{r:TypeId}{vs vs':List aaa}{cs:Array Bool}{v:aaa}{h h':za}{w:World}(he:zB P b ts.toList r vs h=some (v,h'))(hr:Rel P ρ h w)(hv:xV ρ vs vs') :
  ∃v' w' ρ',(builtin b ts r cs vs'.toArray).run P w=.ok (.value v') w'/\Step P ρ h w ρ' h' w'/\zS ρ' v v':=by
 unfold zB at he;split at he
 ·rename_i sT xT s x hts;obtain⟨s',l1,rfl,v1,hv⟩:=hv.cons_inv;obtain⟨x',l2,rfl,v2,hv⟩:=hv.cons_inv;cases hv.uW;have:ts = #[sT,xT]:=by rw[<- ab9 (xs:=ts),hts]
  subst this;obtain⟨v',w',ρ',e,st,hv'⟩:=Eu (r:=r) he hr v1 v2;exact⟨v',w',ρ',by simp only[builtin,aan];rw[e];rfl,st,hv'⟩
 ·rename_i t ts' d x hts;obtain⟨d',l1,rfl,v1,hv⟩:=hv.cons_inv;obtain⟨x',l2,rfl,v2,hv⟩:=hv.cons_inv;cases hv.uW;obtain⟨v',w',e,st,hv'⟩:=L5 (ts:=ts) (r:=r) he hr v1 v2 (by rw[<- Array.getElem?_toList,hts];rfl);exact⟨v',w',ρ,by simp only[builtin,aan];rw[e];rfl,st,hv'⟩
 ·rename_i t x hts;obtain⟨x',l1,rfl,v1,hv⟩:=hv.cons_inv;cases hv.uW;have:ts = #[t]:=by rw[<- ab9 (xs:=ts),hts]
  subst this;simp only[aat,aaj]at he;obtain⟨u,hu,rfl,rfl⟩:=he;obtain⟨e,hv'⟩:=L7 hu hr v1 r;exact⟨u,w,ρ,by simp only[builtin,aan];rw[e];rfl,.refl hr,hv'⟩
 ·rename_i t x hts;obtain⟨x',l1,rfl,v1,hv⟩:=hv.cons_inv;cases hv.uW;have:ts = #[t]:=by rw[<- ab9 (xs:=ts),hts]
  subst this;simp only[aat,aaj]at he;obtain⟨u,hu,rfl,rfl⟩:=he;obtain⟨w',e,st⟩:=Hf (r:=r) hu hr v1;exact⟨undef,w',ρ,by simp only[builtin,aan];rw[e];rfl,st,.YT _ rfl⟩
 ·obtain⟨hf,he⟩:=zE he;simp only[aat,aaj]at he;obtain⟨u,hu,rfl,rfl⟩:=he;obtain⟨h1,h2⟩:=KR hu;obtain rfl:=nZ hv hf;refine⟨u,w,ρ,?_,.refl hr,.of_flat _ h2⟩;have h1:=zv h1 w;rw[ab9]at h1;simp only[builtin,aan,h1];rfl
 ·obtain⟨hf,he⟩:=zE he;simp only[aat,aaj]at he;obtain⟨u,hu,rfl,rfl⟩:=he;obtain⟨h1,h2⟩:=KR hu;obtain rfl:=nZ hv hf;refine⟨u,w,ρ,?_,.refl hr,.of_flat _ h2⟩;have h1:=zv h1 w;rw[ab9]at h1;simp only[builtin,aan,h1];rfl
 ·rename_i t ts' x k hts;obtain⟨x',l1,rfl,v1,hv⟩:=hv.cons_inv;obtain⟨k',l2,rfl,v2,hv⟩:=hv.cons_inv;cases hv.uW;simp only[aat,aaj]at he;obtain⟨u,hu,rfl,rfl⟩:=he;obtain⟨w',e,st⟩:=sY (ts:=ts) (r:=r) hu (by rw[<- Array.getElem?_toList,hts];rfl) hr v1 v2;exact⟨undef,w',ρ,by simp only[builtin,aan];rw[e];rfl,st,.YT _ rfl⟩
 ·rename_i t x hts;obtain⟨x',l1,rfl,v1,hv⟩:=hv.cons_inv;cases hv.uW;have:ts = #[t]:=by rw[<- ab9 (xs:=ts),hts]
  subst this;simp only[aat,aaj]at he;obtain⟨u,hu,rfl,rfl⟩:=he;obtain⟨e,hv'⟩:=Ok hu v1 r w;exact⟨u,w,ρ,by simp only[builtin,aan];rw[e];rfl,.refl hr,hv'⟩
 ·rename_i ts' x hts;obtain⟨x',l1,rfl,v1,hv⟩:=hv.cons_inv;cases hv.uW;simp only[aat,aaj]at he;obtain⟨u,hu,rfl,rfl⟩:=he;obtain⟨v',e,hv'⟩:=Ot hu v1 ts r w;exact⟨v',w,ρ,by simp only[builtin,aan];rw[e];rfl,.refl hr,hv'⟩
 ·rename_i pt it p n hts;obtain⟨p',l1,rfl,v1,hv⟩:=hv.cons_inv;obtain⟨n',l2,rfl,v2,hv⟩:=hv.cons_inv;cases hv.uW;cases v2;have:ts = #[pt,it]:=by rw[<- ab9 (xs:=ts),hts]
  subst this;obtain⟨v',w',e,st,hv'⟩:=T0 (it:=it) (ty:=r) he hr v1;exact⟨v',w',ρ,by simp only[builtin,aan];rw[e];rfl,st,hv'⟩
 ·cases he
def one(h:za)(x:Option aaa):Option (aaa×za):=match x with|none=>none|some v=>some (v,h)
def mB(P:Program)(s:Env)(o:Oper)(h:za):Option (aaa×za) :=
 match o.op with
 | .move x | .assign x=>one h (j6 s x)
 | .pick c a b=>(match j6 s c with
   |some (.bool true)=>one h (j6 s a)
   |some (.bool false)=>one h (j6 s b)
   |_=>none)
 | .box t x=>(match j6 s x with
   |some v=>some (ER h v.cells.toList t)
   |none=>none)
 | .alloc t=>(match Yd P t with
   |some z=>some (ER h z.cells.toList t)
   |none=>none)
 | .build t parts=>(match QL s parts.toList with
   |some ps=>one h (zY P t ps)
   |none=>none)
 | .buildSlice t len parts=>(match QL s parts.toList with
   |some ps=>zH P t len ps h
   |none=>none)
 | .load t a=>(match j6 s a with
   |some v=>one h (zd P t v h)
   |none=>none)
 | .store t a x=>(match j6 s a,j6 s x with
   |some p,some v=>(match xS P t p v h with
    |some h'=>some (undef,h')
    |none=>none)
   |_,_=>none)
 | .nilCheck x=>(match j6 s x with
   |some (.pointer (some a))=>some (.pointer (some a),h)
   |some (.func (.func f) a c)=>some (.func (.func f) a c,h)
   |_=>none)
 | .binOp op t x y _=>(match j6 s x,j6 s y with
   |some a,some b=>one h (zX P op t x y a b)
   |_,_=>none)
 | .unOp op _ x=>(match j6 s x with
   |some a=>cond (flat a) (one h (fl (yQ P (Op.unary op a)))) none
   |none=>none)
 | .convert src dst x=>(match j6 s x with
   |some a=>ud P src dst a h
   |none=>none)
 | .makeInterface t x=>(match j6 s x with
   |some a=>(match yQ P (Instr.makeInterface t (.bool true)) with
    |some _=>some (.iface t a,h)
    |none=>none)
   |none=>none)
 | .makeFunc (.func f) first captured=>(match aR s first.toList,aR s captured.toList with
   |some a,some c=>some (.func (.func f) a.toArray c.toArray,h)
   |_,_=>none)
 | .makeSlice t l c=>(match j6 s l,j6 s c with
   |some a,some b=>Wo P t a b h
   |_,_=>none)
 | .slice t x lo hi none=>(match j6 s x,EB s lo,EB s hi with
   |some (.string str),some a,some b=>(match flatSlice P t str a b with
    |some v=>some (v,h)
    |none=>none)
   |some v,some a,some b=>one h (tj P t v a b h)
   |_,_,_=>none)
 | .fieldAddr t x f=>(match j6 s x with
   |some a=>one h (zg P t a f)
   |none=>none)
 | .field t x f=>(match j6 s x with
   |some (.agg cs)=>(match yQ P (underlying t) with
    |some (.struct fields)=>(match fields[f]? with
     |some fd=>one h (apart P fd.type cs.toList fd.offset)
     |none=>none)
    |_=>none)
   |_=>none)
 | .indexAddr t x i=>(match j6 s x,j6 s i with
   |some a,some b=>one h (yh P t a b)
   |_,_=>none)
 | .index t x i=>(match j6 s x,j6 s i with
   |some a,some b=>cond (flat a&&flat b) (one h (fl (yQ P (Instr.index t a b)))) none
   |_,_=>none)
 | .extract x i=>(match j6 s x with
   |some (.tuple vs)=>one h vs[i]?
   |_=>none)
 | .call {callee := .builtin b,args,argTypes}=>(match aR s args.toList with
   |some vs=>zB P b argTypes.toList o.type vs h
   |none=>none)
 | .makeMap _ none=>some (aU h)
 | .lookup t x k ok=>(match j6 s x,j6 s k with
   |some a,some b=>one h (Bc P t a b ok h)
   |_,_=>none)
 | .mapUpdate t m k x=>(match j6 s m,j6 s k,j6 s x with
   |some a,some b,some c=>(match VC P t a b c h with
    |some h'=>some (undef,h')
    |none=>none)
   |_,_,_=>none)
 | .range t x=>(match j6 s x with
   |some a=>td P t a h
   |none=>none)
 | .next x str=>(match j6 s x with
   |some a=>FX P a str h
   |none=>none)
 | .entry x=>(match j6 s x with
   |some a=>one h (Hk a h)
   |none=>none)
 |_=>none
 where
  flatSlice (P:Program) (t:TypeId) (str:ByteArray) (a b:Option aaa):Option aaa :=
   cond (Nb a&&Nb b) (fl (yQ P (Instr.sliceAt t (.string str) a b none))) none
end
noncomputable section
variable {P:Program}
def Bu(P:Program)(ρ:xt)(h:za)(w:World)(s:Sem Next)(v:aaa)(h':za):Prop :=
 ∃n w' ρ' v',s.run P w=.ok n w'/\(n=.value v'\/(n=.skip/\v'=undef))/\Step P ρ h w ρ' h' w'/\zS ρ' v v'
theorem Bu.val{ρ:xt}{h h':za}{w:World}{s:Sem aaa}{v:aaa}(e:∃v' w' ρ',s.run P w=.ok v' w'/\Step P ρ h w ρ' h' w'/\zS ρ' v v') :
  Bu P ρ h w (do pure (.value (<- s))) v h':=by
 obtain⟨v',w',ρ',e,st,hv⟩:=e;exact⟨.value v',w',ρ',v',by rw[aan,e];rfl,.inl rfl,st,hv⟩
theorem Bu.still{ρ:xt}{h:za}{w:World}{s:Sem aaa}{v:aaa}(hr:Rel P ρ h w)(e:∃v',s.run P w=.ok v' w/\zS ρ v v') :
  Bu P ρ h w (do pure (.value (<- s))) v h:=by
 obtain⟨v',e,hv⟩:=e;exact .val ⟨v',w,ρ,e,.refl hr,hv⟩
theorem Bu.pure{ρ:xt}{h:za}{w:World}{v v':aaa}(hr:Rel P ρ h w)(hv:zS ρ v v'):Bu P ρ h w (Pure.pure (.value v')) v h :=
 ⟨.value v',w,ρ,v',rfl,.inl rfl,.refl hr,hv⟩
theorem vD{h h':za}{x:Option aaa}{v:aaa}(e:one h x=some (v,h')):x=some v/\h'=h:=by
 unfold one at e;split at e
 ·cases e
 ·simp only[aab,aaj]at e;obtain⟨rfl,rfl⟩:=e;exact⟨rfl,rfl⟩
theorem DT{ρ:xt}{h:za}{w:World}{c v:aaa}{b:Bool}{va vb:aaa}(hr:Rel P ρ h w)(hc:zS ρ (.bool b) c)(hv:zS ρ v (if b=true then va else vb)) :
  Bu P ρ h w (do Pure.pure (.value (if <- asBool c then va else vb))) v h:=by
 cases hc;exact⟨_,w,ρ,_,by simp only[asBool,aan,aaw,aah],.inl rfl,.refl hr,hv⟩
theorem Ew{ρ:xt}{t:TypeId}{a b a' b' v:aaa}(hf:(flat a&&flat b)=true)(h:fl (yQ P (Instr.index t a b))=some v)(ha:zS ρ a a')(hb:zS ρ b b')(w:World) :
  ∃v',(Instr.index t a' b').run P w=.ok v' w/\zS ρ v v':=by
 simp only[aag]at hf;obtain rfl:=Yg ha hf.1;obtain rfl:=Yg hb hf.2;obtain⟨h1,h2⟩:=KR h;exact⟨v,zv h1 w,.of_flat ρ h2⟩
theorem GC{ρ:xt}{x x':Option aaa}(h:Tt ρ x x')(hf:Nb x=true):x'=x:=by
 cases x with
 |none=>exact h.2 rfl
 |some v=>obtain⟨v',rfl,hv⟩:=h.1 v rfl;rw[Yg hv hf]
set_option maxHeartbeats 1000000 in
theorem FY{ρ:xt}{s:Env}{a:Act}{o:Oper}{h h':za}{v:aaa}{w:World}(he:mB P s o h=some (v,h'))(hr:Rel P ρ h w)(hs:vE ρ s a.tmps) :
  Bu P ρ h w (execOp a.eval o) v h':=by
 unfold mB at he;split at he
 ·
  rename_i x xe;obtain⟨h1,rfl⟩:=vD he;simp only[execOp,xe];exact .pure hr (yk hs h1)
 ·
  rename_i x xe;obtain⟨h1,rfl⟩:=vD he;simp only[execOp,xe];exact .pure hr (yk hs h1)
 ·
  rename_i c x y xe;simp only[execOp,xe];split at he
  ·rename_i hc;obtain⟨h1,rfl⟩:=vD he;exact DT hr (yk hs hc) (by rw[aai rfl];exact yk hs h1)
  ·rename_i hc;obtain⟨h1,rfl⟩:=vD he;exact DT hr (yk hs hc) (by rw[aac (by decide)];exact yk hs h1)
  ·cases he
 ·
  rename_i t x xe;simp only[execOp,xe];split at he
  case h_2=>cases he
  rename_i u hu;simp only[aab,ER,aaj]at he;obtain⟨rfl,rfl⟩:=he;obtain⟨a',w',ρ',e,st,hv⟩:=rC hr (yk hs hu) t;exact .val ⟨_,w',ρ',by simp only[Instr.box,aan,e,aah,aaw],st,hv⟩
 ·
  rename_i t xe;simp only[execOp,xe];split at he
  case h_2=>cases he
  rename_i z hz;simp only[aab,ER,aaj]at he;obtain⟨rfl,rfl⟩:=he;obtain⟨z1,z2⟩:=Wq (ρ:=ρ) hz w;obtain⟨a',w',ρ',e,st,hv⟩:=rC hr z2 t;exact .val ⟨_,w',ρ',by simp only[Instr.alloc,aan,z1,e,aah,aaw],st,hv⟩
 ·
  rename_i t parts xe;simp only[execOp,xe];split at he
  case h_2=>cases he
  rename_i ps hps;obtain⟨h1,rfl⟩:=vD he;have hp:=dI hs hps;obtain⟨v',e,hv⟩:=Hd h1 hp w;refine .still hr ⟨v',?_,hv⟩;rw[<- e]
  congr 1
  congr 1
  apply acv;simp
 ·
  rename_i t len parts xe;simp only[execOp,xe];split at he
  case h_2=>cases he
  rename_i ps hps;have hp:=dI hs hps;obtain⟨v',w',ρ',e,st,hv⟩:=pz he hr hp;refine .val ⟨v',w',ρ',?_,st,hv⟩;rw[<- e]
  congr 1
  congr 1
  apply acv;simp
 ·
  rename_i t x xe;simp only[execOp,xe];split at he
  case h_2=>cases he
  rename_i u hu;obtain⟨h1,rfl⟩:=vD he;exact .still hr (Az h1 hr (yk hs hu))
 ·
  rename_i t p x xe;simp only[execOp,xe];split at he
  case h_2=>cases he
  rename_i pv xv hp hx;split at he
  case h_2=>cases he
  rename_i h2 hst;simp only[aab,aaj]at he;obtain⟨rfl,rfl⟩:=he;obtain⟨w',e,st⟩:=Hx hst hr (yk hs hp) (yk hs hx);exact⟨.skip,w',ρ,undef,by rw[aan,e];rfl,.inr ⟨rfl,rfl⟩,st,.YT _ rfl⟩
 ·
  rename_i x xe;simp only[execOp,xe];split at he
  ·rename_i p hp;simp only[aab,aaj]at he;obtain⟨rfl,rfl⟩:=he;have e:=yk hs hp;generalize a.eval x=xv at e;cases e with
   |ptr hb hm=>exact .pure hr (.ptr hb hm)
   |XR=>exact .pure hr .XR
  ·rename_i f fa fc hp;simp only[aab,aaj]at he;obtain⟨rfl,rfl⟩:=he;have e:=yk hs hp;generalize a.eval x=xv at e;cases e with
   |func h1 h2 h3 h4=>exact .pure hr (.func h1 h2 h3 h4)
  ·cases he
 ·
  rename_i op t x y yt xe;simp only[execOp,xe];split at he
  case h_2=>cases he
  rename_i xv yv hx hy;obtain⟨h1,rfl⟩:=vD he;exact .still hr (LV h1 (yk hs hx) (yk hs hy) w)
 ·
  rename_i op t x xe;simp only[execOp,xe];split at he
  case h_2=>cases he
  rename_i xv hx;obtain⟨hf,he⟩:=zE he;obtain⟨h1,rfl⟩:=vD he;obtain⟨h2,h3⟩:=KR h1;rw[Yg (yk hs hx) hf];exact .still hr ⟨v,zv h2 w,.of_flat ρ h3⟩
 ·
  rename_i src dst x xe;simp only[execOp,xe];split at he
  case h_2=>cases he
  rename_i xv hx;exact .val (LZ he hr (yk hs hx))
 ·
  rename_i t x xe;simp only[execOp,xe];split at he
  case h_2=>cases he
  rename_i xv hx;split at he
  case h_2=>cases he
  rename_i u hu;simp only[aab,aaj]at he;obtain⟨rfl,rfl⟩:=he;refine .still hr ⟨.iface t (a.eval x),?_,.iface (yk hs hx)⟩;have:=zv hu w;simp only[Instr.makeInterface,aan]at this ⊢;cases hun:(underlying t).run P w with
  |halt e w2=>rw[hun]at this;cases this
  |ok d w2=>
   rw[hun]at this;simp only[aah]at this ⊢;cases d <;> simp_all
 ·
  rename_i f first captured xe
  simp only[execOp,xe];split at he
  case h_2=>cases he
  rename_i av cv ha hc;simp only[aab,aaj]at he;obtain⟨rfl,rfl⟩:=he;have e1:=ZH hs ha;have e2:=ZH hs hc;refine .still hr ⟨.func (.func f) (first.map a.eval) (captured.map a.eval),rfl,.func (by simpa using e1.1) (by simpa using e2.1) (λi x y hx hy=>e1.2 i x y (by simpa using hx) (by simpa using hy)) (λi x y hx hy=>e2.2 i x y (by simpa using hx) (by simpa using hy))⟩
 ·
  rename_i t l c xe;simp only[execOp,xe];split at he
  case h_2=>cases he
  rename_i lv cv hl hc;exact .val (L8 he hr (yk hs hl) (yk hs hc))
 ·
  rename_i t x lo hi xe;simp only[execOp,xe];split at he
  ·rename_i str av bv hx ha hb;split at he
   case h_2=>cases he
   rename_i u hu;simp only[aab,aaj]at he;obtain⟨rfl,rfl⟩:=he;obtain⟨hf,hu⟩:=zE hu;simp only[aag]at hf;obtain⟨h1,h2⟩:=KR hu;rw[Yg (yk hs hx) rfl,GC (dG hs ha) hf.1,GC (dG hs hb) hf.2];exact .still hr ⟨u,zv h1 w,.of_flat ρ h2⟩
  ·rename_i xv av bv _ hx ha hb;obtain⟨h1,rfl⟩:=vD he;exact .still hr (Hw h1 hr (yk hs hx) (dG hs ha) (dG hs hb))
  ·cases he
 ·
  rename_i t x f xe;simp only[execOp,xe];split at he
  case h_2=>cases he
  rename_i xv hx;obtain⟨h1,rfl⟩:=vD he;exact .still hr (Hp h1 (yk hs hx) w)
 ·
  rename_i t x f xe;simp only[execOp,xe];split at he
  case h_2=>cases he
  rename_i cs hx;split at he
  case h_2=>cases he
  rename_i fields hu;split at he
  case h_2=>cases he
  rename_i fd hfd;obtain⟨h1,rfl⟩:=vD he;have e:=yk hs hx;generalize a.eval x=xv at e;cases e with
  |agg h2 h3=>
   rename_i cs';obtain⟨v',e,hv⟩:=Mc (cs':=cs') h1 ⟨by simpa using h2,λi x y hx hy=>h3 i x y (by simpa using hx) (by simpa using hy)⟩ w;refine .still hr ⟨v',?_,hv⟩;simp only[Instr.field,aan,zv hu,aah,hfd,asAgg,aaw,e]
 ·
  rename_i t x i xe;simp only[execOp,xe];split at he
  case h_2=>cases he
  rename_i xv iv hx hi;obtain⟨h1,rfl⟩:=vD he;exact .still hr (Hq h1 (yk hs hx) (yk hs hi) w)
 ·
  rename_i t x i xe;simp only[execOp,xe];split at he
  case h_2=>cases he
  rename_i xv iv hx hi;obtain⟨hf,he⟩:=zE he;obtain⟨h1,rfl⟩:=vD he;exact .still hr (Ew hf h1 (yk hs hx) (yk hs hi) w)
 ·
  rename_i x i xe;simp only[execOp,xe];split at he
  case h_2=>cases he
  rename_i vs hx;obtain⟨h1,rfl⟩:=vD he;have e:=yk hs hx;generalize a.eval x=xv at e;cases e with
  |tuple h2 h3=>
   rename_i vs'
   have hlt:i<vs.size:=by
    rcases aar i vs.size with h|h
    ·exact h
    ·rw[aaO h]at h1;cases h1
   have hy:vs'[i]? = some vs'[i]:=aaP (h2 ▸ hlt);refine .still hr ⟨vs'[i]'(h2 ▸ hlt),?_,h3 i _ _ h1 hy⟩;simp only[Instr.extract,hy,aaw]
 ·
  rename_i b args ts xe;simp only[execOp,xe];split at he
  case h_2=>cases he
  rename_i vs hvs;have e:=ZH hs hvs;obtain⟨v',w',ρ',e1,st,hv⟩:=CR (cs:=args.map λ | .const _=>true|_=>false) he hr e;refine⟨.value v',w',ρ',v',?_,.inl rfl,st,hv⟩;simp only[resolve,aan,aaw,aah,invoke];rw[<- e1]
  congr 2
  apply acv;simp
 ·
  rename_i t xe;simp only[execOp,xe];simp only[aab]at he;obtain⟨v',w',ρ',e,st,hv⟩:=CX hr t;rw[he]at st hv;exact .val ⟨v',w',ρ',e,st,hv⟩
 ·
  rename_i t x k ok xe;simp only[execOp,xe];split at he
  case h_2=>cases he
  rename_i xv kv hx hk;obtain⟨h1,rfl⟩:=vD he;exact .still hr (Ey h1 hr (yk hs hx) (yk hs hk))
 ·
  rename_i t m k x xe;simp only[execOp,xe];split at he
  case h_2=>cases he
  rename_i mv kv xv hm hk hx;split at he
  case h_2=>cases he
  rename_i h2 hu;simp only[aab,aaj]at he;obtain⟨rfl,rfl⟩:=he;obtain⟨w',e,st⟩:=sZ hu hr (yk hs hm) (yk hs hk) (yk hs hx);exact⟨.skip,w',ρ,undef,by simp only[aan,e,aah,aaw],.inr ⟨rfl,rfl⟩,st,.YT _ rfl⟩
 ·
  rename_i t x xe;simp only[execOp,xe];split at he
  case h_2=>cases he
  rename_i xv hx;exact .val (Hu he hr (yk hs hx))
 ·
  rename_i x str xe;simp only[execOp,xe];split at he
  case h_2=>cases he
  rename_i xv hx;exact .val (Ma he hr (yk hs hx))
 ·
  rename_i x xe;simp only[execOp,xe];split at he
  case h_2=>cases he
  rename_i xv hx;obtain⟨h1,rfl⟩:=vD he;exact .still hr (Hl h1 hr (yk hs hx))
 ·cases he
end
noncomputable section
variable {P:Program}
def vx(b:Frame)(tm:Array aaa)(ds:List Deferred)(todo:List Item):Frame :=
 {fn:=b.fn,tmps:=tm,todo,defers:=ds,mode := .run,kind:=b.kind,roundOf:=b.roundOf}
theorem Dj(b:Frame)(tm:Array aaa)(ds:List Deferred)(todo:List Item):(vx b tm ds todo).eval=(Act.eval ⟨tm,ds⟩):=by
 funext x;cases x <;> rfl
section moves
variable {b:Frame}{tm:Array aaa}{ds:List Deferred}{k:List Item}{cs:List Frame}{w:World}
theorem OT:step P (lone (vx b tm ds (.code .skip::k)) cs w)=.next (lone (vx b tm ds k) cs w):=step_lone_go (by simp[stepG,stepG.exec,vx])
theorem ML{l:Nat}:step P (lone (vx b tm ds (.code (.label l)::k)) cs w)=.next (lone (vx b tm ds k) cs w):=step_lone_go (by simp[stepG,stepG.exec,vx])
theorem EL{id:Nat}:step P (lone (vx b tm ds (.inBlock id::k)) cs w)=.next (lone (vx b tm ds k) cs w):=step_lone_go (by simp[stepG,stepG.exec,vx])
theorem EO{c:Code}:step P (lone (vx b tm ds (.inScope c::k)) cs w)=.next (lone (vx b tm ds k) cs w):=step_lone_go (by simp[stepG,stepG.exec,vx])
theorem tA{x y:Code}:step P (lone (vx b tm ds (.code (.seq x y)::k)) cs w)=.next (lone (vx b tm ds (.code x :: .code y::k)) cs w):=step_lone_go (by simp[stepG,stepG.exec,vx])
theorem OR{c:Operand}{x y:Code}{t:Bool}(h:Act.eval ⟨tm,ds⟩ c=.bool t):step P (lone (vx b tm ds (.code (.cond c x y)::k)) cs w)=.next (lone (vx b tm ds (.code (if t then x else y)::k)) cs w) :=
 step_lone_go (by
  have:=congrFun (Dj b tm ds (.code (.cond c x y)::k)) c;simp only[vx]at this;simp[stepG,stepG.exec,vx,this,h])
theorem KS{id:Nat}{c:Code}:step P (lone (vx b tm ds (.code (.block id c)::k)) cs w)=.next (lone (vx b tm ds (.code c :: .inBlock id::k)) cs w):=step_lone_go (by simp[stepG,stepG.exec,vx])
theorem iz{c:Code}:step P (lone (vx b tm ds (.code (.scope c)::k)) cs w)=.next (lone (vx b tm ds (.code c :: .inScope c::k)) cs w):=step_lone_go (by simp[stepG,stepG.exec,vx])
theorem eg{c:Code}:step P (lone (vx b tm ds (.code (.loop c)::k)) cs w)=.next (lone (vx b tm ds (.code c :: .inLoop c::k)) cs w):=step_lone_go (by simp[stepG,stepG.exec,vx])
theorem HR{c:Code}:step P (lone (vx b tm ds (.inLoop c::k)) cs w)=.next (lone (vx b tm ds (.code c :: .inLoop c::k)) cs w):=step_lone_go (by simp[stepG,stepG.exec,vx])
theorem OS{id:Nat}{k':List Item}(h:exitTo id k=some k'):step P (lone (vx b tm ds (.code (.exit id)::k)) cs w)=.next (lone (vx b tm ds k') cs w):=step_lone_go (by simp[stepG,stepG.exec,vx,h])
theorem HS{id:Nat}{ops:Array Oper}:step P (lone (vx b tm ds (.code (.region id ops false)::k)) cs w)=.next (lone (vx b tm ds (.inRegion ops (List.range ops.size)::k)) cs w):=step_lone_go (by simp[stepG,stepG.exec,vx])
theorem KT{id:Nat}{ops:Array Oper}:step P (lone (vx b tm ds (.code (.region id ops true)::k)) cs w) =
  .next (lone (vx b tm ds (.inRegion ops (Region.schedule (P.follows .mixedOrders) ops (w.tape w.drawn (.order b.fn id)))::k)) cs {w with drawn:=w.drawn+1}) :=
 step_lone_go (by simp[stepG,stepG.exec,vx,choose,Sem.run,Question.forced,Question.cut])
theorem VI{ops:Array Oper}:step P (lone (vx b tm ds (.inRegion ops []::k)) cs w)=.next (lone (vx b tm ds k) cs w):=step_lone_go (by simp[stepG,stepG.exec,vx])
theorem zam(hb:b.roundOf=none):step P (lone (vx b tm ds (.code .ret::k)) cs w)=.next (lone {vx b tm ds (.code .ret::k) with mode := .returning} cs w) :=
 step_lone_go (by simp[stepG,stepG.exec,vx,hb])
theorem zal(hb:b.roundOf=none):step P (lone (vx b tm ds []) cs w)=.next (lone {vx b tm ds [] with mode := .returning} cs w) :=
 step_lone_go (by simp[stepG,stepG.exec,vx,hb])
theorem ZJ(ops:Array Oper)(i:Nat)(rest:List Nat)(v:aaa) :
  (vx b tm ds (.inRegion ops (i::rest)::k)).finish v=vx b (qP tm ((ops[i]?).bind (·.dst)) v) ds (.inRegion ops rest::k):=by
 cases h:(ops[i]?).bind (·.dst) <;> simp[Frame.finish,vx,qP,h]
theorem mG{ops:Array Oper}{i:Nat}{rest:List Nat}(h:((ops[i]?).map (Region.wanted · (yielded ops tm))).getD false=false) :
  step P (lone (vx b tm ds (.inRegion ops (i::rest)::k)) cs w)=.next (lone ((vx b tm ds (.inRegion ops (i::rest)::k)).finish undef) cs w):=by
 exact step_lone_go (by
  have h':=h;simp only[vx]at *
  simp[stepG,stepG.exec,h'])
def VX:Op->Bool
 | .defer _=>true
 |_=>false
theorem ma{ops:Array Oper}{i:Nat}{rest:List Nat}{o:Oper}(ho:ops[i]? = some o)(hw:Region.wanted o (yielded ops tm)=true)(hd:VX o.op=false) :
  stepG P true {frame:=vx b tm ds (.inRegion ops (i::rest)::k),callers:=cs,status := .running,dying:=none} w =
   stepG.apply P true (vx b tm ds (.inRegion ops (i::rest)::k)) cs none (execOp (Act.eval ⟨tm,ds⟩) o) w:=by
 have he:=Dj b tm ds (.inRegion ops (i::rest)::k);have hw':((ops[i]?).map (Region.wanted · (yielded ops tm))).getD false=true:=by rw[ho];exact hw
 have h2:(vx b tm ds (.inRegion ops (i::rest)::k)).oper? = some o:=by simp[Frame.oper?,vx,ho]
 have h1:stepG P true {frame:=vx b tm ds (.inRegion ops (i::rest)::k),callers:=cs,status := .running,dying:=none} w=stepG.oper P true (vx b tm ds (.inRegion ops (i::rest)::k)) cs none w:=by
  simp only[stepG,vx];simp only[stepG.exec,hw'];rfl
 rw[h1];simp only[stepG.oper,h2,he];cases hro:(vx b tm ds (.inRegion ops (i::rest)::k)).roundOf with
 |none=>rfl
 |some l=>cases xe:o.op <;> first|rfl|(rw[xe]at hd;cases hd)
theorem WK{ops:Array Oper}{i:Nat}{rest:List Nat}{o:Oper}(ho:ops[i]? = some o)(hw:Region.wanted o (yielded ops tm)=true)(hd:VX o.op=false){v:aaa}{w':World}
  (hr:(execOp (Act.eval ⟨tm,ds⟩) o).run P w=.ok (.value v) w') :
  step P (lone (vx b tm ds (.inRegion ops (i::rest)::k)) cs w)=.next (lone ((vx b tm ds (.inRegion ops (i::rest)::k)).finish v) cs w') :=
 step_lone_go (by rw[ma ho hw hd];simp[stepG.apply,hr])
theorem VW{ops:Array Oper}{i:Nat}{rest:List Nat}{o:Oper}(ho:ops[i]? = some o)(hw:Region.wanted o (yielded ops tm)=true)(hd:VX o.op=false){w':World}
  (hr:(execOp (Act.eval ⟨tm,ds⟩) o).run P w=.ok .skip w') :
  step P (lone (vx b tm ds (.inRegion ops (i::rest)::k)) cs w)=.next (lone ((vx b tm ds (.inRegion ops (i::rest)::k)).finish undef) cs w') :=
 step_lone_go (by rw[ma ho hw hd];simp[stepG.apply,hr])
theorem iy{ops:Array Oper}{i:Nat}{rest:List Nat}{o:Oper}(ho:ops[i]? = some o)(hw:Region.wanted o (yielded ops tm)=true)(hd:VX o.op=false){f:FuncId}{args:Array aaa}{w':World}
  (hr:(execOp (Act.eval ⟨tm,ds⟩) o).run P w=.ok (.enter f args) w') :
  step P (lone (vx b tm ds (.inRegion ops (i::rest)::k)) cs w)=.next (lone (Frame.enter P f args .normal) (vx b tm ds (.inRegion ops (i::rest)::k)::cs) w') :=
 step_lone_go (by rw[ma ho hw hd];simp[stepG.apply,hr,vx])
end moves
end
noncomputable section
variable {P:Program}
inductive Ex where
 |normal
 |exit (id:Nat)
 |ret
 deriving DecidableEq
def Arr(P:Program)(m:Machine)(b:Frame)(k:List Item)(cs:List Frame)(e:Ex)(tm:Array aaa)(ds:List Deferred)(w:World):Prop :=
 match e with
 | .normal=>Steps P m (lone (vx b tm ds k) cs w)
 | .exit id=>∃todo,exitTo id todo=exitTo id k/\Steps P m (lone (vx b tm ds (.code (.exit id)::todo)) cs w)
 | .ret=>∃todo,Steps P m (lone (vx b tm ds (.code .ret::todo)) cs w)
theorem Arr.of_steps{m m₁:Machine}{b:Frame}{k:List Item}{cs:List Frame}{e:Ex}{tm:Array aaa}{ds:List Deferred}{w:World}(h:Steps P m m₁)(h':Arr P m₁ b k cs e tm ds w):Arr P m b k cs e tm ds w:=by
 cases e with
 |normal=>exact h.trans h'
 |exit id=>obtain⟨t,e,s⟩:=h';exact⟨t,e,h.trans s⟩
 |ret=>obtain⟨t,s⟩:=h';exact⟨t,h.trans s⟩
theorem zdp{ρ:xt}{h:za}{w:World}(hr:Rel P ρ h w){r:Nat}{o:Obj}(ho:w.heap[r]? = some o)(hn:∃x,o=.deferred x):¬ot ρ h r:=by
 rintro⟨b,ob,pl,hg,_,hm,rfl⟩;obtain⟨x,rfl⟩:=hn;have hc:=hr.zds hg hm;cases ob with
 |cells c t=>obtain⟨cs,fz,h1,_⟩:=hc;rw[h1]at ho;cases ho
 |map es q=>obtain⟨ms,h1,_⟩:=hc;rw[h1]at ho;cases ho
 |iter m a b c=>obtain⟨m',h1,_⟩:=hc;rw[h1]at ho;cases ho
 |tab c=>obtain⟨t,cs,fz,h1,_⟩:=hc;rw[h1]at ho;cases ho
 |siter s pos=>have h1:w.heap[pl.c]? = _:=hc.1;rw[h1]at ho;cases ho
 |loop l=>obtain⟨tm,d,fn,h1,_⟩:=hc;rw[h1]at ho;cases ho
theorem tH{w:World}{r:Nat}{o:Obj}(h:w.heap[r]? = some o):r<w.heap.size:=by
 rcases aar r w.heap.size with hl|hl
 ·exact hl
 ·rw[aaO hl]at h;cases h
def M4(r:Nat):Deferred:={target := .collected r,args := #[]}
def fh(w:World)(ds:List Deferred)(w':World)(ds':List Deferred):Prop :=
 ∃rs:List Nat,ds'=rs.map M4++ds/\rs.Nodup /\ ∀r,r∈rs->w.heap.size<=r/\w'.heap[r]? = some (.deferred (some []))
theorem fh.refl(w w':World)(ds:List Deferred):fh w ds w' ds:=⟨[],rfl,List.nodup_nil,λr h=>by cases h⟩
theorem fh.trans{ρ ρ':xt}{h h':za}{w w1 w2:World}{ds ds1 ds2:List Deferred}(a:fh w ds w1 ds1)(b:fh w1 ds1 w2 ds2)(hle:w.heap.size<=w1.heap.size)(hr:Rel P ρ h w1)(st:Step P ρ h w1 ρ' h' w2):fh w ds w2 ds2:=by
 obtain⟨rs,h1,h2,h3⟩:=a;obtain⟨rs2,k1,k2,k3⟩:=b;refine⟨rs2++rs,by rw[k1,h1,abp,acf],List.nodup_append.2 ⟨k2,h2,λx hx y hy e=>?_⟩,λr hr'=>?_⟩
 ·have:=(k3 x hx).1;have:=tH (h3 y hy).2;omega
 ·rcases aaQ.1 hr' with hm|hm
  ·exact⟨aaS hle (k3 r hm).1,(k3 r hm).2⟩
  ·have:=(h3 r hm).2;refine⟨(h3 r hm).1,?_⟩;rw[st.frame r (tH this) (zdp hr this ⟨_,rfl⟩)];exact this
def Rd(ρ:xt)(rd:Option Nat)(b:Frame):Prop :=
 match rd with
 |none=>b.roundOf=none
 |some l=>l<ρ.next /\ ∃pl,ρ.m l=some pl/\b.roundOf=some pl.c
theorem Rd.mono{ρ ρ':xt}(hle:ρ.le ρ'){rd:Option Nat}{b:Frame}(h:Rd ρ rd b):Rd ρ' rd b:=by
 cases rd with
 |none=>exact h
 |some l=>exact⟨aao h.1 hle.1,by obtain⟨pl,hp,hb⟩:=h.2;exact⟨pl,(hle.2 l h.1).trans hp,hb⟩⟩
def T(P:Program)(rd:Option Nat)(c:Code)(s:Env)(h:za)(Q:Ex->Env->za->Prop):Prop :=
 ∀(ρ:xt) (w:World) (tm:Array aaa) (ds:List Deferred),Rel P ρ h w->vE ρ s tm->∀(b:Frame),Rd ρ rd b->∀(k:List Item) (cs:List Frame),
  ∃e s' h' ρ' w' tm' ds',Q e s' h'/\Step P ρ h w ρ' h' w'/\vE ρ' s' tm'/\fh w ds w' ds'/\Arr P (lone (vx b tm ds (.code c::k)) cs w) b k cs e tm' ds' w'
def TO(P:Program)(ops:Array Oper)(l:List Nat)(s:Env)(h:za)(Q:Env->za->Prop):Prop :=
 ∀(ρ:xt) (w:World) (tm:Array aaa) (ds:List Deferred),Rel P ρ h w->vE ρ s tm->∀(b:Frame) (k:List Item) (cs:List Frame),
  ∃s' h' ρ' w' tm',Q s' h'/\Step P ρ h w ρ' h' w'/\vE ρ' s' tm'/\Steps P (lone (vx b tm ds (.inRegion ops l::k)) cs w) (lone (vx b tm' ds (.inRegion ops []::k)) cs w')
def TC(P:Program)(f:FuncId)(args:List aaa)(h:za)(R:aaa->za->Prop):Prop :=
 ∀(ρ:xt) (w:World) (cargs:List aaa),Rel P ρ h w->xV ρ args cargs ->
  Calls P f cargs.toArray w λe w'=>∃v v' h' ρ',e=.returned v'/\R v h'/\Step P ρ h w ρ' h' w'/\zS ρ' v v'
section rules
variable {rd:Option Nat}{s:Env}{h:za}{Q:Ex->Env->za->Prop}
theorem T.mono{c:Code}{Q':Ex->Env->za->Prop}(ht:T P rd c s h Q)(hq:∀e s h,Q e s h->Q' e s h):T P rd c s h Q':=by
 intro ρ w tm ds hr hs b hb k cs;obtain⟨e,s',h',ρ',w',tm',ds',q,r⟩:=ht ρ w tm ds hr hs b hb k cs;exact⟨e,s',h',ρ',w',tm',ds',hq _ _ _ q,r⟩
theorem TC.mono{f:FuncId}{args:List aaa}{R R':aaa->za->Prop}(ht:TC P f args h R)(hq:∀v h,R v h->R' v h):TC P f args h R':=by
 intro ρ w cargs hr hv;refine(ht ρ w cargs hr hv).mono λe w'=>?_;rintro⟨v,v',h',ρ',e1,q,r⟩;exact⟨v,v',h',ρ',e1,hq _ _ q,r⟩
theorem zba(hq:Q .normal s h):T P rd .skip s h Q:=λρ w tm ds hr hs b hb k cs=>⟨.normal,s,h,ρ,w,tm,ds,hq,.refl hr,hs,.refl _ _ _,.one OT⟩
theorem PV{l:Nat}(hq:Q .normal s h):T P rd (.label l) s h Q:=λρ w tm ds hr hs b hb k cs=>⟨.normal,s,h,ρ,w,tm,ds,hq,.refl hr,hs,.refl _ _ _,.one ML⟩
theorem za9{id:Nat}(hq:Q (.exit id) s h):T P rd (.exit id) s h Q:=λρ w tm ds hr hs b hb k cs=>⟨.exit id,s,h,ρ,w,tm,ds,hq,.refl hr,hs,.refl _ _ _,k,rfl,.refl P _⟩
theorem zfq(hq:Q .ret s h):T P rd .ret s h Q:=λρ w tm ds hr hs b hb k cs=>⟨.ret,s,h,ρ,w,tm,ds,hq,.refl hr,hs,.refl _ _ _,k,.refl P _⟩
theorem PX{x y:Code}(ht:T P rd x s h (λe s1 h1=>match e with | .normal=>T P rd y s1 h1 Q|e=>Q e s1 h1)):T P rd (.seq x y) s h Q:=by
 intro ρ w tm ds hr hs b hb k cs;obtain⟨e,s1,h1,ρ1,w1,tm1,ds1,q,st,hs1,hd1,ha⟩:=ht ρ w tm ds hr hs b hb (.code y::k) cs;cases e with
 |normal=>
  obtain⟨e2,s2,h2,ρ2,w2,tm2,ds2,q2,st2,hs2,hd2,ha2⟩:=q ρ1 w1 tm1 ds1 st.rel hs1 b (hb.mono st.le) k cs;exact⟨e2,s2,h2,ρ2,w2,tm2,ds2,q2,st.trans st2,hs2,hd1.trans hd2 st.size st.rel st2,.of_steps (.head tA ha) ha2⟩
 |exit id=>obtain⟨t,et,sx⟩:=ha;exact⟨_,s1,h1,ρ1,w1,tm1,ds1,q,st,hs1,hd1,t,et,.head tA sx⟩
 |ret=>obtain⟨t,sx⟩:=ha;exact⟨_,s1,h1,ρ1,w1,tm1,ds1,q,st,hs1,hd1,t,.head tA sx⟩
theorem GW{c:Operand}{x y:Code}{t:Bool}(hc:j6 s c=some (.bool t))(ht:T P rd (if t then x else y) s h Q):T P rd (.cond c x y) s h Q:=by
 intro ρ w tm ds hr hs b hb k cs;obtain⟨e,s1,h1,ρ1,w1,tm1,ds1,q,st,hs1,hd1,ha⟩:=ht ρ w tm ds hr hs b hb k cs;have he:=yk (a:=⟨tm,ds⟩) hs hc
 have:Act.eval ⟨tm,ds⟩ c=.bool t:=by
  generalize Act.eval ⟨tm,ds⟩ c=v at he;cases he;rfl
 exact⟨e,s1,h1,ρ1,w1,tm1,ds1,q,st,hs1,hd1,.of_steps (.one (OR this)) ha⟩
theorem ov{id:Nat}{c:Code}(ht:T P rd c s h (λe s1 h1=>if e=.exit id then Q .normal s1 h1 else Q e s1 h1)):T P rd (.block id c) s h Q:=by
 intro ρ w tm ds hr hs b hb k cs;obtain⟨e,s1,h1,ρ1,w1,tm1,ds1,q,st,hs1,hd1,ha⟩:=ht ρ w tm ds hr hs b hb (.inBlock id::k) cs;cases e with
 |normal=>rw[aac (by simp)]at q;exact⟨.normal,s1,h1,ρ1,w1,tm1,ds1,q,st,hs1,hd1,.head KS (acn ha (.one EL))⟩
 |exit id'=>
  obtain⟨t,et,sx⟩:=ha;by_cases hid:id'=id
  ·subst hid;rw[aai rfl]at q;refine⟨.normal,s1,h1,ρ1,w1,tm1,ds1,q,st,hs1,hd1,.head KS (sx.trans (.one (OS (k':=k) ?_)))⟩;rw[et];simp[exitTo]
  ·rw[aac (by simpa using hid)]at q;refine⟨.exit id',s1,h1,ρ1,w1,tm1,ds1,q,st,hs1,hd1,t,?_,.head KS sx⟩;rw[et];have:(id == id')=false:=by simp;exact λh=>hid h.symm
   simp[exitTo,this]
 |ret=>obtain⟨t,sx⟩:=ha;rw[aac (by simp)]at q;exact⟨.ret,s1,h1,ρ1,w1,tm1,ds1,q,st,hs1,hd1,t,.head KS sx⟩
theorem PW{c:Code}(ht:T P rd c s h Q):T P rd (.scope c) s h Q:=by
 intro ρ w tm ds hr hs b hb k cs;obtain⟨e,s1,h1,ρ1,w1,tm1,ds1,q,st,hs1,hd1,ha⟩:=ht ρ w tm ds hr hs b hb (.inScope c::k) cs;cases e with
 |normal=>exact⟨.normal,s1,h1,ρ1,w1,tm1,ds1,q,st,hs1,hd1,.head iz (acn ha (.one EO))⟩
 |exit id=>obtain⟨t,et,sx⟩:=ha;exact⟨_,s1,h1,ρ1,w1,tm1,ds1,q,st,hs1,hd1,t,by rw[et];simp[exitTo],.head iz sx⟩
 |ret=>obtain⟨t,sx⟩:=ha;exact⟨_,s1,h1,ρ1,w1,tm1,ds1,q,st,hs1,hd1,t,.head iz sx⟩
theorem Kc{c:Code}(ht:T P rd c s h (λe s1 h1=>match e with | .normal=>T P rd (.loop c) s1 h1 Q|e=>Q e s1 h1)):T P rd (.loop c) s h Q:=by
 intro ρ w tm ds hr hs b hb k cs;obtain⟨e,s1,h1,ρ1,w1,tm1,ds1,q,st,hs1,hd1,ha⟩:=ht ρ w tm ds hr hs b hb (.inLoop c::k) cs;cases e with
 |normal=>
  obtain⟨e2,s2,h2,ρ2,w2,tm2,ds2,q2,st2,hs2,hd2,ha2⟩:=q ρ1 w1 tm1 ds1 st.rel hs1 b (hb.mono st.le) k cs;refine⟨e2,s2,h2,ρ2,w2,tm2,ds2,q2,st.trans st2,hs2,hd1.trans hd2 st.size st.rel st2,?_⟩;have e0:step P (lone (vx b tm1 ds1 (.inLoop c::k)) cs w1)=step P (lone (vx b tm1 ds1 (.code (.loop c)::k)) cs w1):=by rw[HR,eg]
  have key:∀m',Steps P (lone (vx b tm1 ds1 (.code (.loop c)::k)) cs w1) m'->(m'=lone (vx b tm1 ds1 (.code (.loop c)::k)) cs w1)\/Steps P (lone (vx b tm1 ds1 (.inLoop c::k)) cs w1) m':=by
   rintro m' ⟨n,hn⟩;cases n with
   |zero=>left;simp[runN]at hn;exact hn.symm
   |succ n=>right;exact⟨n+1,by simp only[runN]at hn ⊢;rw[e0];exact hn⟩
  have go:∀m',Steps P (lone (vx b tm1 ds1 (.code (.loop c)::k)) cs w1) m'->m'≠lone (vx b tm1 ds1 (.code (.loop c)::k)) cs w1->Steps P (lone (vx b tm ds (.code (.loop c)::k)) cs w) m':=by
   intro m' hm hne;exact(Steps.head eg ha).trans ((key m' hm).resolve_left hne)
  have neq:∀(k':List Item) tm' ds' w',(k'=k\/(∃x t,k'=.code x::t /\ ∀c,x ≠ .loop c))->lone (vx b tm' ds' k') cs w'≠lone (vx b tm1 ds1 (.code (.loop c)::k)) cs w1:=by
   intro k' tm' ds' w' hk' e;simp only[lone,Machine.mk.injEq,Array.mk.injEq,abE,Goroutine.mk.injEq,vx,Frame.mk.injEq]at e;have e:=e.2.1.1.1.2.2.1;rcases hk' with rfl|⟨x,t,rfl,hx⟩
   ·have:=congrArg List.length e;simp at this
   ·simp only[abE,Item.code.injEq]at e;exact hx c e.1
  cases e2 with
  |normal=>exact go _ ha2 (neq _ _ _ _ (.inl rfl))
  |exit id=>obtain⟨t,et,sx⟩:=ha2;exact⟨t,et,go _ sx (neq _ _ _ _ (.inr ⟨_,_,rfl,λc=>by simp⟩))⟩
  |ret=>obtain⟨t,sx⟩:=ha2;exact⟨t,go _ sx (neq _ _ _ _ (.inr ⟨_,_,rfl,λc=>by simp⟩))⟩
 |exit id=>obtain⟨t,et,sx⟩:=ha;exact⟨_,s1,h1,ρ1,w1,tm1,ds1,q,st,hs1,hd1,t,by rw[et];simp[exitTo],.head eg sx⟩
 |ret=>obtain⟨t,sx⟩:=ha;exact⟨_,s1,h1,ρ1,w1,tm1,ds1,q,st,hs1,hd1,t,.head eg sx⟩
end rules
def yP(ops:Array Oper)(s:Env)(o:Oper):Bool :=
 match o.guard with
 |none=>true
 |some (j,want)=>(match (ops[j]?).bind (·.dst) with
  |none=>false
  |some d=>(match s.get d with
   | .bool b=>b == want
   |_=>false))
theorem VD{ρ:xt}{s:Env}{tm:Array aaa}(hs:vE ρ s tm)(ops:Array Oper)(o:Oper):Region.wanted o (yielded ops tm)=yP ops s o:=by
 unfold Region.wanted yP;split
 ·rename_i e;rw[e]
 ·rename_i j want e;rw[e];simp only[yielded];cases hd:(ops[j]?).bind (·.dst) with
  |none=>rfl
  |some d=>
   simp only[aaI];have hv:=hs.get d;cases ht:tm[d]? with
   |none=>
    have:tm.getD d undef=undef:=(by simp[aaG,ht]);rw[this]at hv;generalize s.get d=sv at hv;cases hv with
    |Iv h=>cases h
    |tuple _ _=>rfl
   |some tv=>
    have:tm.getD d undef=tv:=(by simp[aaG,ht]);rw[this]at hv;generalize s.get d=sv at hv;cases hv with
    |Iv h=>cases tv <;> first|rfl|cases h
    |bool bb=>cases bb <;> cases want <;> rfl
    |_=>rfl
section ops
variable {s:Env}{h:za}{Q:Env->za->Prop}{ops:Array Oper}
theorem za8(hq:Q s h):TO P ops [] s h Q:=λρ w tm ds hr hs b k cs=>⟨s,h,ρ,w,tm,hq,.refl hr,hs,.refl P _⟩
theorem QW{o:Oper}{v:aaa}{h1:za}(ho:mB P s o h=some (v,h1)):VX o.op=false:=by
 cases xe:o.op <;> first|rfl|(unfold mB at ho;rw[xe]at ho;cases ho)
theorem zfo{i:Nat}{rest:List Nat}{o:Oper}(ho:ops[i]? = some o)(hw:yP ops s o=true){v:aaa}{h1:za}{s1:Env}(hd:VX o.op=false)(hok:∀(ρ:xt) (w:World) (a:Act),Rel P ρ h w->vE ρ s a.tmps->Bu P ρ h w (execOp a.eval o) v h1)(hp:s.put o.dst v=some s1)(ht:TO P ops rest s1 h1 Q) :
  TO P ops (i::rest) s h Q:=by
 intro ρ w tm ds hr hs b k cs;obtain⟨n,w1,ρ1,v',e,hn,st,hv⟩:=hok ρ w ⟨tm,ds⟩ hr hs;have hs1:vE ρ1 s1 (qP tm o.dst v'):=(hs.mono st.le).put hv hp;obtain⟨s2,h2,ρ2,w2,tm2,q,st2,hs2,sx⟩:=ht ρ1 w1 _ ds st.rel hs1 b k cs;have hw':Region.wanted o (yielded ops tm)=true:=(VD hs ops o).trans hw;refine⟨s2,h2,ρ2,w2,tm2,q,st.trans st2,hs2,.head ?_ sx⟩
 have hfin:(vx b tm ds (.inRegion ops (i::rest)::k)).finish v'=vx b (qP tm o.dst v') ds (.inRegion ops rest::k):=by
  rw[ZJ,ho];rfl
 rw[<- hfin];rcases hn with rfl|⟨rfl,rfl⟩
 ·exact WK ho hw' hd e
 ·exact VW ho hw' hd e
theorem zfp{i:Nat}{rest:List Nat}{o:Oper}(ho:ops[i]? = some o)(hw:yP ops s o=true){v:aaa}{h1:za}{s1:Env}(xe:mB P s o h=some (v,h1))(hp:s.put o.dst v=some s1)(ht:TO P ops rest s1 h1 Q) :
  TO P ops (i::rest) s h Q:=by
 intro ρ w tm ds hr hs b k cs;obtain⟨n,w1,ρ1,v',e,hn,st,hv⟩:=FY (a:=⟨tm,ds⟩) xe hr hs;have hs1:vE ρ1 s1 (qP tm o.dst v'):=(hs.mono st.le).put hv hp;obtain⟨s2,h2,ρ2,w2,tm2,q,st2,hs2,sx⟩:=ht ρ1 w1 _ ds st.rel hs1 b k cs;have hw':Region.wanted o (yielded ops tm)=true:=(VD hs ops o).trans hw;refine⟨s2,h2,ρ2,w2,tm2,q,st.trans st2,hs2,.head ?_ sx⟩
 have hfin:(vx b tm ds (.inRegion ops (i::rest)::k)).finish v'=vx b (qP tm o.dst v') ds (.inRegion ops rest::k):=by
  rw[ZJ,ho];rfl
 rw[<- hfin];rcases hn with rfl|⟨rfl,rfl⟩
 ·exact WK ho hw' (QW xe) e
 ·exact VW ho hw' (QW xe) e
theorem PT{i:Nat}{rest:List Nat}{o:Oper}(ho:ops[i]? = some o)(hw:yP ops s o=false){s1:Env}(hp:s.put o.dst undef=some s1)(ht:TO P ops rest s1 h Q):TO P ops (i::rest) s h Q:=by
 intro ρ w tm ds hr hs b k cs;have hs1:vE ρ s1 (qP tm o.dst undef):=hs.put (.YT _ rfl) hp;obtain⟨s2,h2,ρ2,w2,tm2,q,st2,hs2,sx⟩:=ht ρ w _ ds hr hs1 b k cs;refine⟨s2,h2,ρ2,w2,tm2,q,st2,hs2,.head ?_ sx⟩;have hw':Region.wanted o (yielded ops tm)=false:=(VD hs ops o).trans hw;rw[mG (by rw[ho];exact hw'),ZJ,ho];rfl
def xO(P:Program)(g:FuncId):Bool :=
 match P.funcs[g]? with
 |some fn=>fn.body.isSome && !(fn.name == "runtime.NumGoroutine")
 |none=>false
theorem PS{i:Nat}{rest:List Nat}{o:Oper}{f:Operand}{cargs:Array Operand}{ts:Array TypeId}{g:FuncId}{fa fc:Array aaa}{vs:List aaa}{R:aaa->za->Prop}
  (ho:ops[i]? = some o) (hw:yP ops s o=true) (xe:o.op=.call {callee := .value f,args:=cargs,argTypes:=ts}) (hf:j6 s f=some (.func (.func g) fa fc)) (hargs:aR s cargs.toList=some vs)
  (hcall:xO P g=true) (hc:TC P g (fa.toList++vs++fc.toList) h R) (ht:∀v h1,R v h1->∃s1,s.put o.dst v=some s1/\TO P ops rest s1 h1 Q):TO P ops (i::rest) s h Q:=by
 intro ρ w tm ds hr hs b k cs;have hw':Region.wanted o (yielded ops tm)=true:=(VD hs ops o).trans hw;have e1:=yk (a:=⟨tm,ds⟩) hs hf;have e2:=ZH (a:=⟨tm,ds⟩) hs hargs;generalize hfv:Act.eval ⟨tm,ds⟩ f=fv at e1;cases e1 with
 |func ha hcs h1 h2=>
  rename_i fa' fc'
  let full:=fa'.toList++cargs.toList.map (Act.eval ⟨tm,ds⟩)++fc'.toList
  have hfull:xV ρ (fa.toList++vs++fc.toList) full :=
   (xV.append ⟨by simpa using ha,λi x y hx hy=>h1 i x y (by simpa using hx) (by simpa using hy)⟩ e2).append ⟨by simpa using hcs,λi x y hx hy=>h2 i x y (by simpa using hx) (by simpa using hy)⟩
  have hrun:(execOp (Act.eval ⟨tm,ds⟩) o).run P w=.ok (.enter g full.toArray) w:=by
   have hargs':fa'++cargs.map (Act.eval ⟨tm,ds⟩)++fc'=full.toArray:=by apply acv;simp[full]
   simp only[execOp,xe,resolve,hfv,Deferred.ofValue,aan,aaw,aah,invoke,callFunc,run_program,hargs'];unfold xO at hcall;cases hfn:P.funcs[g]? with
   |none=>rw[hfn]at hcall;cases hcall
   |some fn=>
    rw[hfn]at hcall;simp only[aag,aaA]at hcall;simp only[hcall.2,abo,abe];rw[aac (by cases hb:fn.body <;> simp_all)];rfl
  obtain⟨e,w1,fr,⟨v,v',h',ρ',rfl,hR,st,hv⟩,hcomes,_,hleave⟩:=hc ρ w full hr hfull (vx b tm ds (.inRegion ops (i::rest)::k)::cs);obtain⟨s1,hp,hrest⟩:=ht v h' hR;have hs1:vE ρ' s1 (qP tm o.dst v'):=(hs.mono st.le).put hv hp;obtain⟨s2,h2,ρ2,w2,tm2,q,st2,hs2,sx⟩:=hrest ρ' w1 _ ds st.rel hs1 b k cs;have hd:VX o.op=false:=by rw[xe];rfl
  refine⟨s2,h2,ρ2,w2,tm2,q,st.trans st2,hs2,.head (iy ho hw' hd hrun) (acn hcomes (.head (step_leave_returned hleave) ?_))⟩;rw[ZJ,ho];exact sx
end ops
def SY(P:Program)(g:FuncId)(args:List aaa)(h:za):Option (aaa×za) :=
 match P.funcs[g]? with
 |some fn=>cond (fn.body.isNone&&decide (fn.name = "internal/abi.NoEscape")&&(Extern.findNext fn).isNone) (match args with
  |[x]=>some (x,h)
  |_=>none) none
 |none=>none
theorem OO {fn:Func} (h:fn.name = "internal/abi.NoEscape"):Extern.find fn=some Extern.AbiNoEscape.same:=by
 unfold Extern.find;rw[h];rfl
theorem zdo{ρ:xt}{s:Env}{h h1:za}{w:World}{a:Act}{o:Oper}{f:Operand}{cargs:Array Operand}{ts:Array TypeId}{g:FuncId}{fa fc:Array aaa}{vs:List aaa}{v:aaa}
  (xe:o.op=.call {callee := .value f,args:=cargs,argTypes:=ts}) (hf:j6 s f=some (.func (.func g) fa fc)) (hargs:aR s cargs.toList=some vs) (he:SY P g (fa.toList++vs++fc.toList) h=some (v,h1)) (hr:Rel P ρ h w) (hs:vE ρ s a.tmps) :
  Bu P ρ h w (execOp a.eval o) v h1:=by
 have e1:=yk hs hf;have e2:=ZH hs hargs;generalize hfv:a.eval f=fv at e1;cases e1 with
 |func ha hcs q1 q2=>
  rename_i fa' fc'
  let full:=fa'.toList++cargs.toList.map a.eval++fc'.toList
  have hfull:xV ρ (fa.toList++vs++fc.toList) full :=
   (xV.append ⟨by simpa using ha,λi x y hx hy=>q1 i x y (by simpa using hx) (by simpa using hy)⟩ e2).append ⟨by simpa using hcs,λi x y hx hy=>q2 i x y (by simpa using hx) (by simpa using hy)⟩
  have hargs':fa'++cargs.map a.eval++fc'=full.toArray:=by apply acv;simp[full]
  unfold SY at he;split at he
  case h_2=>cases he
  rename_i fn hfn;obtain⟨hc,he⟩:=zE he;simp only[aag,aaR]at hc;obtain⟨⟨hb,hn⟩,hx⟩:=hc;split at he
  case h_2=>cases he
  rename_i x hl;simp only[aab,aaj]at he;obtain⟨rfl,rfl⟩:=he;rw[hl]at hfull;obtain⟨y,ys,hy,v1,hv2⟩:=hfull.cons_inv;cases hv2.uW;have hfn':Extern.findNext fn=none:=by simpa using hx
  refine⟨.value y,w,ρ,y,?_,.inl rfl,.refl hr,v1⟩;simp only[execOp,xe,resolve,hfv,Deferred.ofValue,aan,aaw,aah,invoke,hargs',hy];rw[Go.run_callFunc_extern hfn (by rw[hn];decide) hb hfn' (OO hn)];rfl
def DJ(P:Program)(g:FuncId)(args:List aaa)(h:za):Option (aaa×za) :=
 match P.funcs[g]?,args with
 |some fn,[.int .i64 n]=>cond (fn.body.isNone&&decide (fn.name = "internal/bytealg.MakeNoZero")&&(Extern.findNext fn).isNone&&decide (0<=n)&&decide (n<=2^48))
   (match fn.resultTypes[0]? with
    |some t=>(match yQ P (underlying t) with
     |some (.slice e)=>cond (Nat.beq (P.cellsOf e) 1) (some (.slice (some ⟨h.next,0,none⟩) n.toNat 1,h.push (.cells [] e))) none
     |_=>none)
    |none=>none) none
 |_,_=>none
theorem EK {fn:Func} (h:fn.name = "internal/bytealg.MakeNoZero"):Extern.find fn=some (Extern.BytealgMakeNoZero.makeNoZero fn.params fn.resultTypes):=by
 unfold Extern.find;rw[h];rfl
theorem Ig{ρ:xt}{h:za}{w:World}(hr:Rel P ρ h w){ps rs:Array TypeId}{t e:TypeId}{n:Int}(ht:rs[0]? = some t)(hu:yQ P (underlying t)=some (.slice e))(hc:P.cellsOf e=1)(h0:0<=n)(hn:n<=2^48) :
  ∃v' w' ρ',(Extern.BytealgMakeNoZero.makeNoZero ps rs #[.int .i64 n]).run P w=.ok v' w'/\Step P ρ h w ρ' (h.push (.cells [] e)) w'/\zS ρ' (.slice (some ⟨h.next,0,none⟩) n.toNat 1) v':=by
 let q:Question := .appendCap n.toNat 0 e
 let cap:=q.cut (w.tape w.drawn q)
 have hge:n.toNat<=cap:=by show n.toNat<=n.toNat+_%_;omega
 let w1:World:={w with drawn:=w.drawn+1}
 let q2:Question := .extern "internal/bytealg.MakeNoZero.bytes" 0
 let bytes:=q2.cut (w1.tape w1.drawn q2)
 let w2:World:={w1 with drawn:=w1.drawn+1}
 let cs:=Extern.BytealgMakeNoZero.digits cap bytes #[]
 have hcs:cs.size=cap:=by simp only[cs,Lib.size_digits];simp
 have hr2:Rel P ρ h w2:=hr.grow (λk _=>rfl)
 let w3:World:={w2 with heap:=w2.heap.push (.cells cs e)}
 have st:=Step.push (t:=e) hr2 (c:=[]) (cs:=cs) (fz:=(0,0)) (w':=w3) rfl (λi _ hi=>by simp at hi) (by simp) (λk x hx=>by simp at hx) rfl rfl rfl;refine⟨.slice (some ⟨w.heap.size,0,none⟩) n.toNat cap,w3,_,?_,⟨st.le,st.rel,st.ro,st.os,st.tape,st.output,st.size,st.frame,st.A6⟩,?_⟩
 ·have hq:(choose (.appendCap n.toNat 0 e)).run P w=.ok cap w1:=by rw[run_choose];rfl
  have hq2:(choose (.extern "internal/bytealg.MakeNoZero.bytes" 0)).run P w1=.ok bytes w2:=by rw[run_choose];rfl
  have hneg:¬(n<0\/n>2^48):=by omega
  have hnr:(newRow e cs).run P w2=.ok ⟨w.heap.size,0,none⟩ w3:=rfl;rw[show Extern.BytealgMakeNoZero.makeNoZero ps rs #[.int .i64 n]=(match rs[0]? with|some t=>(underlying t >>= _)|_=>_) from rfl];simp only[ht,aan,zv hu,aah];rw[aac (by simpa using hneg)];simp only[aan,hq,aah,run_askRoom,hq2];rw[show Extern.BytealgMakeNoZero.digits cap bytes #[]=cs from rfl,hnr];rfl
 ·have:=zS.slice (ρ:=ρ.ext ⟨w2.heap.size,0,cs.size,P.cellsOf e⟩) (b:=h.next) (off:=0) (len:=n.toNat) (c:=1) (cap:=cap) (pl:=⟨w2.heap.size,0,cs.size,P.cellsOf e⟩)
   (by show h.next<ρ.next+1;rw[hr.next];exact aaH _) (by rw[<- hr.next];exact ρ.jC _) hge (λ_=>⟨by simp[hc,hcs],λk hk=>by omega⟩)
  exact this
def Hn(P:Program)(g:FuncId)(args:List aaa)(h:za):Option (aaa×za) :=
 match SY P g args h with
 |some r=>some r
 |none=>DJ P g args h
theorem Ho{ρ:xt}{s:Env}{h h1:za}{w:World}{a:Act}{o:Oper}{f:Operand}{cargs:Array Operand}{ts:Array TypeId}{g:FuncId}{fa fc:Array aaa}{vs:List aaa}{v:aaa}
  (xe:o.op=.call {callee := .value f,args:=cargs,argTypes:=ts}) (hf:j6 s f=some (.func (.func g) fa fc)) (hargs:aR s cargs.toList=some vs) (he:Hn P g (fa.toList++vs++fc.toList) h=some (v,h1)) (hr:Rel P ρ h w) (hs:vE ρ s a.tmps) :
  Bu P ρ h w (execOp a.eval o) v h1:=by
 unfold Hn at he;split at he
 ·rename_i r hn;simp only[aab]at he;subst he;exact zdo xe hf hargs hn hr hs
 ·have e1:=yk hs hf;have e2:=ZH hs hargs;generalize hfv:a.eval f=fv at e1;cases e1 with
  |func ha hcs q1 q2=>
   rename_i fa' fc'
   let full:=fa'.toList++cargs.toList.map a.eval++fc'.toList
   have hfull:xV ρ (fa.toList++vs++fc.toList) full :=
    (xV.append ⟨by simpa using ha,λi x y hx hy=>q1 i x y (by simpa using hx) (by simpa using hy)⟩ e2).append ⟨by simpa using hcs,λi x y hx hy=>q2 i x y (by simpa using hx) (by simpa using hy)⟩
   have hargs':fa'++cargs.map a.eval++fc'=full.toArray:=by apply acv;simp[full]
   unfold DJ at he;split at he
   case h_2=>cases he
   rename_i fn n hfn hl;obtain⟨hc,he2⟩:=zE he;clear he;simp only[aag,aaR]at hc;obtain⟨⟨⟨⟨hb,hn⟩,hx⟩,h0⟩,h48⟩:=hc;split at he2
   case h_2=>cases he2
   rename_i t ht;split at he2
   case h_2=>cases he2
   rename_i e hu;obtain⟨hce,he3⟩:=zE he2;simp only[aab,aaj]at he3;obtain⟨rfl,rfl⟩:=he3;rw[hl]at hfull;obtain⟨y,ys,hy,v1,hv2⟩:=hfull.cons_inv;cases hv2.uW;cases v1;have hfn':Extern.findNext fn=none:=by simpa using hx
   obtain⟨v',w',ρ',er,st,hv⟩:=Ig (ps:=fn.params) hr ht hu (aav hce) h0 h48;refine⟨.value v',w',ρ',v',?_,.inl rfl,st,hv⟩;simp only[execOp,xe,resolve,hfv,Deferred.ofValue,aan,aaw,aah,invoke,hargs',hy];rw[Go.run_callFunc_extern hfn (by rw[hn];decide) hb hfn' (EK hn),er];rfl
def tS:aaa->Bool
 | .tuple a=>a.toList.all flat
 |v=>flat v
theorem S8{ρ:xt}{v v':aaa}(h:zS ρ v v')(hp:tS v=true)(ρ2:xt):zS ρ2 v v':=by
 cases v with
 |tuple a=>
  cases h with
  |tuple ha hv=>
   simp only[tS,aaD]at hp;refine .tuple ha (λi x y hx hy=>?_);have hf:=hp x (aau (by simpa using hx));rw[Yg (hv i x y hx hy) hf];exact .of_flat _ hf
 |_=>rw[Yg h hp];exact .of_flat _ hp
theorem Rel.lock{ρ:xt}{h:za}{w:World}(hr:Rel P ρ h w):Rel P ρ h.lock w :=
 ⟨hr.next,aam _,hr.eU,λb o hb=>by obtain⟨pl,hp,hc⟩:=hr.ok b o hb;exact⟨pl,hp,hc.za2 (λe=>by
  have:h.next<=b:=abv e;have:=hr.eU b _ hb;omega)⟩,hr.inj,aaS hr.tB hr.ro,hr.XR⟩
theorem TC.quiet{f:FuncId}{args:List aaa}{h:za}{R:aaa->za->Prop}(ht:TC P f args h.lock R)(hsc:∀v h1,R v h1->tS v=true):TC P f args h (λv h1=>(∃h2,R v h2)/\h1=h):=by
 intro ρ w cargs hr hv;refine(ht ρ w cargs hr.lock hv).mono λe w'=>?_;rintro⟨v,v',h',ρ',e1,hR,st,hvv⟩
 have hsame:∀c,c<w.heap.size->w'.heap[c]? = w.heap[c]?:=λc hc=>st.frame c hc (by
  rintro⟨b,o,pl,hg,hro,_⟩;have h1:h.next<=b:=hro;have h2:=hr.eU b o hg;omega)
 exact⟨v,v',h,ρ,e1,⟨⟨h',hR⟩,rfl⟩,⟨xt.le_refl _,hr.grow hsame,rfl,st.os,st.tape,st.output,st.size,λc hc _=>hsame c hc,λc _ hm=>hm⟩,S8 hvv (hsc v h' hR) ρ⟩
theorem IB{rd:Option Nat}{id:Nat}{ops:Array Oper}{s:Env}{h:za}{Q:Ex->Env->za->Prop}(ht:TO P ops (List.range ops.size) s h (λs1 h1=>Q .normal s1 h1)):T P rd (.region id ops false) s h Q:=by
 intro ρ w tm ds hr hs b hb k cs;obtain⟨s1,h1,ρ1,w1,tm1,q,st,hs1,sx⟩:=ht ρ w tm ds hr hs b k cs;exact⟨.normal,s1,h1,ρ1,w1,tm1,ds,q,st,hs1,.refl _ _ _,.head HS (sx.trans (.one VI))⟩
end
noncomputable section
variable {P:Program}
theorem M1(fr:Frame)(hm:fr.mode=.returning):∀(rs:List Nat) (w:World),fr.defers=rs.map M4->rs.Nodup->(∀r,r∈rs->w.heap[r]? = some (.deferred (some [])))->∀cs,
  ∃w',Steps P (lone fr cs w) (lone {fr with defers:=[]} cs w')/\w'.os=w.os/\w'.tape=w.tape/\w'.output=w.output/\w'.heap.size=w.heap.size/\(∀k,k∉rs->w'.heap[k]? = w.heap[k]?):=by
 intro rs
 induction rs generalizing fr with
 |nil=>intro w hd _ _ cs;refine⟨w,?_,rfl,rfl,rfl,rfl,λ_ _=>rfl⟩;rw[show fr = {fr with defers:=[]} by cases fr;simp_all];exact .refl P _
 |cons r rs ih=>
  intro w hd hn hb cs;have hr:=hb r (by simp);have hlt:=tH hr
  let w1:World:={w with heap:=w.heap.setIfInBounds r (.deferred none)}
  have hn:=List.nodup_cons.1 hn;have hother:∀k,k≠r->w1.heap[k]? = w.heap[k]?:=λk hk=>by show(w.heap.setIfInBounds r _)[k]? = _;rw[aby,aac (Ne.symm hk)]
  obtain⟨w',hs,h1,h2,h3,h4,h5⟩:=ih {fr with defers:=rs.map M4} hm w1 rfl hn.2 (λk hk=>(hother k (λe=>hn.1 (e ▸ hk))).trans (hb k (by simp[hk]))) cs;refine⟨w',.head ?_ hs,h1,h2,h3,by rw[h4];simp[w1],λk hk=>?_⟩
  ·refine step_lone_go ?_;have hd':fr.defers = {target := .collected r,args := #[]} :: rs.map M4:=hd
   have hrun:(Instr.takeDeferred r).run P w=.ok [] w1:=by
    simp only[Instr.takeDeferred,getObj,setObj,aan];simp only[Sem.run,hr,aah,aan];rfl
   simp only[stepG,hm,unwind,hd',Sem.runT_eq,hrun,GStep.bare_after];simp[GStep.bare]
  ·simp only[abt,not_or]at hk;exact(h5 k hk.2).trans (hother k hk.1)
def kL(P:Program)(s:Env)(h:za):List ResultVar->Option (List aaa)
 |[]=>some []
 | .tmp t::rs=>(match kL P s h rs with
   |some vs=>some (s.get t::vs)
   |none=>none)
 | .cell a t::rs=>(match zd P t (s.get a) h with
   |some v=>(match kL P s h rs with
    |some vs=>some (v::vs)
    |none=>none)
   |none=>none)
def ZI:List aaa->aaa
 |[v]=>v
 |vs => .tuple vs.toArray
def Nm(tm:Array aaa):ResultVar->Sem aaa
 | .tmp t=>pure (tm.getD t undef)
 | .cell a t=>do loadVar t (<- asAddr (tm.getD a undef))
theorem Pr(fn:Func)(tm:Array aaa):results fn tm=(do let vs <- fn.results.mapM (Nm tm);pure (if h:vs.size=1 then vs[0] else .tuple vs)):=rfl
theorem QM{ρ:xt}{s:Env}{h:za}{w:World}{tm:Array aaa}(hr:Rel P ρ h w)(hs:vE ρ s tm):∀{rs:List ResultVar} {vs:List aaa},kL P s h rs=some vs ->
  ∃vs',(rs.mapM (Nm tm)).run P w=.ok vs' w/\xV ρ vs vs'
 |[],vs,he=>by simp only[kL,aab]at he;subst he;exact⟨[],rfl,.nil ρ⟩
 | .tmp t::rs,vs,he=>by
   simp only[kL]at he;split at he
   case h_2=>cases he
   rename_i vs0 h0;simp only[aab]at he;subst he;obtain⟨vs',e,hv⟩:=QM hr hs h0;exact⟨_,by simp only[List.mapM_cons,Nm,aan,aaw,aah,e],.cons (hs.get t) hv⟩
 | .cell a t::rs,vs,he=>by
   simp only[kL]at he;split at he
   case h_2=>cases he
   rename_i v hv0;split at he
   case h_2=>cases he
   rename_i vs0 h0;simp only[aab]at he;subst he;obtain⟨vs',e,hv⟩:=QM hr hs h0;obtain⟨v',e1,hv1⟩:=Az hv0 hr (hs.get a)
   have e2:(do loadVar t (<- asAddr (tm.getD a undef)):Sem aaa).run P w=.ok v' w:=by
    have hp:=hs.get a;generalize tm.getD a undef=x at hp e1 ⊢;unfold zd at hv0;split at hv0
    ·rename_i hb;rw[hb]at hp;cases hp;simpa [Instr.loadAt,Instr.sureAddr,asAddr] using e1
    ·rename_i hb;rw[hb]at hp;cases hp;simpa [Instr.loadAt,Instr.sureAddr,asAddr] using e1
    ·cases hv0
   exact⟨_,by rw[List.mapM_cons,aan,show Nm tm (.cell a t)=(do loadVar t (<- asAddr (tm.getD a undef)):Sem aaa) from rfl,e2];simp only[aan,aah,e,aaw],.cons hv1 hv⟩
theorem Nn{ρ:xt}{s:Env}{h:za}{w:World}{tm:Array aaa}(hr:Rel P ρ h w)(hs:vE ρ s tm){fn:Func}{vs:List aaa}(he:kL P s h fn.results.toList=some vs) :
  ∃v',(results fn tm).run P w=.ok v' w/\zS ρ (ZI vs) v':=by
 obtain⟨vs',e,hv⟩:=QM hr hs he
 have em:(fn.results.mapM (Nm tm)).run P w=.ok vs'.toArray w:=by
  rw[Array.mapM_eq_mapM_toList,Sem.run_map,e];rfl
 rw[Pr];simp only[aan];refine⟨if h:vs'.toArray.size=1 then vs'.toArray[0] else .tuple vs'.toArray,?_,?_⟩
 ·rw[em];simp only[aah,aaw]
 ·unfold ZI;split
  ·rename_i v;obtain⟨y,ys,rfl,h1,h2⟩:=hv.cons_inv;cases h2.uW;simpa using h1
  ·rename_i hne
   rw[dif_neg (by
    intro h1;have h1:vs'.length=1:=by simpa using h1
    have h2:vs.length=1:=(by rw[hv.1];exact h1);cases vs with
    |nil=>cases h2
    |cons v vs=>cases vs with
     |nil=>exact hne v rfl
     |cons=>simp at h2)]
   exact .tuple (by simpa using hv.1) (λi x y hx hy=>hv.2 i x y (by simpa using hx) (by simpa using hy))
theorem PR{f:FuncId}{fn:Func}{c:Code}{args:List aaa}{h:za}{R:aaa->za->Prop}(hf:P.funcs[f]? = some fn)(hb:fn.body=some c)
  (ht:T P none c (Env.enter args fn.ntmps) h (λe s1 h1=>(e=.normal\/e=.ret) /\ ∃vs,kL P s1 h1 fn.results.toList=some vs/\R (ZI vs) h1)):TC P f args h R:=by
 intro ρ w cargs hr hv cs
 let b:Frame:={ (default:Frame) with fn:=f,kind := .normal,roundOf:=none}
 let tm:Array aaa:=cargs.toArray++Array.replicate (fn.ntmps-cargs.toArray.size) undef
 have henter:Frame.enter P f cargs.toArray .normal=vx b tm [] [.code c]:=by simp[Frame.enter,vx,hf,hb,b,tm]
 have hs:vE ρ (Env.enter args fn.ntmps) tm:=by
  refine⟨?_,λi=>?_⟩
  ·simp only[Env.Df,tm,Array.size_append,Array.size_replicate,List.size_toArray,hv.1];omega
  ·rw[Env.zan];rcases aar i args.length with hi|hi
   ·obtain⟨y,hy,hxy⟩:=hv.get (aae hi)
    have e1:tm[i]? = some y:=by
     rw[Array.getElem?_append_left (by simp;rw[<- hv.1];exact hi)];simpa using hy
    rw[aae hi];simp only[abG,aaG,e1];exact hxy
   ·rw[aal hi]
    have e1:tm.getD i undef=undef:=by
     simp only[aaG,tm];rw[Array.getElem?_append_right (by simp;rw[<- hv.1];exact hi)];rw[aci];split <;> rfl
    rw[e1];exact .YT ρ rfl
 obtain⟨e,s1,h1,ρ1,w1,tm1,ds1,⟨he,vs,hvs,hR⟩,st,hs1,⟨rs,hd1,hnd,hb1⟩,ha⟩:=ht ρ w tm [] hr hs b rfl [] cs
 obtain⟨todo,hret⟩:∃todo,Steps P (lone (Frame.enter P f cargs.toArray .normal) cs w) (lone {vx b tm1 ds1 todo with mode := .returning} cs w1):=by
  rw[henter];rcases he with rfl|rfl
  ·exact⟨[],acn ha (.one (zal rfl))⟩
  ·obtain⟨t,sx⟩:=ha;exact⟨_,sx.trans (.one (zam rfl))⟩
 rw[ab6]at hd1;obtain⟨w2,hs2,e1,e2,e3,e4,e5⟩:=M1 (P:=P) {vx b tm1 ds1 todo with mode := .returning} rfl rs w1 hd1 hnd (λr hr=>(hb1 r hr).2) cs
 have hnot:∀b0 o pl,h1.get b0=some o->ρ1.m b0=some pl->pl.c∉rs:=by
  intro b0 o pl hg hm hin;have hc:=st.rel.zds hg hm;have hx:=(hb1 _ hin).2;cases o with
  |cells c t=>obtain⟨cs,fz,q1,_⟩:=hc;rw[hx]at q1;cases q1
  |map es q=>obtain⟨ms,q1,_⟩:=hc;rw[hx]at q1;cases q1
  |iter m a b c=>obtain⟨m',q1,_⟩:=hc;rw[hx]at q1;cases q1
  |tab c=>obtain⟨t,cs,fz,q1,_⟩:=hc;rw[hx]at q1;cases q1
  |siter s pos=>have q1:w1.heap[pl.c]? = _:=hc.1;rw[hx]at q1;cases q1
  |loop l=>obtain⟨tm,d,fn',q1,_⟩:=hc;rw[hx]at q1;cases q1
 have hr2:Rel P ρ1 h1 w2:=⟨st.rel.next,st.rel.ro,st.rel.eU,λb0 o0 hg=>by
  obtain⟨pl,hp,hc⟩:=st.rel.ok b0 o0 hg;exact⟨pl,hp,hc.other (e5 _ (hnot _ _ _ hg hp))⟩,st.rel.inj,st.rel.tB,st.rel.XR⟩
 obtain⟨v',hv',hvr⟩:=Nn hr2 hs1 hvs;refine⟨.returned v',w2,{vx b tm1 ds1 todo with mode := .returning,defers:=[]},⟨ZI vs,v',h1,ρ1,rfl,hR,?_,hvr⟩,hret.trans hs2,rfl,rfl,rfl,rfl,fn,hf,hv'⟩
 exact⟨st.le,hr2,st.ro,e1.trans st.os,e2.trans st.tape,e3.trans st.output,by rw[e4];exact st.size,
  λc hc hn=>(e5 c (λhin=>by have:=(hb1 c hin).1;omega)).trans (st.frame c hc hn),st.A6⟩
end
noncomputable section
variable {P:Program}
theorem Vz{s s':Env}:∀{xs:List Operand},(∀x,x∈xs->j6 s x=j6 s' x)->aR s xs=aR s' xs
 |[],_=>rfl
 |x::xs,h=>by simp only[aR];rw[h x (by simp),Vz (λy hy=>h y (by simp[hy]))]
theorem dH{s s':Env}:∀{ps:List (Nat×Operand)},(∀x,x∈ps->j6 s x.2=j6 s' x.2)->QL s ps=QL s' ps
 |[],_=>rfl
 |(i,x)::ps,h=>by simp only[QL];rw[h (i,x) (by simp),dH (λy hy=>h y (by simp[hy]))]
theorem TU{s s':Env}{o:Oper}{g:za}(h:∀x,x∈o.op.operands->j6 s x=j6 s' x):mB P s o g=mB P s' o g:=by
 obtain⟨dst,op,type,pos,after,guard⟩:=o;have one:∀x,x∈op.operands->j6 s x=j6 s' x:=h
 have opt:∀x:Option Operand,(∀y,x=some y->y∈op.operands)->EB s x=EB s' x:=by
  intro x hx;cases x with
  |none=>rfl
  |some y=>simp only[EB];rw[one y (hx y rfl)]
 unfold mB
 cases op <;> simp only[] <;> first
  |rfl
  |(rw[one _ (by simp[Op.operands])];done)
  |(rw[one _ (by simp[Op.operands]),one _ (by simp[Op.operands])];done)
  |skip
 case pick c a b=>rw[one c (by simp[Op.operands]),one a (by simp[Op.operands]),one b (by simp[Op.operands])]
 case build t parts=>rw[dH (λx hx=>one _ (by simp only[Op.operands,List.mem_toArray,abm];exact⟨x,hx,rfl⟩))]
 case buildSlice t n parts=>rw[dH (λx hx=>one _ (by simp only[Op.operands,List.mem_toArray,abm];exact⟨x,hx,rfl⟩))]
 case makeFunc fn first captured=>
  cases fn <;> simp only[];rw[Vz (s:=s) (s':=s') (xs:=first.toList) (λx hx=>one x (by simp[Op.operands];exact .inl (by simpa using hx))),Vz (s:=s) (s':=s') (xs:=captured.toList) (λx hx=>one x (by simp[Op.operands];exact .inr (by simpa using hx)))]
 case slice t x lo hi mx=>
  cases mx <;> simp only[];rw[one x (by simp[Op.operands]),opt lo (λy e=>by subst e;simp[Op.operands]),opt hi (λy e=>by subst e;simp[Op.operands])]
 case makeMap t r=>cases r <;> rfl
 case mapUpdate t m k x=>rw[one m (by simp[Op.operands]),one k (by simp[Op.operands]),one x (by simp[Op.operands])]
 case call c=>
  obtain⟨callee,args,ts⟩:=c;cases callee <;> simp only[];rw[Vz (s:=s) (s':=s') (λx hx=>one x (by simp[Op.operands,Call.operands];simpa using hx))]
def Env.only(s:Env)(l:List Nat):Env:={t:=l.foldl (λt i=>t.set i (some (s.get i))) .e,size:=s.size}
theorem Env.zcX(s:Env)(l:List Nat)(i:Nat):(s.only l).get i=if i∈l then s.get i else undef:=by
 have key:∀(l:List Nat) (t:Tr aaa),(l.foldl (λt i=>t.set i (some (s.get i))) t).get i=if i∈l then some (s.get i) else t.get i:=by
  intro l
  induction l with
  |nil=>intro t;simp
  |cons j l ih=>
   intro t;rw[List.foldl_cons,ih,Tr.yI];by_cases hi:i∈l
   ·simp[hi]
   ·by_cases e:i=j
    ·subst e;simp[hi]
    ·simp[hi,e]
 have:=key l .e;simp only[Env.get_eq,Env.only]at this ⊢;rw[this];split <;> simp
theorem Hm{s s':Env}{ops:Array Oper}{o:Oper}(h:∀t,t∈o.looksAt ops->s.get t=s'.get t):∀x,x∈o.op.operands->j6 s x=j6 s' x:=by
 intro x hx;cases x with
 |tmp t=>
  simp only[j6];rw[h t (by simp only[Oper.looksAt,aaQ,List.mem_filterMap];exact .inl ⟨.tmp t,by simpa using hx,rfl⟩)]
 |_=>rfl
theorem Jo{tm tm':Array aaa}{ds:List Deferred}{ops:Array Oper}{o:Oper}(h:∀t,t∈o.looksAt ops->tm.getD t undef=tm'.getD t undef):∀x,x∈o.op.operands->Act.eval ⟨tm,ds⟩ x=Act.eval ⟨tm',ds⟩ x:=by
 intro x hx;cases x with
 |tmp t=>exact h t (by simp only[Oper.looksAt,aaQ,List.mem_filterMap];exact .inl ⟨.tmp t,by simpa using hx,rfl⟩)
 |_=>rfl
theorem EF{s s':Env}{ops:Array Oper}{o:Oper}(h:∀t,t∈o.looksAt ops->s.get t=s'.get t):yP ops s o=yP ops s' o:=by
 unfold yP;split
 ·rfl
 ·rename_i j want e;split
  ·rfl
  ·rename_i d hd;rw[h d (by simp only[Oper.looksAt,aaQ];right;rw[e];simp[hd])]
def Yn(P:Program)(ops:Array Oper)(s:Env)(o:Oper)(g:za)(v:aaa)(g':za):Prop :=
 (yP ops s o=false/\v=undef/\g'=g) \/
 (yP ops s o=true/\(mB P s o g=some (v,g') \/
  (∃f cargs ts fid fa fc vs,o.op=.call {callee := .value f,args:=cargs,argTypes:=ts} /\ j6 s f=some (.func (.func fid) fa fc)/\aR s cargs.toList=some vs/\xO P fid=true /\
   TC P fid (fa.toList++vs++fc.toList) g (λv1 h1=>v1=v/\h1=g')) \/
  (∃f cargs ts fid fa fc vs,o.op=.call {callee := .value f,args:=cargs,argTypes:=ts} /\ j6 s f=some (.func (.func fid) fa fc)/\aR s cargs.toList=some vs/\Hn P fid (fa.toList++vs++fc.toList) g=some (v,g'))))
theorem Yn.congr{ops:Array Oper}{s s':Env}{o:Oper}{g g':za}{v:aaa}(hs:Yn P ops s o g v g')(h:∀t,t∈o.looksAt ops->s.get t=s'.get t):Yn P ops s' o g v g':=by
 have e1:=Hm h;unfold Yn at *
 rw[<- EF h];rcases hs with hs|⟨hw,hs|⟨f,cargs,ts,fid,fa,fc,vs,h1,h2,h3,h4,h5⟩|⟨f,cargs,ts,fid,fa,fc,vs,h1,h2,h3,h4⟩⟩
 ·exact .inl hs
 ·exact .inr ⟨hw,.inl (by rw[<- TU e1];exact hs)⟩
 ·refine .inr ⟨hw,.inr (.inl ⟨f,cargs,ts,fid,fa,fc,vs,h1,?_,?_,h4,h5⟩)⟩
  ·rw[<- e1 f (by rw[h1];simp[Op.operands,Call.operands])];exact h2
  ·rw[<- Vz (s:=s) (s':=s') (xs:=cargs.toList) (λx hx=>e1 x (by rw[h1];simp only[Op.operands,Call.operands];simp;right;simpa using hx))];exact h3
 ·refine .inr ⟨hw,.inr (.inr ⟨f,cargs,ts,fid,fa,fc,vs,h1,?_,?_,h4⟩)⟩
  ·rw[<- e1 f (by rw[h1];simp[Op.operands,Call.operands])];exact h2
  ·rw[<- Vz (s:=s) (s':=s') (xs:=cargs.toList) (λx hx=>e1 x (by rw[h1];simp only[Op.operands,Call.operands];simp;right;simpa using hx))];exact h3
theorem iL{ops:Array Oper}{s:Env}{o:Oper}{g g':za}{v:aaa}{j:Nat}{ρ:xt}{w:World}{tm:Array aaa}(ho:ops[j]? = some o)(hsem:Yn P ops s o g v g')(hr:Rel P ρ g w)
  (hsz:s.size=tm.size) (hl:∀t,t∈o.looksAt ops->zS ρ (s.get t) (tm.getD t undef)) (ds:List Deferred) (rest:List Nat) (b:Frame) (k:List Item) (cs:List Frame) :
  ∃v' w' ρ',Step P ρ g w ρ' g' w'/\zS ρ' v v' /\
   Steps P (lone (vx b tm ds (.inRegion ops (j::rest)::k)) cs w) (lone (vx b (qP tm o.dst v') ds (.inRegion ops rest::k)) cs w'):=by
 let L:=o.looksAt ops
 let s2:=s.only L
 let tm2:Array aaa:=(Array.range tm.size).map λt=>if t∈L then tm.getD t undef else undef
 have hg2:∀t,s2.get t=if t∈L then s.get t else undef:=Env.zcX s L
 have ht2:∀t,t∈L->tm2.getD t undef=tm.getD t undef:=by
  intro t ht;simp only[tm2,aaG,Array.getElem?_map];by_cases hlt:t<tm.size
  ·rw[Array.getElem?_range,aai hlt];simp[ht]
  ·rw[Array.getElem?_range,aac hlt];simp[aaO (acG hlt)]
 have ht2':∀t,t∉L->tm2.getD t undef=undef:=by
  intro t ht;simp only[tm2,aaG,Array.getElem?_map];by_cases hlt:t<tm.size
  ·rw[Array.getElem?_range,aai hlt];simp[ht]
  ·rw[Array.getElem?_range,aac hlt];rfl
 have hs2:vE ρ s2 tm2:=by
  refine⟨by show s.size=_;simp[tm2,hsz],λt=>?_⟩;rw[hg2];by_cases ht:t∈L
  ·rw[aai ht,ht2 t ht];exact hl t ht
  ·rw[aac ht,ht2' t ht];exact .YT ρ rfl
 have hsem2:Yn P ops s2 o g v g':=hsem.congr (λt ht=>by rw[hg2,aai ht])
 have hwant:Region.wanted o (yielded ops tm)=yP ops s2 o:=by
  rw[<- VD hs2 ops o];unfold Region.wanted;cases hgd:o.guard with
  |none=>rfl
  |some gw=>
   obtain⟨q,want⟩:=gw;simp only[]
   have:yielded ops tm q=yielded ops tm2 q:=by
    unfold yielded;cases hd:(ops[q]?).bind (·.dst) with
    |none=>rfl
    |some d=>
     have hdl:d∈L:=(by simp only[L,Oper.looksAt,aaQ];right;rw[hgd];simp[hd]);simp only[aaI];have e:=ht2 d hdl;simp only[aaG]at e;have So:tm2.size=tm.size:=by simp[tm2]
     by_cases hlt:d<tm.size
     ·rw[aaP hlt,aaP (So ▸ hlt)]at e ⊢;simp only[abG]at e;rw[e]
     ·rw[aaO (acG hlt),aaO (by rw[So];exact acG hlt)]
   rw[this]
 rcases hsem2 with⟨hw,rfl,rfl⟩|⟨hw,hs|⟨f,cargs,ts,fid,fa,fc,vs,h1,h2,h3,h4,h5⟩|⟨f,cargs,ts,fid,fa,fc,vs,h1,h2,h3,h4⟩⟩
 ·refine⟨undef,w,ρ,.refl hr,.YT ρ rfl,.one ?_⟩;rw[mG (by rw[ho];exact hwant.trans hw),ZJ,ho];rfl
 ·obtain⟨n,w1,ρ1,v',e,hn,st,hv⟩:=FY (a:=⟨tm2,[]⟩) hs hr hs2;refine⟨v',w1,ρ1,st,hv,.one ?_⟩;have hnd:=QW hs;have hnsel:∀cs' b',o.op ≠ .select cs' b':=by intro cs' b' e;unfold mB at hs;rw[e]at hs;cases hs
  have e':(execOp (Act.eval ⟨tm,ds⟩) o).run P w=.ok n w1:=by
   rw[<- e]
   congr 1
   refine execOp_congr o hnsel (λx hx=>?_);exact(Jo (ds:=ds) (λt ht=>(ht2 t ht).symm) x hx).trans (by cases x <;> rfl)
  have hfin:(vx b tm ds (.inRegion ops (j::rest)::k)).finish v'=vx b (qP tm o.dst v') ds (.inRegion ops rest::k):=by rw[ZJ,ho];rfl
  rw[<- hfin];rcases hn with rfl|⟨rfl,rfl⟩
  ·exact WK ho (hwant.trans hw) hnd e'
  ·exact VW ho (hwant.trans hw) hnd e'
 ·have e1:=yk (a:=⟨tm2,[]⟩) hs2 h2;have e2:=ZH (a:=⟨tm2,[]⟩) hs2 h3
  have hlook:∀(ds:List Deferred) x,x∈o.op.operands->Act.eval ⟨tm2,[]⟩ x=Act.eval ⟨tm,ds⟩ x:=λds x hx=>
   (show Act.eval ⟨tm2,[]⟩ x=Act.eval ⟨tm2,ds⟩ x by cases x <;> rfl).trans (Jo (ds:=ds) (λt ht=>ht2 t ht) x hx)
  generalize hfv:Act.eval ⟨tm2,[]⟩ f=fv at e1;cases e1 with
  |func ha hcs q1 q2=>
   rename_i fa' fc'
   let full:=fa'.toList++cargs.toList.map (Act.eval ⟨tm2,[]⟩)++fc'.toList
   have hfull:xV ρ (fa.toList++vs++fc.toList) full :=
    (xV.append ⟨by simpa using ha,λi x y hx hy=>q1 i x y (by simpa using hx) (by simpa using hy)⟩ e2).append ⟨by simpa using hcs,λi x y hx hy=>q2 i x y (by simpa using hx) (by simpa using hy)⟩
   have hrun:(execOp (Act.eval ⟨tm,ds⟩) o).run P w=.ok (.enter fid full.toArray) w:=by
    have hnsel:∀cs' b',o.op ≠ .select cs' b':=(by intro cs' b' e;rw[h1]at e;cases e);rw[<- execOp_congr o hnsel (hlook ds)];have hargs':fa'++cargs.map (Act.eval ⟨tm2,[]⟩)++fc'=full.toArray:=by apply acv;simp[full]
    simp only[execOp,h1,resolve,hfv,Deferred.ofValue,aan,aaw,aah,invoke,callFunc,run_program,hargs'];unfold xO at h4;cases hfn:P.funcs[fid]? with
    |none=>rw[hfn]at h4;cases h4
    |some fn=>
     rw[hfn]at h4;simp only[aag,aaA]at h4;simp only[h4.2,abo,abe];rw[aac (by cases hb:fn.body <;> simp_all)];rfl
   obtain⟨e,w1,fr,⟨v0,v',h',ρ',rfl,⟨rfl,rfl⟩,st,hv⟩,hcomes,_,hleave⟩:=h5 ρ w full hr hfull (vx b tm ds (.inRegion ops (j::rest)::k)::cs);refine⟨v',w1,ρ',st,hv,.head (iy ho (hwant.trans hw) (by rw[h1];rfl) hrun) (acn hcomes (.one ?_))⟩;rw[step_leave_returned hleave,ZJ,ho];rfl
 ·obtain⟨n,w1,ρ1,v',e,hn,st,hv⟩:=Ho (a:=⟨tm2,[]⟩) h1 h2 h3 h4 hr hs2;refine⟨v',w1,ρ1,st,hv,.one ?_⟩;have hnd:VX o.op=false:=by rw[h1];rfl
  have hnsel:∀cs' b',o.op ≠ .select cs' b':=by intro cs' b' e;rw[h1]at e;cases e
  have e':(execOp (Act.eval ⟨tm,ds⟩) o).run P w=.ok n w1:=by
   rw[<- e]
   congr 1
   refine execOp_congr o hnsel (λx hx=>?_);exact(Jo (ds:=ds) (λt ht=>(ht2 t ht).symm) x hx).trans (by cases x <;> rfl)
  have hfin:(vx b tm ds (.inRegion ops (j::rest)::k)).finish v'=vx b (qP tm o.dst v') ds (.inRegion ops rest::k):=by rw[ZJ,ho];rfl
  rw[<- hfin];rcases hn with rfl|⟨rfl,rfl⟩
  ·exact WK ho (hwant.trans hw) hnd e'
  ·exact VW ho (hwant.trans hw) hnd e'
end
noncomputable section
variable {P:Program}
def xt.cut(ρ:xt)(n:Nat):xt:={ρ with next:=n}
theorem zS.ext{ρ ρ':xt}(hn:ρ.next<=ρ'.next)(hm:∀b pl,b<ρ.next->ρ.m b=some pl->ρ'.m b=some pl){v v':aaa}(h:zS ρ v v'):zS ρ' v v':=by
 induction h with
 |Iv h=>exact .Iv h
 |bool b=>exact .bool b
 |int k n=>exact .int k n
 |float k n=>exact .float k n
 |string s=>exact .string s
 |ptrNil=>exact .ptrNil
 |ptr hb hm0=>exact .ptr (aao hb hn) (hm _ _ hb hm0)
 |XR=>exact .XR
 |sliceNil c=>exact .sliceNil c
 |slice hb hm0 hl hc=>exact .slice (aao hb hn) (hm _ _ hb hm0) hl hc
 |sliceOut hb hc=>exact .sliceOut (aao hb hn) hc
 |nilFunc=>exact .nilFunc
 |nilIface=>exact .nilIface
 |mapNil=>exact .mapNil
 |map hb hm0=>exact .map (aao hb hn) (hm _ _ hb hm0)
 |yield hb hm0=>exact .yield (aao hb hn) (hm _ _ hb hm0)
 |iface _ ih=>exact .iface ih
 |func ha hc _ _ ih ih'=>exact .func ha hc ih ih'
 |agg ha _ ih=>exact .agg ha ih
 |tuple ha _ ih=>exact .tuple ha ih
theorem zS.down{ρ ρ2:xt}(hm:∀b,b<ρ.next->ρ2.m b=ρ.m b){v v':aaa}(h:zS ρ v v'):∀{u:aaa},zS ρ2 v u->zS ρ v u:=by
 induction h with
 |Iv h=>intro u hu;cases hu with|Iv h2=>exact .Iv h2
 |bool b=>intro u hu;cases hu;exact .bool b
 |int k n=>intro u hu;cases hu;exact .int k n
 |float k n=>intro u hu;cases hu;exact .float k n
 |string s=>intro u hu;cases hu;exact .string s
 |ptrNil=>intro u hu;cases hu;exact .ptrNil
 |ptr hb hm0=>intro u hu;cases hu with|ptr hb2 hm2=>exact .ptr hb ((hm _ hb).symm.trans hm2)
 |XR=>intro u hu;cases hu;exact .XR
 |sliceNil c=>intro u hu;cases hu;exact .sliceNil c
 |slice hb hm0 hl hc=>
  intro u hu;cases hu with
  |slice hb2 hm2 hl2 hc2=>exact .slice hb ((hm _ hb).symm.trans hm2) hl2 hc2
  |sliceOut hb2 hc2=>exact .sliceOut hb hc2
 |sliceOut hb hc=>
  intro u hu;cases hu with
  |slice hb2 hm2 hl2 hc2=>exact .slice hb ((hm _ hb).symm.trans hm2) hl2 hc2
  |sliceOut hb2 hc2=>exact .sliceOut hb hc2
 |nilFunc=>intro u hu;cases hu;exact .nilFunc
 |nilIface=>intro u hu;cases hu;exact .nilIface
 |mapNil=>intro u hu;cases hu;exact .mapNil
 |map hb hm0=>intro u hu;cases hu with|map hb2 hm2=>exact .map hb ((hm _ hb).symm.trans hm2)
 |yield hb hm0=>intro u hu;cases hu with|yield hb2 hm2=>exact .yield hb ((hm _ hb).symm.trans hm2)
 |iface _ ih=>intro u hu;cases hu with|iface h2=>exact .iface (ih h2)
 |func ha hc h1 h2 ih ih'=>
  rename_i f a c a' c';intro u hu;cases hu with
  |func ha2 hc2 k1 k2=>
   refine .func ha2 hc2 (λi x y hx hy=>?_) (λi x y hx hy=>?_)
   ·obtain⟨z,hz⟩:∃z,a'[i]? = some z:=by
     have hlt:i<a.size:=by
      rcases aar i a.size with h|h
      ·exact h
      ·rw[aaO h]at hx;cases hx
     exact⟨_,aaP (ha ▸ hlt)⟩
    exact ih i x z hx hz (k1 i x y hx hy)
   ·obtain⟨z,hz⟩:∃z,c'[i]? = some z:=by
     have hlt:i<c.size:=by
      rcases aar i c.size with h|h
      ·exact h
      ·rw[aaO h]at hx;cases hx
     exact⟨_,aaP (hc ▸ hlt)⟩
    exact ih' i x z hx hz (k2 i x y hx hy)
 |agg ha h1 ih=>
  rename_i a a';intro u hu;cases hu with
  |agg ha2 k1=>
   refine .agg ha2 (λi x y hx hy=>?_)
   obtain⟨z,hz⟩:∃z,a'[i]? = some z:=by
    have hlt:i<a.size:=by
     rcases aar i a.size with h|h
     ·exact h
     ·rw[aaO h]at hx;cases hx
    exact⟨_,aaP (ha ▸ hlt)⟩
   exact ih i x z hx hz (k1 i x y hx hy)
 |tuple ha h1 ih=>
  rename_i a a';intro u hu;cases hu with
  |tuple ha2 k1=>
   refine .tuple ha2 (λi x y hx hy=>?_)
   obtain⟨z,hz⟩:∃z,a'[i]? = some z:=by
    have hlt:i<a.size:=by
     rcases aar i a.size with h|h
     ·exact h
     ·rw[aaO h]at hx;cases hx
    exact⟨_,aaP (ha ▸ hlt)⟩
   exact ih i x z hx hz (k1 i x y hx hy)
theorem xA.ext{ρ ρ':xt}(hn:ρ.next<=ρ'.next)(hm:∀b pl,b<ρ.next->ρ.m b=some pl->ρ'.m b=some pl){wr:Bool}{c:List aaa}{t:TypeId}{pl:Place}{w:World}(hc:xA P ρ wr c t pl w):xA P ρ' wr c t pl w:=by
 obtain⟨cs,fz,h1,h2,h3,h4,h5,h6⟩:=hc;exact⟨cs,fz,h1,h2,h3,h4,h5,λi x hx=>by obtain⟨y,hy,hv⟩:=h6 i x hx;exact⟨y,hy,hv.ext hn hm⟩⟩
theorem xA.down{ρ ρ2:xt}(hm:∀b,b<ρ.next->ρ2.m b=ρ.m b){wr wr2:Bool}{c:List aaa}{t:TypeId}{pl:Place}{w w2:World}(h:xA P ρ wr c t pl w)(h2:xA P ρ2 wr2 c t pl w2):xA P ρ wr2 c t pl w2:=by
 obtain⟨cs,fz,a1,a2,a3,a4,a5,a6⟩:=h;obtain⟨cs2,fz2,b1,b2,b3,b4,b5,b6⟩:=h2
 exact⟨cs2,fz2,b1,b2,b3,b4,b5,λi x hx=>by
  obtain⟨y,hy,hv⟩:=a6 i x hx;obtain⟨y2,hy2,hv2⟩:=b6 i x hx;exact⟨y2,hy2,hv.down hm hv2⟩⟩
theorem vX.ext{ρ ρ':xt}(hn:ρ.next<=ρ'.next)(hm:∀b pl,b<ρ.next->ρ.m b=some pl->ρ'.m b=some pl){wr:Bool}{o:wA}{pl:Place}{w:World}(hc:vX P ρ wr o pl w):vX P ρ' wr o pl w:=by
 cases o with
 |cells c t=>exact xA.ext hn hm hc
 |map es q=>obtain⟨ms,h1,h2,h3⟩:=hc;exact⟨ms,h1,h2,λi x m hx hm0=>⟨(h3 i x m hx hm0).1.ext hn hm,(h3 i x m hx hm0).2.1.ext hn hm,(h3 i x m hx hm0).2.2⟩⟩
 |iter m a b c=>obtain⟨m',h1,h0,h2⟩:=hc;exact⟨m',h1,h0,h2.ext hn hm⟩
 |tab c=>obtain⟨t,h1⟩:=hc;exact⟨t,xA.ext hn hm h1⟩
 |siter s pos=>exact hc
 |loop l=>obtain⟨tm,d,fn,h1,h2⟩:=hc;exact⟨tm,d,fn,h1,h2.size,λi=>(h2.get i).ext hn hm⟩
theorem vX.down{ρ ρ2:xt}(hm:∀b,b<ρ.next->ρ2.m b=ρ.m b){wr wr2:Bool}{o:wA}{pl:Place}{w w2:World}(h:vX P ρ wr o pl w)(h2:vX P ρ2 wr2 o pl w2):vX P ρ wr2 o pl w2:=by
 cases o with
 |cells c t=>exact xA.down hm h h2
 |iter m a b c=>
  obtain⟨m1,a1,_,a2⟩:=h;obtain⟨m2,b1,b0,b2⟩:=h2;exact⟨m2,b1,b0,a2.down hm b2⟩
 |siter s pos=>exact h2
 |tab c=>
  obtain⟨t,cs,fz,a1,a2,a3,a4,a5,a6⟩:=h;obtain⟨t2,cs2,fz2,b1,b2,b3,b4,b5,b6⟩:=h2
  exact⟨t2,cs2,fz2,b1,b2,b3,b4,b5,λi x hx=>by
   obtain⟨y,hy,hv⟩:=a6 i x hx;obtain⟨y2,hy2,hv2⟩:=b6 i x hx;exact⟨y2,hy2,hv.down hm hv2⟩⟩
 |map es q=>
  obtain⟨ms,a1,a2,a3⟩:=h;obtain⟨ms2,b1,b2,b3⟩:=h2;refine⟨ms2,b1,b2,λi x m hx hm0=>?_⟩
  obtain⟨z,hz⟩:∃z,ms[i]? = some z:=by
   have hlt:i<ms.size:=by
    rcases aar i es.length with h|h
    ·omega
    ·rw[aal h]at hx;cases hx
   exact⟨_,aaP hlt⟩
  exact⟨(a3 i x z hx hz).1.down hm (b3 i x m hx hm0).1,(a3 i x z hx hz).2.1.down hm (b3 i x m hx hm0).2.1,(b3 i x m hx hm0).2.2⟩
 |loop l=>
  obtain⟨tm,d,fn,a1,a2⟩:=h;obtain⟨tm2,d2,fn2,b1,b2⟩:=h2;exact⟨tm2,d2,fn2,b1,b2.size,λi=>(a2.get i).down hm (b2.get i)⟩
theorem vX.iq{ρ:xt}{n m:Nat}(h:n<=m){wr:Bool}{o:wA}{pl:Place}{w:World}(hc:vX P (ρ.cut n) wr o pl w):vX P (ρ.cut m) wr o pl w:=vX.ext (ρ:=ρ.cut n) (ρ':=ρ.cut m) h (λ_ _ _ h=>h) hc
theorem vX.Da{ρ ρ':xt}{n:Nat}(hm:∀b pl,ρ.m b=some pl->ρ'.m b=some pl){wr:Bool}{o:wA}{pl:Place}{w:World}(hc:vX P (ρ.cut n) wr o pl w):vX P (ρ'.cut n) wr o pl w:=vX.ext (ρ:=ρ.cut n) (ρ':=ρ'.cut n) (aam _) (λb pl _ h=>hm b pl h) hc
theorem zS.iq{ρ:xt}{n m:Nat}(h:n<=m){v v':aaa}(hv:zS (ρ.cut n) v v'):zS (ρ.cut m) v v':=zS.ext (ρ:=ρ.cut n) (ρ':=ρ.cut m) h (λ_ _ _ h=>h) hv
theorem zS.Da{ρ ρ':xt}{n:Nat}(hm:∀b pl,ρ.m b=some pl->ρ'.m b=some pl){v v':aaa}(hv:zS (ρ.cut n) v v'):zS (ρ'.cut n) v v':=zS.ext (ρ:=ρ.cut n) (ρ':=ρ'.cut n) (aam _) (λb pl _ h=>hm b pl h) hv
structure yW where
 j:Nat
 o:Oper
 v:aaa
 s:Env
 g:za
 g':za
 rd:Nat->Bool
 tc:Nat->Bool
def w7(T:List yW)(p:yW->Bool):Option yW:=(T.filter p).getLast?
def Jy(t:Nat)(r:yW):Bool:=decide (r.o.dst=some t)
def Jn(T:List yW)(s0:Env)(t:Nat):aaa:=match w7 T (Jy t) with|some r=>r.v|none=>s0.get t
def pR(T:List yW)(n0:Nat)(t:Nat):Nat:=match w7 T (Jy t) with|some r=>r.g'.next|none=>n0
def WM(T:List yW)(h0:za)(b:Nat):Option wA:=match w7 T (λr=>r.tc b) with|some r=>r.g'.get b|none=>h0.get b
def tC(T:List yW)(n0:Nat)(b:Nat):Nat:=match w7 T (λr=>r.tc b) with|some r=>r.g'.next|none=>n0
inductive Prec (ops:Array Oper):Nat->Nat->Prop
 |one {j:Nat} {o:Oper} {e:Edge} (ho:ops[j]? = some o) (he:e∈o.after) (hb:Region.binds .any e=true):Prec ops e.on j
 |more {i j:Nat} {o:Oper} {e:Edge} (ho:ops[j]? = some o) (he:e∈o.after) (hb:Region.binds .any e=true) (h:Prec ops i e.on):Prec ops i j
structure Bs (ops:Array Oper) (x y:yW):Prop where
 d1:∀d,x.o.dst=some d->d∉y.o.looksAt ops/\y.o.dst≠some d
 d2:∀d,y.o.dst=some d->d∉x.o.looksAt ops
 b1:∀b,x.tc b=true->y.rd b=false/\y.tc b=false
 b2:∀b,y.tc b=true->x.rd b=false
structure Told (P:Program) (ops:Array Oper) (s0:Env) (h0:za) (A:List yW) (r:yW):Prop where
 op:ops[r.j]? = some r.o
 env:∀t,r.s.get t=Jn A s0 t
 size:r.s.size=s0.size
 heap:∀b,r.g.get b=if r.rd b=true then WM A h0 b else none
 ro:r.g.ro=h0.ro
 n0:h0.next<=r.g.next
 nA:∀x,x∈A->x.g'.next<=r.g.next
 n1:r.g.next<=r.g'.next
 sem:Yn P ops r.s r.o r.g r.v r.g'
 put:∀d,r.o.dst=some d->d<s0.size
 tc1:∀b,r.tc b=true->r.rd b=true\/(r.g.next<=b/\b<r.g'.next)
 tc2:∀b,r.tc b=false->r.g'.get b=r.g.get b
 tc3:∀b o,r.tc b=true->b<r.g.next->r.g'.get b=some o->r.g.get b≠none
structure Valid (P:Program) (ops:Array Oper) (s0:Env) (h0:za) (tr:List yW):Prop where
 nodup:(tr.map (·.j)).Nodup
 all:∀i,i<ops.size->∃r,r∈tr/\r.j=i
 told:∀A r B,tr=A++r::B->Told P ops s0 h0 A r
 aY:∀A r B,tr=A++r::B->∀e,e∈r.o.after->Region.binds .any e=true->∃x,x∈A/\x.j=e.on
 apart:∀A x B y C,tr=A++x::(B++y::C)->Prec ops x.j y.j\/Bs ops x y
theorem U0{tr A B:List yW}{r x:yW}(hn:(tr.map (·.j)).Nodup)(e:tr=A++r::B)(hx:x∈A\/x∈B):x.j≠r.j:=by
 subst e;rw[abp,ab7]at hn;have h1:=List.nodup_append.1 hn;intro ej;rcases hx with hx|hx
 ·exact h1.2.2 x.j (acq hx) r.j (by simp) ej
 ·have:=(List.nodup_cons.1 h1.2.1).1;exact this (ej ▸ acq hx)
theorem zb6{ops:Array Oper}{s0:Env}{h0:za}{tr:List yW}(V:Valid P ops s0 h0 tr){S:Nat->Bool}(hdown:∀i j,Prec ops i j->S j=true->S i=true){A B:List yW}{r:yW}(e:tr=A++r::B)
  (hready:∀i,Prec ops i r.j->S i=true) (hnot:S r.j=false) {p:yW->Bool} (hp:∀x,(x∈A->p x=true->Prec ops x.j r.j)/\(x∈B->p x=true->Prec ops r.j x.j)) :
  (A.filter (λx=>S x.j)).filter p=A.filter p/\(B.filter (λx=>S x.j)).filter p=[]:=by
 constructor
 ·rw[acj];apply abX;intro x hx;cases hpx:p x with
  |false=>simp
  |true=>rw[hready _ ((hp x).1 hx hpx)];rfl
 ·rw[acj,acL];intro x hx hc;simp only[aag]at hc;have:=hdown _ _ ((hp x).2 hx hc.1) hc.2;rw[hnot]at this;cases this
theorem Valid.order{ops:Array Oper}{s0:Env}{h0:za}{tr A B:List yW}{r:yW}(V:Valid P ops s0 h0 tr)(e:tr=A++r::B){p:yW->Bool}(hA:∀x,Bs ops x r->p x=false)(hB:∀x,Bs ops r x->p x=false) :
  ∀x,(x∈A->p x=true->Prec ops x.j r.j)/\(x∈B->p x=true->Prec ops r.j x.j):=by
 intro x
 constructor
 ·intro hx hpx;obtain⟨A1,A2,rfl⟩:=aa0 hx;rcases V.apart A1 x A2 r B (by simp[e]) with h|h
  ·exact h
  ·rw[hA x h]at hpx;cases hpx
 ·intro hx hpx;obtain⟨B1,B2,rfl⟩:=aa0 hx;rcases V.apart A r B1 x B2 e with h|h
  ·exact h
  ·rw[hB x h]at hpx;cases hpx
end
end Go.Ai
