import Derived.Test.YtpjjmindjodknaaGreatTA
import Derived.Lib.Builder
import Derived.Lib.UnsafeStr
import Derived.LaidEqlPtr
import GoSem.Builtin.Cap
import GoSem.Builtin.UnsafeString
import Derived.Laws.Externs
import Derived.Lib.MakeNoZero
import Derived.Orders
set_option linter.unusedVariables false
set_option linter.unusedSimpArgs false
set_option maxRecDepth 100000
namespace Go.Ai
noncomputable section
variable {P:Program}
theorem Vn{w:World}{l:Nat}{cs:Array aaa}{e:TypeId}{fz:Nat×Nat}(h:w.heap[l]? = some (.cells cs e fz)):w.shape? l=some (e,cs.size):=by
 simp[World.shape?,h]
def Bc(P:Program)(src dst:TypeId)(x:aaa)(h:za):Option aaa :=
 match P.underlying src,P.underlying dst,x with
 |some (.pointer t),some .unsafePointer,.pointer (some ⟨b,off,none⟩)=>(match h.get b,P.info? t with
  |some (.cells c _),some j=>cond (Nat.blt off c.length && !(Nat.beq j.size 0)) (some (.pointer (some ⟨b,off,none⟩))) none
  |_,_=>none)
 |some .unsafePointer,some (.pointer u),.pointer (some ⟨b,off,none⟩)=>(match h.get b,P.info? u with
  |some (.cells c e),some _=>cond (Nat.beq e u&&Nat.blt 0 (P.cellsOf u)&&Nat.beq (off%P.cellsOf u) 0&&Nat.ble (off+P.cellsOf u) c.length) (some (.pointer (some ⟨b,off,none⟩))) none
  |_,_=>none)
 |_,_,_=>none
theorem Oo{e:TypeId}{cells o:Nat}(hs:0<P.cellsOf e)(h0:o%P.cellsOf e=0)(hle:o+P.cellsOf e<=cells):liesAt P P.depth e (cells/P.cellsOf e) o e 1=true:=by
 have hd:P.depth=(2*(P.types.size+Made.depth)+1)+1:=rfl
 have hlt:o/P.cellsOf e+1<=cells/P.cellsOf e:=by
  have h1:=Nat.div_le_div_right (c:=P.cellsOf e) hle;rw[Nat.add_div_right _ hs]at h1;exact h1
 rw[hd];simp only[liesAt,aaW]
 left
 rw[hd];have hne:P.cellsOf e≠0:=by omega
 simp only[rowAt,aag hne,h0];simp[hlt,sameLayout]
theorem Gn{e:TypeId}(hc:P.cellsOf e=1){count o n:Nat}(hn:o+n<=count):liesAt P P.depth e count o e n=true:=by
 have hd:P.depth=(2*(P.types.size+Made.depth)+1)+1:=rfl;rw[hd];simp only[liesAt,aaW]
 left
 rw[hd];simp[rowAt,hc,hn,sameLayout,Nat.mod_one]
theorem Bd{ρ:xo}{src dst:TypeId}{x x' v:aaa}{h:za}{w:World}(he:Bc P src dst x h=some v)(hr:Rel P ρ h w)(hx:zH ρ x x') :
  ∃v',(convert src dst x').run P w=.ok v' w/\zH ρ v v':=by
 unfold Bc at he;split at he
 ·rename_i t b off hs hd;cases hx with
  |ptr hb hm=>
   rename_i pl;split at he
   case h_2=>cases he
   rename_i c e j hg hi;obtain⟨hc,he⟩:=Kj he;simp only[aab]at he;subst he;simp only[aad,aaM,aan]at hc;obtain⟨cs,fz,h1,h2,h3,h4,h5,h6⟩:=hr.place hg hm;have hj:j.size≠0:=by intro ez;rw[ez]at hc;simp at hc
   refine⟨_,Lib.run_to_unsafe w ⟨pl.c,pl.base+off,none⟩ hs hd hi hj (Vn h1) ?_,.ptr hb hm⟩;show pl.base+off<cs.size;omega
 ·rename_i u b off hs hd;cases hx with
  |ptr hb hm=>
   rename_i pl;split at he
   case h_2=>cases he
   rename_i c e j hg hi;obtain⟨hc,he⟩:=Kj he;simp only[aab]at he;subst he;simp only[aad,aaM]at hc;obtain⟨⟨⟨k1,k2⟩,k3⟩,k4⟩:=hc;obtain rfl:=aak k1;have k3:=aak k3;have k4:=aaE k4;obtain⟨cs,fz,h1,h2,⟨h3,h30⟩,h4,h5,h6⟩:=hr.place hg hm;refine⟨_,Lib.run_from_unsafe w ⟨pl.c,pl.base+off,none⟩ hs hd hi (Vn h1) (Oo k2 ?_ ?_),.ptr hb hm⟩
   ·show(pl.base+off)%P.cellsOf e=0;rw[Nat.add_mod,<- h3,h30,h3,k3];simp
   ·show pl.base+off+P.cellsOf e<=cs.size;omega
 ·cases he
def Tz:aaa->Option aaa
 | .slice none _ _=>some (.pointer none)
 | .slice (some ⟨b,off,none⟩) n _=>cond (Nat.blt 0 n) (some (.pointer (some ⟨b,off,none⟩))) none
 |_=>none
theorem FL{ρ:xo}{x x' v:aaa}(he:Tz x=some v)(hx:zH ρ x x')(ts:Array TypeId)(ty:TypeId)(w:World):∃v',(Builtin.unsafeSliceData_ ts ty #[x']).run P w=.ok v' w/\zH ρ v v':=by
 unfold Tz at he;split at he
 ·simp only[aab]at he;subst he;cases hx;exact⟨_,Lib.run_unsafeSliceData_nil w ts ty _ _,.ptrNil⟩
 ·rename_i b off n c;obtain⟨hn,he⟩:=Kj he;simp only[aab]at he;subst he;have hn:0<n:=by simpa [aaM] using hn
  cases hx with
  |slice hb hm hl hc=>exact⟨_,Lib.run_unsafeSliceData_row w ts ty _ _ _ (by omega),.ptr hb hm⟩
  |sliceOut=>omega
 ·cases he
def K5:List aaa->Option (List UInt8)
 |[]=>some []
 | .int .u8 z::r=>cond (decide (((UInt8.ofNat z.toNat).toNat:Int)=z)) ((K5 r).map λl=>UInt8.ofNat z.toNat::l) none
 |_=>none
theorem iZ:∀{c:List aaa} {l:List UInt8},K5 c=some l->c.length=l.length /\ ∀(j:Nat) x,l[j]? = some x->c[j]? = some (.int .u8 x.toNat)
 |[],l,h=>by simp only[K5,aab]at h;subst h;exact⟨rfl,λj x hx=>by simp at hx⟩
 |a::c,l,h=>by
  unfold K5 at h;split at h
  ·rename_i e;cases e
  ·rename_i z r e;simp only[aa6]at e;obtain⟨rfl,rfl⟩:=e;obtain⟨hz,h⟩:=Kj h;obtain⟨l',hl,rfl⟩:=aas.1 h;obtain⟨q1,q2⟩:=iZ hl;have hz:=aa1 hz;refine⟨by simp[q1],λj x hx=>?_⟩;cases j with
   |zero=>simp only[aay,aab]at hx ⊢;subst hx;rw[hz]
   |succ j=>simpa using q2 j x (by simpa using hx)
  ·cases h
theorem aI{pt it ty e:TypeId}(hp:P.underlying pt=some (.pointer e))(hc:P.cellsOf e=1){w:World}{g o cells:Nat}(hsh:w.shape? g=some (e,cells)){l:List UInt8}(h0:l≠[])(hn:o+l.length<=cells)(h63:l.length<=9223372036854775807)
  (hcell:∀(j:Nat) x,l[j]? = some x->w.cell? ((⟨g,o,none⟩:Addr).add j)=some (.int .u8 x.toNat)) :
  (Builtin.unsafeString_ #[pt,it] ty #[.pointer (some ⟨g,o,none⟩),.int .i64 l.length]).run P w=.ok (.string ⟨l.toArray⟩) (w.freeze ⟨g,o,none⟩ l.length):=by
 have hl:l.length≠0:=by simpa using h0
 have hlb:=Lib.run_loadBytes (P:=P) w l ⟨g,o,none⟩ .empty hcell;have hlies:=Gn (P:=P) hc (count:=cells/P.cellsOf e) (o:=o) (n:=l.length) (by rw[hc];simpa using hn);have h63':¬(9223372036854775807:Int)<(l.length:Int):=by omega
 have hmax:IntKind.i64.max=9223372036854775807:=rfl;have hneg:¬(l.length:Int)<0:=by omega
 rw[show Builtin.unsafeString_ #[pt,it] ty #[.pointer (some ⟨g,o,none⟩),.int .i64 l.length]=(asInt (.int .i64 l.length) >>= _) from rfl];simp[asInt,asIntOf,hmax,h63',hneg,hl,variablesAt,hsh,elemOf,run_underlying hp,hlies,hlb]
def ptrTo(P:Program)(pt e:TypeId):Bool :=
 match P.underlying pt with
 |some (.pointer e')=>Nat.beq e' e
 |_=>false
theorem OU{pt e:TypeId}(h:ptrTo P pt e=true):P.underlying pt=some (.pointer e):=by
 unfold ptrTo at h;split at h
 ·rename_i e' he;rw[he,aak h]
 ·cases h
def aus(P:Program)(pt:TypeId)(p:aaa)(n:Int)(h:za):Option (aaa×za) :=
 match p with
 | .pointer none=>cond (decide (n=0)) (some (.string .empty,h)) none
 | .pointer (some ⟨b,off,none⟩)=>cond (decide (n=0)) (some (.string .empty,h)) (match h.get b with
   |some (.cells c e)=>(match K5 ((c.drop off).take n.toNat) with
    |some l=>cond (Nat.ble h.ro b&&ptrTo P pt e&&Nat.beq (P.cellsOf e) 1&&decide (n=(l.length:Int))&&Nat.blt 0 l.length&&Nat.ble l.length 9223372036854775807) (some (.string ⟨l.toArray⟩,h.set b none)) none
    |none=>none)
   |_=>none)
 |_=>none
theorem py(w:World)(p:Addr)(n k:Nat)(hk:k≠p.block):(w.freeze p n).heap[k]? = w.heap[k]?:=by
 unfold World.freeze;split
 ·rfl
 ·simp only[Array.getElem?_modify];rw[aag (by omega)]
theorem BB(w:World)(p:Addr)(n:Nat):(w.freeze p n).os=w.os/\(w.freeze p n).tape=w.tape/\(w.freeze p n).output=w.output/\(w.freeze p n).heap.size=w.heap.size:=by
 unfold World.freeze;split
 ·exact⟨rfl,rfl,rfl,rfl⟩
 ·exact⟨rfl,rfl,rfl,by simp⟩
theorem Step.leave{ρ:xo}{h:za}{w w':World}(hr:Rel P ρ h w){b:Nat}{o:vl}{pl:Place}(hg:h.get b=some o)(hm:ρ.m b=some pl)(hro:h.ro<=b)(hos:w'.os=w.os)(htape:w'.tape=w.tape)(hout:w'.output=w.output)(hsz:w'.heap.size=w.heap.size)
  (hfr:∀k,k≠pl.c->w'.heap[k]? = w.heap[k]?):Step P ρ h w ρ (h.set b none) w':=by
 have hd:=hr.drop b;refine⟨xo.le_refl _,⟨hd.next,hd.ro,hd.Ko,λx ox hx=>?_,hd.inj,hd.lh,hd.Yn⟩,rfl,hos,htape,hout,by omega,λk _ hn=>hfr k (λe=>hn ⟨b,o,pl,hg,hro,hm,e.symm⟩),λk hk hM=>?_⟩
 ·obtain⟨p,hp,hc⟩:=hd.ok x ox hx;refine⟨p,hp,hc.other (hfr _ (λec=>?_))⟩;rw[za.yy]at hx;split at hx
  ·cases hx
  ·rename_i ne;exact ne (hr.inj x b _ _ p pl hx hg hp hm ec)
 ·obtain⟨x,ox,p,hx,h1,h2,h3⟩:=hM;rw[za.yy]at hx;split at hx
  ·cases hx
  ·exact⟨x,ox,p,hx,h1,h2,h3⟩
theorem Lp{ρ:xo}{pt it ty:TypeId}{p p' v:aaa}{n:Int}{h h':za}{w:World}(he:aus P pt p n h=some (v,h'))(hr:Rel P ρ h w)(hx:zH ρ p p') :
  ∃v' w',(Builtin.unsafeString_ #[pt,it] ty #[p',.int .i64 n]).run P w=.ok v' w'/\Step P ρ h w ρ h' w'/\zH ρ v v':=by
 unfold aus at he;split at he
 ·obtain⟨hn,he⟩:=Kj he;simp only[aab,aae]at he;obtain⟨rfl,rfl⟩:=he;obtain rfl:=aa1 hn;cases hx;exact⟨_,w,Lib.run_unsafeString_none w _ _ _ _,.refl hr,.string _⟩
 ·rename_i b off;cases hx with
  |ptr hb hm=>
   rename_i pl;cases hn:decide (n=0) with
   |true=>
    rw[hn]at he;simp only[aav,aab,aae]at he;obtain⟨rfl,rfl⟩:=he;obtain rfl:=aa1 hn;exact⟨_,w,Lib.run_unsafeString_none w _ _ _ _,.refl hr,.string _⟩
   |false=>
    rw[hn]at he;simp only[aaB]at he;split at he
    case h_2=>cases he
    rename_i c e hg;split at he
    case h_2=>cases he
    rename_i l hl;obtain⟨hc,he⟩:=Kj he;simp only[aab,aae]at he;obtain⟨rfl,rfl⟩:=he;simp only[aad,aaF,aaM]at hc;obtain⟨⟨⟨⟨⟨k1,k2⟩,k3⟩,k4⟩,k5⟩,k6⟩:=hc;have k1:=aaE k1;have k3:=aak k3;have k6:=aaE k6;subst k4;obtain⟨q1,q2⟩:=iZ hl;simp only[abl,aaQ,abh]at q1;obtain⟨cs,fz,h1,h2,h3,h4,h5,h6⟩:=hr.place hg hm;obtain⟨f1,f2,f3,f4⟩:=BB w ⟨pl.c,pl.base+off,none⟩ l.length;refine⟨_,_,aI (OU k2) k3 (Vn h1) (by intro el;subst el;simp at k5) (by omega) k6 (λj x hx=>?_),.leave hr hg hm k1 f1 f2 f3 f4 (λk hk=>py _ _ _ _ hk),.string _⟩;have hq:=q2 j x hx;simp only[abl]at hq
    have hjl:j<l.length:=by
     rcases aaL j l.length with h7|h7
     ·exact h7
     ·rw[aat h7]at hx;cases hx
    rw[aa0 hjl,aaS]at hq;obtain⟨y,hy,hxy⟩:=h6 _ _ hq;cases hxy;have ea:(⟨pl.c,pl.base+off,none⟩:Addr).add j=⟨pl.c,pl.base+off+j,none⟩:=jG _ _ _;rw[ea];simp only[World.cell?,h1];rw[abJ];simpa using hy
 ·cases he
def zbf(P:Program)(op:BinOp)(t:TypeId)(a b:aaa):Option aaa :=
 match P.underlying t,a,b with
 |some (.pointer te),.pointer (some ⟨b1,o1,none⟩),.pointer (some ⟨b2,o2,none⟩)=>(match P.info? te with
  |some _=>cond (Nat.beq b1 b2&&Nat.beq o1 o2) (match op with
   | .eql=>some (.bool true)
   | .neq=>some (.bool false)
   |_=>none) none
  |none=>none)
 |_,_,_=>none
def zK(P:Program)(op:BinOp)(t:TypeId)(x y:Operand)(a b:aaa):Option aaa :=
 match M8 P op t x y a b with
 |some v=>some v
 |none=>zbf P op t a b
theorem Dt{ρ:xo}{op:BinOp}{t:TypeId}{x y:Operand}{a b a' b' v:aaa}(h:zK P op t x y a b=some v)(ha:zH ρ a a')(hb:zH ρ b b')(w:World) :
  ∃v',(do eqGuard op t x y a' b';binOp op t a' b':Sem aaa).run P w=.ok v' w/\zH ρ v v':=by
 unfold zK at h;split at h
 ·rename_i u hu;simp only[aab]at h;subst h;exact FD hu ha hb w
 ·unfold zbf at h;split at h
  case h_2=>cases h
  rename_i te b1 o1 b2 o2 ht0 ht;split at h
  case h_2=>cases h
  rename_i j hj;obtain⟨hc,hh⟩:=Kj h;clear h;simp only[aad]at hc;obtain rfl:=aak hc.1;obtain rfl:=aak hc.2;cases ha with
  |ptr h1 m1=>
   rename_i pl;cases hb with
   |ptr h2 m2=>
    rename_i pl2;rw[m1]at m2;cases m2;have hg:(eqGuard op t x y (.pointer (some ⟨pl.c,pl.base+o1,none⟩)) (.pointer (some ⟨pl.c,pl.base+o1,none⟩))).run P w=.ok () w:=by cases op <;> simp[eqGuard]
    split at hh
    ·simp only[aab]at hh;subst hh;exact⟨.bool true,by simp only[aah,hg,aac,run_eql_ptr_same w _ ht0 hj],.bool true⟩
    ·simp only[aab]at hh;subst hh;exact⟨.bool false,by simp only[aah,hg,aac,Lib.run_neq_ptr_same w _ ht0 hj],.bool false⟩
    ·cases hh
def Tu(P:Program)(t:TypeId)(x:aaa):Option aaa :=
 match yg P (underlying t),x with
 |some (.slice _),.slice none _ _=>some (goInt 0)
 |some (.slice _),.slice (some ⟨_,_,none⟩) _ c=>cond (Nat.ble 2 c) (some (goInt (c-2:Nat))) none
 |_,_=>none
theorem FG{ρ:xo}{t:TypeId}{x x' v:aaa}(he:Tu P t x=some v)(hx:zH ρ x x')(r:TypeId)(w:World):(Builtin.cap_ #[t] r #[x']).run P w=.ok v w/\zH ρ v v:=by
 unfold Tu at he;split at he
 ·rename_i hu;simp only[aab]at he;subst he;refine⟨?_,.int _ _⟩;cases hx;simp[Builtin.cap_,zh hu]
 ·rename_i b off n c hu;obtain⟨hc,he⟩:=Kj he;simp only[aab]at he;subst he;have hc:=aaE hc;refine⟨?_,.int _ _⟩;cases hx with
  |slice hb hm hl hcap=>
   rename_i cap pl;have:=(hcap (by omega)).2 (c-2) (by omega);subst this;simp[Builtin.cap_,zh hu]
  |sliceOut hb h2=>
   have:c-2=0:=by omega
   rw[this];simp[Builtin.cap_,zh hu]
 ·cases he
end
noncomputable section
variable {P:Program}
def Vm(s:ByteArray):List aaa:=s.data.toList.map λb => .int .u8 b.toNat
def QC(P:Program)(src dst:TypeId)(x:aaa)(h:za):Option (aaa×za) :=
 match cond (flat x) (fl (yg P (convert src dst x))) none with
 |some v=>some (v,h)
 |none=>(match yg P (underlying src),yg P (underlying dst),x with
  |some _,some (.slice e),.string s=>(match yg P (underlying e),yg P (sizeOf e) with
   |some (.int .u8),some 1=>some (.slice (some ⟨h.next,0,none⟩) s.size 1,h.push (.cells (Vm s) e))
   |_,_=>none)
  |some (.slice e),some .string,.slice base n c=>(match yg P (underlying e) with
   |some (.int .u8)=>(M7 h (.slice base n c)).map λv=>(v,h)
   |_=>none)
  |_,_,_=>none)
theorem Ki{t:TypeId}{n:Nat}(h:yg P (sizeOf t)=some n):P.cellsOf t=n:=by
 simp only[sizeOf,typeInfo,program,Sem.bind,bind,yg]at h;cases hp:P.info? t with
 |none=>rw[hp]at h;cases h
 |some j=>rw[hp]at h;simp only[pure,Sem.bind,yg,aab]at h;subst h;simp[Program.cellsOf,hp]
theorem Mm{ρ:xo}{h:za}{w:World}{e:TypeId}{s:ByteArray}(hr:Rel P ρ h w)(hsz:yg P (sizeOf e)=some 1) :
  ∃v' w' ρ',(Conv.stringToBytes e s).run P w=.ok v' w'/\Step P ρ h w ρ' (h.push (.cells (Vm s) e)) w'/\zH ρ' (.slice (some ⟨h.next,0,none⟩) s.size 1) v':=by
 let q:Question := .appendCap s.size 0 e
 let newCap:=q.cut (w.tape w.drawn q)
 have hge:s.size<=newCap:=by show s.size<=s.size+_%_;omega
 let cs:Array aaa:=(s.data.map λb=>Value.int .u8 b.toNat)++Array.replicate (newCap-s.size) (.int .u8 0)
 have hcs:cs.size=newCap:=by simp only[cs,Array.size_append,Array.size_map,Array.size_replicate];show s.size+(newCap-s.size)=newCap;omega
 let w1:World:={w with drawn:=w.drawn+1}
 have hr1:Rel P ρ h w1:=hr.grow (λk _=>rfl);have hesz:=Ki hsz
 let w2:World:={w1 with heap:=w1.heap.push (.cells cs e (cs.size,cs.size+1))}
 have st:=Step.push (t:=e) hr1 (c:=Vm s) (cs:=cs) (fz:=(cs.size,cs.size+1)) (w':=w2) rfl (λi hi hh=>by simp only[]at hh;omega)
  (by simp only[Vm,aau,hcs,abg];exact hge)
  (λk x hx=>by
   refine⟨x,?_,?_⟩
   ·have hlt:k<s.data.size:=by
     rcases aaL k s.data.size with h|h
     ·exact h
     ·rw[aat (by simpa [Vm] using h)]at hx;cases hx
    rw[Array.getElem?_append_left (by simpa using hlt)];simpa [Vm] using hx
   ·simp only[Vm,aaA,aas]at hx;obtain⟨b,_,rfl⟩:=hx;exact .int _ _) rfl rfl rfl
 refine⟨.slice (some ⟨w.heap.size,0,none⟩) s.size newCap,w2,_,?_,⟨st.le,st.rel,st.ro,st.os,st.tape,st.output,st.size,st.frame,st.l9⟩,?_⟩
 ·have hq:(choose (.appendCap s.size 0 e)).run P w=.ok newCap w1:=by rw[run_choose];rfl
  simp only[Conv.stringToBytes,aah,hq,aac];have hn:(newRow e cs).run P w1=.ok ⟨w.heap.size,0,none⟩ {w1 with heap:=w1.heap.push (.cells cs e)}:=rfl;rw[show(s.data.map λb=>Value.int .u8 b.toNat)++Array.replicate (newCap-s.size) (.int .u8 0)=cs from rfl,hn];have hb:({w1 with heap:=w1.heap.push (.cells cs e)}:World).heap[w.heap.size]? = some (.cells cs e):=by show(w.heap.push _)[w.heap.size]? = _;simp
  have hsh:(markStringish ⟨w.heap.size,0,none⟩).run P {w1 with heap:=w1.heap.push (.cells cs e)} = .ok () w2:=by
   simp only[markStringish,aah,run_shape,aac,World.shape?,hb,run_freeze];simp only[World.freeze];rw[aag (by decide)]
   congr 1
   show World.mk _ _ _ _ _=World.mk _ _ _ _ _
   congr 1
   show(w.heap.push _).modify w.heap.size _=w.heap.push _;apply Array.ext_getElem?;intro k;simp only[Array.getElem?_modify,Array.getElem?_push];by_cases e:k=w.heap.size
   ·subst e;simp
   ·simp[e];intro e2;exact absurd e2.symm e
  simp only[aac,hsh,aal]
 ·have:=zH.slice (ρ:=ρ.ext ⟨w1.heap.size,0,cs.size,P.cellsOf e⟩) (b:=h.next) (off:=0) (len:=s.size) (c:=1) (cap:=newCap) (pl:=⟨w1.heap.size,0,cs.size,P.cellsOf e⟩)
   (by show h.next<ρ.next+1;rw[hr.next];exact aaZ _) (by rw[<- hr.next];exact ρ.ko _) hge (λ_=>⟨by simp[hesz,hcs],λk hk=>by omega⟩)
  exact this
theorem Ba{ρ:xo}{src dst:TypeId}{x x' v:aaa}{h h':za}{w:World}(he:QC P src dst x h=some (v,h'))(hr:Rel P ρ h w)(hx:zH ρ x x') :
  ∃v' w' ρ',(convert src dst x').run P w=.ok v' w'/\Step P ρ h w ρ' h' w'/\zH ρ' v v':=by
 unfold QC at he;split at he
 ·rename_i u hu;simp only[aab,aae]at he;obtain⟨rfl,rfl⟩:=he;cases hf:flat x with
  |false=>rw[hf]at hu;cases hu
  |true=>
   rw[hf]at hu;obtain⟨h1,h2⟩:=VS hu;obtain rfl:=kp hx hf;exact⟨u,w,ρ,zh h1 w,.refl hr,.of_flat ρ h2⟩
 ·split at he
  ·rename_i e s hs hd _;cases hx;split at he
   ·rename_i hu hz;simp only[aab,aae]at he;obtain⟨rfl,rfl⟩:=he;obtain⟨v',w',ρ',e1,st,hv⟩:=Mm (e:=e) (s:=s) hr hz;refine⟨v',w',ρ',?_,st,hv⟩;simp only[convert,aah,zh hs,zh hd,aac,zh hu,e1]
   ·cases he
  ·rename_i e base n c hs hd _;split at he
   ·rename_i hu;simp only[aas,aae]at he;obtain⟨r,hb,rfl,rfl⟩:=he;obtain⟨e1,hv⟩:=FC hb hr hx;refine⟨r,w,ρ,?_,.refl hr,hv⟩;cases hx <;> simp only[convert,aah,zh hs,zh hd,aac,zh hu,e1]
   ·cases he
  ·cases he
def xg(P:Program)(src dst:TypeId)(x:aaa)(h:za):Option (aaa×za) :=
 match QC P src dst x h with
 |some r=>some r
 |none=>(Bc P src dst x h).map λv=>(v,h)
theorem Dy{ρ:xo}{src dst:TypeId}{x x' v:aaa}{h h':za}{w:World}(he:xg P src dst x h=some (v,h'))(hr:Rel P ρ h w)(hx:zH ρ x x') :
  ∃v' w' ρ',(convert src dst x').run P w=.ok v' w'/\Step P ρ h w ρ' h' w'/\zH ρ' v v':=by
 unfold xg at he;split at he
 ·rename_i r hc;simp only[aab]at he;subst he;exact Ba hc hr hx
 ·simp only[aas,aae]at he;obtain⟨u,hu,rfl,rfl⟩:=he;obtain⟨v',e,hv⟩:=Bd hu hr hx;exact⟨v',w,ρ,e,.refl hr,hv⟩
def ze(P:Program)(t:TypeId)(len:Nat)(parts:List (Nat×aaa))(h:za):Option (aaa×za) :=
 match yg P (underlying t) with
 |some (.slice elem)=>(match yg P (sizeOf elem),YT P elem with
  |some n,some z=>cond (Nat.ble (len*n) (2^24)&&Nat.blt 0 z.cells.size&&Nat.blt 0 n) (match Instr.fill (λi=>some (i*n,n)) (YK z.cells.toList (len*n)).toArray parts with
   |some cs=>cond (Nat.beq cs.size (len*n)) (some (.slice (some ⟨h.next,0,none⟩) len (len+2),h.push (.cells cs.toList elem))) none
   |none=>none) none
  |_,_=>none)
 |_=>none
theorem eu{ρ:xo}{t:TypeId}{len:Nat}{parts parts':List (Nat×aaa)}{h h':za}{v:aaa}{w:World}(he:ze P t len parts h=some (v,h'))(hr:Rel P ρ h w)(hp:l6 ρ parts parts') :
  ∃v' w' ρ',(Instr.buildSlice t len parts'.toArray).run P w=.ok v' w'/\Step P ρ h w ρ' h' w'/\zH ρ' v v':=by
 unfold ze at he;split at he
 case h_2=>cases he
 rename_i elem hu;split at he
 case h_2=>cases he
 rename_i n z hn hz;cases hc:(Nat.ble (len*n) (2^24)&&Nat.blt 0 z.cells.size&&Nat.blt 0 n) with
 |false=>rw[hc]at he;cases he
 |true=>
  rw[hc]at he;simp only[aad]at hc;have h24:=aaE hc.1.1;have hzs:0<z.cells.size:=by simpa [aaM] using hc.1.2
  obtain⟨z1,z2⟩:=Zg (ρ:=ρ) hz w;simp only[aav]at he;split at he
  case h_2=>cases he
  rename_i cs hfill;cases hsz:Nat.beq cs.size (len*n) with
  |false=>rw[hsz]at he;cases he
  |true=>
   rw[hsz]at he;simp only[aav,aab,aae]at he;obtain⟨rfl,rfl⟩:=he;have hsz:=aak hsz;obtain⟨cs',hf',hv⟩:=eK _ _ _ (YK z.cells.toList (len*n)).toArray _ hp (rH z2 (by omega) _) hfill
   obtain⟨e,st⟩:=cQ (t:=elem) hr (c:=cs.toList) (cs:=cs') (by rw[hv.1,abg];exact aaj _) (λi x hx=>by
    obtain⟨y,hy,hxy⟩:=hv.get hx;exact⟨y,by simpa using hy,hxy⟩)
   have hcsz:cs'.size=len*n:=by have:=hv.1;simp only[abg]at this;omega
   refine⟨.slice (some ⟨w.heap.size,0,none⟩) len len,_,_,?_,st,?_⟩
   ·simp only[Instr.buildSlice,aah,zh hu,aac,zh hn];rw[aag (by omega)];by_cases h0:len*n=0
    ·rw[aai h0];have:((Array.range (len*n)).map λk=>(#[]:Array aaa)[k%(#[]:Array aaa).size]!)=(YK z.cells.toList (len*n)).toArray:=by rw[h0];simp[YK]
     simp only[aah,aal,aac,this,hf',e]
    ·rw[aag h0];simp only[aah,z1,aal,aac,AN,hf',e]
   ·exact zH.slice (ρ:=ρ.ext _) (b:=h.next) (off:=0) (pl:=⟨w.heap.size,0,cs'.size,P.cellsOf elem⟩) (by show h.next<ρ.next+1;rw[hr.next];exact aaZ _) (by rw[<- hr.next];exact ρ.ko _) (aaj _)
     (λ_=>⟨by simp[Ki hn,hcsz],λk hk=>by omega⟩)
theorem zo{α:Type}{b:Bool}{x:Option α}{y:α}(h:cond b x none=some y):b=true/\x=some y:=by
 cases b with
 |true=>exact⟨rfl,h⟩
 |false=>cases h
def rT(s:Env):Option Operand->Option (Option aaa)
 |none=>some none
 |some x=>(kG s x).map some
theorem QD{ρ:xo}{s:Env}{a:Act}(hs:vG ρ s a.tmps){x:Option Operand}{v:Option aaa}(h:rT s x=some v):IV ρ v (x.map a.eval):=by
 cases x with
 |none=>simp only[rT,aab]at h;subst h;exact⟨λv hv=>by(cases hv),λ_=>rfl⟩
 |some x=>
  simp only[rT,aas]at h;obtain⟨u,hu,rfl⟩:=h;exact⟨λv hv=>by cases hv;exact⟨_,rfl,zY hs hu⟩,λhn=>by cases hn⟩
def EO:Option aaa->Bool
 |none=>true
 |some v=>flat v
def zG(P:Program)(b:Builtin)(ts:List TypeId)(r:TypeId)(vs:List aaa)(h:za):Option (aaa×za) :=
 match b,ts,vs with
 | .append,[sT,xT],[s,x]=>VN P sT xT s x h
 | .copy,t::_,[d,x]=>DA P t d x h
 | .len,[t],[x]=>(tN P t x h).map λv=>(v,h)
 | .clear,[t],[x]=>(ow P t x h).map λh'=>(undef,h')
 | .min,_,_=>cond (vs.all flat) ((fl (yg P (Builtin.min_ ts.toArray r vs.toArray))).map λv=>(v,h)) none
 | .max,_,_=>cond (vs.all flat) ((fl (yg P (Builtin.max_ ts.toArray r vs.toArray))).map λv=>(v,h)) none
 | .delete,t::_,[x,k]=>(W4 P t x k h).map λh'=>(undef,h')
 | .cap,[t],[x]=>(Tu P t x).map λv=>(v,h)
 | .unsafeSliceData,_,[x]=>(Tz x).map λv=>(v,h)
 | .unsafeString,[pt,it],[p,.int .i64 n]=>aus P pt p n h
 |_,_,_=>none
theorem cW{ρ:xo}:∀{xs ys:List aaa},wG ρ xs ys->xs.all flat=true->ys=xs
 |[],ys,h,_=>h.uG
 |x::xs,ys,h,hf=>by
  obtain⟨y,ys',rfl,h1,h2⟩:=h.cons_inv;simp only[ab8,aad]at hf;rw[kp h1 hf.1,cW h2 hf.2]
theorem ou{ρ:xo}{b:Builtin}{ts:Array TypeId}{r:TypeId}{vs vs':List aaa}{cs:Array Bool}{v:aaa}{h h':za}{w:World}(he:zG P b ts.toList r vs h=some (v,h'))(hr:Rel P ρ h w)(hv:wG ρ vs vs') :
  ∃v' w' ρ',(builtin b ts r cs vs'.toArray).run P w=.ok (.value v') w'/\Step P ρ h w ρ' h' w'/\zH ρ' v v':=by
 unfold zG at he;split at he
 ·rename_i sT xT s x hts;obtain⟨s',l1,rfl,v1,hv⟩:=hv.cons_inv;obtain⟨x',l2,rfl,v2,hv⟩:=hv.cons_inv;cases hv.uG;have:ts = #[sT,xT]:=by rw[<- abK (xs:=ts),hts]
  subst this;obtain⟨v',w',ρ',e,st,hv'⟩:=rN (r:=r) he hr v1 v2;exact⟨v',w',ρ',by simp only[builtin,aah];rw[e];rfl,st,hv'⟩
 ·rename_i t ts' d x hts;obtain⟨d',l1,rfl,v1,hv⟩:=hv.cons_inv;obtain⟨x',l2,rfl,v2,hv⟩:=hv.cons_inv;cases hv.uG;obtain⟨v',w',e,st,hv'⟩:=DB (ts:=ts) (r:=r) he hr v1 v2 (by rw[<- Array.getElem?_toList,hts];rfl);exact⟨v',w',ρ,by simp only[builtin,aah];rw[e];rfl,st,hv'⟩
 ·rename_i t x hts;obtain⟨x',l1,rfl,v1,hv⟩:=hv.cons_inv;cases hv.uG;have:ts = #[t]:=by rw[<- abK (xs:=ts),hts]
  subst this;simp only[aas,aae]at he;obtain⟨u,hu,rfl,rfl⟩:=he;obtain⟨e,hv'⟩:=DF hu hr v1 r;exact⟨u,w,ρ,by simp only[builtin,aah];rw[e];rfl,.refl hr,hv'⟩
 ·rename_i t x hts;obtain⟨x',l1,rfl,v1,hv⟩:=hv.cons_inv;cases hv.uG;have:ts = #[t]:=by rw[<- abK (xs:=ts),hts]
  subst this;simp only[aas,aae]at he;obtain⟨u,hu,rfl,rfl⟩:=he;obtain⟨w',e,st⟩:=A9 (r:=r) hu hr v1;exact⟨undef,w',ρ,by simp only[builtin,aah];rw[e];rfl,st,.Zk _ rfl⟩
 ·obtain⟨hf,he⟩:=zo he;simp only[aas,aae]at he;obtain⟨u,hu,rfl,rfl⟩:=he;obtain⟨h1,h2⟩:=VS hu;obtain rfl:=cW hv hf;refine⟨u,w,ρ,?_,.refl hr,.of_flat _ h2⟩;have h1:=zh h1 w;rw[abK]at h1;simp only[builtin,aah,h1];rfl
 ·obtain⟨hf,he⟩:=zo he;simp only[aas,aae]at he;obtain⟨u,hu,rfl,rfl⟩:=he;obtain⟨h1,h2⟩:=VS hu;obtain rfl:=cW hv hf;refine⟨u,w,ρ,?_,.refl hr,.of_flat _ h2⟩;have h1:=zh h1 w;rw[abK]at h1;simp only[builtin,aah,h1];rfl
 ·rename_i t ts' x k hts;obtain⟨x',l1,rfl,v1,hv⟩:=hv.cons_inv;obtain⟨k',l2,rfl,v2,hv⟩:=hv.cons_inv;cases hv.uG;simp only[aas,aae]at he;obtain⟨u,hu,rfl,rfl⟩:=he;obtain⟨w',e,st⟩:=gz (ts:=ts) (r:=r) hu (by rw[<- Array.getElem?_toList,hts];rfl) hr v1 v2;exact⟨undef,w',ρ,by simp only[builtin,aah];rw[e];rfl,st,.Zk _ rfl⟩
 ·rename_i t x hts;obtain⟨x',l1,rfl,v1,hv⟩:=hv.cons_inv;cases hv.uG;have:ts = #[t]:=by rw[<- abK (xs:=ts),hts]
  subst this;simp only[aas,aae]at he;obtain⟨u,hu,rfl,rfl⟩:=he;obtain⟨e,hv'⟩:=FG hu v1 r w;exact⟨u,w,ρ,by simp only[builtin,aah];rw[e];rfl,.refl hr,hv'⟩
 ·rename_i ts' x hts;obtain⟨x',l1,rfl,v1,hv⟩:=hv.cons_inv;cases hv.uG;simp only[aas,aae]at he;obtain⟨u,hu,rfl,rfl⟩:=he;obtain⟨v',e,hv'⟩:=FL hu v1 ts r w;exact⟨v',w,ρ,by simp only[builtin,aah];rw[e];rfl,.refl hr,hv'⟩
 ·rename_i pt it p n hts;obtain⟨p',l1,rfl,v1,hv⟩:=hv.cons_inv;obtain⟨n',l2,rfl,v2,hv⟩:=hv.cons_inv;cases hv.uG;cases v2;have:ts = #[pt,it]:=by rw[<- abK (xs:=ts),hts]
  subst this;obtain⟨v',w',e,st,hv'⟩:=Lp (it:=it) (ty:=r) he hr v1;exact⟨v',w',ρ,by simp only[builtin,aah];rw[e];rfl,st,hv'⟩
 ·cases he
def one(h:za)(x:Option aaa):Option (aaa×za):=match x with|none=>none|some v=>some (v,h)
def Um(P:Program)(s:Env)(o:Oper)(h:za):Option (aaa×za) :=
 match o.op with
 | .move x | .assign x=>one h (kG s x)
 | .pick c a b=>(match kG s c with
   |some (.bool true)=>one h (kG s a)
   |some (.bool false)=>one h (kG s b)
   |_=>none)
 | .box t x=>(match kG s x with
   |some v=>some (r9 h v.cells.toList t)
   |none=>none)
 | .alloc t=>(match YT P t with
   |some z=>some (r9 h z.cells.toList t)
   |none=>none)
 | .build t parts=>(match W5 s parts.toList with
   |some ps=>one h (zM P t ps)
   |none=>none)
 | .buildSlice t len parts=>(match W5 s parts.toList with
   |some ps=>ze P t len ps h
   |none=>none)
 | .load t a=>(match kG s a with
   |some v=>one h (zd P t v h)
   |none=>none)
 | .store t a x=>(match kG s a,kG s x with
   |some p,some v=>(match ux P t p v h with
    |some h'=>some (undef,h')
    |none=>none)
   |_,_=>none)
 | .nilCheck x=>(match kG s x with
   |some (.pointer (some a))=>some (.pointer (some a),h)
   |some (.func (.func f) a c)=>some (.func (.func f) a c,h)
   |_=>none)
 | .binOp op t x y _=>(match kG s x,kG s y with
   |some a,some b=>one h (zK P op t x y a b)
   |_,_=>none)
 | .unOp op _ x=>(match kG s x with
   |some a=>cond (flat a) (one h (fl (yg P (Op.unary op a)))) none
   |none=>none)
 | .convert src dst x=>(match kG s x with
   |some a=>xg P src dst a h
   |none=>none)
 | .makeInterface t x=>(match kG s x with
   |some a=>(match yg P (Instr.makeInterface t (.bool true)) with
    |some _=>some (.iface t a,h)
    |none=>none)
   |none=>none)
 | .makeFunc (.func f) first captured=>(match Vq s first.toList,Vq s captured.toList with
   |some a,some c=>some (.func (.func f) a.toArray c.toArray,h)
   |_,_=>none)
 | .makeSlice t l c=>(match kG s l,kG s c with
   |some a,some b=>YS P t a b h
   |_,_=>none)
 | .slice t x lo hi none=>(match kG s x,rT s lo,rT s hi with
   |some (.string str),some a,some b=>(match flatSlice P t str a b with
    |some v=>some (v,h)
    |none=>none)
   |some v,some a,some b=>one h (gD P t v a b h)
   |_,_,_=>none)
 | .fieldAddr t x f=>(match kG s x with
   |some a=>one h (zp P t a f)
   |none=>none)
 | .field t x f=>(match kG s x with
   |some (.agg cs)=>(match yg P (underlying t) with
    |some (.struct fields)=>(match fields[f]? with
     |some fd=>one h (apart P fd.type cs.toList fd.offset)
     |none=>none)
    |_=>none)
   |_=>none)
 | .indexAddr t x i=>(match kG s x,kG s i with
   |some a,some b=>one h (xR P t a b)
   |_,_=>none)
 | .index t x i=>(match kG s x,kG s i with
   |some a,some b=>cond (flat a&&flat b) (one h (fl (yg P (Instr.index t a b)))) none
   |_,_=>none)
 | .extract x i=>(match kG s x with
   |some (.tuple vs)=>one h vs[i]?
   |_=>none)
 | .call {callee := .builtin b,args,argTypes}=>(match Vq s args.toList with
   |some vs=>zG P b argTypes.toList o.type vs h
   |none=>none)
 | .makeMap _ none=>some (UE h)
 | .lookup t x k ok=>(match kG s x,kG s k with
   |some a,some b=>one h (lY P t a b ok h)
   |_,_=>none)
 | .mapUpdate t m k x=>(match kG s m,kG s k,kG s x with
   |some a,some b,some c=>(match Xe P t a b c h with
    |some h'=>some (undef,h')
    |none=>none)
   |_,_,_=>none)
 | .range t x=>(match kG s x with
   |some a=>gC P t a h
   |none=>none)
 | .next x str=>(match kG s x with
   |some a=>tP P a str h
   |none=>none)
 | .entry x=>(match kG s x with
   |some a=>one h (Be a h)
   |none=>none)
 |_=>none
 where
  flatSlice (P:Program) (t:TypeId) (str:ByteArray) (a b:Option aaa):Option aaa :=
   cond (EO a&&EO b) (fl (yg P (Instr.sliceAt t (.string str) a b none))) none
end
noncomputable section
variable {P:Program}
def mu(P:Program)(ρ:xo)(h:za)(w:World)(s:Sem Next)(v:aaa)(h':za):Prop :=
 ∃n w' ρ' v',s.run P w=.ok n w'/\(n=.value v'\/(n=.skip/\v'=undef))/\Step P ρ h w ρ' h' w'/\zH ρ' v v'
theorem mu.val{ρ:xo}{h h':za}{w:World}{s:Sem aaa}{v:aaa}(e:∃v' w' ρ',s.run P w=.ok v' w'/\Step P ρ h w ρ' h' w'/\zH ρ' v v') :
  mu P ρ h w (do pure (.value (<- s))) v h':=by
 obtain⟨v',w',ρ',e,st,hv⟩:=e;exact⟨.value v',w',ρ',v',by rw[aah,e];rfl,.inl rfl,st,hv⟩
theorem mu.still{ρ:xo}{h:za}{w:World}{s:Sem aaa}{v:aaa}(hr:Rel P ρ h w)(e:∃v',s.run P w=.ok v' w/\zH ρ v v') :
  mu P ρ h w (do pure (.value (<- s))) v h:=by
 obtain⟨v',e,hv⟩:=e;exact .val ⟨v',w,ρ,e,.refl hr,hv⟩
theorem mu.pure{ρ:xo}{h:za}{w:World}{v v':aaa}(hr:Rel P ρ h w)(hv:zH ρ v v'):mu P ρ h w (Pure.pure (.value v')) v h :=
 ⟨.value v',w,ρ,v',rfl,.inl rfl,.refl hr,hv⟩
theorem vF{h h':za}{x:Option aaa}{v:aaa}(e:one h x=some (v,h')):x=some v/\h'=h:=by
 unfold one at e;split at e
 ·cases e
 ·simp only[aab,aae]at e;obtain⟨rfl,rfl⟩:=e;exact⟨rfl,rfl⟩
theorem p6{ρ:xo}{h:za}{w:World}{c v:aaa}{b:Bool}{va vb:aaa}(hr:Rel P ρ h w)(hc:zH ρ (.bool b) c)(hv:zH ρ v (if b=true then va else vb)) :
  mu P ρ h w (do Pure.pure (.value (if <- asBool c then va else vb))) v h:=by
 cases hc;exact⟨_,w,ρ,_,by simp only[asBool,aah,aal,aac],.inl rfl,.refl hr,hv⟩
theorem rO{ρ:xo}{t:TypeId}{a b a' b' v:aaa}(hf:(flat a&&flat b)=true)(h:fl (yg P (Instr.index t a b))=some v)(ha:zH ρ a a')(hb:zH ρ b b')(w:World) :
  ∃v',(Instr.index t a' b').run P w=.ok v' w/\zH ρ v v':=by
 simp only[aad]at hf;obtain rfl:=kp ha hf.1;obtain rfl:=kp hb hf.2;obtain⟨h1,h2⟩:=VS h;exact⟨v,zh h1 w,.of_flat ρ h2⟩
theorem AB{ρ:xo}{x x':Option aaa}(h:IV ρ x x')(hf:EO x=true):x'=x:=by
 cases x with
 |none=>exact h.2 rfl
 |some v=>obtain⟨v',rfl,hv⟩:=h.1 v rfl;rw[kp hv hf]
set_option maxHeartbeats 1000000 in
theorem tQ{ρ:xo}{s:Env}{a:Act}{o:Oper}{h h':za}{v:aaa}{w:World}(he:Um P s o h=some (v,h'))(hr:Rel P ρ h w)(hs:vG ρ s a.tmps) :
  mu P ρ h w (execOp a.eval o) v h':=by
 unfold Um at he;split at he
 ·
  rename_i x yk;obtain⟨h1,rfl⟩:=vF he;simp only[execOp,yk];exact .pure hr (zY hs h1)
 ·
  rename_i x yk;obtain⟨h1,rfl⟩:=vF he;simp only[execOp,yk];exact .pure hr (zY hs h1)
 ·
  rename_i c x y yk;simp only[execOp,yk];split at he
  ·rename_i hc;obtain⟨h1,rfl⟩:=vF he;exact p6 hr (zY hs hc) (by rw[aai rfl];exact zY hs h1)
  ·rename_i hc;obtain⟨h1,rfl⟩:=vF he;exact p6 hr (zY hs hc) (by rw[aag (by decide)];exact zY hs h1)
  ·cases he
 ·
  rename_i t x yk;simp only[execOp,yk];split at he
  case h_2=>cases he
  rename_i u hu;simp only[aab,r9,aae]at he;obtain⟨rfl,rfl⟩:=he;obtain⟨a',w',ρ',e,st,hv⟩:=eY hr (zY hs hu) t;exact .val ⟨_,w',ρ',by simp only[Instr.box,aah,e,aac,aal],st,hv⟩
 ·
  rename_i t yk;simp only[execOp,yk];split at he
  case h_2=>cases he
  rename_i z hz;simp only[aab,r9,aae]at he;obtain⟨rfl,rfl⟩:=he;obtain⟨z1,z2⟩:=Zg (ρ:=ρ) hz w;obtain⟨a',w',ρ',e,st,hv⟩:=eY hr z2 t;exact .val ⟨_,w',ρ',by simp only[Instr.alloc,aah,z1,e,aac,aal],st,hv⟩
 ·
  rename_i t parts yk;simp only[execOp,yk];split at he
  case h_2=>cases he
  rename_i ps hps;obtain⟨h1,rfl⟩:=vF he;have hp:=QF hs hps;obtain⟨v',e,hv⟩:=A8 h1 hp w;refine .still hr ⟨v',?_,hv⟩;rw[<- e]
  congr 1
  congr 1
  apply abY;simp
 ·
  rename_i t len parts yk;simp only[execOp,yk];split at he
  case h_2=>cases he
  rename_i ps hps;have hp:=QF hs hps;obtain⟨v',w',ρ',e,st,hv⟩:=eu he hr hp;refine .val ⟨v',w',ρ',?_,st,hv⟩;rw[<- e]
  congr 1
  congr 1
  apply abY;simp
 ·
  rename_i t x yk;simp only[execOp,yk];split at he
  case h_2=>cases he
  rename_i u hu;obtain⟨h1,rfl⟩:=vF he;exact .still hr (iV h1 hr (zY hs hu))
 ·
  rename_i t p x yk;simp only[execOp,yk];split at he
  case h_2=>cases he
  rename_i pv xv hp hx;split at he
  case h_2=>cases he
  rename_i h2 hst;simp only[aab,aae]at he;obtain⟨rfl,rfl⟩:=he;obtain⟨w',e,st⟩:=Bs hst hr (zY hs hp) (zY hs hx);exact⟨.skip,w',ρ,undef,by rw[aah,e];rfl,.inr ⟨rfl,rfl⟩,st,.Zk _ rfl⟩
 ·
  rename_i x yk;simp only[execOp,yk];split at he
  ·rename_i p hp;simp only[aab,aae]at he;obtain⟨rfl,rfl⟩:=he;have e:=zY hs hp;generalize a.eval x=xv at e;cases e with
   |ptr hb hm=>exact .pure hr (.ptr hb hm)
   |Yn=>exact .pure hr .Yn
  ·rename_i f fa fc hp;simp only[aab,aae]at he;obtain⟨rfl,rfl⟩:=he;have e:=zY hs hp;generalize a.eval x=xv at e;cases e with
   |func h1 h2 h3 h4=>exact .pure hr (.func h1 h2 h3 h4)
  ·cases he
 ·
  rename_i op t x y yt yk;simp only[execOp,yk];split at he
  case h_2=>cases he
  rename_i xv yv hx hy;obtain⟨h1,rfl⟩:=vF he;exact .still hr (Dt h1 (zY hs hx) (zY hs hy) w)
 ·
  rename_i op t x yk;simp only[execOp,yk];split at he
  case h_2=>cases he
  rename_i xv hx;obtain⟨hf,he⟩:=zo he;obtain⟨h1,rfl⟩:=vF he;obtain⟨h2,h3⟩:=VS h1;rw[kp (zY hs hx) hf];exact .still hr ⟨v,zh h2 w,.of_flat ρ h3⟩
 ·
  rename_i src dst x yk;simp only[execOp,yk];split at he
  case h_2=>cases he
  rename_i xv hx;exact .val (Dy he hr (zY hs hx))
 ·
  rename_i t x yk;simp only[execOp,yk];split at he
  case h_2=>cases he
  rename_i xv hx;split at he
  case h_2=>cases he
  rename_i u hu;simp only[aab,aae]at he;obtain⟨rfl,rfl⟩:=he;refine .still hr ⟨.iface t (a.eval x),?_,.iface (zY hs hx)⟩;have:=zh hu w;simp only[Instr.makeInterface,aah]at this ⊢;cases hun:(underlying t).run P w with
  |halt e w2=>rw[hun]at this;cases this
  |ok d w2=>
   rw[hun]at this;simp only[aac]at this ⊢;cases d <;> simp_all
 ·
  rename_i f first captured yk
  simp only[execOp,yk];split at he
  case h_2=>cases he
  rename_i av cv ha hc;simp only[aab,aae]at he;obtain⟨rfl,rfl⟩:=he;have e1:=jy hs ha;have e2:=jy hs hc;refine .still hr ⟨.func (.func f) (first.map a.eval) (captured.map a.eval),rfl,.func (by simpa using e1.1) (by simpa using e2.1) (λi x y hx hy=>e1.2 i x y (by simpa using hx) (by simpa using hy)) (λi x y hx hy=>e2.2 i x y (by simpa using hx) (by simpa using hy))⟩
 ·
  rename_i t l c yk;simp only[execOp,yk];split at he
  case h_2=>cases he
  rename_i lv cv hl hc;exact .val (DH he hr (zY hs hl) (zY hs hc))
 ·
  rename_i t x lo hi yk;simp only[execOp,yk];split at he
  ·rename_i str av bv hx ha hb;split at he
   case h_2=>cases he
   rename_i u hu;simp only[aab,aae]at he;obtain⟨rfl,rfl⟩:=he;obtain⟨hf,hu⟩:=zo hu;simp only[aad]at hf;obtain⟨h1,h2⟩:=VS hu;rw[kp (zY hs hx) rfl,AB (QD hs ha) hf.1,AB (QD hs hb) hf.2];exact .still hr ⟨u,zh h1 w,.of_flat ρ h2⟩
  ·rename_i xv av bv _ hx ha hb;obtain⟨h1,rfl⟩:=vF he;exact .still hr (Br h1 hr (zY hs hx) (QD hs ha) (QD hs hb))
  ·cases he
 ·
  rename_i t x f yk;simp only[execOp,yk];split at he
  case h_2=>cases he
  rename_i xv hx;obtain⟨h1,rfl⟩:=vF he;exact .still hr (Bj h1 (zY hs hx) w)
 ·
  rename_i t x f yk;simp only[execOp,yk];split at he
  case h_2=>cases he
  rename_i cs hx;split at he
  case h_2=>cases he
  rename_i fields hu;split at he
  case h_2=>cases he
  rename_i fd hfd;obtain⟨h1,rfl⟩:=vF he;have e:=zY hs hx;generalize a.eval x=xv at e;cases e with
  |agg h2 h3=>
   rename_i cs';obtain⟨v',e,hv⟩:=DK (cs':=cs') h1 ⟨by simpa using h2,λi x y hx hy=>h3 i x y (by simpa using hx) (by simpa using hy)⟩ w;refine .still hr ⟨v',?_,hv⟩;simp only[Instr.field,aah,zh hu,aac,hfd,asAgg,aal,e]
 ·
  rename_i t x i yk;simp only[execOp,yk];split at he
  case h_2=>cases he
  rename_i xv iv hx hi;obtain⟨h1,rfl⟩:=vF he;exact .still hr (Bl h1 (zY hs hx) (zY hs hi) w)
 ·
  rename_i t x i yk;simp only[execOp,yk];split at he
  case h_2=>cases he
  rename_i xv iv hx hi;obtain⟨hf,he⟩:=zo he;obtain⟨h1,rfl⟩:=vF he;exact .still hr (rO hf h1 (zY hs hx) (zY hs hi) w)
 ·
  rename_i x i yk;simp only[execOp,yk];split at he
  case h_2=>cases he
  rename_i vs hx;obtain⟨h1,rfl⟩:=vF he;have e:=zY hs hx;generalize a.eval x=xv at e;cases e with
  |tuple h2 h3=>
   rename_i vs'
   have hlt:i<vs.size:=by
    rcases aaL i vs.size with h|h
    ·exact h
    ·rw[aaH h]at h1;cases h1
   have hy:vs'[i]? = some vs'[i]:=aaI (h2 ▸ hlt);refine .still hr ⟨vs'[i]'(h2 ▸ hlt),?_,h3 i _ _ h1 hy⟩;simp only[Instr.extract,hy,aal]
 ·
  rename_i b args ts yk;simp only[execOp,yk];split at he
  case h_2=>cases he
  rename_i vs hvs;have e:=jy hs hvs;obtain⟨v',w',ρ',e1,st,hv⟩:=ou (cs:=args.map λ | .const _=>true|_=>false) he hr e;refine⟨.value v',w',ρ',v',?_,.inl rfl,st,hv⟩;simp only[resolve,aah,aal,aac,invoke];rw[<- e1]
  congr 2
  apply abY;simp
 ·
  rename_i t yk;simp only[execOp,yk];simp only[aab]at he;obtain⟨v',w',ρ',e,st,hv⟩:=oC hr t;rw[he]at st hv;exact .val ⟨v',w',ρ',e,st,hv⟩
 ·
  rename_i t x k ok yk;simp only[execOp,yk];split at he
  case h_2=>cases he
  rename_i xv kv hx hk;obtain⟨h1,rfl⟩:=vF he;exact .still hr (rP h1 hr (zY hs hx) (zY hs hk))
 ·
  rename_i t m k x yk;simp only[execOp,yk];split at he
  case h_2=>cases he
  rename_i mv kv xv hm hk hx;split at he
  case h_2=>cases he
  rename_i h2 hu;simp only[aab,aae]at he;obtain⟨rfl,rfl⟩:=he;obtain⟨w',e,st⟩:=gB hu hr (zY hs hm) (zY hs hk) (zY hs hx);exact⟨.skip,w',ρ,undef,by simp only[aah,e,aac,aal],.inr ⟨rfl,rfl⟩,st,.Zk _ rfl⟩
 ·
  rename_i t x yk;simp only[execOp,yk];split at he
  case h_2=>cases he
  rename_i xv hx;exact .val (Bp he hr (zY hs hx))
 ·
  rename_i x str yk;simp only[execOp,yk];split at he
  case h_2=>cases he
  rename_i xv hx;exact .val (DJ he hr (zY hs hx))
 ·
  rename_i x yk;simp only[execOp,yk];split at he
  case h_2=>cases he
  rename_i xv hx;obtain⟨h1,rfl⟩:=vF he;exact .still hr (Bf h1 hr (zY hs hx))
 ·cases he
end
noncomputable section
variable {P:Program}
def vB(b:Frame)(tm:Array aaa)(ds:List Deferred)(todo:List Item):Frame :=
 {fn:=b.fn,tmps:=tm,todo,defers:=ds,mode := .run,kind:=b.kind,roundOf:=b.roundOf}
theorem pb(b:Frame)(tm:Array aaa)(ds:List Deferred)(todo:List Item):(vB b tm ds todo).eval=(Act.eval ⟨tm,ds⟩):=by
 funext x;cases x <;> rfl
section moves
variable {b:Frame}{tm:Array aaa}{ds:List Deferred}{k:List Item}{cs:List Frame}{w:World}
theorem Ge:step P (lone (vB b tm ds (.code .skip::k)) cs w)=.next (lone (vB b tm ds k) cs w):=step_lone_go (by simp[stepG,stepG.exec,vB])
theorem Ea{l:Nat}:step P (lone (vB b tm ds (.code (.label l)::k)) cs w)=.next (lone (vB b tm ds k) cs w):=step_lone_go (by simp[stepG,stepG.exec,vB])
theorem r5{id:Nat}:step P (lone (vB b tm ds (.inBlock id::k)) cs w)=.next (lone (vB b tm ds k) cs w):=step_lone_go (by simp[stepG,stepG.exec,vB])
theorem r6{c:Code}:step P (lone (vB b tm ds (.inScope c::k)) cs w)=.next (lone (vB b tm ds k) cs w):=step_lone_go (by simp[stepG,stepG.exec,vB])
theorem gR{x y:Code}:step P (lone (vB b tm ds (.code (.seq x y)::k)) cs w)=.next (lone (vB b tm ds (.code x :: .code y::k)) cs w):=step_lone_go (by simp[stepG,stepG.exec,vB])
theorem Gc{c:Operand}{x y:Code}{t:Bool}(h:Act.eval ⟨tm,ds⟩ c=.bool t):step P (lone (vB b tm ds (.code (.cond c x y)::k)) cs w)=.next (lone (vB b tm ds (.code (if t then x else y)::k)) cs w) :=
 step_lone_go (by
  have:=congrFun (pb b tm ds (.code (.cond c x y)::k)) c;simp only[vB]at this;simp[stepG,stepG.exec,vB,this,h])
theorem VT{id:Nat}{c:Code}:step P (lone (vB b tm ds (.code (.block id c)::k)) cs w)=.next (lone (vB b tm ds (.code c :: .inBlock id::k)) cs w):=step_lone_go (by simp[stepG,stepG.exec,vB])
theorem Je{c:Code}:step P (lone (vB b tm ds (.code (.scope c)::k)) cs w)=.next (lone (vB b tm ds (.code c :: .inScope c::k)) cs w):=step_lone_go (by simp[stepG,stepG.exec,vB])
theorem QN{c:Code}:step P (lone (vB b tm ds (.code (.loop c)::k)) cs w)=.next (lone (vB b tm ds (.code c :: .inLoop c::k)) cs w):=step_lone_go (by simp[stepG,stepG.exec,vB])
theorem BC{c:Code}:step P (lone (vB b tm ds (.inLoop c::k)) cs w)=.next (lone (vB b tm ds (.code c :: .inLoop c::k)) cs w):=step_lone_go (by simp[stepG,stepG.exec,vB])
theorem Gd{id:Nat}{k':List Item}(h:exitTo id k=some k'):step P (lone (vB b tm ds (.code (.exit id)::k)) cs w)=.next (lone (vB b tm ds k') cs w):=step_lone_go (by simp[stepG,stepG.exec,vB,h])
theorem BD{id:Nat}{ops:Array Oper}:step P (lone (vB b tm ds (.code (.region id ops false)::k)) cs w)=.next (lone (vB b tm ds (.inRegion ops (List.range ops.size)::k)) cs w):=step_lone_go (by simp[stepG,stepG.exec,vB])
theorem VU{id:Nat}{ops:Array Oper}:step P (lone (vB b tm ds (.code (.region id ops true)::k)) cs w) =
  .next (lone (vB b tm ds (.inRegion ops (Region.schedule (P.follows .mixedOrders) ops (w.tape w.drawn (.order b.fn id)))::k)) cs {w with drawn:=w.drawn+1}) :=
 step_lone_go (by simp[stepG,stepG.exec,vB,choose,Sem.run,Question.forced,Question.cut])
theorem Xj{ops:Array Oper}:step P (lone (vB b tm ds (.inRegion ops []::k)) cs w)=.next (lone (vB b tm ds k) cs w):=step_lone_go (by simp[stepG,stepG.exec,vB])
theorem LN(hb:b.roundOf=none):step P (lone (vB b tm ds (.code .ret::k)) cs w)=.next (lone {vB b tm ds (.code .ret::k) with mode := .returning} cs w) :=
 step_lone_go (by simp[stepG,stepG.exec,vB,hb])
theorem LM(hb:b.roundOf=none):step P (lone (vB b tm ds []) cs w)=.next (lone {vB b tm ds [] with mode := .returning} cs w) :=
 step_lone_go (by simp[stepG,stepG.exec,vB,hb])
theorem jB(ops:Array Oper)(i:Nat)(rest:List Nat)(v:aaa) :
  (vB b tm ds (.inRegion ops (i::rest)::k)).finish v=vB b (qo tm ((ops[i]?).bind (·.dst)) v) ds (.inRegion ops rest::k):=by
 cases h:(ops[i]?).bind (·.dst) <;> simp[Frame.finish,vB,qo,h]
theorem bj{ops:Array Oper}{i:Nat}{rest:List Nat}(h:((ops[i]?).map (Region.wanted · (yielded ops tm))).getD false=false) :
  step P (lone (vB b tm ds (.inRegion ops (i::rest)::k)) cs w)=.next (lone ((vB b tm ds (.inRegion ops (i::rest)::k)).finish undef) cs w):=by
 exact step_lone_go (by
  have h':=h;simp only[vB]at *
  simp[stepG,stepG.exec,h'])
def Xv:Op->Bool
 | .defer _=>true
 |_=>false
theorem aA{ops:Array Oper}{i:Nat}{rest:List Nat}{o:Oper}(ho:ops[i]? = some o)(hw:Region.wanted o (yielded ops tm)=true)(hd:Xv o.op=false) :
  stepG P true {frame:=vB b tm ds (.inRegion ops (i::rest)::k),callers:=cs,status := .running,dying:=none} w =
   stepG.apply P true (vB b tm ds (.inRegion ops (i::rest)::k)) cs none (execOp (Act.eval ⟨tm,ds⟩) o) w:=by
 have he:=pb b tm ds (.inRegion ops (i::rest)::k);have hw':((ops[i]?).map (Region.wanted · (yielded ops tm))).getD false=true:=by rw[ho];exact hw
 have h2:(vB b tm ds (.inRegion ops (i::rest)::k)).oper? = some o:=by simp[Frame.oper?,vB,ho]
 have h1:stepG P true {frame:=vB b tm ds (.inRegion ops (i::rest)::k),callers:=cs,status := .running,dying:=none} w=stepG.oper P true (vB b tm ds (.inRegion ops (i::rest)::k)) cs none w:=by
  simp only[stepG,vB];simp only[stepG.exec,hw'];rfl
 rw[h1];simp only[stepG.oper,h2,he];cases hro:(vB b tm ds (.inRegion ops (i::rest)::k)).roundOf with
 |none=>rfl
 |some l=>cases yk:o.op <;> first|rfl|(rw[yk]at hd;cases hd)
theorem YA{ops:Array Oper}{i:Nat}{rest:List Nat}{o:Oper}(ho:ops[i]? = some o)(hw:Region.wanted o (yielded ops tm)=true)(hd:Xv o.op=false){v:aaa}{w':World}
  (hr:(execOp (Act.eval ⟨tm,ds⟩) o).run P w=.ok (.value v) w') :
  step P (lone (vB b tm ds (.inRegion ops (i::rest)::k)) cs w)=.next (lone ((vB b tm ds (.inRegion ops (i::rest)::k)).finish v) cs w') :=
 step_lone_go (by rw[aA ho hw hd];simp[stepG.apply,hr])
theorem Xu{ops:Array Oper}{i:Nat}{rest:List Nat}{o:Oper}(ho:ops[i]? = some o)(hw:Region.wanted o (yielded ops tm)=true)(hd:Xv o.op=false){w':World}
  (hr:(execOp (Act.eval ⟨tm,ds⟩) o).run P w=.ok .skip w') :
  step P (lone (vB b tm ds (.inRegion ops (i::rest)::k)) cs w)=.next (lone ((vB b tm ds (.inRegion ops (i::rest)::k)).finish undef) cs w') :=
 step_lone_go (by rw[aA ho hw hd];simp[stepG.apply,hr])
theorem Jd{ops:Array Oper}{i:Nat}{rest:List Nat}{o:Oper}(ho:ops[i]? = some o)(hw:Region.wanted o (yielded ops tm)=true)(hd:Xv o.op=false){f:FuncId}{args:Array aaa}{w':World}
  (hr:(execOp (Act.eval ⟨tm,ds⟩) o).run P w=.ok (.enter f args) w') :
  step P (lone (vB b tm ds (.inRegion ops (i::rest)::k)) cs w)=.next (lone (Frame.enter P f args .normal) (vB b tm ds (.inRegion ops (i::rest)::k)::cs) w') :=
 step_lone_go (by rw[aA ho hw hd];simp[stepG.apply,hr,vB])
end moves
end
noncomputable section
variable {P:Program}
inductive Ex where
 |normal
 |exit (id:Nat)
 |ret
 deriving DecidableEq
def Arr(P:Program)(m:Machine)(b:Frame)(k:List Item)(cs:List Frame)(e:Ex)(tm:Array aaa)(ds:List Deferred)(w:World):Prop :=
 match e with
 | .normal=>Steps P m (lone (vB b tm ds k) cs w)
 | .exit id=>∃todo,exitTo id todo=exitTo id k/\Steps P m (lone (vB b tm ds (.code (.exit id)::todo)) cs w)
 | .ret=>∃todo,Steps P m (lone (vB b tm ds (.code .ret::todo)) cs w)
theorem Arr.of_steps{m m₁:Machine}{b:Frame}{k:List Item}{cs:List Frame}{e:Ex}{tm:Array aaa}{ds:List Deferred}{w:World}(h:Steps P m m₁)(h':Arr P m₁ b k cs e tm ds w):Arr P m b k cs e tm ds w:=by
 cases e with
 |normal=>exact h.trans h'
 |exit id=>obtain⟨t,e,s⟩:=h';exact⟨t,e,h.trans s⟩
 |ret=>obtain⟨t,s⟩:=h';exact⟨t,h.trans s⟩
theorem OF{ρ:xo}{h:za}{w:World}(hr:Rel P ρ h w){r:Nat}{o:Obj}(ho:w.heap[r]? = some o)(hn:∃x,o=.deferred x):¬mq ρ h r:=by
 rintro⟨b,ob,pl,hg,_,hm,rfl⟩;obtain⟨x,rfl⟩:=hn;have hc:=hr.OJ hg hm;cases ob with
 |cells c t=>obtain⟨cs,fz,h1,_⟩:=hc;rw[h1]at ho;cases ho
 |map es q=>obtain⟨ms,h1,_⟩:=hc;rw[h1]at ho;cases ho
 |iter m a b c=>obtain⟨m',h1,_⟩:=hc;rw[h1]at ho;cases ho
 |tab c=>obtain⟨t,cs,fz,h1,_⟩:=hc;rw[h1]at ho;cases ho
 |siter s pos=>have h1:w.heap[pl.c]? = _:=hc.1;rw[h1]at ho;cases ho
 |loop l=>obtain⟨tm,d,fn,h1,_⟩:=hc;rw[h1]at ho;cases ho
theorem gW{w:World}{r:Nat}{o:Obj}(h:w.heap[r]? = some o):r<w.heap.size:=by
 rcases aaL r w.heap.size with hl|hl
 ·exact hl
 ·rw[aaH hl]at h;cases h
def EA(r:Nat):Deferred:={target := .collected r,args := #[]}
def Kq(w:World)(ds:List Deferred)(w':World)(ds':List Deferred):Prop :=
 ∃rs:List Nat,ds'=rs.map EA++ds/\rs.Nodup /\ ∀r,r∈rs->w.heap.size<=r/\w'.heap[r]? = some (.deferred (some []))
theorem Kq.refl(w w':World)(ds:List Deferred):Kq w ds w' ds:=⟨[],rfl,List.nodup_nil,λr h=>by cases h⟩
theorem Kq.trans{ρ ρ':xo}{h h':za}{w w1 w2:World}{ds ds1 ds2:List Deferred}(a:Kq w ds w1 ds1)(b:Kq w1 ds1 w2 ds2)(hle:w.heap.size<=w1.heap.size)(hr:Rel P ρ h w1)(st:Step P ρ h w1 ρ' h' w2):Kq w ds w2 ds2:=by
 obtain⟨rs,h1,h2,h3⟩:=a;obtain⟨rs2,k1,k2,k3⟩:=b;refine⟨rs2++rs,by rw[k1,h1,abm,aa7],List.nodup_append.2 ⟨k2,h2,λx hx y hy e=>?_⟩,λr hr'=>?_⟩
 ·have:=(k3 x hx).1;have:=gW (h3 y hy).2;omega
 ·rcases aaG.1 hr' with hm|hm
  ·exact⟨aaV hle (k3 r hm).1,(k3 r hm).2⟩
  ·have:=(h3 r hm).2;refine⟨(h3 r hm).1,?_⟩;rw[st.frame r (gW this) (OF hr this ⟨_,rfl⟩)];exact this
def Rd(ρ:xo)(rd:Option Nat)(b:Frame):Prop :=
 match rd with
 |none=>b.roundOf=none
 |some l=>l<ρ.next /\ ∃pl,ρ.m l=some pl/\b.roundOf=some pl.c
theorem Rd.mono{ρ ρ':xo}(hle:ρ.le ρ'){rd:Option Nat}{b:Frame}(h:Rd ρ rd b):Rd ρ' rd b:=by
 cases rd with
 |none=>exact h
 |some l=>exact⟨aap h.1 hle.1,by obtain⟨pl,hp,hb⟩:=h.2;exact⟨pl,(hle.2 l h.1).trans hp,hb⟩⟩
def T(P:Program)(rd:Option Nat)(c:Code)(s:Env)(h:za)(Q:Ex->Env->za->Prop):Prop :=
 ∀(ρ:xo) (w:World) (tm:Array aaa) (ds:List Deferred),Rel P ρ h w->vG ρ s tm->∀(b:Frame),Rd ρ rd b->∀(k:List Item) (cs:List Frame),
  ∃e s' h' ρ' w' tm' ds',Q e s' h'/\Step P ρ h w ρ' h' w'/\vG ρ' s' tm'/\Kq w ds w' ds'/\Arr P (lone (vB b tm ds (.code c::k)) cs w) b k cs e tm' ds' w'
def TO(P:Program)(ops:Array Oper)(l:List Nat)(s:Env)(h:za)(Q:Env->za->Prop):Prop :=
 ∀(ρ:xo) (w:World) (tm:Array aaa) (ds:List Deferred),Rel P ρ h w->vG ρ s tm->∀(b:Frame) (k:List Item) (cs:List Frame),
  ∃s' h' ρ' w' tm',Q s' h'/\Step P ρ h w ρ' h' w'/\vG ρ' s' tm'/\Steps P (lone (vB b tm ds (.inRegion ops l::k)) cs w) (lone (vB b tm' ds (.inRegion ops []::k)) cs w')
def TC(P:Program)(f:FuncId)(args:List aaa)(h:za)(R:aaa->za->Prop):Prop :=
 ∀(ρ:xo) (w:World) (cargs:List aaa),Rel P ρ h w->wG ρ args cargs ->
  Calls P f cargs.toArray w λe w'=>∃v v' h' ρ',e=.returned v'/\R v h'/\Step P ρ h w ρ' h' w'/\zH ρ' v v'
section rules
variable {rd:Option Nat}{s:Env}{h:za}{Q:Ex->Env->za->Prop}
theorem T.mono{c:Code}{Q':Ex->Env->za->Prop}(ht:T P rd c s h Q)(hq:∀e s h,Q e s h->Q' e s h):T P rd c s h Q':=by
 intro ρ w tm ds hr hs b hb k cs;obtain⟨e,s',h',ρ',w',tm',ds',q,r⟩:=ht ρ w tm ds hr hs b hb k cs;exact⟨e,s',h',ρ',w',tm',ds',hq _ _ _ q,r⟩
theorem TC.mono{f:FuncId}{args:List aaa}{R R':aaa->za->Prop}(ht:TC P f args h R)(hq:∀v h,R v h->R' v h):TC P f args h R':=by
 intro ρ w cargs hr hv;refine(ht ρ w cargs hr hv).mono λe w'=>?_;rintro⟨v,v',h',ρ',e1,q,r⟩;exact⟨v,v',h',ρ',e1,hq _ _ q,r⟩
theorem MH(hq:Q .normal s h):T P rd .skip s h Q:=λρ w tm ds hr hs b hb k cs=>⟨.normal,s,h,ρ,w,tm,ds,hq,.refl hr,hs,.refl _ _ _,.one Ge⟩
theorem G1{l:Nat}(hq:Q .normal s h):T P rd (.label l) s h Q:=λρ w tm ds hr hs b hb k cs=>⟨.normal,s,h,ρ,w,tm,ds,hq,.refl hr,hs,.refl _ _ _,.one Ea⟩
theorem MG{id:Nat}(hq:Q (.exit id) s h):T P rd (.exit id) s h Q:=λρ w tm ds hr hs b hb k cs=>⟨.exit id,s,h,ρ,w,tm,ds,hq,.refl hr,hs,.refl _ _ _,k,rfl,.refl P _⟩
theorem So(hq:Q .ret s h):T P rd .ret s h Q:=λρ w tm ds hr hs b hb k cs=>⟨.ret,s,h,ρ,w,tm,ds,hq,.refl hr,hs,.refl _ _ _,k,.refl P _⟩
theorem G4{x y:Code}(ht:T P rd x s h (λe s1 h1=>match e with | .normal=>T P rd y s1 h1 Q|e=>Q e s1 h1)):T P rd (.seq x y) s h Q:=by
 intro ρ w tm ds hr hs b hb k cs;obtain⟨e,s1,h1,ρ1,w1,tm1,ds1,q,st,hs1,hd1,ha⟩:=ht ρ w tm ds hr hs b hb (.code y::k) cs;cases e with
 |normal=>
  obtain⟨e2,s2,h2,ρ2,w2,tm2,ds2,q2,st2,hs2,hd2,ha2⟩:=q ρ1 w1 tm1 ds1 st.rel hs1 b (hb.mono st.le) k cs;exact⟨e2,s2,h2,ρ2,w2,tm2,ds2,q2,st.trans st2,hs2,hd1.trans hd2 st.size st.rel st2,.of_steps (.head gR ha) ha2⟩
 |exit id=>obtain⟨t,et,sx⟩:=ha;exact⟨_,s1,h1,ρ1,w1,tm1,ds1,q,st,hs1,hd1,t,et,.head gR sx⟩
 |ret=>obtain⟨t,sx⟩:=ha;exact⟨_,s1,h1,ρ1,w1,tm1,ds1,q,st,hs1,hd1,t,.head gR sx⟩
theorem AP{c:Operand}{x y:Code}{t:Bool}(hc:kG s c=some (.bool t))(ht:T P rd (if t then x else y) s h Q):T P rd (.cond c x y) s h Q:=by
 intro ρ w tm ds hr hs b hb k cs;obtain⟨e,s1,h1,ρ1,w1,tm1,ds1,q,st,hs1,hd1,ha⟩:=ht ρ w tm ds hr hs b hb k cs;have he:=zY (a:=⟨tm,ds⟩) hs hc
 have:Act.eval ⟨tm,ds⟩ c=.bool t:=by
  generalize Act.eval ⟨tm,ds⟩ c=v at he;cases he;rfl
 exact⟨e,s1,h1,ρ1,w1,tm1,ds1,q,st,hs1,hd1,.of_steps (.one (Gc this)) ha⟩
theorem cZ{id:Nat}{c:Code}(ht:T P rd c s h (λe s1 h1=>if e=.exit id then Q .normal s1 h1 else Q e s1 h1)):T P rd (.block id c) s h Q:=by
 intro ρ w tm ds hr hs b hb k cs;obtain⟨e,s1,h1,ρ1,w1,tm1,ds1,q,st,hs1,hd1,ha⟩:=ht ρ w tm ds hr hs b hb (.inBlock id::k) cs;cases e with
 |normal=>rw[aag (by simp)]at q;exact⟨.normal,s1,h1,ρ1,w1,tm1,ds1,q,st,hs1,hd1,.head VT (abT ha (.one r5))⟩
 |exit id'=>
  obtain⟨t,et,sx⟩:=ha;by_cases hid:id'=id
  ·subst hid;rw[aai rfl]at q;refine⟨.normal,s1,h1,ρ1,w1,tm1,ds1,q,st,hs1,hd1,.head VT (sx.trans (.one (Gd (k':=k) ?_)))⟩;rw[et];simp[exitTo]
  ·rw[aag (by simpa using hid)]at q;refine⟨.exit id',s1,h1,ρ1,w1,tm1,ds1,q,st,hs1,hd1,t,?_,.head VT sx⟩;rw[et];have:(id == id')=false:=by simp;exact λh=>hid h.symm
   simp[exitTo,this]
 |ret=>obtain⟨t,sx⟩:=ha;rw[aag (by simp)]at q;exact⟨.ret,s1,h1,ρ1,w1,tm1,ds1,q,st,hs1,hd1,t,.head VT sx⟩
theorem G2{c:Code}(ht:T P rd c s h Q):T P rd (.scope c) s h Q:=by
 intro ρ w tm ds hr hs b hb k cs;obtain⟨e,s1,h1,ρ1,w1,tm1,ds1,q,st,hs1,hd1,ha⟩:=ht ρ w tm ds hr hs b hb (.inScope c::k) cs;cases e with
 |normal=>exact⟨.normal,s1,h1,ρ1,w1,tm1,ds1,q,st,hs1,hd1,.head Je (abT ha (.one r6))⟩
 |exit id=>obtain⟨t,et,sx⟩:=ha;exact⟨_,s1,h1,ρ1,w1,tm1,ds1,q,st,hs1,hd1,t,by rw[et];simp[exitTo],.head Je sx⟩
 |ret=>obtain⟨t,sx⟩:=ha;exact⟨_,s1,h1,ρ1,w1,tm1,ds1,q,st,hs1,hd1,t,.head Je sx⟩
theorem Vu{c:Code}(ht:T P rd c s h (λe s1 h1=>match e with | .normal=>T P rd (.loop c) s1 h1 Q|e=>Q e s1 h1)):T P rd (.loop c) s h Q:=by
 intro ρ w tm ds hr hs b hb k cs;obtain⟨e,s1,h1,ρ1,w1,tm1,ds1,q,st,hs1,hd1,ha⟩:=ht ρ w tm ds hr hs b hb (.inLoop c::k) cs;cases e with
 |normal=>
  obtain⟨e2,s2,h2,ρ2,w2,tm2,ds2,q2,st2,hs2,hd2,ha2⟩:=q ρ1 w1 tm1 ds1 st.rel hs1 b (hb.mono st.le) k cs;refine⟨e2,s2,h2,ρ2,w2,tm2,ds2,q2,st.trans st2,hs2,hd1.trans hd2 st.size st.rel st2,?_⟩;have e0:step P (lone (vB b tm1 ds1 (.inLoop c::k)) cs w1)=step P (lone (vB b tm1 ds1 (.code (.loop c)::k)) cs w1):=by rw[BC,QN]
  have key:∀m',Steps P (lone (vB b tm1 ds1 (.code (.loop c)::k)) cs w1) m'->(m'=lone (vB b tm1 ds1 (.code (.loop c)::k)) cs w1)\/Steps P (lone (vB b tm1 ds1 (.inLoop c::k)) cs w1) m':=by
   rintro m' ⟨n,hn⟩;cases n with
   |zero=>left;simp[runN]at hn;exact hn.symm
   |succ n=>right;exact⟨n+1,by simp only[runN]at hn ⊢;rw[e0];exact hn⟩
  have go:∀m',Steps P (lone (vB b tm1 ds1 (.code (.loop c)::k)) cs w1) m'->m'≠lone (vB b tm1 ds1 (.code (.loop c)::k)) cs w1->Steps P (lone (vB b tm ds (.code (.loop c)::k)) cs w) m':=by
   intro m' hm hne;exact(Steps.head QN ha).trans ((key m' hm).resolve_left hne)
  have neq:∀(k':List Item) tm' ds' w',(k'=k\/(∃x t,k'=.code x::t /\ ∀c,x ≠ .loop c))->lone (vB b tm' ds' k') cs w'≠lone (vB b tm1 ds1 (.code (.loop c)::k)) cs w1:=by
   intro k' tm' ds' w' hk' e;simp only[lone,Machine.mk.injEq,Array.mk.injEq,aa6,Goroutine.mk.injEq,vB,Frame.mk.injEq]at e;have e:=e.2.1.1.1.2.2.1;rcases hk' with rfl|⟨x,t,rfl,hx⟩
   ·have:=congrArg List.length e;simp at this
   ·simp only[aa6,Item.code.injEq]at e;exact hx c e.1
  cases e2 with
  |normal=>exact go _ ha2 (neq _ _ _ _ (.inl rfl))
  |exit id=>obtain⟨t,et,sx⟩:=ha2;exact⟨t,et,go _ sx (neq _ _ _ _ (.inr ⟨_,_,rfl,λc=>by simp⟩))⟩
  |ret=>obtain⟨t,sx⟩:=ha2;exact⟨t,go _ sx (neq _ _ _ _ (.inr ⟨_,_,rfl,λc=>by simp⟩))⟩
 |exit id=>obtain⟨t,et,sx⟩:=ha;exact⟨_,s1,h1,ρ1,w1,tm1,ds1,q,st,hs1,hd1,t,by rw[et];simp[exitTo],.head QN sx⟩
 |ret=>obtain⟨t,sx⟩:=ha;exact⟨_,s1,h1,ρ1,w1,tm1,ds1,q,st,hs1,hd1,t,.head QN sx⟩
end rules
def yq(ops:Array Oper)(s:Env)(o:Oper):Bool :=
 match o.guard with
 |none=>true
 |some (j,want)=>(match (ops[j]?).bind (·.dst) with
  |none=>false
  |some d=>(match s.get d with
   | .bool b=>b == want
   |_=>false))
theorem Xg{ρ:xo}{s:Env}{tm:Array aaa}(hs:vG ρ s tm)(ops:Array Oper)(o:Oper):Region.wanted o (yielded ops tm)=yq ops s o:=by
 unfold Region.wanted yq;split
 ·rename_i e;rw[e]
 ·rename_i j want e;rw[e];simp only[yielded];cases hd:(ops[j]?).bind (·.dst) with
  |none=>rfl
  |some d=>
   simp only[abf];have hv:=hs.get d;cases ht:tm[d]? with
   |none=>
    have:tm.getD d undef=undef:=(by simp[aaw,ht]);rw[this]at hv;generalize s.get d=sv at hv;cases hv with
    |pW h=>cases h
    |tuple _ _=>rfl
   |some tv=>
    have:tm.getD d undef=tv:=(by simp[aaw,ht]);rw[this]at hv;generalize s.get d=sv at hv;cases hv with
    |pW h=>cases tv <;> first|rfl|cases h
    |bool bb=>cases bb <;> cases want <;> rfl
    |_=>rfl
section ops
variable {s:Env}{h:za}{Q:Env->za->Prop}{ops:Array Oper}
theorem MF(hq:Q s h):TO P ops [] s h Q:=λρ w tm ds hr hs b k cs=>⟨s,h,ρ,w,tm,hq,.refl hr,hs,.refl P _⟩
theorem Vh{o:Oper}{v:aaa}{h1:za}(ho:Um P s o h=some (v,h1)):Xv o.op=false:=by
 cases yk:o.op <;> first|rfl|(unfold Um at ho;rw[yk]at ho;cases ho)
theorem Sm{i:Nat}{rest:List Nat}{o:Oper}(ho:ops[i]? = some o)(hw:yq ops s o=true){v:aaa}{h1:za}{s1:Env}(hd:Xv o.op=false)(hok:∀(ρ:xo) (w:World) (a:Act),Rel P ρ h w->vG ρ s a.tmps->mu P ρ h w (execOp a.eval o) v h1)(hp:s.put o.dst v=some s1)(ht:TO P ops rest s1 h1 Q) :
  TO P ops (i::rest) s h Q:=by
 intro ρ w tm ds hr hs b k cs;obtain⟨n,w1,ρ1,v',e,hn,st,hv⟩:=hok ρ w ⟨tm,ds⟩ hr hs;have hs1:vG ρ1 s1 (qo tm o.dst v'):=(hs.mono st.le).put hv hp;obtain⟨s2,h2,ρ2,w2,tm2,q,st2,hs2,sx⟩:=ht ρ1 w1 _ ds st.rel hs1 b k cs;have hw':Region.wanted o (yielded ops tm)=true:=(Xg hs ops o).trans hw;refine⟨s2,h2,ρ2,w2,tm2,q,st.trans st2,hs2,.head ?_ sx⟩
 have hfin:(vB b tm ds (.inRegion ops (i::rest)::k)).finish v'=vB b (qo tm o.dst v') ds (.inRegion ops rest::k):=by
  rw[jB,ho];rfl
 rw[<- hfin];rcases hn with rfl|⟨rfl,rfl⟩
 ·exact YA ho hw' hd e
 ·exact Xu ho hw' hd e
theorem Sn{i:Nat}{rest:List Nat}{o:Oper}(ho:ops[i]? = some o)(hw:yq ops s o=true){v:aaa}{h1:za}{s1:Env}(yk:Um P s o h=some (v,h1))(hp:s.put o.dst v=some s1)(ht:TO P ops rest s1 h1 Q) :
  TO P ops (i::rest) s h Q:=by
 intro ρ w tm ds hr hs b k cs;obtain⟨n,w1,ρ1,v',e,hn,st,hv⟩:=tQ (a:=⟨tm,ds⟩) yk hr hs;have hs1:vG ρ1 s1 (qo tm o.dst v'):=(hs.mono st.le).put hv hp;obtain⟨s2,h2,ρ2,w2,tm2,q,st2,hs2,sx⟩:=ht ρ1 w1 _ ds st.rel hs1 b k cs;have hw':Region.wanted o (yielded ops tm)=true:=(Xg hs ops o).trans hw;refine⟨s2,h2,ρ2,w2,tm2,q,st.trans st2,hs2,.head ?_ sx⟩
 have hfin:(vB b tm ds (.inRegion ops (i::rest)::k)).finish v'=vB b (qo tm o.dst v') ds (.inRegion ops rest::k):=by
  rw[jB,ho];rfl
 rw[<- hfin];rcases hn with rfl|⟨rfl,rfl⟩
 ·exact YA ho hw' (Vh yk) e
 ·exact Xu ho hw' (Vh yk) e
theorem G0{i:Nat}{rest:List Nat}{o:Oper}(ho:ops[i]? = some o)(hw:yq ops s o=false){s1:Env}(hp:s.put o.dst undef=some s1)(ht:TO P ops rest s1 h Q):TO P ops (i::rest) s h Q:=by
 intro ρ w tm ds hr hs b k cs;have hs1:vG ρ s1 (qo tm o.dst undef):=hs.put (.Zk _ rfl) hp;obtain⟨s2,h2,ρ2,w2,tm2,q,st2,hs2,sx⟩:=ht ρ w _ ds hr hs1 b k cs;refine⟨s2,h2,ρ2,w2,tm2,q,st2,hs2,.head ?_ sx⟩;have hw':Region.wanted o (yielded ops tm)=false:=(Xg hs ops o).trans hw;rw[bj (by rw[ho];exact hw'),jB,ho];rfl
def xS(P:Program)(g:FuncId):Bool :=
 match P.funcs[g]? with
 |some fn=>fn.body.isSome && !(fn.name == "runtime.NumGoroutine")
 |none=>false
theorem GZ{i:Nat}{rest:List Nat}{o:Oper}{f:Operand}{cargs:Array Operand}{ts:Array TypeId}{g:FuncId}{fa fc:Array aaa}{vs:List aaa}{R:aaa->za->Prop}
  (ho:ops[i]? = some o) (hw:yq ops s o=true) (yk:o.op=.call {callee := .value f,args:=cargs,argTypes:=ts}) (hf:kG s f=some (.func (.func g) fa fc)) (hargs:Vq s cargs.toList=some vs)
  (hcall:xS P g=true) (hc:TC P g (fa.toList++vs++fc.toList) h R) (ht:∀v h1,R v h1->∃s1,s.put o.dst v=some s1/\TO P ops rest s1 h1 Q):TO P ops (i::rest) s h Q:=by
 intro ρ w tm ds hr hs b k cs;have hw':Region.wanted o (yielded ops tm)=true:=(Xg hs ops o).trans hw;have e1:=zY (a:=⟨tm,ds⟩) hs hf;have e2:=jy (a:=⟨tm,ds⟩) hs hargs;generalize hfv:Act.eval ⟨tm,ds⟩ f=fv at e1;cases e1 with
 |func ha hcs h1 h2=>
  rename_i fa' fc'
  let full:=fa'.toList++cargs.toList.map (Act.eval ⟨tm,ds⟩)++fc'.toList
  have hfull:wG ρ (fa.toList++vs++fc.toList) full :=
   (wG.append ⟨by simpa using ha,λi x y hx hy=>h1 i x y (by simpa using hx) (by simpa using hy)⟩ e2).append ⟨by simpa using hcs,λi x y hx hy=>h2 i x y (by simpa using hx) (by simpa using hy)⟩
  have hrun:(execOp (Act.eval ⟨tm,ds⟩) o).run P w=.ok (.enter g full.toArray) w:=by
   have hargs':fa'++cargs.map (Act.eval ⟨tm,ds⟩)++fc'=full.toArray:=by apply abY;simp[full]
   simp only[execOp,yk,resolve,hfv,Deferred.ofValue,aah,aal,aac,invoke,callFunc,run_program,hargs'];unfold xS at hcall;cases hfn:P.funcs[g]? with
   |none=>rw[hfn]at hcall;cases hcall
   |some fn=>
    rw[hfn]at hcall;simp only[aad,aan]at hcall;simp only[hcall.2,aa9,ab1];rw[aag (by cases hb:fn.body <;> simp_all)];rfl
  obtain⟨e,w1,fr,⟨v,v',h',ρ',rfl,hR,st,hv⟩,hcomes,_,hleave⟩:=hc ρ w full hr hfull (vB b tm ds (.inRegion ops (i::rest)::k)::cs);obtain⟨s1,hp,hrest⟩:=ht v h' hR;have hs1:vG ρ' s1 (qo tm o.dst v'):=(hs.mono st.le).put hv hp;obtain⟨s2,h2,ρ2,w2,tm2,q,st2,hs2,sx⟩:=hrest ρ' w1 _ ds st.rel hs1 b k cs;have hd:Xv o.op=false:=by rw[yk];rfl
  refine⟨s2,h2,ρ2,w2,tm2,q,st.trans st2,hs2,.head (Jd ho hw' hd hrun) (abT hcomes (.head (step_leave_returned hleave) ?_))⟩;rw[jB,ho];exact sx
end ops
def Io(P:Program)(g:FuncId)(args:List aaa)(h:za):Option (aaa×za) :=
 match P.funcs[g]? with
 |some fn=>cond (fn.body.isNone&&decide (fn.name = "internal/abi.NoEscape")&&(Extern.findNext fn).isNone) (match args with
  |[x]=>some (x,h)
  |_=>none) none
 |none=>none
theorem F6 {fn:Func} (h:fn.name = "internal/abi.NoEscape"):Extern.find fn=some Extern.AbiNoEscape.same:=by
 unfold Extern.find;rw[h];rfl
theorem OE{ρ:xo}{s:Env}{h h1:za}{w:World}{a:Act}{o:Oper}{f:Operand}{cargs:Array Operand}{ts:Array TypeId}{g:FuncId}{fa fc:Array aaa}{vs:List aaa}{v:aaa}
  (yk:o.op=.call {callee := .value f,args:=cargs,argTypes:=ts}) (hf:kG s f=some (.func (.func g) fa fc)) (hargs:Vq s cargs.toList=some vs) (he:Io P g (fa.toList++vs++fc.toList) h=some (v,h1)) (hr:Rel P ρ h w) (hs:vG ρ s a.tmps) :
  mu P ρ h w (execOp a.eval o) v h1:=by
 have e1:=zY hs hf;have e2:=jy hs hargs;generalize hfv:a.eval f=fv at e1;cases e1 with
 |func ha hcs q1 q2=>
  rename_i fa' fc'
  let full:=fa'.toList++cargs.toList.map a.eval++fc'.toList
  have hfull:wG ρ (fa.toList++vs++fc.toList) full :=
   (wG.append ⟨by simpa using ha,λi x y hx hy=>q1 i x y (by simpa using hx) (by simpa using hy)⟩ e2).append ⟨by simpa using hcs,λi x y hx hy=>q2 i x y (by simpa using hx) (by simpa using hy)⟩
  have hargs':fa'++cargs.map a.eval++fc'=full.toArray:=by apply abY;simp[full]
  unfold Io at he;split at he
  case h_2=>cases he
  rename_i fn hfn;obtain⟨hc,he⟩:=zo he;simp only[aad,aaF]at hc;obtain⟨⟨hb,hn⟩,hx⟩:=hc;split at he
  case h_2=>cases he
  rename_i x hl;simp only[aab,aae]at he;obtain⟨rfl,rfl⟩:=he;rw[hl]at hfull;obtain⟨y,ys,hy,v1,hv2⟩:=hfull.cons_inv;cases hv2.uG;have hfn':Extern.findNext fn=none:=by simpa using hx
  refine⟨.value y,w,ρ,y,?_,.inl rfl,.refl hr,v1⟩;simp only[execOp,yk,resolve,hfv,Deferred.ofValue,aah,aal,aac,invoke,hargs',hy];rw[Go.run_callFunc_extern hfn (by rw[hn];decide) hb hfn' (F6 hn)];rfl
def pO(P:Program)(g:FuncId)(args:List aaa)(h:za):Option (aaa×za) :=
 match P.funcs[g]?,args with
 |some fn,[.int .i64 n]=>cond (fn.body.isNone&&decide (fn.name = "internal/bytealg.MakeNoZero")&&(Extern.findNext fn).isNone&&decide (0<=n)&&decide (n<=2^48))
   (match fn.resultTypes[0]? with
    |some t=>(match yg P (underlying t) with
     |some (.slice e)=>cond (Nat.beq (P.cellsOf e) 1) (some (.slice (some ⟨h.next,0,none⟩) n.toNat 1,h.push (.cells [] e))) none
     |_=>none)
    |none=>none) none
 |_,_=>none
theorem rZ {fn:Func} (h:fn.name = "internal/bytealg.MakeNoZero"):Extern.find fn=some (Extern.BytealgMakeNoZero.makeNoZero fn.params fn.resultTypes):=by
 unfold Extern.find;rw[h];rfl
theorem B7{ρ:xo}{h:za}{w:World}(hr:Rel P ρ h w){ps rs:Array TypeId}{t e:TypeId}{n:Int}(ht:rs[0]? = some t)(hu:yg P (underlying t)=some (.slice e))(hc:P.cellsOf e=1)(h0:0<=n)(hn:n<=2^48) :
  ∃v' w' ρ',(Extern.BytealgMakeNoZero.makeNoZero ps rs #[.int .i64 n]).run P w=.ok v' w'/\Step P ρ h w ρ' (h.push (.cells [] e)) w'/\zH ρ' (.slice (some ⟨h.next,0,none⟩) n.toNat 1) v':=by
 let q:Question := .appendCap n.toNat 0 e
 let cap:=q.cut (w.tape w.drawn q)
 have hge:n.toNat<=cap:=by show n.toNat<=n.toNat+_%_;omega
 let w1:World:={w with drawn:=w.drawn+1}
 let q2:Question := .extern "internal/bytealg.MakeNoZero.bytes" 0
 let bytes:=q2.cut (w1.tape w1.drawn q2)
 let w2:World:={w1 with drawn:=w1.drawn+1}
 let cs:=Extern.BytealgMakeNoZero.digits cap bytes #[]
 have hcs:cs.size=cap:=by simp only[cs,Lib.size_digits];simp
 have hr2:Rel P ρ h w2:=hr.grow (λk _=>rfl)
 let w3:World:={w2 with heap:=w2.heap.push (.cells cs e)}
 have st:=Step.push (t:=e) hr2 (c:=[]) (cs:=cs) (fz:=(0,0)) (w':=w3) rfl (λi _ hi=>by simp at hi) (by simp) (λk x hx=>by simp at hx) rfl rfl rfl;refine⟨.slice (some ⟨w.heap.size,0,none⟩) n.toNat cap,w3,_,?_,⟨st.le,st.rel,st.ro,st.os,st.tape,st.output,st.size,st.frame,st.l9⟩,?_⟩
 ·have hq:(choose (.appendCap n.toNat 0 e)).run P w=.ok cap w1:=by rw[run_choose];rfl
  have hq2:(choose (.extern "internal/bytealg.MakeNoZero.bytes" 0)).run P w1=.ok bytes w2:=by rw[run_choose];rfl
  have hneg:¬(n<0\/n>2^48):=by omega
  have hnr:(newRow e cs).run P w2=.ok ⟨w.heap.size,0,none⟩ w3:=rfl;rw[show Extern.BytealgMakeNoZero.makeNoZero ps rs #[.int .i64 n]=(match rs[0]? with|some t=>(underlying t >>= _)|_=>_) from rfl];simp only[ht,aah,zh hu,aac];rw[aag (by simpa using hneg)];simp only[aah,hq,aac,run_askRoom,hq2];rw[show Extern.BytealgMakeNoZero.digits cap bytes #[]=cs from rfl,hnr];rfl
 ·have:=zH.slice (ρ:=ρ.ext ⟨w2.heap.size,0,cs.size,P.cellsOf e⟩) (b:=h.next) (off:=0) (len:=n.toNat) (c:=1) (cap:=cap) (pl:=⟨w2.heap.size,0,cs.size,P.cellsOf e⟩)
   (by show h.next<ρ.next+1;rw[hr.next];exact aaZ _) (by rw[<- hr.next];exact ρ.ko _) hge (λ_=>⟨by simp[hc,hcs],λk hk=>by omega⟩)
  exact this
def Bh(P:Program)(g:FuncId)(args:List aaa)(h:za):Option (aaa×za) :=
 match Io P g args h with
 |some r=>some r
 |none=>pO P g args h
theorem Bi{ρ:xo}{s:Env}{h h1:za}{w:World}{a:Act}{o:Oper}{f:Operand}{cargs:Array Operand}{ts:Array TypeId}{g:FuncId}{fa fc:Array aaa}{vs:List aaa}{v:aaa}
  (yk:o.op=.call {callee := .value f,args:=cargs,argTypes:=ts}) (hf:kG s f=some (.func (.func g) fa fc)) (hargs:Vq s cargs.toList=some vs) (he:Bh P g (fa.toList++vs++fc.toList) h=some (v,h1)) (hr:Rel P ρ h w) (hs:vG ρ s a.tmps) :
  mu P ρ h w (execOp a.eval o) v h1:=by
 unfold Bh at he;split at he
 ·rename_i r hn;simp only[aab]at he;subst he;exact OE yk hf hargs hn hr hs
 ·have e1:=zY hs hf;have e2:=jy hs hargs;generalize hfv:a.eval f=fv at e1;cases e1 with
  |func ha hcs q1 q2=>
   rename_i fa' fc'
   let full:=fa'.toList++cargs.toList.map a.eval++fc'.toList
   have hfull:wG ρ (fa.toList++vs++fc.toList) full :=
    (wG.append ⟨by simpa using ha,λi x y hx hy=>q1 i x y (by simpa using hx) (by simpa using hy)⟩ e2).append ⟨by simpa using hcs,λi x y hx hy=>q2 i x y (by simpa using hx) (by simpa using hy)⟩
   have hargs':fa'++cargs.map a.eval++fc'=full.toArray:=by apply abY;simp[full]
   unfold pO at he;split at he
   case h_2=>cases he
   rename_i fn n hfn hl;obtain⟨hc,he2⟩:=zo he;clear he;simp only[aad,aaF]at hc;obtain⟨⟨⟨⟨hb,hn⟩,hx⟩,h0⟩,h48⟩:=hc;split at he2
   case h_2=>cases he2
   rename_i t ht;split at he2
   case h_2=>cases he2
   rename_i e hu;obtain⟨hce,he3⟩:=zo he2;simp only[aab,aae]at he3;obtain⟨rfl,rfl⟩:=he3;rw[hl]at hfull;obtain⟨y,ys,hy,v1,hv2⟩:=hfull.cons_inv;cases hv2.uG;cases v1;have hfn':Extern.findNext fn=none:=by simpa using hx
   obtain⟨v',w',ρ',er,st,hv⟩:=B7 (ps:=fn.params) hr ht hu (aak hce) h0 h48;refine⟨.value v',w',ρ',v',?_,.inl rfl,st,hv⟩;simp only[execOp,yk,resolve,hfv,Deferred.ofValue,aah,aal,aac,invoke,hargs',hy];rw[Go.run_callFunc_extern hfn (by rw[hn];decide) hb hfn' (rZ hn),er];rfl
def hZ:aaa->Bool
 | .tuple a=>a.toList.all flat
 |v=>flat v
theorem II{ρ:xo}{v v':aaa}(h:zH ρ v v')(hp:hZ v=true)(ρ2:xo):zH ρ2 v v':=by
 cases v with
 |tuple a=>
  cases h with
  |tuple ha hv=>
   simp only[hZ,aaD]at hp;refine .tuple ha (λi x y hx hy=>?_);have hf:=hp x (aax (by simpa using hx));rw[kp (hv i x y hx hy) hf];exact .of_flat _ hf
 |_=>rw[kp h hp];exact .of_flat _ hp
theorem Rel.lock{ρ:xo}{h:za}{w:World}(hr:Rel P ρ h w):Rel P ρ h.lock w :=
 ⟨hr.next,aaj _,hr.Ko,λb o hb=>by obtain⟨pl,hp,hc⟩:=hr.ok b o hb;exact⟨pl,hp,hc.Mr (λe=>by
  have:h.next<=b:=aa1 e;have:=hr.Ko b _ hb;omega)⟩,hr.inj,aaV hr.lh hr.ro,hr.Yn⟩
theorem TC.quiet{f:FuncId}{args:List aaa}{h:za}{R:aaa->za->Prop}(ht:TC P f args h.lock R)(hsc:∀v h1,R v h1->hZ v=true):TC P f args h (λv h1=>(∃h2,R v h2)/\h1=h):=by
 intro ρ w cargs hr hv;refine(ht ρ w cargs hr.lock hv).mono λe w'=>?_;rintro⟨v,v',h',ρ',e1,hR,st,hvv⟩
 have hsame:∀c,c<w.heap.size->w'.heap[c]? = w.heap[c]?:=λc hc=>st.frame c hc (by
  rintro⟨b,o,pl,hg,hro,_⟩;have h1:h.next<=b:=hro;have h2:=hr.Ko b o hg;omega)
 exact⟨v,v',h,ρ,e1,⟨⟨h',hR⟩,rfl⟩,⟨xo.le_refl _,hr.grow hsame,rfl,st.os,st.tape,st.output,st.size,λc hc _=>hsame c hc,λc _ hm=>hm⟩,II hvv (hsc v h' hR) ρ⟩
theorem Cq{rd:Option Nat}{id:Nat}{ops:Array Oper}{s:Env}{h:za}{Q:Ex->Env->za->Prop}(ht:TO P ops (List.range ops.size) s h (λs1 h1=>Q .normal s1 h1)):T P rd (.region id ops false) s h Q:=by
 intro ρ w tm ds hr hs b hb k cs;obtain⟨s1,h1,ρ1,w1,tm1,q,st,hs1,sx⟩:=ht ρ w tm ds hr hs b k cs;exact⟨.normal,s1,h1,ρ1,w1,tm1,ds,q,st,hs1,.refl _ _ _,.head BD (sx.trans (.one Xj))⟩
end
noncomputable section
variable {P:Program}
theorem Ew(fr:Frame)(hm:fr.mode=.returning):∀(rs:List Nat) (w:World),fr.defers=rs.map EA->rs.Nodup->(∀r,r∈rs->w.heap[r]? = some (.deferred (some [])))->∀cs,
  ∃w',Steps P (lone fr cs w) (lone {fr with defers:=[]} cs w')/\w'.os=w.os/\w'.tape=w.tape/\w'.output=w.output/\w'.heap.size=w.heap.size/\(∀k,k∉rs->w'.heap[k]? = w.heap[k]?):=by
 intro rs
 induction rs generalizing fr with
 |nil=>intro w hd _ _ cs;refine⟨w,?_,rfl,rfl,rfl,rfl,λ_ _=>rfl⟩;rw[show fr = {fr with defers:=[]} by cases fr;simp_all];exact .refl P _
 |cons r rs ih=>
  intro w hd hn hb cs;have hr:=hb r (by simp);have hlt:=gW hr
  let w1:World:={w with heap:=w.heap.setIfInBounds r (.deferred none)}
  have hn:=List.nodup_cons.1 hn;have hother:∀k,k≠r->w1.heap[k]? = w.heap[k]?:=λk hk=>by show(w.heap.setIfInBounds r _)[k]? = _;rw[aa2,aag (Ne.symm hk)]
  obtain⟨w',hs,h1,h2,h3,h4,h5⟩:=ih {fr with defers:=rs.map EA} hm w1 rfl hn.2 (λk hk=>(hother k (λe=>hn.1 (e ▸ hk))).trans (hb k (by simp[hk]))) cs;refine⟨w',.head ?_ hs,h1,h2,h3,by rw[h4];simp[w1],λk hk=>?_⟩
  ·refine step_lone_go ?_;have hd':fr.defers = {target := .collected r,args := #[]} :: rs.map EA:=hd
   have hrun:(Instr.takeDeferred r).run P w=.ok [] w1:=by
    simp only[Instr.takeDeferred,getObj,setObj,aah];simp only[Sem.run,hr,aac,aah];rfl
   simp only[stepG,hm,unwind,hd',Sem.runT_eq,hrun,GStep.bare_after];simp[GStep.bare]
  ·simp only[aaP,not_or]at hk;exact(h5 k hk.2).trans (hother k hk.1)
def qF(P:Program)(s:Env)(h:za):List ResultVar->Option (List aaa)
 |[]=>some []
 | .tmp t::rs=>(match qF P s h rs with
   |some vs=>some (s.get t::vs)
   |none=>none)
 | .cell a t::rs=>(match zd P t (s.get a) h with
   |some v=>(match qF P s h rs with
    |some vs=>some (v::vs)
    |none=>none)
   |none=>none)
def xV:List aaa->aaa
 |[v]=>v
 |vs => .tuple vs.toArray
def EY(tm:Array aaa):ResultVar->Sem aaa
 | .tmp t=>pure (tm.getD t undef)
 | .cell a t=>do loadVar t (<- asAddr (tm.getD a undef))
theorem GL(fn:Func)(tm:Array aaa):results fn tm=(do let vs <- fn.results.mapM (EY tm);pure (if h:vs.size=1 then vs[0] else .tuple vs)):=rfl
theorem W6{ρ:xo}{s:Env}{h:za}{w:World}{tm:Array aaa}(hr:Rel P ρ h w)(hs:vG ρ s tm):∀{rs:List ResultVar} {vs:List aaa},qF P s h rs=some vs ->
  ∃vs',(rs.mapM (EY tm)).run P w=.ok vs' w/\wG ρ vs vs'
 |[],vs,he=>by simp only[qF,aab]at he;subst he;exact⟨[],rfl,.nil ρ⟩
 | .tmp t::rs,vs,he=>by
   simp only[qF]at he;split at he
   case h_2=>cases he
   rename_i vs0 h0;simp only[aab]at he;subst he;obtain⟨vs',e,hv⟩:=W6 hr hs h0;exact⟨_,by simp only[List.mapM_cons,EY,aah,aal,aac,e],.cons (hs.get t) hv⟩
 | .cell a t::rs,vs,he=>by
   simp only[qF]at he;split at he
   case h_2=>cases he
   rename_i v hv0;split at he
   case h_2=>cases he
   rename_i vs0 h0;simp only[aab]at he;subst he;obtain⟨vs',e,hv⟩:=W6 hr hs h0;obtain⟨v',e1,hv1⟩:=iV hv0 hr (hs.get a)
   have e2:(do loadVar t (<- asAddr (tm.getD a undef)):Sem aaa).run P w=.ok v' w:=by
    have hp:=hs.get a;generalize tm.getD a undef=x at hp e1 ⊢;unfold zd at hv0;split at hv0
    ·rename_i hb;rw[hb]at hp;cases hp;simpa [Instr.loadAt,Instr.sureAddr,asAddr] using e1
    ·rename_i hb;rw[hb]at hp;cases hp;simpa [Instr.loadAt,Instr.sureAddr,asAddr] using e1
    ·cases hv0
   exact⟨_,by rw[List.mapM_cons,aah,show EY tm (.cell a t)=(do loadVar t (<- asAddr (tm.getD a undef)):Sem aaa) from rfl,e2];simp only[aah,aac,e,aal],.cons hv1 hv⟩
theorem EZ{ρ:xo}{s:Env}{h:za}{w:World}{tm:Array aaa}(hr:Rel P ρ h w)(hs:vG ρ s tm){fn:Func}{vs:List aaa}(he:qF P s h fn.results.toList=some vs) :
  ∃v',(results fn tm).run P w=.ok v' w/\zH ρ (xV vs) v':=by
 obtain⟨vs',e,hv⟩:=W6 hr hs he
 have em:(fn.results.mapM (EY tm)).run P w=.ok vs'.toArray w:=by
  rw[Array.mapM_eq_mapM_toList,Sem.run_map,e];rfl
 rw[GL];simp only[aah];refine⟨if h:vs'.toArray.size=1 then vs'.toArray[0] else .tuple vs'.toArray,?_,?_⟩
 ·rw[em];simp only[aac,aal]
 ·unfold xV;split
  ·rename_i v;obtain⟨y,ys,rfl,h1,h2⟩:=hv.cons_inv;cases h2.uG;simpa using h1
  ·rename_i hne
   rw[dif_neg (by
    intro h1;have h1:vs'.length=1:=by simpa using h1
    have h2:vs.length=1:=(by rw[hv.1];exact h1);cases vs with
    |nil=>cases h2
    |cons v vs=>cases vs with
     |nil=>exact hne v rfl
     |cons=>simp at h2)]
   exact .tuple (by simpa using hv.1) (λi x y hx hy=>hv.2 i x y (by simpa using hx) (by simpa using hy))
theorem GY{f:FuncId}{fn:Func}{c:Code}{args:List aaa}{h:za}{R:aaa->za->Prop}(hf:P.funcs[f]? = some fn)(hb:fn.body=some c)
  (ht:T P none c (Env.enter args fn.ntmps) h (λe s1 h1=>(e=.normal\/e=.ret) /\ ∃vs,qF P s1 h1 fn.results.toList=some vs/\R (xV vs) h1)):TC P f args h R:=by
 intro ρ w cargs hr hv cs
 let b:Frame:={ (default:Frame) with fn:=f,kind := .normal,roundOf:=none}
 let tm:Array aaa:=cargs.toArray++Array.replicate (fn.ntmps-cargs.toArray.size) undef
 have henter:Frame.enter P f cargs.toArray .normal=vB b tm [] [.code c]:=by simp[Frame.enter,vB,hf,hb,b,tm]
 have hs:vG ρ (Env.enter args fn.ntmps) tm:=by
  refine⟨?_,λi=>?_⟩
  ·simp only[Env.D8,tm,Array.size_append,Array.size_replicate,List.size_toArray,hv.1];omega
  ·rw[Env.LQ];rcases aaL i args.length with hi|hi
   ·obtain⟨y,hy,hxy⟩:=hv.get (aaf hi)
    have e1:tm[i]? = some y:=by
     rw[Array.getElem?_append_left (by simp;rw[<- hv.1];exact hi)];simpa using hy
    rw[aaf hi];simp only[abQ,aaw,e1];exact hxy
   ·rw[aat hi]
    have e1:tm.getD i undef=undef:=by
     simp only[aaw,tm];rw[Array.getElem?_append_right (by simp;rw[<- hv.1];exact hi)];rw[abO];split <;> rfl
    rw[e1];exact .Zk ρ rfl
 obtain⟨e,s1,h1,ρ1,w1,tm1,ds1,⟨he,vs,hvs,hR⟩,st,hs1,⟨rs,hd1,hnd,hb1⟩,ha⟩:=ht ρ w tm [] hr hs b rfl [] cs
 obtain⟨todo,hret⟩:∃todo,Steps P (lone (Frame.enter P f cargs.toArray .normal) cs w) (lone {vB b tm1 ds1 todo with mode := .returning} cs w1):=by
  rw[henter];rcases he with rfl|rfl
  ·exact⟨[],abT ha (.one (LM rfl))⟩
  ·obtain⟨t,sx⟩:=ha;exact⟨_,sx.trans (.one (LN rfl))⟩
 rw[aa8]at hd1;obtain⟨w2,hs2,e1,e2,e3,e4,e5⟩:=Ew (P:=P) {vB b tm1 ds1 todo with mode := .returning} rfl rs w1 hd1 hnd (λr hr=>(hb1 r hr).2) cs
 have hnot:∀b0 o pl,h1.get b0=some o->ρ1.m b0=some pl->pl.c∉rs:=by
  intro b0 o pl hg hm hin;have hc:=st.rel.OJ hg hm;have hx:=(hb1 _ hin).2;cases o with
  |cells c t=>obtain⟨cs,fz,q1,_⟩:=hc;rw[hx]at q1;cases q1
  |map es q=>obtain⟨ms,q1,_⟩:=hc;rw[hx]at q1;cases q1
  |iter m a b c=>obtain⟨m',q1,_⟩:=hc;rw[hx]at q1;cases q1
  |tab c=>obtain⟨t,cs,fz,q1,_⟩:=hc;rw[hx]at q1;cases q1
  |siter s pos=>have q1:w1.heap[pl.c]? = _:=hc.1;rw[hx]at q1;cases q1
  |loop l=>obtain⟨tm,d,fn',q1,_⟩:=hc;rw[hx]at q1;cases q1
 have hr2:Rel P ρ1 h1 w2:=⟨st.rel.next,st.rel.ro,st.rel.Ko,λb0 o0 hg=>by
  obtain⟨pl,hp,hc⟩:=st.rel.ok b0 o0 hg;exact⟨pl,hp,hc.other (e5 _ (hnot _ _ _ hg hp))⟩,st.rel.inj,st.rel.lh,st.rel.Yn⟩
 obtain⟨v',hv',hvr⟩:=EZ hr2 hs1 hvs;refine⟨.returned v',w2,{vB b tm1 ds1 todo with mode := .returning,defers:=[]},⟨xV vs,v',h1,ρ1,rfl,hR,?_,hvr⟩,hret.trans hs2,rfl,rfl,rfl,rfl,fn,hf,hv'⟩
 exact⟨st.le,hr2,st.ro,e1.trans st.os,e2.trans st.tape,e3.trans st.output,by rw[e4];exact st.size,
  λc hc hn=>(e5 c (λhin=>by have:=(hb1 c hin).1;omega)).trans (st.frame c hc hn),st.l9⟩
end
noncomputable section
variable {P:Program}
theorem Xa{s s':Env}:∀{xs:List Operand},(∀x,x∈xs->kG s x=kG s' x)->Vq s xs=Vq s' xs
 |[],_=>rfl
 |x::xs,h=>by simp only[Vq];rw[h x (by simp),Xa (λy hy=>h y (by simp[hy]))]
theorem QE{s s':Env}:∀{ps:List (Nat×Operand)},(∀x,x∈ps->kG s x.2=kG s' x.2)->W5 s ps=W5 s' ps
 |[],_=>rfl
 |(i,x)::ps,h=>by simp only[W5];rw[h (i,x) (by simp),QE (λy hy=>h y (by simp[hy]))]
theorem Lm{s s':Env}{o:Oper}{g:za}(h:∀x,x∈o.op.operands->kG s x=kG s' x):Um P s o g=Um P s' o g:=by
 obtain⟨dst,op,type,pos,after,guard⟩:=o;have one:∀x,x∈op.operands->kG s x=kG s' x:=h
 have opt:∀x:Option Operand,(∀y,x=some y->y∈op.operands)->rT s x=rT s' x:=by
  intro x hx;cases x with
  |none=>rfl
  |some y=>simp only[rT];rw[one y (hx y rfl)]
 unfold Um
 cases op <;> simp only[] <;> first
  |rfl
  |(rw[one _ (by simp[Op.operands])];done)
  |(rw[one _ (by simp[Op.operands]),one _ (by simp[Op.operands])];done)
  |skip
 case pick c a b=>rw[one c (by simp[Op.operands]),one a (by simp[Op.operands]),one b (by simp[Op.operands])]
 case build t parts=>rw[QE (λx hx=>one _ (by simp only[Op.operands,List.mem_toArray,aa4];exact⟨x,hx,rfl⟩))]
 case buildSlice t n parts=>rw[QE (λx hx=>one _ (by simp only[Op.operands,List.mem_toArray,aa4];exact⟨x,hx,rfl⟩))]
 case makeFunc fn first captured=>
  cases fn <;> simp only[];rw[Xa (s:=s) (s':=s') (xs:=first.toList) (λx hx=>one x (by simp[Op.operands];exact .inl (by simpa using hx))),Xa (s:=s) (s':=s') (xs:=captured.toList) (λx hx=>one x (by simp[Op.operands];exact .inr (by simpa using hx)))]
 case slice t x lo hi mx=>
  cases mx <;> simp only[];rw[one x (by simp[Op.operands]),opt lo (λy e=>by subst e;simp[Op.operands]),opt hi (λy e=>by subst e;simp[Op.operands])]
 case makeMap t r=>cases r <;> rfl
 case mapUpdate t m k x=>rw[one m (by simp[Op.operands]),one k (by simp[Op.operands]),one x (by simp[Op.operands])]
 case call c=>
  obtain⟨callee,args,ts⟩:=c;cases callee <;> simp only[];rw[Xa (s:=s) (s':=s') (λx hx=>one x (by simp[Op.operands,Call.operands];simpa using hx))]
def Env.only(s:Env)(l:List Nat):Env:={t:=l.foldl (λt i=>t.set i (some (s.get i))) .e,size:=s.size}
theorem Env.Oa(s:Env)(l:List Nat)(i:Nat):(s.only l).get i=if i∈l then s.get i else undef:=by
 have key:∀(l:List Nat) (t:Tr aaa),(l.foldl (λt i=>t.set i (some (s.get i))) t).get i=if i∈l then some (s.get i) else t.get i:=by
  intro l
  induction l with
  |nil=>intro t;simp
  |cons j l ih=>
   intro t;rw[acm,ih,Tr.yy];by_cases hi:i∈l
   ·simp[hi]
   ·by_cases e:i=j
    ·subst e;simp[hi]
    ·simp[hi,e]
 have:=key l .e;simp only[Env.get_eq,Env.only]at this ⊢;rw[this];split <;> simp
theorem Bg{s s':Env}{ops:Array Oper}{o:Oper}(h:∀t,t∈o.looksAt ops->s.get t=s'.get t):∀x,x∈o.op.operands->kG s x=kG s' x:=by
 intro x hx;cases x with
 |tmp t=>
  simp only[kG];rw[h t (by simp only[Oper.looksAt,aaG,List.mem_filterMap];exact .inl ⟨.tmp t,by simpa using hx,rfl⟩)]
 |_=>rfl
theorem Ug{tm tm':Array aaa}{ds:List Deferred}{ops:Array Oper}{o:Oper}(h:∀t,t∈o.looksAt ops->tm.getD t undef=tm'.getD t undef):∀x,x∈o.op.operands->Act.eval ⟨tm,ds⟩ x=Act.eval ⟨tm',ds⟩ x:=by
 intro x hx;cases x with
 |tmp t=>exact h t (by simp only[Oper.looksAt,aaG,List.mem_filterMap];exact .inl ⟨.tmp t,by simpa using hx,rfl⟩)
 |_=>rfl
theorem rV{s s':Env}{ops:Array Oper}{o:Oper}(h:∀t,t∈o.looksAt ops->s.get t=s'.get t):yq ops s o=yq ops s' o:=by
 unfold yq;split
 ·rfl
 ·rename_i j want e;split
  ·rfl
  ·rename_i d hd;rw[h d (by simp only[Oper.looksAt,aaG];right;rw[e];simp[hd])]
def kO(P:Program)(ops:Array Oper)(s:Env)(o:Oper)(g:za)(v:aaa)(g':za):Prop :=
 (yq ops s o=false/\v=undef/\g'=g) \/
 (yq ops s o=true/\(Um P s o g=some (v,g') \/
  (∃f cargs ts fid fa fc vs,o.op=.call {callee := .value f,args:=cargs,argTypes:=ts} /\ kG s f=some (.func (.func fid) fa fc)/\Vq s cargs.toList=some vs/\xS P fid=true /\
   TC P fid (fa.toList++vs++fc.toList) g (λv1 h1=>v1=v/\h1=g')) \/
  (∃f cargs ts fid fa fc vs,o.op=.call {callee := .value f,args:=cargs,argTypes:=ts} /\ kG s f=some (.func (.func fid) fa fc)/\Vq s cargs.toList=some vs/\Bh P fid (fa.toList++vs++fc.toList) g=some (v,g'))))
theorem kO.congr{ops:Array Oper}{s s':Env}{o:Oper}{g g':za}{v:aaa}(hs:kO P ops s o g v g')(h:∀t,t∈o.looksAt ops->s.get t=s'.get t):kO P ops s' o g v g':=by
 have e1:=Bg h;unfold kO at *
 rw[<- rV h];rcases hs with hs|⟨hw,hs|⟨f,cargs,ts,fid,fa,fc,vs,h1,h2,h3,h4,h5⟩|⟨f,cargs,ts,fid,fa,fc,vs,h1,h2,h3,h4⟩⟩
 ·exact .inl hs
 ·exact .inr ⟨hw,.inl (by rw[<- Lm e1];exact hs)⟩
 ·refine .inr ⟨hw,.inr (.inl ⟨f,cargs,ts,fid,fa,fc,vs,h1,?_,?_,h4,h5⟩)⟩
  ·rw[<- e1 f (by rw[h1];simp[Op.operands,Call.operands])];exact h2
  ·rw[<- Xa (s:=s) (s':=s') (xs:=cargs.toList) (λx hx=>e1 x (by rw[h1];simp only[Op.operands,Call.operands];simp;right;simpa using hx))];exact h3
 ·refine .inr ⟨hw,.inr (.inr ⟨f,cargs,ts,fid,fa,fc,vs,h1,?_,?_,h4⟩)⟩
  ·rw[<- e1 f (by rw[h1];simp[Op.operands,Call.operands])];exact h2
  ·rw[<- Xa (s:=s) (s':=s') (xs:=cargs.toList) (λx hx=>e1 x (by rw[h1];simp only[Op.operands,Call.operands];simp;right;simpa using hx))];exact h3
theorem Jm{ops:Array Oper}{s:Env}{o:Oper}{g g':za}{v:aaa}{j:Nat}{ρ:xo}{w:World}{tm:Array aaa}(ho:ops[j]? = some o)(hsem:kO P ops s o g v g')(hr:Rel P ρ g w)
  (hsz:s.size=tm.size) (hl:∀t,t∈o.looksAt ops->zH ρ (s.get t) (tm.getD t undef)) (ds:List Deferred) (rest:List Nat) (b:Frame) (k:List Item) (cs:List Frame) :
  ∃v' w' ρ',Step P ρ g w ρ' g' w'/\zH ρ' v v' /\
   Steps P (lone (vB b tm ds (.inRegion ops (j::rest)::k)) cs w) (lone (vB b (qo tm o.dst v') ds (.inRegion ops rest::k)) cs w'):=by
 let L:=o.looksAt ops
 let s2:=s.only L
 let tm2:Array aaa:=(Array.range tm.size).map λt=>if t∈L then tm.getD t undef else undef
 have hg2:∀t,s2.get t=if t∈L then s.get t else undef:=Env.Oa s L
 have ht2:∀t,t∈L->tm2.getD t undef=tm.getD t undef:=by
  intro t ht;simp only[tm2,aaw,Array.getElem?_map];by_cases hlt:t<tm.size
  ·rw[Array.getElem?_range,aai hlt];simp[ht]
  ·rw[Array.getElem?_range,aag hlt];simp[aaH (abR hlt)]
 have ht2':∀t,t∉L->tm2.getD t undef=undef:=by
  intro t ht;simp only[tm2,aaw,Array.getElem?_map];by_cases hlt:t<tm.size
  ·rw[Array.getElem?_range,aai hlt];simp[ht]
  ·rw[Array.getElem?_range,aag hlt];rfl
 have hs2:vG ρ s2 tm2:=by
  refine⟨by show s.size=_;simp[tm2,hsz],λt=>?_⟩;rw[hg2];by_cases ht:t∈L
  ·rw[aai ht,ht2 t ht];exact hl t ht
  ·rw[aag ht,ht2' t ht];exact .Zk ρ rfl
 have hsem2:kO P ops s2 o g v g':=hsem.congr (λt ht=>by rw[hg2,aai ht])
 have hwant:Region.wanted o (yielded ops tm)=yq ops s2 o:=by
  rw[<- Xg hs2 ops o];unfold Region.wanted;cases hgd:o.guard with
  |none=>rfl
  |some gw=>
   obtain⟨q,want⟩:=gw;simp only[]
   have:yielded ops tm q=yielded ops tm2 q:=by
    unfold yielded;cases hd:(ops[q]?).bind (·.dst) with
    |none=>rfl
    |some d=>
     have hdl:d∈L:=(by simp only[L,Oper.looksAt,aaG];right;rw[hgd];simp[hd]);simp only[abf];have e:=ht2 d hdl;simp only[aaw]at e;have H6:tm2.size=tm.size:=by simp[tm2]
     by_cases hlt:d<tm.size
     ·rw[aaI hlt,aaI (H6 ▸ hlt)]at e ⊢;simp only[abQ]at e;rw[e]
     ·rw[aaH (abR hlt),aaH (by rw[H6];exact abR hlt)]
   rw[this]
 rcases hsem2 with⟨hw,rfl,rfl⟩|⟨hw,hs|⟨f,cargs,ts,fid,fa,fc,vs,h1,h2,h3,h4,h5⟩|⟨f,cargs,ts,fid,fa,fc,vs,h1,h2,h3,h4⟩⟩
 ·refine⟨undef,w,ρ,.refl hr,.Zk ρ rfl,.one ?_⟩;rw[bj (by rw[ho];exact hwant.trans hw),jB,ho];rfl
 ·obtain⟨n,w1,ρ1,v',e,hn,st,hv⟩:=tQ (a:=⟨tm2,[]⟩) hs hr hs2;refine⟨v',w1,ρ1,st,hv,.one ?_⟩;have hnd:=Vh hs;have hnsel:∀cs' b',o.op ≠ .select cs' b':=by intro cs' b' e;unfold Um at hs;rw[e]at hs;cases hs
  have e':(execOp (Act.eval ⟨tm,ds⟩) o).run P w=.ok n w1:=by
   rw[<- e]
   congr 1
   refine execOp_congr o hnsel (λx hx=>?_);exact(Ug (ds:=ds) (λt ht=>(ht2 t ht).symm) x hx).trans (by cases x <;> rfl)
  have hfin:(vB b tm ds (.inRegion ops (j::rest)::k)).finish v'=vB b (qo tm o.dst v') ds (.inRegion ops rest::k):=by rw[jB,ho];rfl
  rw[<- hfin];rcases hn with rfl|⟨rfl,rfl⟩
  ·exact YA ho (hwant.trans hw) hnd e'
  ·exact Xu ho (hwant.trans hw) hnd e'
 ·have e1:=zY (a:=⟨tm2,[]⟩) hs2 h2;have e2:=jy (a:=⟨tm2,[]⟩) hs2 h3
  have hlook:∀(ds:List Deferred) x,x∈o.op.operands->Act.eval ⟨tm2,[]⟩ x=Act.eval ⟨tm,ds⟩ x:=λds x hx=>
   (show Act.eval ⟨tm2,[]⟩ x=Act.eval ⟨tm2,ds⟩ x by cases x <;> rfl).trans (Ug (ds:=ds) (λt ht=>ht2 t ht) x hx)
  generalize hfv:Act.eval ⟨tm2,[]⟩ f=fv at e1;cases e1 with
  |func ha hcs q1 q2=>
   rename_i fa' fc'
   let full:=fa'.toList++cargs.toList.map (Act.eval ⟨tm2,[]⟩)++fc'.toList
   have hfull:wG ρ (fa.toList++vs++fc.toList) full :=
    (wG.append ⟨by simpa using ha,λi x y hx hy=>q1 i x y (by simpa using hx) (by simpa using hy)⟩ e2).append ⟨by simpa using hcs,λi x y hx hy=>q2 i x y (by simpa using hx) (by simpa using hy)⟩
   have hrun:(execOp (Act.eval ⟨tm,ds⟩) o).run P w=.ok (.enter fid full.toArray) w:=by
    have hnsel:∀cs' b',o.op ≠ .select cs' b':=(by intro cs' b' e;rw[h1]at e;cases e);rw[<- execOp_congr o hnsel (hlook ds)];have hargs':fa'++cargs.map (Act.eval ⟨tm2,[]⟩)++fc'=full.toArray:=by apply abY;simp[full]
    simp only[execOp,h1,resolve,hfv,Deferred.ofValue,aah,aal,aac,invoke,callFunc,run_program,hargs'];unfold xS at h4;cases hfn:P.funcs[fid]? with
    |none=>rw[hfn]at h4;cases h4
    |some fn=>
     rw[hfn]at h4;simp only[aad,aan]at h4;simp only[h4.2,aa9,ab1];rw[aag (by cases hb:fn.body <;> simp_all)];rfl
   obtain⟨e,w1,fr,⟨v0,v',h',ρ',rfl,⟨rfl,rfl⟩,st,hv⟩,hcomes,_,hleave⟩:=h5 ρ w full hr hfull (vB b tm ds (.inRegion ops (j::rest)::k)::cs);refine⟨v',w1,ρ',st,hv,.head (Jd ho (hwant.trans hw) (by rw[h1];rfl) hrun) (abT hcomes (.one ?_))⟩;rw[step_leave_returned hleave,jB,ho];rfl
 ·obtain⟨n,w1,ρ1,v',e,hn,st,hv⟩:=Bi (a:=⟨tm2,[]⟩) h1 h2 h3 h4 hr hs2;refine⟨v',w1,ρ1,st,hv,.one ?_⟩;have hnd:Xv o.op=false:=by rw[h1];rfl
  have hnsel:∀cs' b',o.op ≠ .select cs' b':=by intro cs' b' e;rw[h1]at e;cases e
  have e':(execOp (Act.eval ⟨tm,ds⟩) o).run P w=.ok n w1:=by
   rw[<- e]
   congr 1
   refine execOp_congr o hnsel (λx hx=>?_);exact(Ug (ds:=ds) (λt ht=>(ht2 t ht).symm) x hx).trans (by cases x <;> rfl)
  have hfin:(vB b tm ds (.inRegion ops (j::rest)::k)).finish v'=vB b (qo tm o.dst v') ds (.inRegion ops rest::k):=by rw[jB,ho];rfl
  rw[<- hfin];rcases hn with rfl|⟨rfl,rfl⟩
  ·exact YA ho (hwant.trans hw) hnd e'
  ·exact Xu ho (hwant.trans hw) hnd e'
end
noncomputable section
variable {P:Program}
def xo.cut(ρ:xo)(n:Nat):xo:={ρ with next:=n}
theorem zH.ext{ρ ρ':xo}(hn:ρ.next<=ρ'.next)(hm:∀b pl,b<ρ.next->ρ.m b=some pl->ρ'.m b=some pl){v v':aaa}(h:zH ρ v v'):zH ρ' v v':=by
 induction h with
 |pW h=>exact .pW h
 |bool b=>exact .bool b
 |int k n=>exact .int k n
 |float k n=>exact .float k n
 |string s=>exact .string s
 |ptrNil=>exact .ptrNil
 |ptr hb hm0=>exact .ptr (aap hb hn) (hm _ _ hb hm0)
 |Yn=>exact .Yn
 |sliceNil c=>exact .sliceNil c
 |slice hb hm0 hl hc=>exact .slice (aap hb hn) (hm _ _ hb hm0) hl hc
 |sliceOut hb hc=>exact .sliceOut (aap hb hn) hc
 |nilFunc=>exact .nilFunc
 |nilIface=>exact .nilIface
 |mapNil=>exact .mapNil
 |map hb hm0=>exact .map (aap hb hn) (hm _ _ hb hm0)
 |yield hb hm0=>exact .yield (aap hb hn) (hm _ _ hb hm0)
 |iface _ ih=>exact .iface ih
 |func ha hc _ _ ih ih'=>exact .func ha hc ih ih'
 |agg ha _ ih=>exact .agg ha ih
 |tuple ha _ ih=>exact .tuple ha ih
theorem zH.down{ρ ρ2:xo}(hm:∀b,b<ρ.next->ρ2.m b=ρ.m b){v v':aaa}(h:zH ρ v v'):∀{u:aaa},zH ρ2 v u->zH ρ v u:=by
 induction h with
 |pW h=>intro u hu;cases hu with|pW h2=>exact .pW h2
 |bool b=>intro u hu;cases hu;exact .bool b
 |int k n=>intro u hu;cases hu;exact .int k n
 |float k n=>intro u hu;cases hu;exact .float k n
 |string s=>intro u hu;cases hu;exact .string s
 |ptrNil=>intro u hu;cases hu;exact .ptrNil
 |ptr hb hm0=>intro u hu;cases hu with|ptr hb2 hm2=>exact .ptr hb ((hm _ hb).symm.trans hm2)
 |Yn=>intro u hu;cases hu;exact .Yn
 |sliceNil c=>intro u hu;cases hu;exact .sliceNil c
 |slice hb hm0 hl hc=>
  intro u hu;cases hu with
  |slice hb2 hm2 hl2 hc2=>exact .slice hb ((hm _ hb).symm.trans hm2) hl2 hc2
  |sliceOut hb2 hc2=>exact .sliceOut hb hc2
 |sliceOut hb hc=>
  intro u hu;cases hu with
  |slice hb2 hm2 hl2 hc2=>exact .slice hb ((hm _ hb).symm.trans hm2) hl2 hc2
  |sliceOut hb2 hc2=>exact .sliceOut hb hc2
 |nilFunc=>intro u hu;cases hu;exact .nilFunc
 |nilIface=>intro u hu;cases hu;exact .nilIface
 |mapNil=>intro u hu;cases hu;exact .mapNil
 |map hb hm0=>intro u hu;cases hu with|map hb2 hm2=>exact .map hb ((hm _ hb).symm.trans hm2)
 |yield hb hm0=>intro u hu;cases hu with|yield hb2 hm2=>exact .yield hb ((hm _ hb).symm.trans hm2)
 |iface _ ih=>intro u hu;cases hu with|iface h2=>exact .iface (ih h2)
 |func ha hc h1 h2 ih ih'=>
  rename_i f a c a' c';intro u hu;cases hu with
  |func ha2 hc2 k1 k2=>
   refine .func ha2 hc2 (λi x y hx hy=>?_) (λi x y hx hy=>?_)
   ·obtain⟨z,hz⟩:∃z,a'[i]? = some z:=by
     have hlt:i<a.size:=by
      rcases aaL i a.size with h|h
      ·exact h
      ·rw[aaH h]at hx;cases hx
     exact⟨_,aaI (ha ▸ hlt)⟩
    exact ih i x z hx hz (k1 i x y hx hy)
   ·obtain⟨z,hz⟩:∃z,c'[i]? = some z:=by
     have hlt:i<c.size:=by
      rcases aaL i c.size with h|h
      ·exact h
      ·rw[aaH h]at hx;cases hx
     exact⟨_,aaI (hc ▸ hlt)⟩
    exact ih' i x z hx hz (k2 i x y hx hy)
 |agg ha h1 ih=>
  rename_i a a';intro u hu;cases hu with
  |agg ha2 k1=>
   refine .agg ha2 (λi x y hx hy=>?_)
   obtain⟨z,hz⟩:∃z,a'[i]? = some z:=by
    have hlt:i<a.size:=by
     rcases aaL i a.size with h|h
     ·exact h
     ·rw[aaH h]at hx;cases hx
    exact⟨_,aaI (ha ▸ hlt)⟩
   exact ih i x z hx hz (k1 i x y hx hy)
 |tuple ha h1 ih=>
  rename_i a a';intro u hu;cases hu with
  |tuple ha2 k1=>
   refine .tuple ha2 (λi x y hx hy=>?_)
   obtain⟨z,hz⟩:∃z,a'[i]? = some z:=by
    have hlt:i<a.size:=by
     rcases aaL i a.size with h|h
     ·exact h
     ·rw[aaH h]at hx;cases hx
    exact⟨_,aaI (ha ▸ hlt)⟩
   exact ih i x z hx hz (k1 i x y hx hy)
theorem xJ.ext{ρ ρ':xo}(hn:ρ.next<=ρ'.next)(hm:∀b pl,b<ρ.next->ρ.m b=some pl->ρ'.m b=some pl){wr:Bool}{c:List aaa}{t:TypeId}{pl:Place}{w:World}(hc:xJ P ρ wr c t pl w):xJ P ρ' wr c t pl w:=by
 obtain⟨cs,fz,h1,h2,h3,h4,h5,h6⟩:=hc;exact⟨cs,fz,h1,h2,h3,h4,h5,λi x hx=>by obtain⟨y,hy,hv⟩:=h6 i x hx;exact⟨y,hy,hv.ext hn hm⟩⟩
theorem xJ.down{ρ ρ2:xo}(hm:∀b,b<ρ.next->ρ2.m b=ρ.m b){wr wr2:Bool}{c:List aaa}{t:TypeId}{pl:Place}{w w2:World}(h:xJ P ρ wr c t pl w)(h2:xJ P ρ2 wr2 c t pl w2):xJ P ρ wr2 c t pl w2:=by
 obtain⟨cs,fz,a1,a2,a3,a4,a5,a6⟩:=h;obtain⟨cs2,fz2,b1,b2,b3,b4,b5,b6⟩:=h2
 exact⟨cs2,fz2,b1,b2,b3,b4,b5,λi x hx=>by
  obtain⟨y,hy,hv⟩:=a6 i x hx;obtain⟨y2,hy2,hv2⟩:=b6 i x hx;exact⟨y2,hy2,hv.down hm hv2⟩⟩
theorem vS.ext{ρ ρ':xo}(hn:ρ.next<=ρ'.next)(hm:∀b pl,b<ρ.next->ρ.m b=some pl->ρ'.m b=some pl){wr:Bool}{o:vl}{pl:Place}{w:World}(hc:vS P ρ wr o pl w):vS P ρ' wr o pl w:=by
 cases o with
 |cells c t=>exact xJ.ext hn hm hc
 |map es q=>obtain⟨ms,h1,h2,h3⟩:=hc;exact⟨ms,h1,h2,λi x m hx hm0=>⟨(h3 i x m hx hm0).1.ext hn hm,(h3 i x m hx hm0).2.1.ext hn hm,(h3 i x m hx hm0).2.2⟩⟩
 |iter m a b c=>obtain⟨m',h1,h0,h2⟩:=hc;exact⟨m',h1,h0,h2.ext hn hm⟩
 |tab c=>obtain⟨t,h1⟩:=hc;exact⟨t,xJ.ext hn hm h1⟩
 |siter s pos=>exact hc
 |loop l=>obtain⟨tm,d,fn,h1,h2⟩:=hc;exact⟨tm,d,fn,h1,h2.size,λi=>(h2.get i).ext hn hm⟩
theorem vS.down{ρ ρ2:xo}(hm:∀b,b<ρ.next->ρ2.m b=ρ.m b){wr wr2:Bool}{o:vl}{pl:Place}{w w2:World}(h:vS P ρ wr o pl w)(h2:vS P ρ2 wr2 o pl w2):vS P ρ wr2 o pl w2:=by
 cases o with
 |cells c t=>exact xJ.down hm h h2
 |iter m a b c=>
  obtain⟨m1,a1,_,a2⟩:=h;obtain⟨m2,b1,b0,b2⟩:=h2;exact⟨m2,b1,b0,a2.down hm b2⟩
 |siter s pos=>exact h2
 |tab c=>
  obtain⟨t,cs,fz,a1,a2,a3,a4,a5,a6⟩:=h;obtain⟨t2,cs2,fz2,b1,b2,b3,b4,b5,b6⟩:=h2
  exact⟨t2,cs2,fz2,b1,b2,b3,b4,b5,λi x hx=>by
   obtain⟨y,hy,hv⟩:=a6 i x hx;obtain⟨y2,hy2,hv2⟩:=b6 i x hx;exact⟨y2,hy2,hv.down hm hv2⟩⟩
 |map es q=>
  obtain⟨ms,a1,a2,a3⟩:=h;obtain⟨ms2,b1,b2,b3⟩:=h2;refine⟨ms2,b1,b2,λi x m hx hm0=>?_⟩
  obtain⟨z,hz⟩:∃z,ms[i]? = some z:=by
   have hlt:i<ms.size:=by
    rcases aaL i es.length with h|h
    ·omega
    ·rw[aat h]at hx;cases hx
   exact⟨_,aaI hlt⟩
  exact⟨(a3 i x z hx hz).1.down hm (b3 i x m hx hm0).1,(a3 i x z hx hz).2.1.down hm (b3 i x m hx hm0).2.1,(b3 i x m hx hm0).2.2⟩
 |loop l=>
  obtain⟨tm,d,fn,a1,a2⟩:=h;obtain⟨tm2,d2,fn2,b1,b2⟩:=h2;exact⟨tm2,d2,fn2,b1,b2.size,λi=>(a2.get i).down hm (b2.get i)⟩
theorem vS.K8{ρ:xo}{n m:Nat}(h:n<=m){wr:Bool}{o:vl}{pl:Place}{w:World}(hc:vS P (ρ.cut n) wr o pl w):vS P (ρ.cut m) wr o pl w:=vS.ext (ρ:=ρ.cut n) (ρ':=ρ.cut m) h (λ_ _ _ h=>h) hc
theorem vS.oV{ρ ρ':xo}{n:Nat}(hm:∀b pl,ρ.m b=some pl->ρ'.m b=some pl){wr:Bool}{o:vl}{pl:Place}{w:World}(hc:vS P (ρ.cut n) wr o pl w):vS P (ρ'.cut n) wr o pl w:=vS.ext (ρ:=ρ.cut n) (ρ':=ρ'.cut n) (aaj _) (λb pl _ h=>hm b pl h) hc
theorem zH.K8{ρ:xo}{n m:Nat}(h:n<=m){v v':aaa}(hv:zH (ρ.cut n) v v'):zH (ρ.cut m) v v':=zH.ext (ρ:=ρ.cut n) (ρ':=ρ.cut m) h (λ_ _ _ h=>h) hv
theorem zH.oV{ρ ρ':xo}{n:Nat}(hm:∀b pl,ρ.m b=some pl->ρ'.m b=some pl){v v':aaa}(hv:zH (ρ.cut n) v v'):zH (ρ'.cut n) v v':=zH.ext (ρ:=ρ.cut n) (ρ':=ρ'.cut n) (aaj _) (λb pl _ h=>hm b pl h) hv
structure yr where
 j:Nat
 o:Oper
 v:aaa
 s:Env
 g:za
 g':za
 rd:Nat->Bool
 tc:Nat->Bool
def vr(T:List yr)(p:yr->Bool):Option yr:=(T.filter p).getLast?
def Uo(t:Nat)(r:yr):Bool:=decide (r.o.dst=some t)
def Uf(T:List yr)(s0:Env)(t:Nat):aaa:=match vr T (Uo t) with|some r=>r.v|none=>s0.get t
def eG(T:List yr)(n0:Nat)(t:Nat):Nat:=match vr T (Uo t) with|some r=>r.g'.next|none=>n0
def Yh(T:List yr)(h0:za)(b:Nat):Option vl:=match vr T (λr=>r.tc b) with|some r=>r.g'.get b|none=>h0.get b
def gS(T:List yr)(n0:Nat)(b:Nat):Nat:=match vr T (λr=>r.tc b) with|some r=>r.g'.next|none=>n0
inductive Prec (ops:Array Oper):Nat->Nat->Prop
 |one {j:Nat} {o:Oper} {e:Edge} (ho:ops[j]? = some o) (he:e∈o.after) (hb:Region.binds .any e=true):Prec ops e.on j
 |more {i j:Nat} {o:Oper} {e:Edge} (ho:ops[j]? = some o) (he:e∈o.after) (hb:Region.binds .any e=true) (h:Prec ops i e.on):Prec ops i j
structure lB (ops:Array Oper) (x y:yr):Prop where
 d1:∀d,x.o.dst=some d->d∉y.o.looksAt ops/\y.o.dst≠some d
 d2:∀d,y.o.dst=some d->d∉x.o.looksAt ops
 b1:∀b,x.tc b=true->y.rd b=false/\y.tc b=false
 b2:∀b,y.tc b=true->x.rd b=false
structure Told (P:Program) (ops:Array Oper) (s0:Env) (h0:za) (A:List yr) (r:yr):Prop where
 op:ops[r.j]? = some r.o
 env:∀t,r.s.get t=Uf A s0 t
 size:r.s.size=s0.size
 heap:∀b,r.g.get b=if r.rd b=true then Yh A h0 b else none
 ro:r.g.ro=h0.ro
 n0:h0.next<=r.g.next
 nA:∀x,x∈A->x.g'.next<=r.g.next
 n1:r.g.next<=r.g'.next
 sem:kO P ops r.s r.o r.g r.v r.g'
 put:∀d,r.o.dst=some d->d<s0.size
 tc1:∀b,r.tc b=true->r.rd b=true\/(r.g.next<=b/\b<r.g'.next)
 tc2:∀b,r.tc b=false->r.g'.get b=r.g.get b
 tc3:∀b o,r.tc b=true->b<r.g.next->r.g'.get b=some o->r.g.get b≠none
structure Valid (P:Program) (ops:Array Oper) (s0:Env) (h0:za) (tr:List yr):Prop where
 nodup:(tr.map (·.j)).Nodup
 all:∀i,i<ops.size->∃r,r∈tr/\r.j=i
 told:∀A r B,tr=A++r::B->Told P ops s0 h0 A r
 Vc:∀A r B,tr=A++r::B->∀e,e∈r.o.after->Region.binds .any e=true->∃x,x∈A/\x.j=e.on
 apart:∀A x B y C,tr=A++x::(B++y::C)->Prec ops x.j y.j\/lB ops x y
theorem WG{tr A B:List yr}{r x:yr}(hn:(tr.map (·.j)).Nodup)(e:tr=A++r::B)(hx:x∈A\/x∈B):x.j≠r.j:=by
 subst e;rw[abm,abp]at hn;have h1:=List.nodup_append.1 hn;intro ej;rcases hx with hx|hx
 ·exact h1.2.2 x.j (List.mem_map_of_mem hx) r.j (by simp) ej
 ·have:=(List.nodup_cons.1 h1.2.1).1;exact this (ej ▸ List.mem_map_of_mem hx)
theorem Nu{ops:Array Oper}{s0:Env}{h0:za}{tr:List yr}(V:Valid P ops s0 h0 tr){S:Nat->Bool}(hdown:∀i j,Prec ops i j->S j=true->S i=true){A B:List yr}{r:yr}(e:tr=A++r::B)
  (hready:∀i,Prec ops i r.j->S i=true) (hnot:S r.j=false) {p:yr->Bool} (hp:∀x,(x∈A->p x=true->Prec ops x.j r.j)/\(x∈B->p x=true->Prec ops r.j x.j)) :
  (A.filter (λx=>S x.j)).filter p=A.filter p/\(B.filter (λx=>S x.j)).filter p=[]:=by
 constructor
 ·rw[abP];apply abB;intro x hx;cases hpx:p x with
  |false=>simp
  |true=>rw[hready _ ((hp x).1 hx hpx)];rfl
 ·rw[abP,acj];intro x hx hc;simp only[aad]at hc;have:=hdown _ _ ((hp x).2 hx hc.1) hc.2;rw[hnot]at this;cases this
theorem Valid.order{ops:Array Oper}{s0:Env}{h0:za}{tr A B:List yr}{r:yr}(V:Valid P ops s0 h0 tr)(e:tr=A++r::B){p:yr->Bool}(hA:∀x,lB ops x r->p x=false)(hB:∀x,lB ops r x->p x=false) :
  ∀x,(x∈A->p x=true->Prec ops x.j r.j)/\(x∈B->p x=true->Prec ops r.j x.j):=by
 intro x
 constructor
 ·intro hx hpx;obtain⟨A1,A2,rfl⟩:=aaR hx;rcases V.apart A1 x A2 r B (by simp[e]) with h|h
  ·exact h
  ·rw[hA x h]at hpx;cases hpx
 ·intro hx hpx;obtain⟨B1,B2,rfl⟩:=aaR hx;rcases V.apart A r B1 x B2 e with h|h
  ·exact h
  ·rw[hB x h]at hpx;cases hpx
end
noncomputable section
variable {P:Program}
structure aB (P:Program) (tr:List yr) (s0:Env) (h0:za) (N:Nat) (ρ0:xo) (w0:World) (S:Nat->Bool) (ρ:xo) (w:World) (tm:Array aaa):Prop where
 next:ρ.next=N
 old:∀b,b<h0.next->ρ.m b=ρ0.m b
 size:s0.size=tm.size
 env:∀t,zH (ρ.cut (eG (tr.filter λr=>S r.j) h0.next t)) (Uf (tr.filter λr=>S r.j) s0 t) (tm.getD t undef)
 heap:∀b o,Yh (tr.filter λr=>S r.j) h0 b=some o->b<gS (tr.filter λr=>S r.j) h0.next b /\
  ∃pl,ρ.m b=some pl/\vS P (ρ.cut (gS (tr.filter λr=>S r.j) h0.next b)) (decide (h0.ro<=b)) o pl w
 inj:∀b1 b2 o1 o2 p1 p2,Yh (tr.filter λr=>S r.j) h0 b1=some o1->Yh (tr.filter λr=>S r.j) h0 b2=some o2->ρ.m b1=some p1->ρ.m b2=some p2->p1.c=p2.c->b1=b2
 fresh:∀x,x∈tr->S x.j=false->∀b,x.g.next<=b->b<x.g'.next->ρ.m b=none
 os:w.os=w0.os
 tape:w.tape=w0.tape
 output:w.output=w0.output
 bu:w0.heap.size<=w.heap.size
 frame:∀c,c<w0.heap.size->¬mq ρ0 h0 c->w.heap[c]? = w0.heap[c]?
 l9:∀b o pl,Yh (tr.filter λr=>S r.j) h0 b=some o->h0.ro<=b->ρ.m b=some pl->pl.c<w0.heap.size->mq ρ0 h0 pl.c
 lh:P.globals.size<=h0.ro
 gl:∀b pl,b<P.globals.size->ρ.m b=some pl->pl.c=b/\pl.base=0
def qN(S:Nat->Bool)(j:Nat):Nat->Bool:=λi=>S i||decide (i=j)
section
variable {ops:Array Oper}{s0:Env}{h0:za}{tr A B:List yr}{r:yr}{S:Nat->Bool}
theorem eL(e:tr=A++r::B)(hnot:S r.j=false):tr.filter (λx=>S x.j)=A.filter (λx=>S x.j)++B.filter (λx=>S x.j):=by
 subst e;simp[hnot]
theorem pc(V:Valid P ops s0 h0 tr)(e:tr=A++r::B):tr.filter (λx=>qN S r.j x.j)=A.filter (λx=>S x.j)++r::B.filter (λx=>S x.j):=by
 have hA:A.filter (λx=>qN S r.j x.j)=A.filter (λx=>S x.j):=abB λx hx=>by simp[qN,WG V.nodup e (.inl hx)]
 have hB:B.filter (λx=>qN S r.j x.j)=B.filter (λx=>S x.j):=abB λx hx=>by simp[qN,WG V.nodup e (.inr hx)]
 rw[e,aaO,abL,hA,hB,aai (by simp[qN])]
theorem lp(V:Valid P ops s0 h0 tr)(hdown:∀i j,Prec ops i j->S j=true->S i=true)(e:tr=A++r::B)(hready:∀i,Prec ops i r.j->S i=true)(hnot:S r.j=false){p:yr->Bool}
  (hA:∀x,lB ops x r->p x=false) (hB:∀x,lB ops r x->p x=false):vr (tr.filter λx=>S x.j) p=vr A p:=by
 obtain⟨h1,h2⟩:=Nu V hdown e hready hnot (V.order e hA hB);rw[vr,eL e hnot,aaO,h1,h2,aa8];rfl
theorem cH(V:Valid P ops s0 h0 tr)(hdown:∀i j,Prec ops i j->S j=true->S i=true)(e:tr=A++r::B)(hready:∀i,Prec ops i r.j->S i=true)(hnot:S r.j=false){p:yr->Bool}(hr:p r=true)
  (hA:∀x,lB ops x r->p x=false) (hB:∀x,lB ops r x->p x=false):vr (tr.filter λx=>qN S r.j x.j) p=some r:=by
 obtain⟨h1,h2⟩:=Nu V hdown e hready hnot (V.order e hA hB);rw[vr,pc V e,aaO,abL,aai hr,h1,h2];simp
theorem cI(V:Valid P ops s0 h0 tr)(e:tr=A++r::B)(hnot:S r.j=false){p:yr->Bool}(hr:p r=false):vr (tr.filter λx=>qN S r.j x.j) p=vr (tr.filter λx=>S x.j) p:=by
 rw[vr,vr,pc V e,eL e hnot,aaO,abL,hr,aag (by simp),aaO]
theorem Xl{T:List yr}{p:yr->Bool}{x:yr}(h:vr T p=some x):x∈T/\p x=true:=by
 have:=List.mem_of_getLast? h;exact abM.1 this
theorem LH(hro0:h0.ro<=h0.next)(V:Valid P ops s0 h0 tr)(hdown:∀i j,Prec ops i j->S j=true->S i=true)(e:tr=A++r::B)(hready:∀i,Prec ops i r.j->S i=true)(hnot:S r.j=false)
  {N:Nat} (hN:∀x,x∈tr->x.g'.next<=N) {ρ0 ρ:xo} {w0 w:World} {tm:Array aaa} (I:aB P tr s0 h0 N ρ0 w0 S ρ w tm) (ds:List Deferred) (rest:List Nat) (b:Frame) (k:List Item) (cs:List Frame) :
  ∃ρ' w' tm',aB P tr s0 h0 N ρ0 w0 (qN S r.j) ρ' w' tm'/\Steps P (lone (vB b tm ds (.inRegion ops (r.j::rest)::k)) cs w) (lone (vB b tm' ds (.inRegion ops rest::k)) cs w'):=by
 have D:=V.told A r B e;have hrm:r∈tr:=by rw[e];simp
 have lookEnv:∀t,t∈r.o.looksAt ops->vr (tr.filter λx=>S x.j) (Uo t)=vr A (Uo t):=λt ht=>
  lp V hdown e hready hnot (λx hx=>by
   cases hw:Uo t x with
   |false=>rfl
   |true=>exact absurd ht (hx.d1 t (aa1 hw)).1) (λx hx=>by
   cases hw:Uo t x with
   |false=>rfl
   |true=>exact absurd ht (hx.d2 t (aa1 hw)))
 have lookHeap:∀bb,r.rd bb=true->vr (tr.filter λx=>S x.j) (λx=>x.tc bb)=vr A (λx=>x.tc bb):=λbb hb=>
  lp V hdown e hready hnot (λx hx=>by
   cases hw:x.tc bb with
   |false=>rfl
   |true=>have:=(hx.b1 bb hw).1;rw[hb]at this;cases this) (λx hx=>by
   cases hw:x.tc bb with
   |false=>rfl
   |true=>have:=hx.b2 bb hw;rw[hb]at this;cases this)
 have hpVeq:∀bb,r.rd bb=true->Yh (tr.filter λx=>S x.j) h0 bb=r.g.get bb:=λbb hb=>by
  rw[D.heap,aai hb];simp only[Yh,lookHeap bb hb]
 have hpNle:∀bb,r.rd bb=true->gS (tr.filter λx=>S x.j) h0.next bb<=r.g.next:=λbb hb=>by
  simp only[gS,lookHeap bb hb];split
  ·rename_i x hx;exact D.nA x (Xl hx).1
  ·exact D.n0
 have galive:∀bb o,r.g.get bb=some o->r.rd bb=true/\Yh (tr.filter λx=>S x.j) h0 bb=some o:=λbb o hg=>by
  rw[D.heap]at hg;cases hb:r.rd bb with
  |false=>rw[hb]at hg;simp at hg
  |true=>exact⟨rfl,by rw[hpVeq bb hb,D.heap];exact hg⟩
 let ρr:=ρ.cut r.g.next
 have hrel:Rel P ρr r.g w:=by
  refine⟨rfl,?_,?_,?_,?_,by rw[D.ro];exact I.lh,I.gl⟩
  ·have h1:=D.ro;have h2:=D.n0;show r.g.ro<=r.g.next;omega
  ·intro bb o hg;obtain⟨h1,h2⟩:=galive bb o hg;exact aap (I.heap bb o h2).1 (hpNle bb h1)
  ·intro bb o hg;obtain⟨h1,h2⟩:=galive bb _ hg;obtain⟨_,pl,hp,hc⟩:=I.heap bb o h2;refine⟨pl,hp,?_⟩;rw[D.ro];exact hc.K8 (hpNle bb h1)
  ·intro b1 b2 o1 o2 p1 p2 g1 g2;exact I.inj b1 b2 o1 o2 p1 p2 (galive b1 o1 g1).2 (galive b2 o2 g2).2
 have hlook:∀t,t∈r.o.looksAt ops->zH ρr (r.s.get t) (tm.getD t undef):=by
  intro t ht;have h1:=I.env t;have e1:Uf (tr.filter λx=>S x.j) s0 t=r.s.get t:=by rw[D.env t];simp only[Uf,lookEnv t ht]
  have e2:eG (tr.filter λx=>S x.j) h0.next t<=r.g.next:=by
   simp only[eG,lookEnv t ht];split
   ·rename_i x hx;exact D.nA x (Xl hx).1
   ·exact D.n0
  rw[e1]at h1;exact h1.K8 e2
 obtain⟨v',w',ρq,st,hv,sx⟩:=Jm D.op D.sem hrel (D.size.trans I.size) hlook ds rest b k cs
 let ρ':xo:={next:=N,m:=λbb=>if r.g.next<=bb/\bb<r.g'.next then ρq.m bb else ρ.m bb}
 have qnext:ρq.next=r.g'.next:=st.rel.next;have qlow:∀bb,bb<r.g.next->ρq.m bb=ρ.m bb:=λbb hb=>st.le.2 bb hb
 have pq:∀bb,bb<r.g'.next->ρ'.m bb=ρq.m bb:=by
  intro bb hb;by_cases hl:r.g.next<=bb
  ·exact aai ⟨hl,hb⟩
  ·rw[show ρ'.m bb=ρ.m bb from aag (by omega),qlow bb (by omega)]
 have rfresh:=I.fresh r hrm hnot
 have pext:∀bb pl,ρ.m bb=some pl->ρ'.m bb=some pl:=by
  intro bb pl hm
  rw[show ρ'.m bb=ρ.m bb from aag (by
   rintro⟨h1,h2⟩;rw[rfresh bb h1 h2]at hm;cases hm)]
  exact hm
 have hn1N:r.g'.next<=N:=hN r hrm
 have notMine:∀bb o pl,Yh (tr.filter λx=>S x.j) h0 bb=some o->ρ.m bb=some pl->r.rd bb=false->¬mq ρr r.g pl.c:=by
  rintro bb o pl hg hm hb ⟨b1,o1,p1,g1,_,m1,e1⟩;obtain⟨k1,k2⟩:=galive b1 o1 g1;have:=I.inj b1 bb o1 o p1 pl k2 hg m1 hm e1;subst this;rw[hb]at k1;cases k1
 have hpVnew:∀bb,Yh (tr.filter λx=>qN S r.j x.j) h0 bb=if r.tc bb=true then r.g'.get bb else Yh (tr.filter λx=>S x.j) h0 bb:=by
  intro bb;cases ht:r.tc bb with
  |true=>
   rw[aai rfl];simp only[Yh]
   rw[cH V hdown e hready hnot ht (λx hx=>by
    cases hw:x.tc bb with
    |false=>rfl
    |true=>have:=(hx.b1 bb hw).2;rw[ht]at this;cases this) (λx hx=>by
    cases hw:x.tc bb with
    |false=>rfl
    |true=>have:=(hx.b1 bb ht).2;rw[hw]at this;cases this)]
  |false=>
   rw[aag (by simp)];simp only[Yh];rw[cI V e hnot (p:=λx=>x.tc bb) ht]
 have hpNnew:∀bb,gS (tr.filter λx=>qN S r.j x.j) h0.next bb=if r.tc bb=true then r.g'.next else gS (tr.filter λx=>S x.j) h0.next bb:=by
  intro bb;cases ht:r.tc bb with
  |true=>
   rw[aai rfl];simp only[gS]
   rw[cH V hdown e hready hnot ht (λx hx=>by
    cases hw:x.tc bb with
    |false=>rfl
    |true=>have:=(hx.b1 bb hw).2;rw[ht]at this;cases this) (λx hx=>by
    cases hw:x.tc bb with
    |false=>rfl
    |true=>have:=(hx.b1 bb ht).2;rw[hw]at this;cases this)]
  |false=>
   rw[aag (by simp)];simp only[gS];rw[cI V e hnot (p:=λx=>x.tc bb) ht]
 have cases':∀bb o,Yh (tr.filter λx=>qN S r.j x.j) h0 bb=some o->(r.tc bb=true/\r.g'.get bb=some o)\/(r.tc bb=false/\Yh (tr.filter λx=>S x.j) h0 bb=some o):=by
  intro bb o h;rw[hpVnew]at h;cases ht:r.tc bb with
  |true=>rw[ht,aai rfl]at h;exact .inl ⟨rfl,h⟩
  |false=>rw[ht,aag (by simp)]at h;exact .inr ⟨rfl,h⟩
 refine⟨ρ',w',qo tm r.o.dst v',⟨rfl,?_,?_,?_,?_,?_,?_,st.os.trans I.os,st.tape.trans I.tape,st.output.trans I.output,aaV I.bu st.size,?_,?_,I.lh,λb pl hb hm=>I.gl b pl hb (by
  rw[show ρ'.m b=ρ.m b from aag (by have:=D.n0;have:=I.lh;omega)]at hm;exact hm)⟩,sx⟩
 ·intro bb hb;rw[show ρ'.m bb=ρ.m bb from aag (by have:=D.n0;omega)];exact I.old bb hb
 ·cases r.o.dst with
  |none=>exact I.size
  |some d=>simp only[qo,Array.size_setIfInBounds];exact I.size
 ·
  intro t;by_cases ht:r.o.dst=some t
  ·have e1:vr (tr.filter λx=>qN S r.j x.j) (Uo t)=some r:=cH V hdown e hready hnot (p:=Uo t) (by simp[Uo,ht]) (λx hx=>by
    cases hw:Uo t x with
    |false=>rfl
    |true=>exact absurd ht (hx.d1 t (aa1 hw)).2) (λx hx=>by
    cases hw:Uo t x with
    |false=>rfl
    |true=>exact absurd (aa1 hw) (hx.d1 t ht).2)
   simp only[Uf,eG,e1]
   have e2:(qo tm r.o.dst v').getD t undef=v':=by
    have hlt:t<tm.size:=(by rw[<- I.size];exact D.put t ht);rw[ht];simp[qo,aaw,hlt]
   rw[e2];refine hv.ext (by show ρq.next<=r.g'.next;rw[qnext];exact aaj _) (λbb pl hb hm=>?_);show ρ'.m bb=some pl;rw[pq bb (by rw[<- qnext];exact hb)];exact hm
  ·have e1:vr (tr.filter λx=>qN S r.j x.j) (Uo t)=vr (tr.filter λx=>S x.j) (Uo t):=cI V e hnot (p:=Uo t) (by simp[Uo,ht])
   have e2:(qo tm r.o.dst v').getD t undef=tm.getD t undef:=by
    cases hd:r.o.dst with
    |none=>rfl
    |some d=>
     have:d≠t:=λh=>ht (by rw[hd,h]);simp[qo,aaw,this]
   have h1:=I.env t;simp only[Uf,eG]at h1 ⊢;rw[e1,e2];exact h1.oV (ρ':=ρ') pext
 ·
  intro bb o hg;rcases cases' bb _ hg with⟨ht,hg'⟩|⟨ht,hg'⟩
  ·rw[hpNnew,aai ht];obtain⟨pl,hp,hc⟩:=st.rel.ok bb o hg';have hlt:=st.rel.Ko bb _ hg';refine⟨hlt,pl,by rw[pq bb hlt];exact hp,?_⟩;have hro:r.g'.ro=h0.ro:=st.ro.trans D.ro;rw[hro]at hc;exact hc.ext (by show ρq.next<=r.g'.next;rw[qnext];exact aaj _) (λb2 p2 hb hm=>by show ρ'.m b2=some p2;rw[pq b2 (by rw[<- qnext];exact hb)];exact hm)
  ·rw[hpNnew,ht,aag (by simp)];obtain⟨hlt,pl,hp,hc⟩:=I.heap bb o hg';refine⟨hlt,pl,pext bb pl hp,?_⟩
   have hdone:vS P (ρ.cut (gS (tr.filter λx=>S x.j) h0.next bb)) (decide (h0.ro<=bb)) o pl w':=by
    cases hb:r.rd bb with
    |true=>
     have hgg:r.g'.get bb=some o:=(by rw[D.tc2 bb ht,<- hpVeq bb hb];exact hg');obtain⟨p2,hp2,hc2⟩:=st.rel.ok bb o hgg;have hbl:bb<r.g.next:=aap hlt (hpNle bb hb);rw[qlow bb hbl,hp]at hp2;cases hp2;have hro:r.g'.ro=h0.ro:=st.ro.trans D.ro;rw[hro]at hc2;exact vS.down (ρ:=ρ.cut (gS (tr.filter λx=>S x.j) h0.next bb)) (ρ2:=ρq) (λb2 hb2=>qlow b2 (aap hb2 (hpNle bb hb))) hc hc2
    |false=>exact hc.other (st.frame pl.c hc.lt (notMine bb _ pl hg' hp hb))
   exact hdone.oV (ρ':=ρ') pext
 ·
  have key:∀b1 b2 o1 o2 p1 p2,r.tc b1=true->r.g'.get b1=some o1->r.tc b2=false->Yh (tr.filter λx=>S x.j) h0 b2=some o2->ρ'.m b1=some p1->ρ'.m b2=some p2->p1.c=p2.c->b1=b2:=by
   intro b1 b2 o1 o2 p1 p2 t1 g1 t2 g2 m1 m2 ec;obtain⟨hlt2,q2,hq2,hc2⟩:=I.heap b2 o2 g2;rw[pext b2 q2 hq2]at m2;cases m2;have hl1:=st.rel.Ko b1 o1 g1;rw[pq b1 hl1]at m1;cases hb2:r.rd b2 with
   |true=>
    have hgg:r.g'.get b2=some o2:=(by rw[D.tc2 b2 t2,<- hpVeq b2 hb2];exact g2);have hbl:b2<r.g.next:=aap hlt2 (hpNle b2 hb2);exact st.rel.inj b1 b2 o1 _ p1 p2 g1 hgg m1 (by rw[qlow b2 hbl];exact hq2) ec
   |false=>
    by_cases hw:h0.ro<=b1
    ·have hM:mq ρq r.g' p1.c:=⟨b1,o1,p1,g1,by rw[st.ro,D.ro];exact hw,m1,rfl⟩;have hlt:p1.c<w.heap.size:=by rw[ec];exact hc2.lt
     have:=st.l9 p1.c hlt hM;rw[ec]at this;exact absurd this (notMine b2 _ p2 g2 hq2 hb2)
    ·have hb1:b1<r.g.next:=(by have:=D.n0;omega);have hne:=D.tc3 b1 o1 t1 hb1 g1;obtain⟨o1',ho1'⟩:∃o,r.g.get b1=some o:=by cases hh:r.g.get b1 with|none=>exact absurd hh hne|some o=>exact⟨o,rfl⟩
     rw[qlow b1 hb1]at m1;exact I.inj b1 b2 o1' _ p1 p2 (galive b1 o1' ho1').2 g2 m1 hq2 ec
  intro b1 b2 o1 o2 p1 p2 g1 g2 m1 m2 ec;rcases cases' b1 o1 g1 with⟨t1,k1⟩|⟨t1,k1⟩ <;> rcases cases' b2 o2 g2 with⟨t2,k2⟩|⟨t2,k2⟩
  ·have l1:=st.rel.Ko b1 o1 k1;have l2:=st.rel.Ko b2 o2 k2;rw[pq b1 l1]at m1;rw[pq b2 l2]at m2;exact st.rel.inj b1 b2 o1 o2 p1 p2 k1 k2 m1 m2 ec
  ·exact key b1 b2 o1 o2 p1 p2 t1 k1 t2 k2 m1 m2 ec
  ·exact(key b2 b1 o2 o1 p2 p1 t2 k2 t1 k1 m2 m1 ec.symm).symm
  ·obtain⟨_,q1,hq1,_⟩:=I.heap b1 o1 k1;obtain⟨_,q2,hq2,_⟩:=I.heap b2 o2 k2;rw[pext b1 q1 hq1]at m1;rw[pext b2 q2 hq2]at m2;cases m1;cases m2;exact I.inj b1 b2 _ _ p1 p2 k1 k2 hq1 hq2 ec
 ·
  intro x hx hS bb h1 h2;simp only[qN,aba,aam]at hS;have h3:=I.fresh x hx hS.1 bb h1 h2;have hne:x≠r:=λh=>hS.2 (by rw[h])
  have hdis:¬(r.g.next<=bb/\bb<r.g'.next):=by
   rw[e]at hx;rcases aaG.1 hx with hxA|hxB
   ·have:=D.nA x hxA;omega
   ·rcases aaP.1 hxB with hxr|hxB
    ·exact absurd hxr hne
    ·obtain⟨B1,B2,rfl⟩:=aaR hxB;have:=(V.told (A++r::B1) x B2 (by simp[e])).nA r (by simp);omega
  rw[show ρ'.m bb=ρ.m bb from aag hdis];exact h3
 ·intro c hc hn
  rw[st.frame c (aap hc I.bu) (by
   rintro⟨b1,o1,p1,g1,hro1,m1,rfl⟩;exact hn (I.l9 b1 o1 p1 (galive b1 o1 g1).2 (by rw[<- D.ro];exact hro1) m1 hc))]
  exact I.frame c hc hn
 ·intro bb o pl hg hro hm hc;rcases cases' bb o hg with⟨ht,hg'⟩|⟨ht,hg'⟩
  ·rw[pq bb (st.rel.Ko bb o hg')]at hm;obtain⟨b1,o1,p1,g1,hro1,m1,e1⟩:=st.l9 pl.c (aap hc I.bu) ⟨bb,o,pl,hg',by rw[st.ro,D.ro];exact hro,hm,rfl⟩;rw[<- e1];exact I.l9 b1 o1 p1 (galive b1 o1 g1).2 (by rw[<- D.ro];exact hro1) m1 (by rw[e1];exact hc)
  ·obtain⟨_,q,hq,_⟩:=I.heap bb o hg';rw[pext bb q hq]at hm;cases hm;exact I.l9 bb _ pl hg' hro hq hc
end
end
noncomputable section
variable {P:Program}
section
variable {ops:Array Oper}{s0:Env}{h0:za}{tr:List yr}
theorem ay{listed:Array Bool}{i:Nat}(h:i∈Region.ready .any ops listed):i<ops.size/\listed.getD i true=false /\ ∀o,ops[i]? = some o->∀e,e∈o.after->Region.binds .any e=true->listed.getD e.on false=true:=by
 simp only[Region.ready,abM,abe,aad,aan]at h;refine⟨h.1,h.2.1,λo ho e he hb=>?_⟩;have:=h.2.2;rw[ho]at this;simp only[abN,abQ,Array.all_eq_true_iff_forall_mem,aaW,aan]at this;rcases this e he with h1|h1
 ·rw[hb]at h1;cases h1
 ·exact h1
theorem EW{listed:Array Bool}{i:Nat}(hi:i<ops.size)(hl:listed.getD i true=false)(h:∀o,ops[i]? = some o->∀e,e∈o.after->Region.binds .any e=true->listed.getD e.on false=true):i∈Region.ready .any ops listed:=by
 simp only[Region.ready,abM,abe,aad,aan];refine⟨hi,hl,?_⟩;rw[aaI hi];simp only[abN,abQ,Array.all_eq_true_iff_forall_mem,aaW,aan];intro e he;cases hb:Region.binds .any e with
 |false=>exact .inl rfl
 |true=>exact .inr (h _ (aaI hi) e he hb)
theorem PQ(hro0:h0.ro<=h0.next)(V:Valid P ops s0 h0 tr){N:Nat}(hN:∀x,x∈tr->x.g'.next<=N){ρ0:xo}{w0:World}(ds:List Deferred)(b:Frame)(k:List Item)(cs:List Frame) :
  ∀(fuel t:Nat) (listed:Array Bool) (ρ:xo) (w:World) (tm:Array aaa),listed.size=ops.size->((List.range ops.size).filter λi => !listed.getD i false).length<=fuel ->
   (∀i j,Prec ops i j->listed.getD j false=true->listed.getD i false=true)->aB P tr s0 h0 N ρ0 w0 (λj=>listed.getD j false) ρ w tm ->
   ∃S ρ' w' tm',(∀r,r∈tr->S r.j=true)/\aB P tr s0 h0 N ρ0 w0 S ρ' w' tm' /\
    Steps P (lone (vB b tm ds (.inRegion ops (Region.linearise.go .any ops fuel t listed [])::k)) cs w) (lone (vB b tm' ds (.inRegion ops []::k)) cs w'):=by
 intro fuel
 induction fuel with
 |zero=>
  intro t listed ρ w tm hsz hcount hdown I;refine⟨_,ρ,w,tm,?_,I,.refl P _⟩;intro r hr;have hnil:=abu (Nat.le_zero.1 hcount);obtain⟨A,B,e⟩:=aaR hr;have yk:=(V.told A r B e).op
  have hlt:r.j<ops.size:=by
   rcases aaL r.j ops.size with h|h
   ·exact h
   ·rw[aaH h]at yk;cases yk
  cases hl:listed.getD r.j false with
  |true=>rfl
  |false=>
   have:r.j∈(List.range ops.size).filter λi => !listed.getD i false:=abM.2 ⟨abe.2 hlt,by rw[hl];rfl⟩;rw[hnil]at this;cases this
 |succ fuel ih=>
  intro t listed ρ w tm hsz hcount hdown I;simp only[Region.linearise.go]
  change ∃S ρ' w' tm',(∀r,r∈tr->S r.j=true)/\aB P tr s0 h0 N ρ0 w0 S ρ' w' tm'/\Steps P (lone (vB b tm ds (.inRegion ops (match (Region.ready .any ops listed)[t%(Region.ready .any ops listed).length]? with
   |some i=>Region.linearise.go .any ops fuel (t/(Region.ready .any ops listed).length) (listed.setIfInBounds i true) [i]
   |none=>[].reverse)::k)) cs w) _
  have getTF:∀i,i<ops.size->listed.getD i true=listed.getD i false:=by
   intro i hi;simp[aaw,aaI (hsz ▸ hi)]
  by_cases hall:∀r,r∈tr->listed.getD r.j false=true
  ·
   have hnone:Region.ready .any ops listed=[]:=by
    rw[List.eq_nil_iff_forall_not_mem];intro i hi;obtain⟨h1,h2,_⟩:=ay hi;obtain⟨r,hr,hrj⟩:=V.all i h1;have:=hall r hr;rw[hrj,<- getTF i h1,h2]at this;cases this
   rw[hnone];exact⟨_,ρ,w,tm,hall,I,.refl P _⟩
  ·
   have hex:∃i,i∈Region.ready .any ops listed:=by
    have:∃A r B,tr=A++r::B/\listed.getD r.j false=false /\ ∀x,x∈A->listed.getD x.j false=true:=by
     clear ih I hN V
     induction tr with
     |nil=>exact absurd (λr hr=>by cases hr) hall
     |cons x tr iht=>
      cases hx:listed.getD x.j false with
      |false=>exact⟨[],x,tr,rfl,hx,λy hy=>by cases hy⟩
      |true=>
       obtain⟨A,r,B,e,h1,h2⟩:=iht (λh=>hall (λr hr=>by rcases aaP.1 hr with rfl|hr;exact hx;exact h r hr));exact⟨x::A,r,B,by rw[e];rfl,h1,λy hy=>by rcases aaP.1 hy with rfl|hy;exact hx;exact h2 y hy⟩
    obtain⟨A,r,B,e,h1,h2⟩:=this;have yk:=(V.told A r B e).op
    have hlt:r.j<ops.size:=by
     rcases aaL r.j ops.size with h|h
     ·exact h
     ·rw[aaH h]at yk;cases yk
    refine⟨r.j,EW hlt (by rw[getTF _ hlt];exact h1) (λo ho ed hed hb=>?_)⟩;rw[yk]at ho;cases ho;obtain⟨x,hx,hxe⟩:=V.Vc A r B e ed hed hb;rw[<- hxe];exact h2 x hx
   cases hi:(Region.ready .any ops listed)[t%(Region.ready .any ops listed).length]? with
   |none=>
    obtain⟨i,hmem⟩:=hex;have hpos:0<(Region.ready .any ops listed).length:=List.length_pos_of_mem hmem;rw[aaf (Nat.mod_lt _ hpos)]at hi;cases hi
   |some i=>
    simp only[];rw[linearise_go_acc,List.reverse_singleton,List.singleton_append];obtain⟨hlt,hl,hed⟩:=ay (aax hi);obtain⟨r,hr,hrj⟩:=V.all i hlt;obtain⟨A,B,e⟩:=aaR hr;subst hrj;have yk:=(V.told A r B e).op
    have hready:∀q,Prec ops q r.j->listed.getD q false=true:=by
     intro q hq;cases hq with
     |one ho he hb=>exact hed _ ho _ he hb
     |more ho he hb hp=>exact hdown _ _ hp (hed _ ho _ he hb)
    have hnot:listed.getD r.j false=false:=(by rw[<- getTF _ hlt];exact hl);obtain⟨ρ1,w1,tm1,I1,sx⟩:=LH hro0 V hdown e hready hnot hN I ds (Region.linearise.go .any ops fuel (t/(Region.ready .any ops listed).length) (listed.setIfInBounds r.j true) []) b k cs
    have hadd:(λj=>(listed.setIfInBounds r.j true).getD j false)=qN (λj=>listed.getD j false) r.j:=by
     funext j
     simp only[qN,aaw,aa2];by_cases ej:r.j=j
     ·subst ej;rw[aai rfl,aai (by omega)];simp
     ·rw[aag ej];have:decide (j=r.j)=false:=aaX (λh=>ej h.symm);rw[this,Bool.or_false]
    rw[<- hadd]at I1
    have hcnt:((List.range ops.size).filter λi => !(listed.setIfInBounds r.j true).getD i false).length<=fuel:=by
     have hmem:r.j∈(List.range ops.size).filter λi => !listed.getD i false:=abM.2 ⟨abe.2 hlt,by rw[hnot];rfl⟩
     have hsub:(List.range ops.size).filter (λi => !(listed.setIfInBounds r.j true).getD i false)=((List.range ops.size).filter λi => !listed.getD i false).filter (λi=>decide (i≠r.j)):=by
      rw[abP];apply abB;intro i _;have:=congrFun hadd i;simp only[qN]at this;rw[this];by_cases ei:i=r.j <;> simp[ei]
     rw[hsub]
     have hlen:∀(l:List Nat),r.j∈l->(l.filter λi=>decide (i≠r.j)).length<l.length:=by
      intro l hl;apply List.length_filter_lt_length_iff_exists.2;exact⟨r.j,hl,by simp⟩
     have:=hlen _ hmem;omega
    have hdn:∀q j,Prec ops q j->(listed.setIfInBounds r.j true).getD j false=true->(listed.setIfInBounds r.j true).getD q false=true:=by
     intro q j hq hj;have h1:=congrFun hadd j;have h2:=congrFun hadd q;rw[h1]at hj;rw[h2];simp only[qN,aaW,aaF]at hj ⊢;rcases hj with hj|rfl
     ·exact .inl (hdown q j hq hj)
     ·exact .inl (hready q hq)
    obtain⟨S,ρ2,w2,tm2,hS,I2,sx2⟩:=ih (t/(Region.ready .any ops listed).length) (listed.setIfInBounds r.j true) ρ1 w1 tm1 (by simpa using hsz) hcnt hdn I1;exact⟨S,ρ2,w2,tm2,hS,I2,sx.trans sx2⟩
theorem Wj(hmix:P.follows .mixedOrders=true){id:Nat}{rd:Option Nat}{Q:Ex->Env->za->Prop}(V:Valid P ops s0 h0 tr){sf:Env}{hf:za}(hs:∀t,sf.get t=Uf tr s0 t)(hsz:sf.size=s0.size)
  (hh:∀b,hf.get b=Yh tr h0 b) (hro:hf.ro=h0.ro) (hn:h0.next<=hf.next) (hN:∀x,x∈tr->x.g'.next<=hf.next) (hq:Q .normal sf hf):T P rd (.region id ops true) s0 h0 Q:=by
 intro ρ w tm ds hr hse b hb k cs
 let w1:World:={w with drawn:=w.drawn+1}
 let ρ1:xo:={next:=hf.next,m:=λbb=>if bb<h0.next then ρ.m bb else none}
 have hm1:∀bb pl,bb<ρ.next->ρ.m bb=some pl->ρ1.m bb=some pl:=λbb pl hb hm=>by
  rw[show ρ1.m bb=ρ.m bb from aai (by rw[<- hr.next];exact hb)];exact hm
 have hnil:tr.filter (λr=>(Array.replicate ops.size false).getD r.j false)=[]:=by
  rw[acj];intro r _ h;simp only[aaw,abO]at h;split at h <;> simp at h
 have I:aB P tr s0 h0 hf.next ρ w (λj=>(Array.replicate ops.size false).getD j false) ρ1 w1 tm:=by
  refine⟨rfl,λbb hb=>aai hb,hse.size,?_,?_,?_,?_,rfl,rfl,rfl,aaj _,λ_ _ _=>rfl,?_,hr.lh,λbb pl hb hm=>hr.Yn bb pl hb (by
   rw[show ρ1.m bb=ρ.m bb from aai (aap hb (aaV hr.lh hr.ro))]at hm;exact hm)⟩
  ·intro t;rw[hnil];exact(hse.get t).ext (ρ':=ρ1.cut h0.next) (by rw[hr.next];exact aaj _) hm1
  ·intro bb o hg;rw[hnil]at hg ⊢;have hb:=hr.Ko bb _ hg;obtain⟨pl,hp,hc⟩:=hr.ok bb o hg;refine⟨hb,pl,hm1 bb pl (by rw[hr.next];exact hb) hp,?_⟩;exact vS.other (vS.ext (ρ:=ρ) (ρ':=ρ1.cut h0.next) (by rw[hr.next];exact aaj _) hm1 hc) rfl
  ·intro b1 b2 o1 o2 p1 p2 g1 g2 m1 m2 e;rw[hnil]at g1 g2;have l1:=hr.Ko b1 o1 g1;have l2:=hr.Ko b2 o2 g2;rw[show ρ1.m b1=ρ.m b1 from aai l1]at m1;rw[show ρ1.m b2=ρ.m b2 from aai l2]at m2;exact hr.inj b1 b2 o1 o2 p1 p2 g1 g2 m1 m2 e
  ·intro x hx _ bb h1 h2;obtain⟨A,B,e⟩:=aaR hx;have:=(V.told A x B e).n0;exact aag (by omega)
  ·intro bb o pl hg hro' hm hc;rw[hnil]at hg;have l:=hr.Ko bb o hg;rw[show ρ1.m bb=ρ.m bb from aai l]at hm;exact⟨bb,o,pl,hg,hro',hm,rfl⟩
 have hcount:((List.range ops.size).filter λi => !(Array.replicate ops.size false).getD i false).length<=ops.size:=by
  have:=List.length_filter_le (λi => !(Array.replicate ops.size false).getD i false) (List.range ops.size);simpa using this
 obtain⟨S,ρ2,w2,tm2,hS,I2,sx⟩:=PQ hr.ro V hN ds b k cs ops.size (w.tape w.drawn (.order b.fn id)) (Array.replicate ops.size false) ρ1 w1 tm (by simp) hcount (λi j _ hj=>by
  simp only[aaw,abO]at hj;split at hj <;> simp at hj) I
 have hfull:tr.filter (λr=>S r.j)=tr:=List.filter_eq_self.2 hS;have lastn:∀(p:yr->Bool) x,vr tr p=some x->x.g'.next<=hf.next:=λp x hx=>hN x (Xl hx).1;have hcut:ρ2=ρ2.cut hf.next:=by have:=I2.next;cases ρ2;simp only at this;subst this;rfl
 have hrel:Rel P ρ2 hf w2:=by
  refine⟨I2.next,by rw[hro];exact aaV hr.ro hn,?_,?_,?_,by rw[hro];exact hr.lh,I2.gl⟩
  ·intro bb o hg;rw[hh]at hg;have:=(I2.heap bb o (by rw[hfull];exact hg)).1;rw[hfull]at this;refine aap this ?_;simp only[gS];split
   ·rename_i x hx;exact lastn _ x hx
   ·exact hn
  ·intro bb o hg;rw[hh]at hg;obtain⟨_,pl,hp,hc⟩:=I2.heap bb o (by rw[hfull];exact hg);refine⟨pl,hp,?_⟩;rw[hro];rw[hfull]at hc;rw[hcut];refine vS.K8 ?_ hc;simp only[gS];split
   ·rename_i x hx;exact lastn _ x hx
   ·exact hn
  ·intro b1 b2 o1 o2 p1 p2 g1 g2;rw[hh]at g1 g2;exact I2.inj b1 b2 o1 o2 p1 p2 (by rw[hfull];exact g1) (by rw[hfull];exact g2)
 refine⟨.normal,sf,hf,ρ2,w2,tm2,ds,hq,⟨⟨by rw[I2.next,hr.next];exact hn,λbb hb=>I2.old bb (by rw[<- hr.next];exact hb)⟩,hrel,hro,I2.os,I2.tape,I2.output,I2.bu,I2.frame,?_⟩,⟨hsz.trans I2.size,λt=>?_⟩,.refl _ _ _,?_⟩
 ·rintro c hc ⟨bb,o,pl,hg,hrb,hm,rfl⟩;rw[hh]at hg;exact I2.l9 bb o pl (by rw[hfull];exact hg) (by rw[<- hro];exact hrb) hm hc
 ·have:=I2.env t;rw[hfull]at this;rw[hs t];rw[hcut];refine zH.K8 ?_ this;simp only[eG];split
  ·rename_i x hx;exact lastn _ x hx
  ·exact hn
 ·refine .head VU ?_
  have:Region.schedule (P.follows .mixedOrders) ops (w.tape w.drawn (.order b.fn id))=Region.linearise .any ops (w.tape w.drawn (.order b.fn id)):=by
   simp only[Region.schedule,hmix,Bool.true_or,abS]
  rw[this];exact sx.trans (.one Xj)
end
end
end Go.Ai
