import Derived.Test.YtpjjmindjodknaaGreatTA
import Derived.Lib.Builder
import Derived.Lib.UnsafeStr
import Derived.LaidEqlPtr
import GoSem.Builtin.Cap
import GoSem.Builtin.UnsafeString
import Derived.Laws.Externs
import Derived.Lib.MakeNoZero
import Derived.Orders
set_option linter.unusedVariables false
set_option linter.unusedSimpArgs false
set_option maxRecDepth 100000
namespace Go.Ai
noncomputable section
variable {P:Program}
theorem VH{w:World}{l:Nat}{cs:Array aaa}{e:TypeId}{fz:Nat×Nat}(h:w.heap[l]? = some (.cells cs e fz)):w.shape? l=some (e,cs.size):=by
 simp[World.shape?,h]
def Bw(P:Program)(src dst:TypeId)(x:aaa)(h:za):Option aaa :=
 match P.underlying src,P.underlying dst,x with
 |some (.pointer t),some .unsafePointer,.pointer (some ⟨b,off,none⟩)=>(match h.get b,P.info? t with
  |some (.cells c _),some j=>cond (Nat.blt off c.length && !(Nat.beq j.size 0)) (some (.pointer (some ⟨b,off,none⟩))) none
  |_,_=>none)
 |some .unsafePointer,some (.pointer u),.pointer (some ⟨b,off,none⟩)=>(match h.get b,P.info? u with
  |some (.cells c e),some _=>cond (Nat.beq e u&&Nat.blt 0 (P.cellsOf u)&&Nat.beq (off%P.cellsOf u) 0&&Nat.ble (off+P.cellsOf u) c.length) (some (.pointer (some ⟨b,off,none⟩))) none
  |_,_=>none)
 |_,_,_=>none
theorem Pa{e:TypeId}{cells o:Nat}(hs:0<P.cellsOf e)(h0:o%P.cellsOf e=0)(hle:o+P.cellsOf e<=cells):liesAt P P.depth e (cells/P.cellsOf e) o e 1=true:=by
 have hd:P.depth=(2*(P.types.size+Made.depth)+1)+1:=rfl
 have hlt:o/P.cellsOf e+1<=cells/P.cellsOf e:=by
  have h1:=Nat.div_le_div_right (c:=P.cellsOf e) hle;rw[Nat.add_div_right _ hs]at h1;exact h1
 rw[hd];simp only[liesAt,aaV]
 left
 rw[hd];have hne:P.cellsOf e≠0:=by omega
 simp only[rowAt,aae hne,h0];simp[hlt,sameLayout]
theorem GU{e:TypeId}(hc:P.cellsOf e=1){count o n:Nat}(hn:o+n<=count):liesAt P P.depth e count o e n=true:=by
 have hd:P.depth=(2*(P.types.size+Made.depth)+1)+1:=rfl;rw[hd];simp only[liesAt,aaV]
 left
 rw[hd];simp[rowAt,hc,hn,sameLayout,Nat.mod_one]
theorem Bx{ρ:xA}{src dst:TypeId}{x x' v:aaa}{h:za}{w:World}(he:Bw P src dst x h=some v)(hr:Rel P ρ h w)(hx:zG ρ x x') :
  ∃v',(convert src dst x').run P w=.ok v' w/\zG ρ v v':=by
 unfold Bw at he;split at he
 ·rename_i t b off hs hd;cases hx with
  |ptr hb hm=>
   rename_i pl;split at he
   case h_2=>cases he
   rename_i c e j hg hi;obtain⟨hc,he⟩:=Kx he;simp only[aab]at he;subst he;simp only[aac,aaN,aao]at hc;obtain⟨cs,fz,h1,h2,h3,h4,h5,h6⟩:=hr.place hg hm;have hj:j.size≠0:=by intro ez;rw[ez]at hc;simp at hc
   refine⟨_,Lib.run_to_unsafe w ⟨pl.c,pl.base+off,none⟩ hs hd hi hj (VH h1) ?_,.ptr hb hm⟩;show pl.base+off<cs.size;omega
 ·rename_i u b off hs hd;cases hx with
  |ptr hb hm=>
   rename_i pl;split at he
   case h_2=>cases he
   rename_i c e j hg hi;obtain⟨hc,he⟩:=Kx he;simp only[aab]at he;subst he;simp only[aac,aaN]at hc;obtain⟨⟨⟨k1,k2⟩,k3⟩,k4⟩:=hc;obtain rfl:=aal k1;have k3:=aal k3;have k4:=aaF k4;obtain⟨cs,fz,h1,h2,⟨h3,h30⟩,h4,h5,h6⟩:=hr.place hg hm;refine⟨_,Lib.run_from_unsafe w ⟨pl.c,pl.base+off,none⟩ hs hd hi (VH h1) (Pa k2 ?_ ?_),.ptr hb hm⟩
   ·show(pl.base+off)%P.cellsOf e=0;rw[Nat.add_mod,<- h3,h30,h3,k3];simp
   ·show pl.base+off+P.cellsOf e<=cs.size;omega
 ·cases he
def zav:aaa->Option aaa
 | .slice none _ _=>some (.pointer none)
 | .slice (some ⟨b,off,none⟩) n _=>cond (Nat.blt 0 n) (some (.pointer (some ⟨b,off,none⟩))) none
 |_=>none
theorem Gn{ρ:xA}{x x' v:aaa}(he:zav x=some v)(hx:zG ρ x x')(ts:Array TypeId)(ty:TypeId)(w:World):∃v',(Builtin.unsafeSliceData_ ts ty #[x']).run P w=.ok v' w/\zG ρ v v':=by
 unfold zav at he;split at he
 ·simp only[aab]at he;subst he;cases hx;exact⟨_,Lib.run_unsafeSliceData_nil w ts ty _ _,.ptrNil⟩
 ·rename_i b off n c;obtain⟨hn,he⟩:=Kx he;simp only[aab]at he;subst he;have hn:0<n:=by simpa [aaN] using hn
  cases hx with
  |slice hb hm hl hc=>exact⟨_,Lib.run_unsafeSliceData_row w ts ty _ _ _ (by omega),.ptr hb hm⟩
  |sliceOut=>omega
 ·cases he
def Jh:List aaa->Option (List UInt8)
 |[]=>some []
 | .int .u8 z::r=>cond (decide (((UInt8.ofNat z.toNat).toNat:Int)=z)) ((Jh r).map λl=>UInt8.ofNat z.toNat::l) none
 |_=>none
theorem ld:∀{c:List aaa} {l:List UInt8},Jh c=some l->c.length=l.length /\ ∀(j:Nat) x,l[j]? = some x->c[j]? = some (.int .u8 x.toNat)
 |[],l,h=>by simp only[Jh,aab]at h;subst h;exact⟨rfl,λj x hx=>by simp at hx⟩
 |a::c,l,h=>by
  unfold Jh at h;split at h
  ·rename_i e;cases e
  ·rename_i z r e;simp only[abe]at e;obtain⟨rfl,rfl⟩:=e;obtain⟨hz,h⟩:=Kx h;obtain⟨l',hl,rfl⟩:=aau.1 h;obtain⟨q1,q2⟩:=ld hl;have hz:=aa7 hz;refine⟨by simp[q1],λj x hx=>?_⟩;cases j with
   |zero=>simp only[aaC,aab]at hx ⊢;subst hx;rw[hz]
   |succ j=>simpa using q2 j x (by simpa using hx)
  ·cases h
theorem aR{pt it ty e:TypeId}(hp:P.underlying pt=some (.pointer e))(hc:P.cellsOf e=1){w:World}{g o cells:Nat}(hsh:w.shape? g=some (e,cells)){l:List UInt8}(h0:l≠[])(hn:o+l.length<=cells)(h63:l.length<=9223372036854775807)
  (hcell:∀(j:Nat) x,l[j]? = some x->w.cell? ((⟨g,o,none⟩:Addr).add j)=some (.int .u8 x.toNat)) :
  (Builtin.unsafeString_ #[pt,it] ty #[.pointer (some ⟨g,o,none⟩),.int .i64 l.length]).run P w=.ok (.string ⟨l.toArray⟩) (w.freeze ⟨g,o,none⟩ l.length):=by
 have hl:l.length≠0:=by simpa using h0
 have hlb:=Lib.run_loadBytes (P:=P) w l ⟨g,o,none⟩ .empty hcell;have hlies:=GU (P:=P) hc (count:=cells/P.cellsOf e) (o:=o) (n:=l.length) (by rw[hc];simpa using hn);have h63':¬(9223372036854775807:Int)<(l.length:Int):=by omega
 have hmax:IntKind.i64.max=9223372036854775807:=rfl;have hneg:¬(l.length:Int)<0:=by omega
 rw[show Builtin.unsafeString_ #[pt,it] ty #[.pointer (some ⟨g,o,none⟩),.int .i64 l.length]=(asInt (.int .i64 l.length) >>= _) from rfl];simp[asInt,asIntOf,hmax,h63',hneg,hl,variablesAt,hsh,elemOf,run_underlying hp,hlies,hlb]
def ptrTo(P:Program)(pt e:TypeId):Bool :=
 match P.underlying pt with
 |some (.pointer e')=>Nat.beq e' e
 |_=>false
theorem PL{pt e:TypeId}(h:ptrTo P pt e=true):P.underlying pt=some (.pointer e):=by
 unfold ptrTo at h;split at h
 ·rename_i e' he;rw[he,aal h]
 ·cases h
def aus(P:Program)(pt:TypeId)(p:aaa)(n:Int)(h:za):Option (aaa×za) :=
 match p with
 | .pointer none=>cond (decide (n=0)) (some (.string .empty,h)) none
 | .pointer (some ⟨b,off,none⟩)=>cond (decide (n=0)) (some (.string .empty,h)) (match h.get b with
   |some (.cells c e)=>(match Jh ((c.drop off).take n.toNat) with
    |some l=>cond (Nat.ble h.ro b&&ptrTo P pt e&&Nat.beq (P.cellsOf e) 1&&decide (n=(l.length:Int))&&Nat.blt 0 l.length&&Nat.ble l.length 9223372036854775807) (some (.string ⟨l.toArray⟩,h.set b none)) none
    |none=>none)
   |_=>none)
 |_=>none
theorem pL(w:World)(p:Addr)(n k:Nat)(hk:k≠p.block):(w.freeze p n).heap[k]? = w.heap[k]?:=by
 unfold World.freeze;split
 ·rfl
 ·simp only[Array.getElem?_modify];rw[aae (by omega)]
theorem BT(w:World)(p:Addr)(n:Nat):(w.freeze p n).os=w.os/\(w.freeze p n).tape=w.tape/\(w.freeze p n).output=w.output/\(w.freeze p n).heap.size=w.heap.size:=by
 unfold World.freeze;split
 ·exact⟨rfl,rfl,rfl,rfl⟩
 ·exact⟨rfl,rfl,rfl,by simp⟩
theorem Step.leave{ρ:xA}{h:za}{w w':World}(hr:Rel P ρ h w){b:Nat}{o:wS}{pl:Place}(hg:h.get b=some o)(hm:ρ.m b=some pl)(hro:h.ro<=b)(hos:w'.os=w.os)(htape:w'.tape=w.tape)(hout:w'.output=w.output)(hsz:w'.heap.size=w.heap.size)
  (hfr:∀k,k≠pl.c->w'.heap[k]? = w.heap[k]?):Step P ρ h w ρ (h.set b none) w':=by
 have hd:=hr.drop b;refine⟨xA.le_refl _,⟨hd.next,hd.ro,hd.KJ,λx ox hx=>?_,hd.inj,hd.lq,hd.Y0⟩,rfl,hos,htape,hout,by omega,λk _ hn=>hfr k (λe=>hn ⟨b,o,pl,hg,hro,hm,e.symm⟩),λk hk hM=>?_⟩
 ·obtain⟨p,hp,hc⟩:=hd.ok x ox hx;refine⟨p,hp,hc.other (hfr _ (λec=>?_))⟩;rw[za.yq]at hx;split at hx
  ·cases hx
  ·rename_i ne;exact ne (hr.inj x b _ _ p pl hx hg hp hm ec)
 ·obtain⟨x,ox,p,hx,h1,h2,h3⟩:=hM;rw[za.yq]at hx;split at hx
  ·cases hx
  ·exact⟨x,ox,p,hx,h1,h2,h3⟩
theorem LY{ρ:xA}{pt it ty:TypeId}{p p' v:aaa}{n:Int}{h h':za}{w:World}(he:aus P pt p n h=some (v,h'))(hr:Rel P ρ h w)(hx:zG ρ p p') :
  ∃v' w',(Builtin.unsafeString_ #[pt,it] ty #[p',.int .i64 n]).run P w=.ok v' w'/\Step P ρ h w ρ h' w'/\zG ρ v v':=by
 unfold aus at he;split at he
 ·obtain⟨hn,he⟩:=Kx he;simp only[aab,aaf]at he;obtain⟨rfl,rfl⟩:=he;obtain rfl:=aa7 hn;cases hx;exact⟨_,w,Lib.run_unsafeString_none w _ _ _ _,.refl hr,.string _⟩
 ·rename_i b off;cases hx with
  |ptr hb hm=>
   rename_i pl;cases hn:decide (n=0) with
   |true=>
    rw[hn]at he;simp only[aaw,aab,aaf]at he;obtain⟨rfl,rfl⟩:=he;obtain rfl:=aa7 hn;exact⟨_,w,Lib.run_unsafeString_none w _ _ _ _,.refl hr,.string _⟩
   |false=>
    rw[hn]at he;simp only[aaH]at he;split at he
    case h_2=>cases he
    rename_i c e hg;split at he
    case h_2=>cases he
    rename_i l hl;obtain⟨hc,he⟩:=Kx he;simp only[aab,aaf]at he;obtain⟨rfl,rfl⟩:=he;simp only[aac,aaG,aaN]at hc;obtain⟨⟨⟨⟨⟨k1,k2⟩,k3⟩,k4⟩,k5⟩,k6⟩:=hc;have k1:=aaF k1;have k3:=aal k3;have k6:=aaF k6;subst k4;obtain⟨q1,q2⟩:=ld hl;simp only[abb,aa3,abM]at q1;obtain⟨cs,fz,h1,h2,h3,h4,h5,h6⟩:=hr.place hg hm;obtain⟨f1,f2,f3,f4⟩:=BT w ⟨pl.c,pl.base+off,none⟩ l.length;refine⟨_,_,aR (PL k2) k3 (VH h1) (by intro el;subst el;simp at k5) (by omega) k6 (λj x hx=>?_),.leave hr hg hm k1 f1 f2 f3 f4 (λk hk=>pL _ _ _ _ hk),.string _⟩;have hq:=q2 j x hx;simp only[abb]at hq
    have hjl:j<l.length:=by
     rcases aaI j l.length with h7|h7
     ·exact h7
     ·rw[aas h7]at hx;cases hx
    rw[aaW hjl,aaQ]at hq;obtain⟨y,hy,hxy⟩:=h6 _ _ hq;cases hxy;have ea:(⟨pl.c,pl.base+off,none⟩:Addr).add j=⟨pl.c,pl.base+off+j,none⟩:=j1 _ _ _;rw[ea];simp only[World.cell?,h1];rw[abq];simpa using hy
 ·cases he
def zb4(P:Program)(op:BinOp)(t:TypeId)(a b:aaa):Option aaa :=
 match P.underlying t,a,b with
 |some (.pointer te),.pointer (some ⟨b1,o1,none⟩),.pointer (some ⟨b2,o2,none⟩)=>(match P.info? te with
  |some _=>cond (Nat.beq b1 b2&&Nat.beq o1 o2) (match op with
   | .eql=>some (.bool true)
   | .neq=>some (.bool false)
   |_=>none) none
  |none=>none)
 |_,_,_=>none
def zT(P:Program)(op:BinOp)(t:TypeId)(x y:Operand)(a b:aaa):Option aaa :=
 match RG P op t x y a b with
 |some v=>some v
 |none=>zb4 P op t a b
theorem DU{ρ:xA}{op:BinOp}{t:TypeId}{x y:Operand}{a b a' b' v:aaa}(h:zT P op t x y a b=some v)(ha:zG ρ a a')(hb:zG ρ b b')(w:World) :
  ∃v',(do eqGuard op t x y a' b';binOp op t a' b':Sem aaa).run P w=.ok v' w/\zG ρ v v':=by
 unfold zT at h;split at h
 ·rename_i u hu;simp only[aab]at h;subst h;exact Ge hu ha hb w
 ·unfold zb4 at h;split at h
  case h_2=>cases h
  rename_i te b1 o1 b2 o2 ht0 ht;split at h
  case h_2=>cases h
  rename_i j hj;obtain⟨hc,hh⟩:=Kx h;clear h;simp only[aac]at hc;obtain rfl:=aal hc.1;obtain rfl:=aal hc.2;cases ha with
  |ptr h1 m1=>
   rename_i pl;cases hb with
   |ptr h2 m2=>
    rename_i pl2;rw[m1]at m2;cases m2;have hg:(eqGuard op t x y (.pointer (some ⟨pl.c,pl.base+o1,none⟩)) (.pointer (some ⟨pl.c,pl.base+o1,none⟩))).run P w=.ok () w:=by cases op <;> simp[eqGuard]
    split at hh
    ·simp only[aab]at hh;subst hh;exact⟨.bool true,by simp only[aai,hg,aad,run_eql_ptr_same w _ ht0 hj],.bool true⟩
    ·simp only[aab]at hh;subst hh;exact⟨.bool false,by simp only[aai,hg,aad,Lib.run_neq_ptr_same w _ ht0 hj],.bool false⟩
    ·cases hh
def zap(P:Program)(t:TypeId)(x:aaa):Option aaa :=
 match yd P (underlying t),x with
 |some (.slice _),.slice none _ _=>some (goInt 0)
 |some (.slice _),.slice (some ⟨_,_,none⟩) _ c=>cond (Nat.ble 2 c) (some (goInt (c-2:Nat))) none
 |_,_=>none
theorem Gh{ρ:xA}{t:TypeId}{x x' v:aaa}(he:zap P t x=some v)(hx:zG ρ x x')(r:TypeId)(w:World):(Builtin.cap_ #[t] r #[x']).run P w=.ok v w/\zG ρ v v:=by
 unfold zap at he;split at he
 ·rename_i hu;simp only[aab]at he;subst he;refine⟨?_,.int _ _⟩;cases hx;simp[Builtin.cap_,zh hu]
 ·rename_i b off n c hu;obtain⟨hc,he⟩:=Kx he;simp only[aab]at he;subst he;have hc:=aaF hc;refine⟨?_,.int _ _⟩;cases hx with
  |slice hb hm hl hcap=>
   rename_i cap pl;have:=(hcap (by omega)).2 (c-2) (by omega);subst this;simp[Builtin.cap_,zh hu]
  |sliceOut hb h2=>
   have:c-2=0:=by omega
   rw[this];simp[Builtin.cap_,zh hu]
 ·cases he
end
noncomputable section
variable {P:Program}
def VF(s:ByteArray):List aaa:=s.data.toList.map λb => .int .u8 b.toNat
def QP(P:Program)(src dst:TypeId)(x:aaa)(h:za):Option (aaa×za) :=
 match cond (flat x) (fl (yd P (convert src dst x))) none with
 |some v=>some (v,h)
 |none=>(match yd P (underlying src),yd P (underlying dst),x with
  |some _,some (.slice e),.string s=>(match yd P (underlying e),yd P (sizeOf e) with
   |some (.int .u8),some 1=>some (.slice (some ⟨h.next,0,none⟩) s.size 1,h.push (.cells (VF s) e))
   |_,_=>none)
  |some (.slice e),some .string,.slice base n c=>(match yd P (underlying e) with
   |some (.int .u8)=>(NQ h (.slice base n c)).map λv=>(v,h)
   |_=>none)
  |_,_,_=>none)
theorem Kw{t:TypeId}{n:Nat}(h:yd P (sizeOf t)=some n):P.cellsOf t=n:=by
 simp only[sizeOf,typeInfo,program,Sem.bind,bind,yd]at h;cases hp:P.info? t with
 |none=>rw[hp]at h;cases h
 |some j=>rw[hp]at h;simp only[pure,Sem.bind,yd,aab]at h;subst h;simp[Program.cellsOf,hp]
theorem MY{ρ:xA}{h:za}{w:World}{e:TypeId}{s:ByteArray}(hr:Rel P ρ h w)(hsz:yd P (sizeOf e)=some 1) :
  ∃v' w' ρ',(Conv.stringToBytes e s).run P w=.ok v' w'/\Step P ρ h w ρ' (h.push (.cells (VF s) e)) w'/\zG ρ' (.slice (some ⟨h.next,0,none⟩) s.size 1) v':=by
 let q:Question := .appendCap s.size 0 e
 let newCap:=q.cut (w.tape w.drawn q)
 have hge:s.size<=newCap:=by show s.size<=s.size+_%_;omega
 let cs:Array aaa:=(s.data.map λb=>Value.int .u8 b.toNat)++Array.replicate (newCap-s.size) (.int .u8 0)
 have hcs:cs.size=newCap:=by simp only[cs,Array.size_append,Array.size_map,Array.size_replicate];show s.size+(newCap-s.size)=newCap;omega
 let w1:World:={w with drawn:=w.drawn+1}
 have hr1:Rel P ρ h w1:=hr.grow (λk _=>rfl);have hesz:=Kw hsz
 let w2:World:={w1 with heap:=w1.heap.push (.cells cs e (cs.size,cs.size+1))}
 have st:=Step.push (t:=e) hr1 (c:=VF s) (cs:=cs) (fz:=(cs.size,cs.size+1)) (w':=w2) rfl (λi hi hh=>by simp only[]at hh;omega)
  (by simp only[VF,aaq,hcs,abp];exact hge)
  (λk x hx=>by
   refine⟨x,?_,?_⟩
   ·have hlt:k<s.data.size:=by
     rcases aaI k s.data.size with h|h
     ·exact h
     ·rw[aas (by simpa [VF] using h)]at hx;cases hx
    rw[Array.getElem?_append_left (by simpa using hlt)];simpa [VF] using hx
   ·simp only[VF,aay,aau]at hx;obtain⟨b,_,rfl⟩:=hx;exact .int _ _) rfl rfl rfl
 refine⟨.slice (some ⟨w.heap.size,0,none⟩) s.size newCap,w2,_,?_,⟨st.le,st.rel,st.ro,st.os,st.tape,st.output,st.size,st.frame,st.mo⟩,?_⟩
 ·have hq:(choose (.appendCap s.size 0 e)).run P w=.ok newCap w1:=by rw[run_choose];rfl
  simp only[Conv.stringToBytes,aai,hq,aad];have hn:(newRow e cs).run P w1=.ok ⟨w.heap.size,0,none⟩ {w1 with heap:=w1.heap.push (.cells cs e)}:=rfl;rw[show(s.data.map λb=>Value.int .u8 b.toNat)++Array.replicate (newCap-s.size) (.int .u8 0)=cs from rfl,hn];have hb:({w1 with heap:=w1.heap.push (.cells cs e)}:World).heap[w.heap.size]? = some (.cells cs e):=by show(w.heap.push _)[w.heap.size]? = _;simp
  have hsh:(markStringish ⟨w.heap.size,0,none⟩).run P {w1 with heap:=w1.heap.push (.cells cs e)} = .ok () w2:=by
   simp only[markStringish,aai,run_shape,aad,World.shape?,hb,run_freeze];simp only[World.freeze];rw[aae (by decide)]
   congr 1
   show World.mk _ _ _ _ _=World.mk _ _ _ _ _
   congr 1
   show(w.heap.push _).modify w.heap.size _=w.heap.push _;apply Array.ext_getElem?;intro k;simp only[Array.getElem?_modify,Array.getElem?_push];by_cases e:k=w.heap.size
   ·subst e;simp
   ·simp[e];intro e2;exact absurd e2.symm e
  simp only[aad,hsh,aan]
 ·have:=zG.slice (ρ:=ρ.ext ⟨w1.heap.size,0,cs.size,P.cellsOf e⟩) (b:=h.next) (off:=0) (len:=s.size) (c:=1) (cap:=newCap) (pl:=⟨w1.heap.size,0,cs.size,P.cellsOf e⟩)
   (by show h.next<ρ.next+1;rw[hr.next];exact aa6 _) (by rw[<- hr.next];exact ρ.kq _) hge (λ_=>⟨by simp[hesz,hcs],λk hk=>by omega⟩)
  exact this
theorem Bu{ρ:xA}{src dst:TypeId}{x x' v:aaa}{h h':za}{w:World}(he:QP P src dst x h=some (v,h'))(hr:Rel P ρ h w)(hx:zG ρ x x') :
  ∃v' w' ρ',(convert src dst x').run P w=.ok v' w'/\Step P ρ h w ρ' h' w'/\zG ρ' v v':=by
 unfold QP at he;split at he
 ·rename_i u hu;simp only[aab,aaf]at he;obtain⟨rfl,rfl⟩:=he;cases hf:flat x with
  |false=>rw[hf]at hu;cases hu
  |true=>
   rw[hf]at hu;obtain⟨h1,h2⟩:=Ug hu;obtain rfl:=kr hx hf;exact⟨u,w,ρ,zh h1 w,.refl hr,.of_flat ρ h2⟩
 ·split at he
  ·rename_i e s hs hd _;cases hx;split at he
   ·rename_i hu hz;simp only[aab,aaf]at he;obtain⟨rfl,rfl⟩:=he;obtain⟨v',w',ρ',e1,st,hv⟩:=MY (e:=e) (s:=s) hr hz;refine⟨v',w',ρ',?_,st,hv⟩;simp only[convert,aai,zh hs,zh hd,aad,zh hu,e1]
   ·cases he
  ·rename_i e base n c hs hd _;split at he
   ·rename_i hu;simp only[aau,aaf]at he;obtain⟨r,hb,rfl,rfl⟩:=he;obtain⟨e1,hv⟩:=Gd hb hr hx;refine⟨r,w,ρ,?_,.refl hr,hv⟩;cases hx <;> simp only[convert,aai,zh hs,zh hd,aad,zh hu,e1]
   ·cases he
  ·cases he
def w9(P:Program)(src dst:TypeId)(x:aaa)(h:za):Option (aaa×za) :=
 match QP P src dst x h with
 |some r=>some r
 |none=>(Bw P src dst x h).map λv=>(v,h)
theorem DZ{ρ:xA}{src dst:TypeId}{x x' v:aaa}{h h':za}{w:World}(he:w9 P src dst x h=some (v,h'))(hr:Rel P ρ h w)(hx:zG ρ x x') :
  ∃v' w' ρ',(convert src dst x').run P w=.ok v' w'/\Step P ρ h w ρ' h' w'/\zG ρ' v v':=by
 unfold w9 at he;split at he
 ·rename_i r hc;simp only[aab]at he;subst he;exact Bu hc hr hx
 ·simp only[aau,aaf]at he;obtain⟨u,hu,rfl,rfl⟩:=he;obtain⟨v',e,hv⟩:=Bx hu hr hx;exact⟨v',w,ρ,e,.refl hr,hv⟩
def zj(P:Program)(t:TypeId)(len:Nat)(parts:List (Nat×aaa))(h:za):Option (aaa×za) :=
 match yd P (underlying t) with
 |some (.slice elem)=>(match yd P (sizeOf elem),kX P elem with
  |some n,some z=>cond (Nat.ble (len*n) (2^24)&&Nat.blt 0 z.cells.size&&Nat.blt 0 n) (match Instr.fill (λi=>some (i*n,n)) (Z9 z.cells.toList (len*n)).toArray parts with
   |some cs=>cond (Nat.beq cs.size (len*n)) (some (.slice (some ⟨h.next,0,none⟩) len (len+2),h.push (.cells cs.toList elem))) none
   |none=>none) none
  |_,_=>none)
 |_=>none
theorem eG{ρ:xA}{t:TypeId}{len:Nat}{parts parts':List (Nat×aaa)}{h h':za}{v:aaa}{w:World}(he:zj P t len parts h=some (v,h'))(hr:Rel P ρ h w)(hp:mg ρ parts parts') :
  ∃v' w' ρ',(Instr.buildSlice t len parts'.toArray).run P w=.ok v' w'/\Step P ρ h w ρ' h' w'/\zG ρ' v v':=by
 unfold zj at he;split at he
 case h_2=>cases he
 rename_i elem hu;split at he
 case h_2=>cases he
 rename_i n z hn hz;cases hc:(Nat.ble (len*n) (2^24)&&Nat.blt 0 z.cells.size&&Nat.blt 0 n) with
 |false=>rw[hc]at he;cases he
 |true=>
  rw[hc]at he;simp only[aac]at hc;have h24:=aaF hc.1.1;have hzs:0<z.cells.size:=by simpa [aaN] using hc.1.2
  obtain⟨z1,z2⟩:=ZG (ρ:=ρ) hz w;simp only[aaw]at he;split at he
  case h_2=>cases he
  rename_i cs hfill;cases hsz:Nat.beq cs.size (len*n) with
  |false=>rw[hsz]at he;cases he
  |true=>
   rw[hsz]at he;simp only[aaw,aab,aaf]at he;obtain⟨rfl,rfl⟩:=he;have hsz:=aal hsz;obtain⟨cs',hf',hv⟩:=eY _ _ _ (Z9 z.cells.toList (len*n)).toArray _ hp (rZ z2 (by omega) _) hfill
   obtain⟨e,st⟩:=cX (t:=elem) hr (c:=cs.toList) (cs:=cs') (by rw[hv.1,abp];exact aaj _) (λi x hx=>by
    obtain⟨y,hy,hxy⟩:=hv.get hx;exact⟨y,by simpa using hy,hxy⟩)
   have hcsz:cs'.size=len*n:=by have:=hv.1;simp only[abp]at this;omega
   refine⟨.slice (some ⟨w.heap.size,0,none⟩) len len,_,_,?_,st,?_⟩
   ·simp only[Instr.buildSlice,aai,zh hu,aad,zh hn];rw[aae (by omega)];by_cases h0:len*n=0
    ·rw[aah h0];have:((Array.range (len*n)).map λk=>(#[]:Array aaa)[k%(#[]:Array aaa).size]!)=(Z9 z.cells.toList (len*n)).toArray:=by rw[h0];simp[Z9]
     simp only[aai,aan,aad,this,hf',e]
    ·rw[aae h0];simp only[aai,z1,aan,aad,Bd,hf',e]
   ·exact zG.slice (ρ:=ρ.ext _) (b:=h.next) (off:=0) (pl:=⟨w.heap.size,0,cs'.size,P.cellsOf elem⟩) (by show h.next<ρ.next+1;rw[hr.next];exact aa6 _) (by rw[<- hr.next];exact ρ.kq _) (aaj _)
     (λ_=>⟨by simp[Kw hn,hcsz],λk hk=>by omega⟩)
theorem zq{α:Type}{b:Bool}{x:Option α}{y:α}(h:cond b x none=some y):b=true/\x=some y:=by
 cases b with
 |true=>exact⟨rfl,h⟩
 |false=>cases h
def sA(s:Env):Option Operand->Option (Option aaa)
 |none=>some none
 |some x=>(kT s x).map some
theorem QR{ρ:xA}{s:Env}{a:Act}(hs:vL ρ s a.tmps){x:Option Operand}{v:Option aaa}(h:sA s x=some v):Lv ρ v (x.map a.eval):=by
 cases x with
 |none=>simp only[sA,aab]at h;subst h;exact⟨λv hv=>by(cases hv),λ_=>rfl⟩
 |some x=>
  simp only[sA,aau]at h;obtain⟨u,hu,rfl⟩:=h;exact⟨λv hv=>by cases hv;exact⟨_,rfl,zW hs hu⟩,λhn=>by cases hn⟩
def Fh:Option aaa->Bool
 |none=>true
 |some v=>flat v
def zF(P:Program)(b:Builtin)(ts:List TypeId)(r:TypeId)(vs:List aaa)(h:za):Option (aaa×za) :=
 match b,ts,vs with
 | .append,[sT,xT],[s,x]=>V8 P sT xT s x h
 | .copy,t::_,[d,x]=>oB P t d x h
 | .len,[t],[x]=>(i0 P t x h).map λv=>(v,h)
 | .clear,[t],[x]=>(oA P t x h).map λh'=>(undef,h')
 | .min,_,_=>cond (vs.all flat) ((fl (yd P (Builtin.min_ ts.toArray r vs.toArray))).map λv=>(v,h)) none
 | .max,_,_=>cond (vs.all flat) ((fl (yd P (Builtin.max_ ts.toArray r vs.toArray))).map λv=>(v,h)) none
 | .delete,t::_,[x,k]=>(Yr P t x k h).map λh'=>(undef,h')
 | .cap,[t],[x]=>(zap P t x).map λv=>(v,h)
 | .unsafeSliceData,_,[x]=>(zav x).map λv=>(v,h)
 | .unsafeString,[pt,it],[p,.int .i64 n]=>aus P pt p n h
 |_,_,_=>none
theorem di{ρ:xA}:∀{xs ys:List aaa},wI ρ xs ys->xs.all flat=true->ys=xs
 |[],ys,h,_=>h.uI
 |x::xs,ys,h,hf=>by
  obtain⟨y,ys',rfl,h1,h2⟩:=h.cons_inv;simp only[acd,aac]at hf;rw[kr h1 hf.1,di h2 hf.2]
theorem ow{ρ:xA}{b:Builtin}{ts:Array TypeId}{r:TypeId}{vs vs':List aaa}{cs:Array Bool}{v:aaa}{h h':za}{w:World}(he:zF P b ts.toList r vs h=some (v,h'))(hr:Rel P ρ h w)(hv:wI ρ vs vs') :
  ∃v' w' ρ',(builtin b ts r cs vs'.toArray).run P w=.ok (.value v') w'/\Step P ρ h w ρ' h' w'/\zG ρ' v v':=by
 unfold zF at he;split at he
 ·rename_i sT xT s x hts;obtain⟨s',l1,rfl,v1,hv⟩:=hv.cons_inv;obtain⟨x',l2,rfl,v2,hv⟩:=hv.cons_inv;cases hv.uI;have:ts = #[sT,xT]:=by rw[<- abK (xs:=ts),hts]
  subst this;obtain⟨v',w',ρ',e,st,hv'⟩:=sq (r:=r) he hr v1 v2;exact⟨v',w',ρ',by simp only[builtin,aai];rw[e];rfl,st,hv'⟩
 ·rename_i t ts' d x hts;obtain⟨d',l1,rfl,v1,hv⟩:=hv.cons_inv;obtain⟨x',l2,rfl,v2,hv⟩:=hv.cons_inv;cases hv.uI;obtain⟨v',w',e,st,hv'⟩:=D1 (ts:=ts) (r:=r) he hr v1 v2 (by rw[<- Array.getElem?_toList,hts];rfl);exact⟨v',w',ρ,by simp only[builtin,aai];rw[e];rfl,st,hv'⟩
 ·rename_i t x hts;obtain⟨x',l1,rfl,v1,hv⟩:=hv.cons_inv;cases hv.uI;have:ts = #[t]:=by rw[<- abK (xs:=ts),hts]
  subst this;simp only[aau,aaf]at he;obtain⟨u,hu,rfl,rfl⟩:=he;obtain⟨e,hv'⟩:=D3 hu hr v1 r;exact⟨u,w,ρ,by simp only[builtin,aai];rw[e];rfl,.refl hr,hv'⟩
 ·rename_i t x hts;obtain⟨x',l1,rfl,v1,hv⟩:=hv.cons_inv;cases hv.uI;have:ts = #[t]:=by rw[<- abK (xs:=ts),hts]
  subst this;simp only[aau,aaf]at he;obtain⟨u,hu,rfl,rfl⟩:=he;obtain⟨w',e,st⟩:=Bt (r:=r) hu hr v1;exact⟨undef,w',ρ,by simp only[builtin,aai];rw[e];rfl,st,.ZM _ rfl⟩
 ·obtain⟨hf,he⟩:=zq he;simp only[aau,aaf]at he;obtain⟨u,hu,rfl,rfl⟩:=he;obtain⟨h1,h2⟩:=Ug hu;obtain rfl:=di hv hf;refine⟨u,w,ρ,?_,.refl hr,.of_flat _ h2⟩;have h1:=zh h1 w;rw[abK]at h1;simp only[builtin,aai,h1];rfl
 ·obtain⟨hf,he⟩:=zq he;simp only[aau,aaf]at he;obtain⟨u,hu,rfl,rfl⟩:=he;obtain⟨h1,h2⟩:=Ug hu;obtain rfl:=di hv hf;refine⟨u,w,ρ,?_,.refl hr,.of_flat _ h2⟩;have h1:=zh h1 w;rw[abK]at h1;simp only[builtin,aai,h1];rfl
 ·rename_i t ts' x k hts;obtain⟨x',l1,rfl,v1,hv⟩:=hv.cons_inv;obtain⟨k',l2,rfl,v2,hv⟩:=hv.cons_inv;cases hv.uI;simp only[aau,aaf]at he;obtain⟨u,hu,rfl,rfl⟩:=he;obtain⟨w',e,st⟩:=gR (ts:=ts) (r:=r) hu (by rw[<- Array.getElem?_toList,hts];rfl) hr v1 v2;exact⟨undef,w',ρ,by simp only[builtin,aai];rw[e];rfl,st,.ZM _ rfl⟩
 ·rename_i t x hts;obtain⟨x',l1,rfl,v1,hv⟩:=hv.cons_inv;cases hv.uI;have:ts = #[t]:=by rw[<- abK (xs:=ts),hts]
  subst this;simp only[aau,aaf]at he;obtain⟨u,hu,rfl,rfl⟩:=he;obtain⟨e,hv'⟩:=Gh hu v1 r w;exact⟨u,w,ρ,by simp only[builtin,aai];rw[e];rfl,.refl hr,hv'⟩
 ·rename_i ts' x hts;obtain⟨x',l1,rfl,v1,hv⟩:=hv.cons_inv;cases hv.uI;simp only[aau,aaf]at he;obtain⟨u,hu,rfl,rfl⟩:=he;obtain⟨v',e,hv'⟩:=Gn hu v1 ts r w;exact⟨v',w,ρ,by simp only[builtin,aai];rw[e];rfl,.refl hr,hv'⟩
 ·rename_i pt it p n hts;obtain⟨p',l1,rfl,v1,hv⟩:=hv.cons_inv;obtain⟨n',l2,rfl,v2,hv⟩:=hv.cons_inv;cases hv.uI;cases v2;have:ts = #[pt,it]:=by rw[<- abK (xs:=ts),hts]
  subst this;obtain⟨v',w',e,st,hv'⟩:=LY (it:=it) (ty:=r) he hr v1;exact⟨v',w',ρ,by simp only[builtin,aai];rw[e];rfl,st,hv'⟩
 ·cases he
def one(h:za)(x:Option aaa):Option (aaa×za):=match x with|none=>none|some v=>some (v,h)
def UM(P:Program)(s:Env)(o:Oper)(h:za):Option (aaa×za) :=
 match o.op with
 | .move x | .assign x=>one h (kT s x)
 | .pick c a b=>(match kT s c with
   |some (.bool true)=>one h (kT s a)
   |some (.bool false)=>one h (kT s b)
   |_=>none)
 | .box t x=>(match kT s x with
   |some v=>some (sO h v.cells.toList t)
   |none=>none)
 | .alloc t=>(match kX P t with
   |some z=>some (sO h z.cells.toList t)
   |none=>none)
 | .build t parts=>(match Vk s parts.toList with
   |some ps=>one h (yo P t ps)
   |none=>none)
 | .buildSlice t len parts=>(match Vk s parts.toList with
   |some ps=>zj P t len ps h
   |none=>none)
 | .load t a=>(match kT s a with
   |some v=>one h (zd P t v h)
   |none=>none)
 | .store t a x=>(match kT s a,kT s x with
   |some p,some v=>(match vH P t p v h with
    |some h'=>some (undef,h')
    |none=>none)
   |_,_=>none)
 | .nilCheck x=>(match kT s x with
   |some (.pointer (some a))=>some (.pointer (some a),h)
   |some (.func (.func f) a c)=>some (.func (.func f) a c,h)
   |_=>none)
 | .binOp op t x y _=>(match kT s x,kT s y with
   |some a,some b=>one h (zT P op t x y a b)
   |_,_=>none)
 | .unOp op _ x=>(match kT s x with
   |some a=>cond (flat a) (one h (fl (yd P (Op.unary op a)))) none
   |none=>none)
 | .convert src dst x=>(match kT s x with
   |some a=>w9 P src dst a h
   |none=>none)
 | .makeInterface t x=>(match kT s x with
   |some a=>(match yd P (Instr.makeInterface t (.bool true)) with
    |some _=>some (.iface t a,h)
    |none=>none)
   |none=>none)
 | .makeFunc (.func f) first captured=>(match VO s first.toList,VO s captured.toList with
   |some a,some c=>some (.func (.func f) a.toArray c.toArray,h)
   |_,_=>none)
 | .makeSlice t l c=>(match kT s l,kT s c with
   |some a,some b=>V9 P t a b h
   |_,_=>none)
 | .slice t x lo hi none=>(match kT s x,sA s lo,sA s hi with
   |some (.string str),some a,some b=>(match flatSlice P t str a b with
    |some v=>some (v,h)
    |none=>none)
   |some v,some a,some b=>one h (oL P t v a b h)
   |_,_,_=>none)
 | .fieldAddr t x f=>(match kT s x with
   |some a=>one h (zk P t a f)
   |none=>none)
 | .field t x f=>(match kT s x with
   |some (.agg cs)=>(match yd P (underlying t) with
    |some (.struct fields)=>(match fields[f]? with
     |some fd=>one h (apart P fd.type cs.toList fd.offset)
     |none=>none)
    |_=>none)
   |_=>none)
 | .indexAddr t x i=>(match kT s x,kT s i with
   |some a,some b=>one h (vG P t a b)
   |_,_=>none)
 | .index t x i=>(match kT s x,kT s i with
   |some a,some b=>cond (flat a&&flat b) (one h (fl (yd P (Instr.index t a b)))) none
   |_,_=>none)
 | .extract x i=>(match kT s x with
   |some (.tuple vs)=>one h vs[i]?
   |_=>none)
 | .call {callee := .builtin b,args,argTypes}=>(match VO s args.toList with
   |some vs=>zF P b argTypes.toList o.type vs h
   |none=>none)
 | .makeMap _ none=>some (wV h)
 | .lookup t x k ok=>(match kT s x,kT s k with
   |some a,some b=>one h (Zg P t a b ok h)
   |_,_=>none)
 | .mapUpdate t m k x=>(match kT s m,kT s k,kT s x with
   |some a,some b,some c=>(match qI P t a b c h with
    |some h'=>some (undef,h')
    |none=>none)
   |_,_,_=>none)
 | .range t x=>(match kT s x with
   |some a=>gT P t a h
   |none=>none)
 | .next x str=>(match kT s x with
   |some a=>Ag P a str h
   |none=>none)
 | .entry x=>(match kT s x with
   |some a=>one h (By a h)
   |none=>none)
 |_=>none
 where
  flatSlice (P:Program) (t:TypeId) (str:ByteArray) (a b:Option aaa):Option aaa :=
   cond (Fh a&&Fh b) (fl (yd P (Instr.sliceAt t (.string str) a b none))) none
end
noncomputable section
variable {P:Program}
def mH(P:Program)(ρ:xA)(h:za)(w:World)(s:Sem Next)(v:aaa)(h':za):Prop :=
 ∃n w' ρ' v',s.run P w=.ok n w'/\(n=.value v'\/(n=.skip/\v'=undef))/\Step P ρ h w ρ' h' w'/\zG ρ' v v'
theorem mH.val{ρ:xA}{h h':za}{w:World}{s:Sem aaa}{v:aaa}(e:∃v' w' ρ',s.run P w=.ok v' w'/\Step P ρ h w ρ' h' w'/\zG ρ' v v') :
  mH P ρ h w (do pure (.value (<- s))) v h':=by
 obtain⟨v',w',ρ',e,st,hv⟩:=e;exact⟨.value v',w',ρ',v',by rw[aai,e];rfl,.inl rfl,st,hv⟩
theorem mH.still{ρ:xA}{h:za}{w:World}{s:Sem aaa}{v:aaa}(hr:Rel P ρ h w)(e:∃v',s.run P w=.ok v' w/\zG ρ v v') :
  mH P ρ h w (do pure (.value (<- s))) v h:=by
 obtain⟨v',e,hv⟩:=e;exact .val ⟨v',w,ρ,e,.refl hr,hv⟩
theorem mH.pure{ρ:xA}{h:za}{w:World}{v v':aaa}(hr:Rel P ρ h w)(hv:zG ρ v v'):mH P ρ h w (Pure.pure (.value v')) v h :=
 ⟨.value v',w,ρ,v',rfl,.inl rfl,.refl hr,hv⟩
theorem vK{h h':za}{x:Option aaa}{v:aaa}(e:one h x=some (v,h')):x=some v/\h'=h:=by
 unfold one at e;split at e
 ·cases e
 ·simp only[aab,aaf]at e;obtain⟨rfl,rfl⟩:=e;exact⟨rfl,rfl⟩
theorem rB{ρ:xA}{h:za}{w:World}{c v:aaa}{b:Bool}{va vb:aaa}(hr:Rel P ρ h w)(hc:zG ρ (.bool b) c)(hv:zG ρ v (if b=true then va else vb)) :
  mH P ρ h w (do Pure.pure (.value (if <- asBool c then va else vb))) v h:=by
 cases hc;exact⟨_,w,ρ,_,by simp only[asBool,aai,aan,aad],.inl rfl,.refl hr,hv⟩
theorem sr{ρ:xA}{t:TypeId}{a b a' b' v:aaa}(hf:(flat a&&flat b)=true)(h:fl (yd P (Instr.index t a b))=some v)(ha:zG ρ a a')(hb:zG ρ b b')(w:World) :
  ∃v',(Instr.index t a' b').run P w=.ok v' w/\zG ρ v v':=by
 simp only[aac]at hf;obtain rfl:=kr ha hf.1;obtain rfl:=kr hb hf.2;obtain⟨h1,h2⟩:=Ug h;exact⟨v,zh h1 w,.of_flat ρ h2⟩
theorem AY{ρ:xA}{x x':Option aaa}(h:Lv ρ x x')(hf:Fh x=true):x'=x:=by
 cases x with
 |none=>exact h.2 rfl
 |some v=>obtain⟨v',rfl,hv⟩:=h.1 v rfl;rw[kr hv hf]
set_option maxHeartbeats 1000000 in
theorem Ah{ρ:xA}{s:Env}{a:Act}{o:Oper}{h h':za}{v:aaa}{w:World}(he:UM P s o h=some (v,h'))(hr:Rel P ρ h w)(hs:vL ρ s a.tmps) :
  mH P ρ h w (execOp a.eval o) v h':=by
 unfold UM at he;split at he
 ·
  rename_i x yj;obtain⟨h1,rfl⟩:=vK he;simp only[execOp,yj];exact .pure hr (zW hs h1)
 ·
  rename_i x yj;obtain⟨h1,rfl⟩:=vK he;simp only[execOp,yj];exact .pure hr (zW hs h1)
 ·
  rename_i c x y yj;simp only[execOp,yj];split at he
  ·rename_i hc;obtain⟨h1,rfl⟩:=vK he;exact rB hr (zW hs hc) (by rw[aah rfl];exact zW hs h1)
  ·rename_i hc;obtain⟨h1,rfl⟩:=vK he;exact rB hr (zW hs hc) (by rw[aae (by decide)];exact zW hs h1)
  ·cases he
 ·
  rename_i t x yj;simp only[execOp,yj];split at he
  case h_2=>cases he
  rename_i u hu;simp only[aab,sO,aaf]at he;obtain⟨rfl,rfl⟩:=he;obtain⟨a',w',ρ',e,st,hv⟩:=fC hr (zW hs hu) t;exact .val ⟨_,w',ρ',by simp only[Instr.box,aai,e,aad,aan],st,hv⟩
 ·
  rename_i t yj;simp only[execOp,yj];split at he
  case h_2=>cases he
  rename_i z hz;simp only[aab,sO,aaf]at he;obtain⟨rfl,rfl⟩:=he;obtain⟨z1,z2⟩:=ZG (ρ:=ρ) hz w;obtain⟨a',w',ρ',e,st,hv⟩:=fC hr z2 t;exact .val ⟨_,w',ρ',by simp only[Instr.alloc,aai,z1,e,aad,aan],st,hv⟩
 ·
  rename_i t parts yj;simp only[execOp,yj];split at he
  case h_2=>cases he
  rename_i ps hps;obtain⟨h1,rfl⟩:=vK he;have hp:=QT hs hps;obtain⟨v',e,hv⟩:=Bs h1 hp w;refine .still hr ⟨v',?_,hv⟩;rw[<- e]
  congr 1
  congr 1
  apply ab3;simp
 ·
  rename_i t len parts yj;simp only[execOp,yj];split at he
  case h_2=>cases he
  rename_i ps hps;have hp:=QT hs hps;obtain⟨v',w',ρ',e,st,hv⟩:=eG he hr hp;refine .val ⟨v',w',ρ',?_,st,hv⟩;rw[<- e]
  congr 1
  congr 1
  apply ab3;simp
 ·
  rename_i t x yj;simp only[execOp,yj];split at he
  case h_2=>cases he
  rename_i u hu;obtain⟨h1,rfl⟩:=vK he;exact .still hr (i6 h1 hr (zW hs hu))
 ·
  rename_i t p x yj;simp only[execOp,yj];split at he
  case h_2=>cases he
  rename_i pv xv hp hx;split at he
  case h_2=>cases he
  rename_i h2 hst;simp only[aab,aaf]at he;obtain⟨rfl,rfl⟩:=he;obtain⟨w',e,st⟩:=BJ hst hr (zW hs hp) (zW hs hx);exact⟨.skip,w',ρ,undef,by rw[aai,e];rfl,.inr ⟨rfl,rfl⟩,st,.ZM _ rfl⟩
 ·
  rename_i x yj;simp only[execOp,yj];split at he
  ·rename_i p hp;simp only[aab,aaf]at he;obtain⟨rfl,rfl⟩:=he;have e:=zW hs hp;generalize a.eval x=xv at e;cases e with
   |ptr hb hm=>exact .pure hr (.ptr hb hm)
   |Y0=>exact .pure hr .Y0
  ·rename_i f fa fc hp;simp only[aab,aaf]at he;obtain⟨rfl,rfl⟩:=he;have e:=zW hs hp;generalize a.eval x=xv at e;cases e with
   |func h1 h2 h3 h4=>exact .pure hr (.func h1 h2 h3 h4)
  ·cases he
 ·
  rename_i op t x y yt yj;simp only[execOp,yj];split at he
  case h_2=>cases he
  rename_i xv yv hx hy;obtain⟨h1,rfl⟩:=vK he;exact .still hr (DU h1 (zW hs hx) (zW hs hy) w)
 ·
  rename_i op t x yj;simp only[execOp,yj];split at he
  case h_2=>cases he
  rename_i xv hx;obtain⟨hf,he⟩:=zq he;obtain⟨h1,rfl⟩:=vK he;obtain⟨h2,h3⟩:=Ug h1;rw[kr (zW hs hx) hf];exact .still hr ⟨v,zh h2 w,.of_flat ρ h3⟩
 ·
  rename_i src dst x yj;simp only[execOp,yj];split at he
  case h_2=>cases he
  rename_i xv hx;exact .val (DZ he hr (zW hs hx))
 ·
  rename_i t x yj;simp only[execOp,yj];split at he
  case h_2=>cases he
  rename_i xv hx;split at he
  case h_2=>cases he
  rename_i u hu;simp only[aab,aaf]at he;obtain⟨rfl,rfl⟩:=he;refine .still hr ⟨.iface t (a.eval x),?_,.iface (zW hs hx)⟩;have:=zh hu w;simp only[Instr.makeInterface,aai]at this ⊢;cases hun:(underlying t).run P w with
  |halt e w2=>rw[hun]at this;cases this
  |ok d w2=>
   rw[hun]at this;simp only[aad]at this ⊢;cases d <;> simp_all
 ·
  rename_i f first captured yj
  simp only[execOp,yj];split at he
  case h_2=>cases he
  rename_i av cv ha hc;simp only[aab,aaf]at he;obtain⟨rfl,rfl⟩:=he;have e1:=jU hs ha;have e2:=jU hs hc;refine .still hr ⟨.func (.func f) (first.map a.eval) (captured.map a.eval),rfl,.func (by simpa using e1.1) (by simpa using e2.1) (λi x y hx hy=>e1.2 i x y (by simpa using hx) (by simpa using hy)) (λi x y hx hy=>e2.2 i x y (by simpa using hx) (by simpa using hy))⟩
 ·
  rename_i t l c yj;simp only[execOp,yj];split at he
  case h_2=>cases he
  rename_i lv cv hl hc;exact .val (D6 he hr (zW hs hl) (zW hs hc))
 ·
  rename_i t x lo hi yj;simp only[execOp,yj];split at he
  ·rename_i str av bv hx ha hb;split at he
   case h_2=>cases he
   rename_i u hu;simp only[aab,aaf]at he;obtain⟨rfl,rfl⟩:=he;obtain⟨hf,hu⟩:=zq hu;simp only[aac]at hf;obtain⟨h1,h2⟩:=Ug hu;rw[kr (zW hs hx) rfl,AY (QR hs ha) hf.1,AY (QR hs hb) hf.2];exact .still hr ⟨u,zh h1 w,.of_flat ρ h2⟩
  ·rename_i xv av bv _ hx ha hb;obtain⟨h1,rfl⟩:=vK he;exact .still hr (BI h1 hr (zW hs hx) (QR hs ha) (QR hs hb))
  ·cases he
 ·
  rename_i t x f yj;simp only[execOp,yj];split at he
  case h_2=>cases he
  rename_i xv hx;obtain⟨h1,rfl⟩:=vK he;exact .still hr (BD h1 (zW hs hx) w)
 ·
  rename_i t x f yj;simp only[execOp,yj];split at he
  case h_2=>cases he
  rename_i cs hx;split at he
  case h_2=>cases he
  rename_i fields hu;split at he
  case h_2=>cases he
  rename_i fd hfd;obtain⟨h1,rfl⟩:=vK he;have e:=zW hs hx;generalize a.eval x=xv at e;cases e with
  |agg h2 h3=>
   rename_i cs';obtain⟨v',e,hv⟩:=D9 (cs':=cs') h1 ⟨by simpa using h2,λi x y hx hy=>h3 i x y (by simpa using hx) (by simpa using hy)⟩ w;refine .still hr ⟨v',?_,hv⟩;simp only[Instr.field,aai,zh hu,aad,hfd,asAgg,aan,e]
 ·
  rename_i t x i yj;simp only[execOp,yj];split at he
  case h_2=>cases he
  rename_i xv iv hx hi;obtain⟨h1,rfl⟩:=vK he;exact .still hr (BE h1 (zW hs hx) (zW hs hi) w)
 ·
  rename_i t x i yj;simp only[execOp,yj];split at he
  case h_2=>cases he
  rename_i xv iv hx hi;obtain⟨hf,he⟩:=zq he;obtain⟨h1,rfl⟩:=vK he;exact .still hr (sr hf h1 (zW hs hx) (zW hs hi) w)
 ·
  rename_i x i yj;simp only[execOp,yj];split at he
  case h_2=>cases he
  rename_i vs hx;obtain⟨h1,rfl⟩:=vK he;have e:=zW hs hx;generalize a.eval x=xv at e;cases e with
  |tuple h2 h3=>
   rename_i vs'
   have hlt:i<vs.size:=by
    rcases aaI i vs.size with h|h
    ·exact h
    ·rw[aaJ h]at h1;cases h1
   have hy:vs'[i]? = some vs'[i]:=aaL (h2 ▸ hlt);refine .still hr ⟨vs'[i]'(h2 ▸ hlt),?_,h3 i _ _ h1 hy⟩;simp only[Instr.extract,hy,aan]
 ·
  rename_i b args ts yj;simp only[execOp,yj];split at he
  case h_2=>cases he
  rename_i vs hvs;have e:=jU hs hvs;obtain⟨v',w',ρ',e1,st,hv⟩:=ow (cs:=args.map λ | .const _=>true|_=>false) he hr e;refine⟨.value v',w',ρ',v',?_,.inl rfl,st,hv⟩;simp only[resolve,aai,aan,aad,invoke];rw[<- e1]
  congr 2
  apply ab3;simp
 ·
  rename_i t yj;simp only[execOp,yj];simp only[aab]at he;obtain⟨v',w',ρ',e,st,hv⟩:=oF hr t;rw[he]at st hv;exact .val ⟨v',w',ρ',e,st,hv⟩
 ·
  rename_i t x k ok yj;simp only[execOp,yj];split at he
  case h_2=>cases he
  rename_i xv kv hx hk;obtain⟨h1,rfl⟩:=vK he;exact .still hr (su h1 hr (zW hs hx) (zW hs hk))
 ·
  rename_i t m k x yj;simp only[execOp,yj];split at he
  case h_2=>cases he
  rename_i mv kv xv hm hk hx;split at he
  case h_2=>cases he
  rename_i h2 hu;simp only[aab,aaf]at he;obtain⟨rfl,rfl⟩:=he;obtain⟨w',e,st⟩:=gS hu hr (zW hs hm) (zW hs hk) (zW hs hx);exact⟨.skip,w',ρ,undef,by simp only[aai,e,aad,aan],.inr ⟨rfl,rfl⟩,st,.ZM _ rfl⟩
 ·
  rename_i t x yj;simp only[execOp,yj];split at he
  case h_2=>cases he
  rename_i xv hx;exact .val (BG he hr (zW hs hx))
 ·
  rename_i x str yj;simp only[execOp,yj];split at he
  case h_2=>cases he
  rename_i xv hx;exact .val (D8 he hr (zW hs hx))
 ·
  rename_i x yj;simp only[execOp,yj];split at he
  case h_2=>cases he
  rename_i xv hx;obtain⟨h1,rfl⟩:=vK he;exact .still hr (Bz h1 hr (zW hs hx))
 ·cases he
end
noncomputable section
variable {P:Program}
def vD(b:Frame)(tm:Array aaa)(ds:List Deferred)(todo:List Item):Frame :=
 {fn:=b.fn,tmps:=tm,todo,defers:=ds,mode := .run,kind:=b.kind,roundOf:=b.roundOf}
theorem py(b:Frame)(tm:Array aaa)(ds:List Deferred)(todo:List Item):(vD b tm ds todo).eval=(Act.eval ⟨tm,ds⟩):=by
 funext x;cases x <;> rfl
section moves
variable {b:Frame}{tm:Array aaa}{ds:List Deferred}{k:List Item}{cs:List Frame}{w:World}
theorem GP:step P (lone (vD b tm ds (.code .skip::k)) cs w)=.next (lone (vD b tm ds k) cs w):=step_lone_go (by simp[stepG,stepG.exec,vD])
theorem EH{l:Nat}:step P (lone (vD b tm ds (.code (.label l)::k)) cs w)=.next (lone (vD b tm ds k) cs w):=step_lone_go (by simp[stepG,stepG.exec,vD])
theorem sH{id:Nat}:step P (lone (vD b tm ds (.inBlock id::k)) cs w)=.next (lone (vD b tm ds k) cs w):=step_lone_go (by simp[stepG,stepG.exec,vD])
theorem sI{c:Code}:step P (lone (vD b tm ds (.inScope c::k)) cs w)=.next (lone (vD b tm ds k) cs w):=step_lone_go (by simp[stepG,stepG.exec,vD])
theorem ia{x y:Code}:step P (lone (vD b tm ds (.code (.seq x y)::k)) cs w)=.next (lone (vD b tm ds (.code x :: .code y::k)) cs w):=step_lone_go (by simp[stepG,stepG.exec,vD])
theorem GN{c:Operand}{x y:Code}{t:Bool}(h:Act.eval ⟨tm,ds⟩ c=.bool t):step P (lone (vD b tm ds (.code (.cond c x y)::k)) cs w)=.next (lone (vD b tm ds (.code (if t then x else y)::k)) cs w) :=
 step_lone_go (by
  have:=congrFun (py b tm ds (.code (.cond c x y)::k)) c;simp only[vD]at this;simp[stepG,stepG.exec,vD,this,h])
theorem Uh{id:Nat}{c:Code}:step P (lone (vD b tm ds (.code (.block id c)::k)) cs w)=.next (lone (vD b tm ds (.code c :: .inBlock id::k)) cs w):=step_lone_go (by simp[stepG,stepG.exec,vD])
theorem Jr{c:Code}:step P (lone (vD b tm ds (.code (.scope c)::k)) cs w)=.next (lone (vD b tm ds (.code c :: .inScope c::k)) cs w):=step_lone_go (by simp[stepG,stepG.exec,vD])
theorem Q5{c:Code}:step P (lone (vD b tm ds (.code (.loop c)::k)) cs w)=.next (lone (vD b tm ds (.code c :: .inLoop c::k)) cs w):=step_lone_go (by simp[stepG,stepG.exec,vD])
theorem BU{c:Code}:step P (lone (vD b tm ds (.inLoop c::k)) cs w)=.next (lone (vD b tm ds (.code c :: .inLoop c::k)) cs w):=step_lone_go (by simp[stepG,stepG.exec,vD])
theorem GO{id:Nat}{k':List Item}(h:exitTo id k=some k'):step P (lone (vD b tm ds (.code (.exit id)::k)) cs w)=.next (lone (vD b tm ds k') cs w):=step_lone_go (by simp[stepG,stepG.exec,vD,h])
theorem BV{id:Nat}{ops:Array Oper}:step P (lone (vD b tm ds (.code (.region id ops false)::k)) cs w)=.next (lone (vD b tm ds (.inRegion ops (List.range ops.size)::k)) cs w):=step_lone_go (by simp[stepG,stepG.exec,vD])
theorem Ui{id:Nat}{ops:Array Oper}:step P (lone (vD b tm ds (.code (.region id ops true)::k)) cs w) =
  .next (lone (vD b tm ds (.inRegion ops (Region.schedule (P.follows .mixedOrders) ops (w.tape w.drawn (.order b.fn id)))::k)) cs {w with drawn:=w.drawn+1}) :=
 step_lone_go (by simp[stepG,stepG.exec,vD,choose,Sem.run,Question.forced,Question.cut])
theorem XE{ops:Array Oper}:step P (lone (vD b tm ds (.inRegion ops []::k)) cs w)=.next (lone (vD b tm ds k) cs w):=step_lone_go (by simp[stepG,stepG.exec,vD])
theorem Ml(hb:b.roundOf=none):step P (lone (vD b tm ds (.code .ret::k)) cs w)=.next (lone {vD b tm ds (.code .ret::k) with mode := .returning} cs w) :=
 step_lone_go (by simp[stepG,stepG.exec,vD,hb])
theorem Mk(hb:b.roundOf=none):step P (lone (vD b tm ds []) cs w)=.next (lone {vD b tm ds [] with mode := .returning} cs w) :=
 step_lone_go (by simp[stepG,stepG.exec,vD,hb])
theorem jX(ops:Array Oper)(i:Nat)(rest:List Nat)(v:aaa) :
  (vD b tm ds (.inRegion ops (i::rest)::k)).finish v=vD b (qj tm ((ops[i]?).bind (·.dst)) v) ds (.inRegion ops rest::k):=by
 cases h:(ops[i]?).bind (·.dst) <;> simp[Frame.finish,vD,qj,h]
theorem bF{ops:Array Oper}{i:Nat}{rest:List Nat}(h:((ops[i]?).map (Region.wanted · (yielded ops tm))).getD false=false) :
  step P (lone (vD b tm ds (.inRegion ops (i::rest)::k)) cs w)=.next (lone ((vD b tm ds (.inRegion ops (i::rest)::k)).finish undef) cs w):=by
 exact step_lone_go (by
  have h':=h;simp only[vD]at *
  simp[stepG,stepG.exec,h'])
def XS:Op->Bool
 | .defer _=>true
 |_=>false
theorem aK{ops:Array Oper}{i:Nat}{rest:List Nat}{o:Oper}(ho:ops[i]? = some o)(hw:Region.wanted o (yielded ops tm)=true)(hd:XS o.op=false) :
  stepG P true {frame:=vD b tm ds (.inRegion ops (i::rest)::k),callers:=cs,status := .running,dying:=none} w =
   stepG.apply P true (vD b tm ds (.inRegion ops (i::rest)::k)) cs none (execOp (Act.eval ⟨tm,ds⟩) o) w:=by
 have he:=py b tm ds (.inRegion ops (i::rest)::k);have hw':((ops[i]?).map (Region.wanted · (yielded ops tm))).getD false=true:=by rw[ho];exact hw
 have h2:(vD b tm ds (.inRegion ops (i::rest)::k)).oper? = some o:=by simp[Frame.oper?,vD,ho]
 have h1:stepG P true {frame:=vD b tm ds (.inRegion ops (i::rest)::k),callers:=cs,status := .running,dying:=none} w=stepG.oper P true (vD b tm ds (.inRegion ops (i::rest)::k)) cs none w:=by
  simp only[stepG,vD];simp only[stepG.exec,hw'];rfl
 rw[h1];simp only[stepG.oper,h2,he];cases hro:(vD b tm ds (.inRegion ops (i::rest)::k)).roundOf with
 |none=>rfl
 |some l=>cases yj:o.op <;> first|rfl|(rw[yj]at hd;cases hd)
theorem Xd{ops:Array Oper}{i:Nat}{rest:List Nat}{o:Oper}(ho:ops[i]? = some o)(hw:Region.wanted o (yielded ops tm)=true)(hd:XS o.op=false){v:aaa}{w':World}
  (hr:(execOp (Act.eval ⟨tm,ds⟩) o).run P w=.ok (.value v) w') :
  step P (lone (vD b tm ds (.inRegion ops (i::rest)::k)) cs w)=.next (lone ((vD b tm ds (.inRegion ops (i::rest)::k)).finish v) cs w') :=
 step_lone_go (by rw[aK ho hw hd];simp[stepG.apply,hr])
theorem XR{ops:Array Oper}{i:Nat}{rest:List Nat}{o:Oper}(ho:ops[i]? = some o)(hw:Region.wanted o (yielded ops tm)=true)(hd:XS o.op=false){w':World}
  (hr:(execOp (Act.eval ⟨tm,ds⟩) o).run P w=.ok .skip w') :
  step P (lone (vD b tm ds (.inRegion ops (i::rest)::k)) cs w)=.next (lone ((vD b tm ds (.inRegion ops (i::rest)::k)).finish undef) cs w') :=
 step_lone_go (by rw[aK ho hw hd];simp[stepG.apply,hr])
theorem Jq{ops:Array Oper}{i:Nat}{rest:List Nat}{o:Oper}(ho:ops[i]? = some o)(hw:Region.wanted o (yielded ops tm)=true)(hd:XS o.op=false){f:FuncId}{args:Array aaa}{w':World}
  (hr:(execOp (Act.eval ⟨tm,ds⟩) o).run P w=.ok (.enter f args) w') :
  step P (lone (vD b tm ds (.inRegion ops (i::rest)::k)) cs w)=.next (lone (Frame.enter P f args .normal) (vD b tm ds (.inRegion ops (i::rest)::k)::cs) w') :=
 step_lone_go (by rw[aK ho hw hd];simp[stepG.apply,hr,vD])
end moves
end
noncomputable section
variable {P:Program}
inductive Ex where
 |normal
 |exit (id:Nat)
 |ret
 deriving DecidableEq
def Arr(P:Program)(m:Machine)(b:Frame)(k:List Item)(cs:List Frame)(e:Ex)(tm:Array aaa)(ds:List Deferred)(w:World):Prop :=
 match e with
 | .normal=>Steps P m (lone (vD b tm ds k) cs w)
 | .exit id=>∃todo,exitTo id todo=exitTo id k/\Steps P m (lone (vD b tm ds (.code (.exit id)::todo)) cs w)
 | .ret=>∃todo,Steps P m (lone (vD b tm ds (.code .ret::todo)) cs w)
theorem Arr.of_steps{m m₁:Machine}{b:Frame}{k:List Item}{cs:List Frame}{e:Ex}{tm:Array aaa}{ds:List Deferred}{w:World}(h:Steps P m m₁)(h':Arr P m₁ b k cs e tm ds w):Arr P m b k cs e tm ds w:=by
 cases e with
 |normal=>exact h.trans h'
 |exit id=>obtain⟨t,e,s⟩:=h';exact⟨t,e,h.trans s⟩
 |ret=>obtain⟨t,s⟩:=h';exact⟨t,h.trans s⟩
theorem Pw{ρ:xA}{h:za}{w:World}(hr:Rel P ρ h w){r:Nat}{o:Obj}(ho:w.heap[r]? = some o)(hn:∃x,o=.deferred x):¬mE ρ h r:=by
 rintro⟨b,ob,pl,hg,_,hm,rfl⟩;obtain⟨x,rfl⟩:=hn;have hc:=hr.PA hg hm;cases ob with
 |cells c t=>obtain⟨cs,fz,h1,_⟩:=hc;rw[h1]at ho;cases ho
 |map es q=>obtain⟨ms,h1,_⟩:=hc;rw[h1]at ho;cases ho
 |iter m a b c=>obtain⟨m',h1,_⟩:=hc;rw[h1]at ho;cases ho
 |tab c=>obtain⟨t,cs,fz,h1,_⟩:=hc;rw[h1]at ho;cases ho
 |siter s pos=>have h1:w.heap[pl.c]? = _:=hc.1;rw[h1]at ho;cases ho
 |loop l=>obtain⟨tm,d,fn,h1,_⟩:=hc;rw[h1]at ho;cases ho
theorem il{w:World}{r:Nat}{o:Obj}(h:w.heap[r]? = some o):r<w.heap.size:=by
 rcases aaI r w.heap.size with hl|hl
 ·exact hl
 ·rw[aaJ hl]at h;cases h
def E4(r:Nat):Deferred:={target := .collected r,args := #[]}
def KK(w:World)(ds:List Deferred)(w':World)(ds':List Deferred):Prop :=
 ∃rs:List Nat,ds'=rs.map E4++ds/\rs.Nodup /\ ∀r,r∈rs->w.heap.size<=r/\w'.heap[r]? = some (.deferred (some []))
theorem KK.refl(w w':World)(ds:List Deferred):KK w ds w' ds:=⟨[],rfl,List.nodup_nil,λr h=>by cases h⟩
theorem KK.trans{ρ ρ':xA}{h h':za}{w w1 w2:World}{ds ds1 ds2:List Deferred}(a:KK w ds w1 ds1)(b:KK w1 ds1 w2 ds2)(hle:w.heap.size<=w1.heap.size)(hr:Rel P ρ h w1)(st:Step P ρ h w1 ρ' h' w2):KK w ds w2 ds2:=by
 obtain⟨rs,h1,h2,h3⟩:=a;obtain⟨rs2,k1,k2,k3⟩:=b;refine⟨rs2++rs,by rw[k1,h1,aaY,aa4],List.nodup_append.2 ⟨k2,h2,λx hx y hy e=>?_⟩,λr hr'=>?_⟩
 ·have:=(k3 x hx).1;have:=il (h3 y hy).2;omega
 ·rcases aaD.1 hr' with hm|hm
  ·exact⟨aaU hle (k3 r hm).1,(k3 r hm).2⟩
  ·have:=(h3 r hm).2;refine⟨(h3 r hm).1,?_⟩;rw[st.frame r (il this) (Pw hr this ⟨_,rfl⟩)];exact this
def Rd(ρ:xA)(rd:Option Nat)(b:Frame):Prop :=
 match rd with
 |none=>b.roundOf=none
 |some l=>l<ρ.next /\ ∃pl,ρ.m l=some pl/\b.roundOf=some pl.c
theorem Rd.mono{ρ ρ':xA}(hle:ρ.le ρ'){rd:Option Nat}{b:Frame}(h:Rd ρ rd b):Rd ρ' rd b:=by
 cases rd with
 |none=>exact h
 |some l=>exact⟨aap h.1 hle.1,by obtain⟨pl,hp,hb⟩:=h.2;exact⟨pl,(hle.2 l h.1).trans hp,hb⟩⟩
def T(P:Program)(rd:Option Nat)(c:Code)(s:Env)(h:za)(Q:Ex->Env->za->Prop):Prop :=
 ∀(ρ:xA) (w:World) (tm:Array aaa) (ds:List Deferred),Rel P ρ h w->vL ρ s tm->∀(b:Frame),Rd ρ rd b->∀(k:List Item) (cs:List Frame),
  ∃e s' h' ρ' w' tm' ds',Q e s' h'/\Step P ρ h w ρ' h' w'/\vL ρ' s' tm'/\KK w ds w' ds'/\Arr P (lone (vD b tm ds (.code c::k)) cs w) b k cs e tm' ds' w'
def TO(P:Program)(ops:Array Oper)(l:List Nat)(s:Env)(h:za)(Q:Env->za->Prop):Prop :=
 ∀(ρ:xA) (w:World) (tm:Array aaa) (ds:List Deferred),Rel P ρ h w->vL ρ s tm->∀(b:Frame) (k:List Item) (cs:List Frame),
  ∃s' h' ρ' w' tm',Q s' h'/\Step P ρ h w ρ' h' w'/\vL ρ' s' tm'/\Steps P (lone (vD b tm ds (.inRegion ops l::k)) cs w) (lone (vD b tm' ds (.inRegion ops []::k)) cs w')
def TC(P:Program)(f:FuncId)(args:List aaa)(h:za)(R:aaa->za->Prop):Prop :=
 ∀(ρ:xA) (w:World) (cargs:List aaa),Rel P ρ h w->wI ρ args cargs ->
  Calls P f cargs.toArray w λe w'=>∃v v' h' ρ',e=.returned v'/\R v h'/\Step P ρ h w ρ' h' w'/\zG ρ' v v'
section rules
variable {rd:Option Nat}{s:Env}{h:za}{Q:Ex->Env->za->Prop}
theorem T.mono{c:Code}{Q':Ex->Env->za->Prop}(ht:T P rd c s h Q)(hq:∀e s h,Q e s h->Q' e s h):T P rd c s h Q':=by
 intro ρ w tm ds hr hs b hb k cs;obtain⟨e,s',h',ρ',w',tm',ds',q,r⟩:=ht ρ w tm ds hr hs b hb k cs;exact⟨e,s',h',ρ',w',tm',ds',hq _ _ _ q,r⟩
theorem TC.mono{f:FuncId}{args:List aaa}{R R':aaa->za->Prop}(ht:TC P f args h R)(hq:∀v h,R v h->R' v h):TC P f args h R':=by
 intro ρ w cargs hr hv;refine(ht ρ w cargs hr hv).mono λe w'=>?_;rintro⟨v,v',h',ρ',e1,q,r⟩;exact⟨v,v',h',ρ',e1,hq _ _ q,r⟩
theorem Nr(hq:Q .normal s h):T P rd .skip s h Q:=λρ w tm ds hr hs b hb k cs=>⟨.normal,s,h,ρ,w,tm,ds,hq,.refl hr,hs,.refl _ _ _,.one GP⟩
theorem Hx{l:Nat}(hq:Q .normal s h):T P rd (.label l) s h Q:=λρ w tm ds hr hs b hb k cs=>⟨.normal,s,h,ρ,w,tm,ds,hq,.refl hr,hs,.refl _ _ _,.one EH⟩
theorem Nq{id:Nat}(hq:Q (.exit id) s h):T P rd (.exit id) s h Q:=λρ w tm ds hr hs b hb k cs=>⟨.exit id,s,h,ρ,w,tm,ds,hq,.refl hr,hs,.refl _ _ _,k,rfl,.refl P _⟩
theorem TA(hq:Q .ret s h):T P rd .ret s h Q:=λρ w tm ds hr hs b hb k cs=>⟨.ret,s,h,ρ,w,tm,ds,hq,.refl hr,hs,.refl _ _ _,k,.refl P _⟩
theorem Hz{x y:Code}(ht:T P rd x s h (λe s1 h1=>match e with | .normal=>T P rd y s1 h1 Q|e=>Q e s1 h1)):T P rd (.seq x y) s h Q:=by
 intro ρ w tm ds hr hs b hb k cs;obtain⟨e,s1,h1,ρ1,w1,tm1,ds1,q,st,hs1,hd1,ha⟩:=ht ρ w tm ds hr hs b hb (.code y::k) cs;cases e with
 |normal=>
  obtain⟨e2,s2,h2,ρ2,w2,tm2,ds2,q2,st2,hs2,hd2,ha2⟩:=q ρ1 w1 tm1 ds1 st.rel hs1 b (hb.mono st.le) k cs;exact⟨e2,s2,h2,ρ2,w2,tm2,ds2,q2,st.trans st2,hs2,hd1.trans hd2 st.size st.rel st2,.of_steps (.head ia ha) ha2⟩
 |exit id=>obtain⟨t,et,sx⟩:=ha;exact⟨_,s1,h1,ρ1,w1,tm1,ds1,q,st,hs1,hd1,t,et,.head ia sx⟩
 |ret=>obtain⟨t,sx⟩:=ha;exact⟨_,s1,h1,ρ1,w1,tm1,ds1,q,st,hs1,hd1,t,.head ia sx⟩
theorem Bf{c:Operand}{x y:Code}{t:Bool}(hc:kT s c=some (.bool t))(ht:T P rd (if t then x else y) s h Q):T P rd (.cond c x y) s h Q:=by
 intro ρ w tm ds hr hs b hb k cs;obtain⟨e,s1,h1,ρ1,w1,tm1,ds1,q,st,hs1,hd1,ha⟩:=ht ρ w tm ds hr hs b hb k cs;have he:=zW (a:=⟨tm,ds⟩) hs hc
 have:Act.eval ⟨tm,ds⟩ c=.bool t:=by
  generalize Act.eval ⟨tm,ds⟩ c=v at he;cases he;rfl
 exact⟨e,s1,h1,ρ1,w1,tm1,ds1,q,st,hs1,hd1,.of_steps (.one (GN this)) ha⟩
theorem dq{id:Nat}{c:Code}(ht:T P rd c s h (λe s1 h1=>if e=.exit id then Q .normal s1 h1 else Q e s1 h1)):T P rd (.block id c) s h Q:=by
 intro ρ w tm ds hr hs b hb k cs;obtain⟨e,s1,h1,ρ1,w1,tm1,ds1,q,st,hs1,hd1,ha⟩:=ht ρ w tm ds hr hs b hb (.inBlock id::k) cs;cases e with
 |normal=>rw[aae (by simp)]at q;exact⟨.normal,s1,h1,ρ1,w1,tm1,ds1,q,st,hs1,hd1,.head Uh (abX ha (.one sH))⟩
 |exit id'=>
  obtain⟨t,et,sx⟩:=ha;by_cases hid:id'=id
  ·subst hid;rw[aah rfl]at q;refine⟨.normal,s1,h1,ρ1,w1,tm1,ds1,q,st,hs1,hd1,.head Uh (sx.trans (.one (GO (k':=k) ?_)))⟩;rw[et];simp[exitTo]
  ·rw[aae (by simpa using hid)]at q;refine⟨.exit id',s1,h1,ρ1,w1,tm1,ds1,q,st,hs1,hd1,t,?_,.head Uh sx⟩;rw[et];have:(id == id')=false:=by simp;exact λh=>hid h.symm
   simp[exitTo,this]
 |ret=>obtain⟨t,sx⟩:=ha;rw[aae (by simp)]at q;exact⟨.ret,s1,h1,ρ1,w1,tm1,ds1,q,st,hs1,hd1,t,.head Uh sx⟩
theorem Hy{c:Code}(ht:T P rd c s h Q):T P rd (.scope c) s h Q:=by
 intro ρ w tm ds hr hs b hb k cs;obtain⟨e,s1,h1,ρ1,w1,tm1,ds1,q,st,hs1,hd1,ha⟩:=ht ρ w tm ds hr hs b hb (.inScope c::k) cs;cases e with
 |normal=>exact⟨.normal,s1,h1,ρ1,w1,tm1,ds1,q,st,hs1,hd1,.head Jr (abX ha (.one sI))⟩
 |exit id=>obtain⟨t,et,sx⟩:=ha;exact⟨_,s1,h1,ρ1,w1,tm1,ds1,q,st,hs1,hd1,t,by rw[et];simp[exitTo],.head Jr sx⟩
 |ret=>obtain⟨t,sx⟩:=ha;exact⟨_,s1,h1,ρ1,w1,tm1,ds1,q,st,hs1,hd1,t,.head Jr sx⟩
theorem VR{c:Code}(ht:T P rd c s h (λe s1 h1=>match e with | .normal=>T P rd (.loop c) s1 h1 Q|e=>Q e s1 h1)):T P rd (.loop c) s h Q:=by
 intro ρ w tm ds hr hs b hb k cs;obtain⟨e,s1,h1,ρ1,w1,tm1,ds1,q,st,hs1,hd1,ha⟩:=ht ρ w tm ds hr hs b hb (.inLoop c::k) cs;cases e with
 |normal=>
  obtain⟨e2,s2,h2,ρ2,w2,tm2,ds2,q2,st2,hs2,hd2,ha2⟩:=q ρ1 w1 tm1 ds1 st.rel hs1 b (hb.mono st.le) k cs;refine⟨e2,s2,h2,ρ2,w2,tm2,ds2,q2,st.trans st2,hs2,hd1.trans hd2 st.size st.rel st2,?_⟩;have e0:step P (lone (vD b tm1 ds1 (.inLoop c::k)) cs w1)=step P (lone (vD b tm1 ds1 (.code (.loop c)::k)) cs w1):=by rw[BU,Q5]
  have key:∀m',Steps P (lone (vD b tm1 ds1 (.code (.loop c)::k)) cs w1) m'->(m'=lone (vD b tm1 ds1 (.code (.loop c)::k)) cs w1)\/Steps P (lone (vD b tm1 ds1 (.inLoop c::k)) cs w1) m':=by
   rintro m' ⟨n,hn⟩;cases n with
   |zero=>left;simp[runN]at hn;exact hn.symm
   |succ n=>right;exact⟨n+1,by simp only[runN]at hn ⊢;rw[e0];exact hn⟩
  have go:∀m',Steps P (lone (vD b tm1 ds1 (.code (.loop c)::k)) cs w1) m'->m'≠lone (vD b tm1 ds1 (.code (.loop c)::k)) cs w1->Steps P (lone (vD b tm ds (.code (.loop c)::k)) cs w) m':=by
   intro m' hm hne;exact(Steps.head Q5 ha).trans ((key m' hm).resolve_left hne)
  have neq:∀(k':List Item) tm' ds' w',(k'=k\/(∃x t,k'=.code x::t /\ ∀c,x ≠ .loop c))->lone (vD b tm' ds' k') cs w'≠lone (vD b tm1 ds1 (.code (.loop c)::k)) cs w1:=by
   intro k' tm' ds' w' hk' e;simp only[lone,Machine.mk.injEq,Array.mk.injEq,abe,Goroutine.mk.injEq,vD,Frame.mk.injEq]at e;have e:=e.2.1.1.1.2.2.1;rcases hk' with rfl|⟨x,t,rfl,hx⟩
   ·have:=congrArg List.length e;simp at this
   ·simp only[abe,Item.code.injEq]at e;exact hx c e.1
  cases e2 with
  |normal=>exact go _ ha2 (neq _ _ _ _ (.inl rfl))
  |exit id=>obtain⟨t,et,sx⟩:=ha2;exact⟨t,et,go _ sx (neq _ _ _ _ (.inr ⟨_,_,rfl,λc=>by simp⟩))⟩
  |ret=>obtain⟨t,sx⟩:=ha2;exact⟨t,go _ sx (neq _ _ _ _ (.inr ⟨_,_,rfl,λc=>by simp⟩))⟩
 |exit id=>obtain⟨t,et,sx⟩:=ha;exact⟨_,s1,h1,ρ1,w1,tm1,ds1,q,st,hs1,hd1,t,by rw[et];simp[exitTo],.head Q5 sx⟩
 |ret=>obtain⟨t,sx⟩:=ha;exact⟨_,s1,h1,ρ1,w1,tm1,ds1,q,st,hs1,hd1,t,.head Q5 sx⟩
end rules
def yw(ops:Array Oper)(s:Env)(o:Oper):Bool :=
 match o.guard with
 |none=>true
 |some (j,want)=>(match (ops[j]?).bind (·.dst) with
  |none=>false
  |some d=>(match s.get d with
   | .bool b=>b == want
   |_=>false))
theorem XC{ρ:xA}{s:Env}{tm:Array aaa}(hs:vL ρ s tm)(ops:Array Oper)(o:Oper):Region.wanted o (yielded ops tm)=yw ops s o:=by
 unfold Region.wanted yw;split
 ·rename_i e;rw[e]
 ·rename_i j want e;rw[e];simp only[yielded];cases hd:(ops[j]?).bind (·.dst) with
  |none=>rfl
  |some d=>
   simp only[acg];have hv:=hs.get d;cases ht:tm[d]? with
   |none=>
    have:tm.getD d undef=undef:=(by simp[aaA,ht]);rw[this]at hv;generalize s.get d=sv at hv;cases hv with
    |ry h=>cases h
    |tuple _ _=>rfl
   |some tv=>
    have:tm.getD d undef=tv:=(by simp[aaA,ht]);rw[this]at hv;generalize s.get d=sv at hv;cases hv with
    |ry h=>cases tv <;> first|rfl|cases h
    |bool bb=>cases bb <;> cases want <;> rfl
    |_=>rfl
section ops
variable {s:Env}{h:za}{Q:Env->za->Prop}{ops:Array Oper}
theorem Np(hq:Q s h):TO P ops [] s h Q:=λρ w tm ds hr hs b k cs=>⟨s,h,ρ,w,tm,hq,.refl hr,hs,.refl P _⟩
theorem Vv{o:Oper}{v:aaa}{h1:za}(ho:UM P s o h=some (v,h1)):XS o.op=false:=by
 cases yj:o.op <;> first|rfl|(unfold UM at ho;rw[yj]at ho;cases ho)
theorem Ty{i:Nat}{rest:List Nat}{o:Oper}(ho:ops[i]? = some o)(hw:yw ops s o=true){v:aaa}{h1:za}{s1:Env}(hd:XS o.op=false)(hok:∀(ρ:xA) (w:World) (a:Act),Rel P ρ h w->vL ρ s a.tmps->mH P ρ h w (execOp a.eval o) v h1)(hp:s.put o.dst v=some s1)(ht:TO P ops rest s1 h1 Q) :
  TO P ops (i::rest) s h Q:=by
 intro ρ w tm ds hr hs b k cs;obtain⟨n,w1,ρ1,v',e,hn,st,hv⟩:=hok ρ w ⟨tm,ds⟩ hr hs;have hs1:vL ρ1 s1 (qj tm o.dst v'):=(hs.mono st.le).put hv hp;obtain⟨s2,h2,ρ2,w2,tm2,q,st2,hs2,sx⟩:=ht ρ1 w1 _ ds st.rel hs1 b k cs;have hw':Region.wanted o (yielded ops tm)=true:=(XC hs ops o).trans hw;refine⟨s2,h2,ρ2,w2,tm2,q,st.trans st2,hs2,.head ?_ sx⟩
 have hfin:(vD b tm ds (.inRegion ops (i::rest)::k)).finish v'=vD b (qj tm o.dst v') ds (.inRegion ops rest::k):=by
  rw[jX,ho];rfl
 rw[<- hfin];rcases hn with rfl|⟨rfl,rfl⟩
 ·exact Xd ho hw' hd e
 ·exact XR ho hw' hd e
theorem Tz{i:Nat}{rest:List Nat}{o:Oper}(ho:ops[i]? = some o)(hw:yw ops s o=true){v:aaa}{h1:za}{s1:Env}(yj:UM P s o h=some (v,h1))(hp:s.put o.dst v=some s1)(ht:TO P ops rest s1 h1 Q) :
  TO P ops (i::rest) s h Q:=by
 intro ρ w tm ds hr hs b k cs;obtain⟨n,w1,ρ1,v',e,hn,st,hv⟩:=Ah (a:=⟨tm,ds⟩) yj hr hs;have hs1:vL ρ1 s1 (qj tm o.dst v'):=(hs.mono st.le).put hv hp;obtain⟨s2,h2,ρ2,w2,tm2,q,st2,hs2,sx⟩:=ht ρ1 w1 _ ds st.rel hs1 b k cs;have hw':Region.wanted o (yielded ops tm)=true:=(XC hs ops o).trans hw;refine⟨s2,h2,ρ2,w2,tm2,q,st.trans st2,hs2,.head ?_ sx⟩
 have hfin:(vD b tm ds (.inRegion ops (i::rest)::k)).finish v'=vD b (qj tm o.dst v') ds (.inRegion ops rest::k):=by
  rw[jX,ho];rfl
 rw[<- hfin];rcases hn with rfl|⟨rfl,rfl⟩
 ·exact Xd ho hw' (Vv yj) e
 ·exact XR ho hw' (Vv yj) e
theorem Hv{i:Nat}{rest:List Nat}{o:Oper}(ho:ops[i]? = some o)(hw:yw ops s o=false){s1:Env}(hp:s.put o.dst undef=some s1)(ht:TO P ops rest s1 h Q):TO P ops (i::rest) s h Q:=by
 intro ρ w tm ds hr hs b k cs;have hs1:vL ρ s1 (qj tm o.dst undef):=hs.put (.ZM _ rfl) hp;obtain⟨s2,h2,ρ2,w2,tm2,q,st2,hs2,sx⟩:=ht ρ w _ ds hr hs1 b k cs;refine⟨s2,h2,ρ2,w2,tm2,q,st2,hs2,.head ?_ sx⟩;have hw':Region.wanted o (yielded ops tm)=false:=(XC hs ops o).trans hw;rw[bF (by rw[ho];exact hw'),jX,ho];rfl
def xW(P:Program)(g:FuncId):Bool :=
 match P.funcs[g]? with
 |some fn=>fn.body.isSome && !(fn.name == "runtime.NumGoroutine")
 |none=>false
theorem Hu{i:Nat}{rest:List Nat}{o:Oper}{f:Operand}{cargs:Array Operand}{ts:Array TypeId}{g:FuncId}{fa fc:Array aaa}{vs:List aaa}{R:aaa->za->Prop}
  (ho:ops[i]? = some o) (hw:yw ops s o=true) (yj:o.op=.call {callee := .value f,args:=cargs,argTypes:=ts}) (hf:kT s f=some (.func (.func g) fa fc)) (hargs:VO s cargs.toList=some vs)
  (hcall:xW P g=true) (hc:TC P g (fa.toList++vs++fc.toList) h R) (ht:∀v h1,R v h1->∃s1,s.put o.dst v=some s1/\TO P ops rest s1 h1 Q):TO P ops (i::rest) s h Q:=by
 intro ρ w tm ds hr hs b k cs;have hw':Region.wanted o (yielded ops tm)=true:=(XC hs ops o).trans hw;have e1:=zW (a:=⟨tm,ds⟩) hs hf;have e2:=jU (a:=⟨tm,ds⟩) hs hargs;generalize hfv:Act.eval ⟨tm,ds⟩ f=fv at e1;cases e1 with
 |func ha hcs h1 h2=>
  rename_i fa' fc'
  let full:=fa'.toList++cargs.toList.map (Act.eval ⟨tm,ds⟩)++fc'.toList
  have hfull:wI ρ (fa.toList++vs++fc.toList) full :=
   (wI.append ⟨by simpa using ha,λi x y hx hy=>h1 i x y (by simpa using hx) (by simpa using hy)⟩ e2).append ⟨by simpa using hcs,λi x y hx hy=>h2 i x y (by simpa using hx) (by simpa using hy)⟩
  have hrun:(execOp (Act.eval ⟨tm,ds⟩) o).run P w=.ok (.enter g full.toArray) w:=by
   have hargs':fa'++cargs.map (Act.eval ⟨tm,ds⟩)++fc'=full.toArray:=by apply ab3;simp[full]
   simp only[execOp,yj,resolve,hfv,Deferred.ofValue,aai,aan,aad,invoke,callFunc,run_program,hargs'];unfold xW at hcall;cases hfn:P.funcs[g]? with
   |none=>rw[hfn]at hcall;cases hcall
   |some fn=>
    rw[hfn]at hcall;simp only[aac,aao]at hcall;simp only[hcall.2,abh,ab1];rw[aae (by cases hb:fn.body <;> simp_all)];rfl
  obtain⟨e,w1,fr,⟨v,v',h',ρ',rfl,hR,st,hv⟩,hcomes,_,hleave⟩:=hc ρ w full hr hfull (vD b tm ds (.inRegion ops (i::rest)::k)::cs);obtain⟨s1,hp,hrest⟩:=ht v h' hR;have hs1:vL ρ' s1 (qj tm o.dst v'):=(hs.mono st.le).put hv hp;obtain⟨s2,h2,ρ2,w2,tm2,q,st2,hs2,sx⟩:=hrest ρ' w1 _ ds st.rel hs1 b k cs;have hd:XS o.op=false:=by rw[yj];rfl
  refine⟨s2,h2,ρ2,w2,tm2,q,st.trans st2,hs2,.head (Jq ho hw' hd hrun) (abX hcomes (.head (step_leave_returned hleave) ?_))⟩;rw[jX,ho];exact sx
end ops
def IU(P:Program)(g:FuncId)(args:List aaa)(h:za):Option (aaa×za) :=
 match P.funcs[g]? with
 |some fn=>cond (fn.body.isNone&&decide (fn.name = "internal/abi.NoEscape")&&(Extern.findNext fn).isNone) (match args with
  |[x]=>some (x,h)
  |_=>none) none
 |none=>none
theorem GH {fn:Func} (h:fn.name = "internal/abi.NoEscape"):Extern.find fn=some Extern.AbiNoEscape.same:=by
 unfold Extern.find;rw[h];rfl
theorem Pv{ρ:xA}{s:Env}{h h1:za}{w:World}{a:Act}{o:Oper}{f:Operand}{cargs:Array Operand}{ts:Array TypeId}{g:FuncId}{fa fc:Array aaa}{vs:List aaa}{v:aaa}
  (yj:o.op=.call {callee := .value f,args:=cargs,argTypes:=ts}) (hf:kT s f=some (.func (.func g) fa fc)) (hargs:VO s cargs.toList=some vs) (he:IU P g (fa.toList++vs++fc.toList) h=some (v,h1)) (hr:Rel P ρ h w) (hs:vL ρ s a.tmps) :
  mH P ρ h w (execOp a.eval o) v h1:=by
 have e1:=zW hs hf;have e2:=jU hs hargs;generalize hfv:a.eval f=fv at e1;cases e1 with
 |func ha hcs q1 q2=>
  rename_i fa' fc'
  let full:=fa'.toList++cargs.toList.map a.eval++fc'.toList
  have hfull:wI ρ (fa.toList++vs++fc.toList) full :=
   (wI.append ⟨by simpa using ha,λi x y hx hy=>q1 i x y (by simpa using hx) (by simpa using hy)⟩ e2).append ⟨by simpa using hcs,λi x y hx hy=>q2 i x y (by simpa using hx) (by simpa using hy)⟩
  have hargs':fa'++cargs.map a.eval++fc'=full.toArray:=by apply ab3;simp[full]
  unfold IU at he;split at he
  case h_2=>cases he
  rename_i fn hfn;obtain⟨hc,he⟩:=zq he;simp only[aac,aaG]at hc;obtain⟨⟨hb,hn⟩,hx⟩:=hc;split at he
  case h_2=>cases he
  rename_i x hl;simp only[aab,aaf]at he;obtain⟨rfl,rfl⟩:=he;rw[hl]at hfull;obtain⟨y,ys,hy,v1,hv2⟩:=hfull.cons_inv;cases hv2.uI;have hfn':Extern.findNext fn=none:=by simpa using hx
  refine⟨.value y,w,ρ,y,?_,.inl rfl,.refl hr,v1⟩;simp only[execOp,yj,resolve,hfv,Deferred.ofValue,aai,aan,aad,invoke,hargs',hy];rw[Go.run_callFunc_extern hfn (by rw[hn];decide) hb hfn' (GH hn)];rfl
def p6(P:Program)(g:FuncId)(args:List aaa)(h:za):Option (aaa×za) :=
 match P.funcs[g]?,args with
 |some fn,[.int .i64 n]=>cond (fn.body.isNone&&decide (fn.name = "internal/bytealg.MakeNoZero")&&(Extern.findNext fn).isNone&&decide (0<=n)&&decide (n<=2^48))
   (match fn.resultTypes[0]? with
    |some t=>(match yd P (underlying t) with
     |some (.slice e)=>cond (Nat.beq (P.cellsOf e) 1) (some (.slice (some ⟨h.next,0,none⟩) n.toNat 1,h.push (.cells [] e))) none
     |_=>none)
    |none=>none) none
 |_,_=>none
theorem sF {fn:Func} (h:fn.name = "internal/bytealg.MakeNoZero"):Extern.find fn=some (Extern.BytealgMakeNoZero.makeNoZero fn.params fn.resultTypes):=by
 unfold Extern.find;rw[h];rfl
theorem Cv{ρ:xA}{h:za}{w:World}(hr:Rel P ρ h w){ps rs:Array TypeId}{t e:TypeId}{n:Int}(ht:rs[0]? = some t)(hu:yd P (underlying t)=some (.slice e))(hc:P.cellsOf e=1)(h0:0<=n)(hn:n<=2^48) :
  ∃v' w' ρ',(Extern.BytealgMakeNoZero.makeNoZero ps rs #[.int .i64 n]).run P w=.ok v' w'/\Step P ρ h w ρ' (h.push (.cells [] e)) w'/\zG ρ' (.slice (some ⟨h.next,0,none⟩) n.toNat 1) v':=by
 let q:Question := .appendCap n.toNat 0 e
 let cap:=q.cut (w.tape w.drawn q)
 have hge:n.toNat<=cap:=by show n.toNat<=n.toNat+_%_;omega
 let w1:World:={w with drawn:=w.drawn+1}
 let q2:Question := .extern "internal/bytealg.MakeNoZero.bytes" 0
 let bytes:=q2.cut (w1.tape w1.drawn q2)
 let w2:World:={w1 with drawn:=w1.drawn+1}
 let cs:=Extern.BytealgMakeNoZero.digits cap bytes #[]
 have hcs:cs.size=cap:=by simp only[cs,Lib.size_digits];simp
 have hr2:Rel P ρ h w2:=hr.grow (λk _=>rfl)
 let w3:World:={w2 with heap:=w2.heap.push (.cells cs e)}
 have st:=Step.push (t:=e) hr2 (c:=[]) (cs:=cs) (fz:=(0,0)) (w':=w3) rfl (λi _ hi=>by simp at hi) (by simp) (λk x hx=>by simp at hx) rfl rfl rfl;refine⟨.slice (some ⟨w.heap.size,0,none⟩) n.toNat cap,w3,_,?_,⟨st.le,st.rel,st.ro,st.os,st.tape,st.output,st.size,st.frame,st.mo⟩,?_⟩
 ·have hq:(choose (.appendCap n.toNat 0 e)).run P w=.ok cap w1:=by rw[run_choose];rfl
  have hq2:(choose (.extern "internal/bytealg.MakeNoZero.bytes" 0)).run P w1=.ok bytes w2:=by rw[run_choose];rfl
  have hneg:¬(n<0\/n>2^48):=by omega
  have hnr:(newRow e cs).run P w2=.ok ⟨w.heap.size,0,none⟩ w3:=rfl;rw[show Extern.BytealgMakeNoZero.makeNoZero ps rs #[.int .i64 n]=(match rs[0]? with|some t=>(underlying t >>= _)|_=>_) from rfl];simp only[ht,aai,zh hu,aad];rw[aae (by simpa using hneg)];simp only[aai,hq,aad,run_askRoom,hq2];rw[show Extern.BytealgMakeNoZero.digits cap bytes #[]=cs from rfl,hnr];rfl
 ·have:=zG.slice (ρ:=ρ.ext ⟨w2.heap.size,0,cs.size,P.cellsOf e⟩) (b:=h.next) (off:=0) (len:=n.toNat) (c:=1) (cap:=cap) (pl:=⟨w2.heap.size,0,cs.size,P.cellsOf e⟩)
   (by show h.next<ρ.next+1;rw[hr.next];exact aa6 _) (by rw[<- hr.next];exact ρ.kq _) hge (λ_=>⟨by simp[hc,hcs],λk hk=>by omega⟩)
  exact this
def BB(P:Program)(g:FuncId)(args:List aaa)(h:za):Option (aaa×za) :=
 match IU P g args h with
 |some r=>some r
 |none=>p6 P g args h
theorem BC{ρ:xA}{s:Env}{h h1:za}{w:World}{a:Act}{o:Oper}{f:Operand}{cargs:Array Operand}{ts:Array TypeId}{g:FuncId}{fa fc:Array aaa}{vs:List aaa}{v:aaa}
  (yj:o.op=.call {callee := .value f,args:=cargs,argTypes:=ts}) (hf:kT s f=some (.func (.func g) fa fc)) (hargs:VO s cargs.toList=some vs) (he:BB P g (fa.toList++vs++fc.toList) h=some (v,h1)) (hr:Rel P ρ h w) (hs:vL ρ s a.tmps) :
  mH P ρ h w (execOp a.eval o) v h1:=by
 unfold BB at he;split at he
 ·rename_i r hn;simp only[aab]at he;subst he;exact Pv yj hf hargs hn hr hs
 ·have e1:=zW hs hf;have e2:=jU hs hargs;generalize hfv:a.eval f=fv at e1;cases e1 with
  |func ha hcs q1 q2=>
   rename_i fa' fc'
   let full:=fa'.toList++cargs.toList.map a.eval++fc'.toList
   have hfull:wI ρ (fa.toList++vs++fc.toList) full :=
    (wI.append ⟨by simpa using ha,λi x y hx hy=>q1 i x y (by simpa using hx) (by simpa using hy)⟩ e2).append ⟨by simpa using hcs,λi x y hx hy=>q2 i x y (by simpa using hx) (by simpa using hy)⟩
   have hargs':fa'++cargs.map a.eval++fc'=full.toArray:=by apply ab3;simp[full]
   unfold p6 at he;split at he
   case h_2=>cases he
   rename_i fn n hfn hl;obtain⟨hc,he2⟩:=zq he;clear he;simp only[aac,aaG]at hc;obtain⟨⟨⟨⟨hb,hn⟩,hx⟩,h0⟩,h48⟩:=hc;split at he2
   case h_2=>cases he2
   rename_i t ht;split at he2
   case h_2=>cases he2
   rename_i e hu;obtain⟨hce,he3⟩:=zq he2;simp only[aab,aaf]at he3;obtain⟨rfl,rfl⟩:=he3;rw[hl]at hfull;obtain⟨y,ys,hy,v1,hv2⟩:=hfull.cons_inv;cases hv2.uI;cases v1;have hfn':Extern.findNext fn=none:=by simpa using hx
   obtain⟨v',w',ρ',er,st,hv⟩:=Cv (ps:=fn.params) hr ht hu (aal hce) h0 h48;refine⟨.value v',w',ρ',v',?_,.inl rfl,st,hv⟩;simp only[execOp,yj,resolve,hfv,Deferred.ofValue,aai,aan,aad,invoke,hargs',hy];rw[Go.run_callFunc_extern hfn (by rw[hn];decide) hb hfn' (sF hn),er];rfl
def iz:aaa->Bool
 | .tuple a=>a.toList.all flat
 |v=>flat v
theorem Lh{ρ:xA}{v v':aaa}(h:zG ρ v v')(hp:iz v=true)(ρ2:xA):zG ρ2 v v':=by
 cases v with
 |tuple a=>
  cases h with
  |tuple ha hv=>
   simp only[iz,aav]at hp;refine .tuple ha (λi x y hx hy=>?_);have hf:=hp x (aax (by simpa using hx));rw[kr (hv i x y hx hy) hf];exact .of_flat _ hf
 |_=>rw[kr h hp];exact .of_flat _ hp
theorem Rel.lock{ρ:xA}{h:za}{w:World}(hr:Rel P ρ h w):Rel P ρ h.lock w :=
 ⟨hr.next,aaj _,hr.KJ,λb o hb=>by obtain⟨pl,hp,hc⟩:=hr.ok b o hb;exact⟨pl,hp,hc.Nc (λe=>by
  have:h.next<=b:=aa7 e;have:=hr.KJ b _ hb;omega)⟩,hr.inj,aaU hr.lq hr.ro,hr.Y0⟩
theorem TC.quiet{f:FuncId}{args:List aaa}{h:za}{R:aaa->za->Prop}(ht:TC P f args h.lock R)(hsc:∀v h1,R v h1->iz v=true):TC P f args h (λv h1=>(∃h2,R v h2)/\h1=h):=by
 intro ρ w cargs hr hv;refine(ht ρ w cargs hr.lock hv).mono λe w'=>?_;rintro⟨v,v',h',ρ',e1,hR,st,hvv⟩
 have hsame:∀c,c<w.heap.size->w'.heap[c]? = w.heap[c]?:=λc hc=>st.frame c hc (by
  rintro⟨b,o,pl,hg,hro,_⟩;have h1:h.next<=b:=hro;have h2:=hr.KJ b o hg;omega)
 exact⟨v,v',h,ρ,e1,⟨⟨h',hR⟩,rfl⟩,⟨xA.le_refl _,hr.grow hsame,rfl,st.os,st.tape,st.output,st.size,λc hc _=>hsame c hc,λc _ hm=>hm⟩,Lh hvv (hsc v h' hR) ρ⟩
theorem CN{rd:Option Nat}{id:Nat}{ops:Array Oper}{s:Env}{h:za}{Q:Ex->Env->za->Prop}(ht:TO P ops (List.range ops.size) s h (λs1 h1=>Q .normal s1 h1)):T P rd (.region id ops false) s h Q:=by
 intro ρ w tm ds hr hs b hb k cs;obtain⟨s1,h1,ρ1,w1,tm1,q,st,hs1,sx⟩:=ht ρ w tm ds hr hs b k cs;exact⟨.normal,s1,h1,ρ1,w1,tm1,ds,q,st,hs1,.refl _ _ _,.head BV (sx.trans (.one XE))⟩
end
noncomputable section
variable {P:Program}
theorem E1(fr:Frame)(hm:fr.mode=.returning):∀(rs:List Nat) (w:World),fr.defers=rs.map E4->rs.Nodup->(∀r,r∈rs->w.heap[r]? = some (.deferred (some [])))->∀cs,
  ∃w',Steps P (lone fr cs w) (lone {fr with defers:=[]} cs w')/\w'.os=w.os/\w'.tape=w.tape/\w'.output=w.output/\w'.heap.size=w.heap.size/\(∀k,k∉rs->w'.heap[k]? = w.heap[k]?):=by
 intro rs
 induction rs generalizing fr with
 |nil=>intro w hd _ _ cs;refine⟨w,?_,rfl,rfl,rfl,rfl,λ_ _=>rfl⟩;rw[show fr = {fr with defers:=[]} by cases fr;simp_all];exact .refl P _
 |cons r rs ih=>
  intro w hd hn hb cs;have hr:=hb r (by simp);have hlt:=il hr
  let w1:World:={w with heap:=w.heap.setIfInBounds r (.deferred none)}
  have hn:=List.nodup_cons.1 hn;have hother:∀k,k≠r->w1.heap[k]? = w.heap[k]?:=λk hk=>by show(w.heap.setIfInBounds r _)[k]? = _;rw[aa5,aae (Ne.symm hk)]
  obtain⟨w',hs,h1,h2,h3,h4,h5⟩:=ih {fr with defers:=rs.map E4} hm w1 rfl hn.2 (λk hk=>(hother k (λe=>hn.1 (e ▸ hk))).trans (hb k (by simp[hk]))) cs;refine⟨w',.head ?_ hs,h1,h2,h3,by rw[h4];simp[w1],λk hk=>?_⟩
  ·refine step_lone_go ?_;have hd':fr.defers = {target := .collected r,args := #[]} :: rs.map E4:=hd
   have hrun:(Instr.takeDeferred r).run P w=.ok [] w1:=by
    simp only[Instr.takeDeferred,getObj,setObj,aai];simp only[Sem.run,hr,aad,aai];rfl
   simp only[stepG,hm,unwind,hd',Sem.runT_eq,hrun,GStep.bare_after];simp[GStep.bare]
  ·simp only[aaz,not_or]at hk;exact(h5 k hk.2).trans (hother k hk.1)
def qJ(P:Program)(s:Env)(h:za):List ResultVar->Option (List aaa)
 |[]=>some []
 | .tmp t::rs=>(match qJ P s h rs with
   |some vs=>some (s.get t::vs)
   |none=>none)
 | .cell a t::rs=>(match zd P t (s.get a) h with
   |some v=>(match qJ P s h rs with
    |some vs=>some (v::vs)
    |none=>none)
   |none=>none)
def xV:List aaa->aaa
 |[v]=>v
 |vs => .tuple vs.toArray
def Ft(tm:Array aaa):ResultVar->Sem aaa
 | .tmp t=>pure (tm.getD t undef)
 | .cell a t=>do loadVar t (<- asAddr (tm.getD a undef))
theorem Hf(fn:Func)(tm:Array aaa):results fn tm=(do let vs <- fn.results.mapM (Ft tm);pure (if h:vs.size=1 then vs[0] else .tuple vs)):=rfl
theorem Vl{ρ:xA}{s:Env}{h:za}{w:World}{tm:Array aaa}(hr:Rel P ρ h w)(hs:vL ρ s tm):∀{rs:List ResultVar} {vs:List aaa},qJ P s h rs=some vs ->
  ∃vs',(rs.mapM (Ft tm)).run P w=.ok vs' w/\wI ρ vs vs'
 |[],vs,he=>by simp only[qJ,aab]at he;subst he;exact⟨[],rfl,.nil ρ⟩
 | .tmp t::rs,vs,he=>by
   simp only[qJ]at he;split at he
   case h_2=>cases he
   rename_i vs0 h0;simp only[aab]at he;subst he;obtain⟨vs',e,hv⟩:=Vl hr hs h0;exact⟨_,by simp only[List.mapM_cons,Ft,aai,aan,aad,e],.cons (hs.get t) hv⟩
 | .cell a t::rs,vs,he=>by
   simp only[qJ]at he;split at he
   case h_2=>cases he
   rename_i v hv0;split at he
   case h_2=>cases he
   rename_i vs0 h0;simp only[aab]at he;subst he;obtain⟨vs',e,hv⟩:=Vl hr hs h0;obtain⟨v',e1,hv1⟩:=i6 hv0 hr (hs.get a)
   have e2:(do loadVar t (<- asAddr (tm.getD a undef)):Sem aaa).run P w=.ok v' w:=by
    have hp:=hs.get a;generalize tm.getD a undef=x at hp e1 ⊢;unfold zd at hv0;split at hv0
    ·rename_i hb;rw[hb]at hp;cases hp;simpa [Instr.loadAt,Instr.sureAddr,asAddr] using e1
    ·rename_i hb;rw[hb]at hp;cases hp;simpa [Instr.loadAt,Instr.sureAddr,asAddr] using e1
    ·cases hv0
   exact⟨_,by rw[List.mapM_cons,aai,show Ft tm (.cell a t)=(do loadVar t (<- asAddr (tm.getD a undef)):Sem aaa) from rfl,e2];simp only[aai,aad,e,aan],.cons hv1 hv⟩
theorem Fu{ρ:xA}{s:Env}{h:za}{w:World}{tm:Array aaa}(hr:Rel P ρ h w)(hs:vL ρ s tm){fn:Func}{vs:List aaa}(he:qJ P s h fn.results.toList=some vs) :
  ∃v',(results fn tm).run P w=.ok v' w/\zG ρ (xV vs) v':=by
 obtain⟨vs',e,hv⟩:=Vl hr hs he
 have em:(fn.results.mapM (Ft tm)).run P w=.ok vs'.toArray w:=by
  rw[Array.mapM_eq_mapM_toList,Sem.run_map,e];rfl
 rw[Hf];simp only[aai];refine⟨if h:vs'.toArray.size=1 then vs'.toArray[0] else .tuple vs'.toArray,?_,?_⟩
 ·rw[em];simp only[aad,aan]
 ·unfold xV;split
  ·rename_i v;obtain⟨y,ys,rfl,h1,h2⟩:=hv.cons_inv;cases h2.uI;simpa using h1
  ·rename_i hne
   rw[dif_neg (by
    intro h1;have h1:vs'.length=1:=by simpa using h1
    have h2:vs.length=1:=(by rw[hv.1];exact h1);cases vs with
    |nil=>cases h2
    |cons v vs=>cases vs with
     |nil=>exact hne v rfl
     |cons=>simp at h2)]
   exact .tuple (by simpa using hv.1) (λi x y hx hy=>hv.2 i x y (by simpa using hx) (by simpa using hy))
theorem Ht{f:FuncId}{fn:Func}{c:Code}{args:List aaa}{h:za}{R:aaa->za->Prop}(hf:P.funcs[f]? = some fn)(hb:fn.body=some c)
  (ht:T P none c (Env.enter args fn.ntmps) h (λe s1 h1=>(e=.normal\/e=.ret) /\ ∃vs,qJ P s1 h1 fn.results.toList=some vs/\R (xV vs) h1)):TC P f args h R:=by
 intro ρ w cargs hr hv cs
 let b:Frame:={ (default:Frame) with fn:=f,kind := .normal,roundOf:=none}
 let tm:Array aaa:=cargs.toArray++Array.replicate (fn.ntmps-cargs.toArray.size) undef
 have henter:Frame.enter P f cargs.toArray .normal=vD b tm [] [.code c]:=by simp[Frame.enter,vD,hf,hb,b,tm]
 have hs:vL ρ (Env.enter args fn.ntmps) tm:=by
  refine⟨?_,λi=>?_⟩
  ·simp only[Env.pw,tm,Array.size_append,Array.size_replicate,List.size_toArray,hv.1];omega
  ·rw[Env.Mm];rcases aaI i args.length with hi|hi
   ·obtain⟨y,hy,hxy⟩:=hv.get (aag hi)
    have e1:tm[i]? = some y:=by
     rw[Array.getElem?_append_left (by simp;rw[<- hv.1];exact hi)];simpa using hy
    rw[aag hi];simp only[abC,aaA,e1];exact hxy
   ·rw[aas hi]
    have e1:tm.getD i undef=undef:=by
     simp only[aaA,tm];rw[Array.getElem?_append_right (by simp;rw[<- hv.1];exact hi)];rw[abQ];split <;> rfl
    rw[e1];exact .ZM ρ rfl
 obtain⟨e,s1,h1,ρ1,w1,tm1,ds1,⟨he,vs,hvs,hR⟩,st,hs1,⟨rs,hd1,hnd,hb1⟩,ha⟩:=ht ρ w tm [] hr hs b rfl [] cs
 obtain⟨todo,hret⟩:∃todo,Steps P (lone (Frame.enter P f cargs.toArray .normal) cs w) (lone {vD b tm1 ds1 todo with mode := .returning} cs w1):=by
  rw[henter];rcases he with rfl|rfl
  ·exact⟨[],abX ha (.one (Mk rfl))⟩
  ·obtain⟨t,sx⟩:=ha;exact⟨_,sx.trans (.one (Ml rfl))⟩
 rw[abm]at hd1;obtain⟨w2,hs2,e1,e2,e3,e4,e5⟩:=E1 (P:=P) {vD b tm1 ds1 todo with mode := .returning} rfl rs w1 hd1 hnd (λr hr=>(hb1 r hr).2) cs
 have hnot:∀b0 o pl,h1.get b0=some o->ρ1.m b0=some pl->pl.c∉rs:=by
  intro b0 o pl hg hm hin;have hc:=st.rel.PA hg hm;have hx:=(hb1 _ hin).2;cases o with
  |cells c t=>obtain⟨cs,fz,q1,_⟩:=hc;rw[hx]at q1;cases q1
  |map es q=>obtain⟨ms,q1,_⟩:=hc;rw[hx]at q1;cases q1
  |iter m a b c=>obtain⟨m',q1,_⟩:=hc;rw[hx]at q1;cases q1
  |tab c=>obtain⟨t,cs,fz,q1,_⟩:=hc;rw[hx]at q1;cases q1
  |siter s pos=>have q1:w1.heap[pl.c]? = _:=hc.1;rw[hx]at q1;cases q1
  |loop l=>obtain⟨tm,d,fn',q1,_⟩:=hc;rw[hx]at q1;cases q1
 have hr2:Rel P ρ1 h1 w2:=⟨st.rel.next,st.rel.ro,st.rel.KJ,λb0 o0 hg=>by
  obtain⟨pl,hp,hc⟩:=st.rel.ok b0 o0 hg;exact⟨pl,hp,hc.other (e5 _ (hnot _ _ _ hg hp))⟩,st.rel.inj,st.rel.lq,st.rel.Y0⟩
 obtain⟨v',hv',hvr⟩:=Fu hr2 hs1 hvs;refine⟨.returned v',w2,{vD b tm1 ds1 todo with mode := .returning,defers:=[]},⟨xV vs,v',h1,ρ1,rfl,hR,?_,hvr⟩,hret.trans hs2,rfl,rfl,rfl,rfl,fn,hf,hv'⟩
 exact⟨st.le,hr2,st.ro,e1.trans st.os,e2.trans st.tape,e3.trans st.output,by rw[e4];exact st.size,
  λc hc hn=>(e5 c (λhin=>by have:=(hb1 c hin).1;omega)).trans (st.frame c hc hn),st.mo⟩
end
noncomputable section
variable {P:Program}
theorem Xy{s s':Env}:∀{xs:List Operand},(∀x,x∈xs->kT s x=kT s' x)->VO s xs=VO s' xs
 |[],_=>rfl
 |x::xs,h=>by simp only[VO];rw[h x (by simp),Xy (λy hy=>h y (by simp[hy]))]
theorem QS{s s':Env}:∀{ps:List (Nat×Operand)},(∀x,x∈ps->kT s x.2=kT s' x.2)->Vk s ps=Vk s' ps
 |[],_=>rfl
 |(i,x)::ps,h=>by simp only[Vk];rw[h (i,x) (by simp),QS (λy hy=>h y (by simp[hy]))]
theorem LU{s s':Env}{o:Oper}{g:za}(h:∀x,x∈o.op.operands->kT s x=kT s' x):UM P s o g=UM P s' o g:=by
 obtain⟨dst,op,type,pos,after,guard⟩:=o;have one:∀x,x∈op.operands->kT s x=kT s' x:=h
 have opt:∀x:Option Operand,(∀y,x=some y->y∈op.operands)->sA s x=sA s' x:=by
  intro x hx;cases x with
  |none=>rfl
  |some y=>simp only[sA];rw[one y (hx y rfl)]
 unfold UM
 cases op <;> simp only[] <;> first
  |rfl
  |(rw[one _ (by simp[Op.operands])];done)
  |(rw[one _ (by simp[Op.operands]),one _ (by simp[Op.operands])];done)
  |skip
 case pick c a b=>rw[one c (by simp[Op.operands]),one a (by simp[Op.operands]),one b (by simp[Op.operands])]
 case build t parts=>rw[QS (λx hx=>one _ (by simp only[Op.operands,List.mem_toArray,aa0];exact⟨x,hx,rfl⟩))]
 case buildSlice t n parts=>rw[QS (λx hx=>one _ (by simp only[Op.operands,List.mem_toArray,aa0];exact⟨x,hx,rfl⟩))]
 case makeFunc fn first captured=>
  cases fn <;> simp only[];rw[Xy (s:=s) (s':=s') (xs:=first.toList) (λx hx=>one x (by simp[Op.operands];exact .inl (by simpa using hx))),Xy (s:=s) (s':=s') (xs:=captured.toList) (λx hx=>one x (by simp[Op.operands];exact .inr (by simpa using hx)))]
 case slice t x lo hi mx=>
  cases mx <;> simp only[];rw[one x (by simp[Op.operands]),opt lo (λy e=>by subst e;simp[Op.operands]),opt hi (λy e=>by subst e;simp[Op.operands])]
 case makeMap t r=>cases r <;> rfl
 case mapUpdate t m k x=>rw[one m (by simp[Op.operands]),one k (by simp[Op.operands]),one x (by simp[Op.operands])]
 case call c=>
  obtain⟨callee,args,ts⟩:=c;cases callee <;> simp only[];rw[Xy (s:=s) (s':=s') (λx hx=>one x (by simp[Op.operands,Call.operands];simpa using hx))]
def Env.only(s:Env)(l:List Nat):Env:={t:=l.foldl (λt i=>t.set i (some (s.get i))) .e,size:=s.size}
theorem Env.OR(s:Env)(l:List Nat)(i:Nat):(s.only l).get i=if i∈l then s.get i else undef:=by
 have key:∀(l:List Nat) (t:Tr aaa),(l.foldl (λt i=>t.set i (some (s.get i))) t).get i=if i∈l then some (s.get i) else t.get i:=by
  intro l
  induction l with
  |nil=>intro t;simp
  |cons j l ih=>
   intro t;rw[List.foldl_cons,ih,Tr.yq];by_cases hi:i∈l
   ·simp[hi]
   ·by_cases e:i=j
    ·subst e;simp[hi]
    ·simp[hi,e]
 have:=key l .e;simp only[Env.get_eq,Env.only]at this ⊢;rw[this];split <;> simp
theorem BA{s s':Env}{ops:Array Oper}{o:Oper}(h:∀t,t∈o.looksAt ops->s.get t=s'.get t):∀x,x∈o.op.operands->kT s x=kT s' x:=by
 intro x hx;cases x with
 |tmp t=>
  simp only[kT];rw[h t (by simp only[Oper.looksAt,aaD,List.mem_filterMap];exact .inl ⟨.tmp t,by simpa using hx,rfl⟩)]
 |_=>rfl
theorem UE{tm tm':Array aaa}{ds:List Deferred}{ops:Array Oper}{o:Oper}(h:∀t,t∈o.looksAt ops->tm.getD t undef=tm'.getD t undef):∀x,x∈o.op.operands->Act.eval ⟨tm,ds⟩ x=Act.eval ⟨tm',ds⟩ x:=by
 intro x hx;cases x with
 |tmp t=>exact h t (by simp only[Oper.looksAt,aaD,List.mem_filterMap];exact .inl ⟨.tmp t,by simpa using hx,rfl⟩)
 |_=>rfl
theorem sC{s s':Env}{ops:Array Oper}{o:Oper}(h:∀t,t∈o.looksAt ops->s.get t=s'.get t):yw ops s o=yw ops s' o:=by
 unfold yw;split
 ·rfl
 ·rename_i j want e;split
  ·rfl
  ·rename_i d hd;rw[h d (by simp only[Oper.looksAt,aaD];right;rw[e];simp[hd])]
def ja(P:Program)(ops:Array Oper)(s:Env)(o:Oper)(g:za)(v:aaa)(g':za):Prop :=
 (yw ops s o=false/\v=undef/\g'=g) \/
 (yw ops s o=true/\(UM P s o g=some (v,g') \/
  (∃f cargs ts fid fa fc vs,o.op=.call {callee := .value f,args:=cargs,argTypes:=ts} /\ kT s f=some (.func (.func fid) fa fc)/\VO s cargs.toList=some vs/\xW P fid=true /\
   TC P fid (fa.toList++vs++fc.toList) g (λv1 h1=>v1=v/\h1=g')) \/
  (∃f cargs ts fid fa fc vs,o.op=.call {callee := .value f,args:=cargs,argTypes:=ts} /\ kT s f=some (.func (.func fid) fa fc)/\VO s cargs.toList=some vs/\BB P fid (fa.toList++vs++fc.toList) g=some (v,g'))))
theorem ja.congr{ops:Array Oper}{s s':Env}{o:Oper}{g g':za}{v:aaa}(hs:ja P ops s o g v g')(h:∀t,t∈o.looksAt ops->s.get t=s'.get t):ja P ops s' o g v g':=by
 have e1:=BA h;unfold ja at *
 rw[<- sC h];rcases hs with hs|⟨hw,hs|⟨f,cargs,ts,fid,fa,fc,vs,h1,h2,h3,h4,h5⟩|⟨f,cargs,ts,fid,fa,fc,vs,h1,h2,h3,h4⟩⟩
 ·exact .inl hs
 ·exact .inr ⟨hw,.inl (by rw[<- LU e1];exact hs)⟩
 ·refine .inr ⟨hw,.inr (.inl ⟨f,cargs,ts,fid,fa,fc,vs,h1,?_,?_,h4,h5⟩)⟩
  ·rw[<- e1 f (by rw[h1];simp[Op.operands,Call.operands])];exact h2
  ·rw[<- Xy (s:=s) (s':=s') (xs:=cargs.toList) (λx hx=>e1 x (by rw[h1];simp only[Op.operands,Call.operands];simp;right;simpa using hx))];exact h3
 ·refine .inr ⟨hw,.inr (.inr ⟨f,cargs,ts,fid,fa,fc,vs,h1,?_,?_,h4⟩)⟩
  ·rw[<- e1 f (by rw[h1];simp[Op.operands,Call.operands])];exact h2
  ·rw[<- Xy (s:=s) (s':=s') (xs:=cargs.toList) (λx hx=>e1 x (by rw[h1];simp only[Op.operands,Call.operands];simp;right;simpa using hx))];exact h3
theorem Jz{ops:Array Oper}{s:Env}{o:Oper}{g g':za}{v:aaa}{j:Nat}{ρ:xA}{w:World}{tm:Array aaa}(ho:ops[j]? = some o)(hsem:ja P ops s o g v g')(hr:Rel P ρ g w)
  (hsz:s.size=tm.size) (hl:∀t,t∈o.looksAt ops->zG ρ (s.get t) (tm.getD t undef)) (ds:List Deferred) (rest:List Nat) (b:Frame) (k:List Item) (cs:List Frame) :
  ∃v' w' ρ',Step P ρ g w ρ' g' w'/\zG ρ' v v' /\
   Steps P (lone (vD b tm ds (.inRegion ops (j::rest)::k)) cs w) (lone (vD b (qj tm o.dst v') ds (.inRegion ops rest::k)) cs w'):=by
 let L:=o.looksAt ops
 let s2:=s.only L
 let tm2:Array aaa:=(Array.range tm.size).map λt=>if t∈L then tm.getD t undef else undef
 have hg2:∀t,s2.get t=if t∈L then s.get t else undef:=Env.OR s L
 have ht2:∀t,t∈L->tm2.getD t undef=tm.getD t undef:=by
  intro t ht;simp only[tm2,aaA,Array.getElem?_map];by_cases hlt:t<tm.size
  ·rw[Array.getElem?_range,aah hlt];simp[ht]
  ·rw[Array.getElem?_range,aae hlt];simp[aaJ (abT hlt)]
 have ht2':∀t,t∉L->tm2.getD t undef=undef:=by
  intro t ht;simp only[tm2,aaA,Array.getElem?_map];by_cases hlt:t<tm.size
  ·rw[Array.getElem?_range,aah hlt];simp[ht]
  ·rw[Array.getElem?_range,aae hlt];rfl
 have hs2:vL ρ s2 tm2:=by
  refine⟨by show s.size=_;simp[tm2,hsz],λt=>?_⟩;rw[hg2];by_cases ht:t∈L
  ·rw[aah ht,ht2 t ht];exact hl t ht
  ·rw[aae ht,ht2' t ht];exact .ZM ρ rfl
 have hsem2:ja P ops s2 o g v g':=hsem.congr (λt ht=>by rw[hg2,aah ht])
 have hwant:Region.wanted o (yielded ops tm)=yw ops s2 o:=by
  rw[<- XC hs2 ops o];unfold Region.wanted;cases hgd:o.guard with
  |none=>rfl
  |some gw=>
   obtain⟨q,want⟩:=gw;simp only[]
   have:yielded ops tm q=yielded ops tm2 q:=by
    unfold yielded;cases hd:(ops[q]?).bind (·.dst) with
    |none=>rfl
    |some d=>
     have hdl:d∈L:=(by simp only[L,Oper.looksAt,aaD];right;rw[hgd];simp[hd]);simp only[acg];have e:=ht2 d hdl;simp only[aaA]at e;have IC:tm2.size=tm.size:=by simp[tm2]
     by_cases hlt:d<tm.size
     ·rw[aaL hlt,aaL (IC ▸ hlt)]at e ⊢;simp only[abC]at e;rw[e]
     ·rw[aaJ (abT hlt),aaJ (by rw[IC];exact abT hlt)]
   rw[this]
 rcases hsem2 with⟨hw,rfl,rfl⟩|⟨hw,hs|⟨f,cargs,ts,fid,fa,fc,vs,h1,h2,h3,h4,h5⟩|⟨f,cargs,ts,fid,fa,fc,vs,h1,h2,h3,h4⟩⟩
 ·refine⟨undef,w,ρ,.refl hr,.ZM ρ rfl,.one ?_⟩;rw[bF (by rw[ho];exact hwant.trans hw),jX,ho];rfl
 ·obtain⟨n,w1,ρ1,v',e,hn,st,hv⟩:=Ah (a:=⟨tm2,[]⟩) hs hr hs2;refine⟨v',w1,ρ1,st,hv,.one ?_⟩;have hnd:=Vv hs;have hnsel:∀cs' b',o.op ≠ .select cs' b':=by intro cs' b' e;unfold UM at hs;rw[e]at hs;cases hs
  have e':(execOp (Act.eval ⟨tm,ds⟩) o).run P w=.ok n w1:=by
   rw[<- e]
   congr 1
   refine execOp_congr o hnsel (λx hx=>?_);exact(UE (ds:=ds) (λt ht=>(ht2 t ht).symm) x hx).trans (by cases x <;> rfl)
  have hfin:(vD b tm ds (.inRegion ops (j::rest)::k)).finish v'=vD b (qj tm o.dst v') ds (.inRegion ops rest::k):=by rw[jX,ho];rfl
  rw[<- hfin];rcases hn with rfl|⟨rfl,rfl⟩
  ·exact Xd ho (hwant.trans hw) hnd e'
  ·exact XR ho (hwant.trans hw) hnd e'
 ·have e1:=zW (a:=⟨tm2,[]⟩) hs2 h2;have e2:=jU (a:=⟨tm2,[]⟩) hs2 h3
  have hlook:∀(ds:List Deferred) x,x∈o.op.operands->Act.eval ⟨tm2,[]⟩ x=Act.eval ⟨tm,ds⟩ x:=λds x hx=>
   (show Act.eval ⟨tm2,[]⟩ x=Act.eval ⟨tm2,ds⟩ x by cases x <;> rfl).trans (UE (ds:=ds) (λt ht=>ht2 t ht) x hx)
  generalize hfv:Act.eval ⟨tm2,[]⟩ f=fv at e1;cases e1 with
  |func ha hcs q1 q2=>
   rename_i fa' fc'
   let full:=fa'.toList++cargs.toList.map (Act.eval ⟨tm2,[]⟩)++fc'.toList
   have hfull:wI ρ (fa.toList++vs++fc.toList) full :=
    (wI.append ⟨by simpa using ha,λi x y hx hy=>q1 i x y (by simpa using hx) (by simpa using hy)⟩ e2).append ⟨by simpa using hcs,λi x y hx hy=>q2 i x y (by simpa using hx) (by simpa using hy)⟩
   have hrun:(execOp (Act.eval ⟨tm,ds⟩) o).run P w=.ok (.enter fid full.toArray) w:=by
    have hnsel:∀cs' b',o.op ≠ .select cs' b':=(by intro cs' b' e;rw[h1]at e;cases e);rw[<- execOp_congr o hnsel (hlook ds)];have hargs':fa'++cargs.map (Act.eval ⟨tm2,[]⟩)++fc'=full.toArray:=by apply ab3;simp[full]
    simp only[execOp,h1,resolve,hfv,Deferred.ofValue,aai,aan,aad,invoke,callFunc,run_program,hargs'];unfold xW at h4;cases hfn:P.funcs[fid]? with
    |none=>rw[hfn]at h4;cases h4
    |some fn=>
     rw[hfn]at h4;simp only[aac,aao]at h4;simp only[h4.2,abh,ab1];rw[aae (by cases hb:fn.body <;> simp_all)];rfl
   obtain⟨e,w1,fr,⟨v0,v',h',ρ',rfl,⟨rfl,rfl⟩,st,hv⟩,hcomes,_,hleave⟩:=h5 ρ w full hr hfull (vD b tm ds (.inRegion ops (j::rest)::k)::cs);refine⟨v',w1,ρ',st,hv,.head (Jq ho (hwant.trans hw) (by rw[h1];rfl) hrun) (abX hcomes (.one ?_))⟩;rw[step_leave_returned hleave,jX,ho];rfl
 ·obtain⟨n,w1,ρ1,v',e,hn,st,hv⟩:=BC (a:=⟨tm2,[]⟩) h1 h2 h3 h4 hr hs2;refine⟨v',w1,ρ1,st,hv,.one ?_⟩;have hnd:XS o.op=false:=by rw[h1];rfl
  have hnsel:∀cs' b',o.op ≠ .select cs' b':=by intro cs' b' e;rw[h1]at e;cases e
  have e':(execOp (Act.eval ⟨tm,ds⟩) o).run P w=.ok n w1:=by
   rw[<- e]
   congr 1
   refine execOp_congr o hnsel (λx hx=>?_);exact(UE (ds:=ds) (λt ht=>(ht2 t ht).symm) x hx).trans (by cases x <;> rfl)
  have hfin:(vD b tm ds (.inRegion ops (j::rest)::k)).finish v'=vD b (qj tm o.dst v') ds (.inRegion ops rest::k):=by rw[jX,ho];rfl
  rw[<- hfin];rcases hn with rfl|⟨rfl,rfl⟩
  ·exact Xd ho (hwant.trans hw) hnd e'
  ·exact XR ho (hwant.trans hw) hnd e'
end
noncomputable section
variable {P:Program}
def xA.cut(ρ:xA)(n:Nat):xA:={ρ with next:=n}
theorem zG.ext{ρ ρ':xA}(hn:ρ.next<=ρ'.next)(hm:∀b pl,b<ρ.next->ρ.m b=some pl->ρ'.m b=some pl){v v':aaa}(h:zG ρ v v'):zG ρ' v v':=by
 induction h with
 |ry h=>exact .ry h
 |bool b=>exact .bool b
 |int k n=>exact .int k n
 |float k n=>exact .float k n
 |string s=>exact .string s
 |ptrNil=>exact .ptrNil
 |ptr hb hm0=>exact .ptr (aap hb hn) (hm _ _ hb hm0)
 |Y0=>exact .Y0
 |sliceNil c=>exact .sliceNil c
 |slice hb hm0 hl hc=>exact .slice (aap hb hn) (hm _ _ hb hm0) hl hc
 |sliceOut hb hc=>exact .sliceOut (aap hb hn) hc
 |nilFunc=>exact .nilFunc
 |nilIface=>exact .nilIface
 |mapNil=>exact .mapNil
 |map hb hm0=>exact .map (aap hb hn) (hm _ _ hb hm0)
 |yield hb hm0=>exact .yield (aap hb hn) (hm _ _ hb hm0)
 |iface _ ih=>exact .iface ih
 |func ha hc _ _ ih ih'=>exact .func ha hc ih ih'
 |agg ha _ ih=>exact .agg ha ih
 |tuple ha _ ih=>exact .tuple ha ih
theorem zG.down{ρ ρ2:xA}(hm:∀b,b<ρ.next->ρ2.m b=ρ.m b){v v':aaa}(h:zG ρ v v'):∀{u:aaa},zG ρ2 v u->zG ρ v u:=by
 induction h with
 |ry h=>intro u hu;cases hu with|ry h2=>exact .ry h2
 |bool b=>intro u hu;cases hu;exact .bool b
 |int k n=>intro u hu;cases hu;exact .int k n
 |float k n=>intro u hu;cases hu;exact .float k n
 |string s=>intro u hu;cases hu;exact .string s
 |ptrNil=>intro u hu;cases hu;exact .ptrNil
 |ptr hb hm0=>intro u hu;cases hu with|ptr hb2 hm2=>exact .ptr hb ((hm _ hb).symm.trans hm2)
 |Y0=>intro u hu;cases hu;exact .Y0
 |sliceNil c=>intro u hu;cases hu;exact .sliceNil c
 |slice hb hm0 hl hc=>
  intro u hu;cases hu with
  |slice hb2 hm2 hl2 hc2=>exact .slice hb ((hm _ hb).symm.trans hm2) hl2 hc2
  |sliceOut hb2 hc2=>exact .sliceOut hb hc2
 |sliceOut hb hc=>
  intro u hu;cases hu with
  |slice hb2 hm2 hl2 hc2=>exact .slice hb ((hm _ hb).symm.trans hm2) hl2 hc2
  |sliceOut hb2 hc2=>exact .sliceOut hb hc2
 |nilFunc=>intro u hu;cases hu;exact .nilFunc
 |nilIface=>intro u hu;cases hu;exact .nilIface
 |mapNil=>intro u hu;cases hu;exact .mapNil
 |map hb hm0=>intro u hu;cases hu with|map hb2 hm2=>exact .map hb ((hm _ hb).symm.trans hm2)
 |yield hb hm0=>intro u hu;cases hu with|yield hb2 hm2=>exact .yield hb ((hm _ hb).symm.trans hm2)
 |iface _ ih=>intro u hu;cases hu with|iface h2=>exact .iface (ih h2)
 |func ha hc h1 h2 ih ih'=>
  rename_i f a c a' c';intro u hu;cases hu with
  |func ha2 hc2 k1 k2=>
   refine .func ha2 hc2 (λi x y hx hy=>?_) (λi x y hx hy=>?_)
   ·obtain⟨z,hz⟩:∃z,a'[i]? = some z:=by
     have hlt:i<a.size:=by
      rcases aaI i a.size with h|h
      ·exact h
      ·rw[aaJ h]at hx;cases hx
     exact⟨_,aaL (ha ▸ hlt)⟩
    exact ih i x z hx hz (k1 i x y hx hy)
   ·obtain⟨z,hz⟩:∃z,c'[i]? = some z:=by
     have hlt:i<c.size:=by
      rcases aaI i c.size with h|h
      ·exact h
      ·rw[aaJ h]at hx;cases hx
     exact⟨_,aaL (hc ▸ hlt)⟩
    exact ih' i x z hx hz (k2 i x y hx hy)
 |agg ha h1 ih=>
  rename_i a a';intro u hu;cases hu with
  |agg ha2 k1=>
   refine .agg ha2 (λi x y hx hy=>?_)
   obtain⟨z,hz⟩:∃z,a'[i]? = some z:=by
    have hlt:i<a.size:=by
     rcases aaI i a.size with h|h
     ·exact h
     ·rw[aaJ h]at hx;cases hx
    exact⟨_,aaL (ha ▸ hlt)⟩
   exact ih i x z hx hz (k1 i x y hx hy)
 |tuple ha h1 ih=>
  rename_i a a';intro u hu;cases hu with
  |tuple ha2 k1=>
   refine .tuple ha2 (λi x y hx hy=>?_)
   obtain⟨z,hz⟩:∃z,a'[i]? = some z:=by
    have hlt:i<a.size:=by
     rcases aaI i a.size with h|h
     ·exact h
     ·rw[aaJ h]at hx;cases hx
    exact⟨_,aaL (ha ▸ hlt)⟩
   exact ih i x z hx hz (k1 i x y hx hy)
theorem xN.ext{ρ ρ':xA}(hn:ρ.next<=ρ'.next)(hm:∀b pl,b<ρ.next->ρ.m b=some pl->ρ'.m b=some pl){wr:Bool}{c:List aaa}{t:TypeId}{pl:Place}{w:World}(hc:xN P ρ wr c t pl w):xN P ρ' wr c t pl w:=by
 obtain⟨cs,fz,h1,h2,h3,h4,h5,h6⟩:=hc;exact⟨cs,fz,h1,h2,h3,h4,h5,λi x hx=>by obtain⟨y,hy,hv⟩:=h6 i x hx;exact⟨y,hy,hv.ext hn hm⟩⟩
theorem xN.down{ρ ρ2:xA}(hm:∀b,b<ρ.next->ρ2.m b=ρ.m b){wr wr2:Bool}{c:List aaa}{t:TypeId}{pl:Place}{w w2:World}(h:xN P ρ wr c t pl w)(h2:xN P ρ2 wr2 c t pl w2):xN P ρ wr2 c t pl w2:=by
 obtain⟨cs,fz,a1,a2,a3,a4,a5,a6⟩:=h;obtain⟨cs2,fz2,b1,b2,b3,b4,b5,b6⟩:=h2
 exact⟨cs2,fz2,b1,b2,b3,b4,b5,λi x hx=>by
  obtain⟨y,hy,hv⟩:=a6 i x hx;obtain⟨y2,hy2,hv2⟩:=b6 i x hx;exact⟨y2,hy2,hv.down hm hv2⟩⟩
theorem vV.ext{ρ ρ':xA}(hn:ρ.next<=ρ'.next)(hm:∀b pl,b<ρ.next->ρ.m b=some pl->ρ'.m b=some pl){wr:Bool}{o:wS}{pl:Place}{w:World}(hc:vV P ρ wr o pl w):vV P ρ' wr o pl w:=by
 cases o with
 |cells c t=>exact xN.ext hn hm hc
 |map es q=>obtain⟨ms,h1,h2,h3⟩:=hc;exact⟨ms,h1,h2,λi x m hx hm0=>⟨(h3 i x m hx hm0).1.ext hn hm,(h3 i x m hx hm0).2.1.ext hn hm,(h3 i x m hx hm0).2.2⟩⟩
 |iter m a b c=>obtain⟨m',h1,h0,h2⟩:=hc;exact⟨m',h1,h0,h2.ext hn hm⟩
 |tab c=>obtain⟨t,h1⟩:=hc;exact⟨t,xN.ext hn hm h1⟩
 |siter s pos=>exact hc
 |loop l=>obtain⟨tm,d,fn,h1,h2⟩:=hc;exact⟨tm,d,fn,h1,h2.size,λi=>(h2.get i).ext hn hm⟩
theorem vV.down{ρ ρ2:xA}(hm:∀b,b<ρ.next->ρ2.m b=ρ.m b){wr wr2:Bool}{o:wS}{pl:Place}{w w2:World}(h:vV P ρ wr o pl w)(h2:vV P ρ2 wr2 o pl w2):vV P ρ wr2 o pl w2:=by
 cases o with
 |cells c t=>exact xN.down hm h h2
 |iter m a b c=>
  obtain⟨m1,a1,_,a2⟩:=h;obtain⟨m2,b1,b0,b2⟩:=h2;exact⟨m2,b1,b0,a2.down hm b2⟩
 |siter s pos=>exact h2
 |tab c=>
  obtain⟨t,cs,fz,a1,a2,a3,a4,a5,a6⟩:=h;obtain⟨t2,cs2,fz2,b1,b2,b3,b4,b5,b6⟩:=h2
  exact⟨t2,cs2,fz2,b1,b2,b3,b4,b5,λi x hx=>by
   obtain⟨y,hy,hv⟩:=a6 i x hx;obtain⟨y2,hy2,hv2⟩:=b6 i x hx;exact⟨y2,hy2,hv.down hm hv2⟩⟩
 |map es q=>
  obtain⟨ms,a1,a2,a3⟩:=h;obtain⟨ms2,b1,b2,b3⟩:=h2;refine⟨ms2,b1,b2,λi x m hx hm0=>?_⟩
  obtain⟨z,hz⟩:∃z,ms[i]? = some z:=by
   have hlt:i<ms.size:=by
    rcases aaI i es.length with h|h
    ·omega
    ·rw[aas h]at hx;cases hx
   exact⟨_,aaL hlt⟩
  exact⟨(a3 i x z hx hz).1.down hm (b3 i x m hx hm0).1,(a3 i x z hx hz).2.1.down hm (b3 i x m hx hm0).2.1,(b3 i x m hx hm0).2.2⟩
 |loop l=>
  obtain⟨tm,d,fn,a1,a2⟩:=h;obtain⟨tm2,d2,fn2,b1,b2⟩:=h2;exact⟨tm2,d2,fn2,b1,b2.size,λi=>(a2.get i).down hm (b2.get i)⟩
theorem vV.Jk{ρ:xA}{n m:Nat}(h:n<=m){wr:Bool}{o:wS}{pl:Place}{w:World}(hc:vV P (ρ.cut n) wr o pl w):vV P (ρ.cut m) wr o pl w:=vV.ext (ρ:=ρ.cut n) (ρ':=ρ.cut m) h (λ_ _ _ h=>h) hc
theorem vV.pf{ρ ρ':xA}{n:Nat}(hm:∀b pl,ρ.m b=some pl->ρ'.m b=some pl){wr:Bool}{o:wS}{pl:Place}{w:World}(hc:vV P (ρ.cut n) wr o pl w):vV P (ρ'.cut n) wr o pl w:=vV.ext (ρ:=ρ.cut n) (ρ':=ρ'.cut n) (aaj _) (λb pl _ h=>hm b pl h) hc
theorem zG.Jk{ρ:xA}{n m:Nat}(h:n<=m){v v':aaa}(hv:zG (ρ.cut n) v v'):zG (ρ.cut m) v v':=zG.ext (ρ:=ρ.cut n) (ρ':=ρ.cut m) h (λ_ _ _ h=>h) hv
theorem zG.pf{ρ ρ':xA}{n:Nat}(hm:∀b pl,ρ.m b=some pl->ρ'.m b=some pl){v v':aaa}(hv:zG (ρ.cut n) v v'):zG (ρ'.cut n) v v':=zG.ext (ρ:=ρ.cut n) (ρ':=ρ'.cut n) (aaj _) (λb pl _ h=>hm b pl h) hv
structure yz where
 j:Nat
 o:Oper
 v:aaa
 s:Env
 g:za
 g':za
 rd:Nat->Bool
 tc:Nat->Bool
def vv(T:List yz)(p:yz->Bool):Option yz:=(T.filter p).getLast?
def UN(t:Nat)(r:yz):Bool:=decide (r.o.dst=some t)
def UD(T:List yz)(s0:Env)(t:Nat):aaa:=match vv T (UN t) with|some r=>r.v|none=>s0.get t
def eT(T:List yz)(n0:Nat)(t:Nat):Nat:=match vv T (UN t) with|some r=>r.g'.next|none=>n0
def YV(T:List yz)(h0:za)(b:Nat):Option wS:=match vv T (λr=>r.tc b) with|some r=>r.g'.get b|none=>h0.get b
def ie(T:List yz)(n0:Nat)(b:Nat):Nat:=match vv T (λr=>r.tc b) with|some r=>r.g'.next|none=>n0
inductive Prec (ops:Array Oper):Nat->Nat->Prop
 |one {j:Nat} {o:Oper} {e:Edge} (ho:ops[j]? = some o) (he:e∈o.after) (hb:Region.binds .any e=true):Prec ops e.on j
 |more {i j:Nat} {o:Oper} {e:Edge} (ho:ops[j]? = some o) (he:e∈o.after) (hb:Region.binds .any e=true) (h:Prec ops i e.on):Prec ops i j
structure lI (ops:Array Oper) (x y:yz):Prop where
 d1:∀d,x.o.dst=some d->d∉y.o.looksAt ops/\y.o.dst≠some d
 d2:∀d,y.o.dst=some d->d∉x.o.looksAt ops
 b1:∀b,x.tc b=true->y.rd b=false/\y.tc b=false
 b2:∀b,y.tc b=true->x.rd b=false
structure Told (P:Program) (ops:Array Oper) (s0:Env) (h0:za) (A:List yz) (r:yz):Prop where
 op:ops[r.j]? = some r.o
 env:∀t,r.s.get t=UD A s0 t
 size:r.s.size=s0.size
 heap:∀b,r.g.get b=if r.rd b=true then YV A h0 b else none
 ro:r.g.ro=h0.ro
 n0:h0.next<=r.g.next
 nA:∀x,x∈A->x.g'.next<=r.g.next
 n1:r.g.next<=r.g'.next
 sem:ja P ops r.s r.o r.g r.v r.g'
 put:∀d,r.o.dst=some d->d<s0.size
 tc1:∀b,r.tc b=true->r.rd b=true\/(r.g.next<=b/\b<r.g'.next)
 tc2:∀b,r.tc b=false->r.g'.get b=r.g.get b
 tc3:∀b o,r.tc b=true->b<r.g.next->r.g'.get b=some o->r.g.get b≠none
structure Valid (P:Program) (ops:Array Oper) (s0:Env) (h0:za) (tr:List yz):Prop where
 nodup:(tr.map (·.j)).Nodup
 all:∀i,i<ops.size->∃r,r∈tr/\r.j=i
 told:∀A r B,tr=A++r::B->Told P ops s0 h0 A r
 Vr:∀A r B,tr=A++r::B->∀e,e∈r.o.after->Region.binds .any e=true->∃x,x∈A/\x.j=e.on
 apart:∀A x B y C,tr=A++x::(B++y::C)->Prec ops x.j y.j\/lI ops x y
theorem W1{tr A B:List yz}{r x:yz}(hn:(tr.map (·.j)).Nodup)(e:tr=A++r::B)(hx:x∈A\/x∈B):x.j≠r.j:=by
 subst e;rw[aaY,abo]at hn;have h1:=List.nodup_append.1 hn;intro ej;rcases hx with hx|hx
 ·exact h1.2.2 x.j (abY hx) r.j (by simp) ej
 ·have:=(List.nodup_cons.1 h1.2.1).1;exact this (ej ▸ abY hx)
theorem Of{ops:Array Oper}{s0:Env}{h0:za}{tr:List yz}(V:Valid P ops s0 h0 tr){S:Nat->Bool}(hdown:∀i j,Prec ops i j->S j=true->S i=true){A B:List yz}{r:yz}(e:tr=A++r::B)
  (hready:∀i,Prec ops i r.j->S i=true) (hnot:S r.j=false) {p:yz->Bool} (hp:∀x,(x∈A->p x=true->Prec ops x.j r.j)/\(x∈B->p x=true->Prec ops r.j x.j)) :
  (A.filter (λx=>S x.j)).filter p=A.filter p/\(B.filter (λx=>S x.j)).filter p=[]:=by
 constructor
 ·rw[abR];apply aby;intro x hx;cases hpx:p x with
  |false=>simp
  |true=>rw[hready _ ((hp x).1 hx hpx)];rfl
 ·rw[abR,acn];intro x hx hc;simp only[aac]at hc;have:=hdown _ _ ((hp x).2 hx hc.1) hc.2;rw[hnot]at this;cases this
theorem Valid.order{ops:Array Oper}{s0:Env}{h0:za}{tr A B:List yz}{r:yz}(V:Valid P ops s0 h0 tr)(e:tr=A++r::B){p:yz->Bool}(hA:∀x,lI ops x r->p x=false)(hB:∀x,lI ops r x->p x=false) :
  ∀x,(x∈A->p x=true->Prec ops x.j r.j)/\(x∈B->p x=true->Prec ops r.j x.j):=by
 intro x
 constructor
 ·intro hx hpx;obtain⟨A1,A2,rfl⟩:=aaP hx;rcases V.apart A1 x A2 r B (by simp[e]) with h|h
  ·exact h
  ·rw[hA x h]at hpx;cases hpx
 ·intro hx hpx;obtain⟨B1,B2,rfl⟩:=aaP hx;rcases V.apart A r B1 x B2 e with h|h
  ·exact h
  ·rw[hB x h]at hpx;cases hpx
end
noncomputable section
variable {P:Program}
structure aL (P:Program) (tr:List yz) (s0:Env) (h0:za) (N:Nat) (ρ0:xA) (w0:World) (S:Nat->Bool) (ρ:xA) (w:World) (tm:Array aaa):Prop where
 next:ρ.next=N
 old:∀b,b<h0.next->ρ.m b=ρ0.m b
 size:s0.size=tm.size
 env:∀t,zG (ρ.cut (eT (tr.filter λr=>S r.j) h0.next t)) (UD (tr.filter λr=>S r.j) s0 t) (tm.getD t undef)
 heap:∀b o,YV (tr.filter λr=>S r.j) h0 b=some o->b<ie (tr.filter λr=>S r.j) h0.next b /\
  ∃pl,ρ.m b=some pl/\vV P (ρ.cut (ie (tr.filter λr=>S r.j) h0.next b)) (decide (h0.ro<=b)) o pl w
 inj:∀b1 b2 o1 o2 p1 p2,YV (tr.filter λr=>S r.j) h0 b1=some o1->YV (tr.filter λr=>S r.j) h0 b2=some o2->ρ.m b1=some p1->ρ.m b2=some p2->p1.c=p2.c->b1=b2
 fresh:∀x,x∈tr->S x.j=false->∀b,x.g.next<=b->b<x.g'.next->ρ.m b=none
 os:w.os=w0.os
 tape:w.tape=w0.tape
 output:w.output=w0.output
 bL:w0.heap.size<=w.heap.size
 frame:∀c,c<w0.heap.size->¬mE ρ0 h0 c->w.heap[c]? = w0.heap[c]?
 mo:∀b o pl,YV (tr.filter λr=>S r.j) h0 b=some o->h0.ro<=b->ρ.m b=some pl->pl.c<w0.heap.size->mE ρ0 h0 pl.c
 lq:P.globals.size<=h0.ro
 gl:∀b pl,b<P.globals.size->ρ.m b=some pl->pl.c=b/\pl.base=0
def qT(S:Nat->Bool)(j:Nat):Nat->Bool:=λi=>S i||decide (i=j)
section
variable {ops:Array Oper}{s0:Env}{h0:za}{tr A B:List yz}{r:yz}{S:Nat->Bool}
theorem eZ(e:tr=A++r::B)(hnot:S r.j=false):tr.filter (λx=>S x.j)=A.filter (λx=>S x.j)++B.filter (λx=>S x.j):=by
 subst e;simp[hnot]
theorem pz(V:Valid P ops s0 h0 tr)(e:tr=A++r::B):tr.filter (λx=>qT S r.j x.j)=A.filter (λx=>S x.j)++r::B.filter (λx=>S x.j):=by
 have hA:A.filter (λx=>qT S r.j x.j)=A.filter (λx=>S x.j):=aby λx hx=>by simp[qT,W1 V.nodup e (.inl hx)]
 have hB:B.filter (λx=>qT S r.j x.j)=B.filter (λx=>S x.j):=aby λx hx=>by simp[qT,W1 V.nodup e (.inr hx)]
 rw[e,aaO,abL,hA,hB,aah (by simp[qT])]
theorem ly(V:Valid P ops s0 h0 tr)(hdown:∀i j,Prec ops i j->S j=true->S i=true)(e:tr=A++r::B)(hready:∀i,Prec ops i r.j->S i=true)(hnot:S r.j=false){p:yz->Bool}
  (hA:∀x,lI ops x r->p x=false) (hB:∀x,lI ops r x->p x=false):vv (tr.filter λx=>S x.j) p=vv A p:=by
 obtain⟨h1,h2⟩:=Of V hdown e hready hnot (V.order e hA hB);rw[vv,eZ e hnot,aaO,h1,h2,abm];rfl
theorem cR(V:Valid P ops s0 h0 tr)(hdown:∀i j,Prec ops i j->S j=true->S i=true)(e:tr=A++r::B)(hready:∀i,Prec ops i r.j->S i=true)(hnot:S r.j=false){p:yz->Bool}(hr:p r=true)
  (hA:∀x,lI ops x r->p x=false) (hB:∀x,lI ops r x->p x=false):vv (tr.filter λx=>qT S r.j x.j) p=some r:=by
 obtain⟨h1,h2⟩:=Of V hdown e hready hnot (V.order e hA hB);rw[vv,pz V e,aaO,abL,aah hr,h1,h2];simp
theorem cS(V:Valid P ops s0 h0 tr)(e:tr=A++r::B)(hnot:S r.j=false){p:yz->Bool}(hr:p r=false):vv (tr.filter λx=>qT S r.j x.j) p=vv (tr.filter λx=>S x.j) p:=by
 rw[vv,vv,pz V e,eZ e hnot,aaO,abL,hr,aae (by simp),aaO]
theorem XG{T:List yz}{p:yz->Bool}{x:yz}(h:vv T p=some x):x∈T/\p x=true:=by
 have:=List.mem_of_getLast? h;exact abP.1 this
theorem Mg(hro0:h0.ro<=h0.next)(V:Valid P ops s0 h0 tr)(hdown:∀i j,Prec ops i j->S j=true->S i=true)(e:tr=A++r::B)(hready:∀i,Prec ops i r.j->S i=true)(hnot:S r.j=false)
  {N:Nat} (hN:∀x,x∈tr->x.g'.next<=N) {ρ0 ρ:xA} {w0 w:World} {tm:Array aaa} (I:aL P tr s0 h0 N ρ0 w0 S ρ w tm) (ds:List Deferred) (rest:List Nat) (b:Frame) (k:List Item) (cs:List Frame) :
  ∃ρ' w' tm',aL P tr s0 h0 N ρ0 w0 (qT S r.j) ρ' w' tm'/\Steps P (lone (vD b tm ds (.inRegion ops (r.j::rest)::k)) cs w) (lone (vD b tm' ds (.inRegion ops rest::k)) cs w'):=by
 have D:=V.told A r B e;have hrm:r∈tr:=by rw[e];simp
 have lookEnv:∀t,t∈r.o.looksAt ops->vv (tr.filter λx=>S x.j) (UN t)=vv A (UN t):=λt ht=>
  ly V hdown e hready hnot (λx hx=>by
   cases hw:UN t x with
   |false=>rfl
   |true=>exact absurd ht (hx.d1 t (aa7 hw)).1) (λx hx=>by
   cases hw:UN t x with
   |false=>rfl
   |true=>exact absurd ht (hx.d2 t (aa7 hw)))
 have lookHeap:∀bb,r.rd bb=true->vv (tr.filter λx=>S x.j) (λx=>x.tc bb)=vv A (λx=>x.tc bb):=λbb hb=>
  ly V hdown e hready hnot (λx hx=>by
   cases hw:x.tc bb with
   |false=>rfl
   |true=>have:=(hx.b1 bb hw).1;rw[hb]at this;cases this) (λx hx=>by
   cases hw:x.tc bb with
   |false=>rfl
   |true=>have:=hx.b2 bb hw;rw[hb]at this;cases this)
 have hpVeq:∀bb,r.rd bb=true->YV (tr.filter λx=>S x.j) h0 bb=r.g.get bb:=λbb hb=>by
  rw[D.heap,aah hb];simp only[YV,lookHeap bb hb]
 have hpNle:∀bb,r.rd bb=true->ie (tr.filter λx=>S x.j) h0.next bb<=r.g.next:=λbb hb=>by
  simp only[ie,lookHeap bb hb];split
  ·rename_i x hx;exact D.nA x (XG hx).1
  ·exact D.n0
 have galive:∀bb o,r.g.get bb=some o->r.rd bb=true/\YV (tr.filter λx=>S x.j) h0 bb=some o:=λbb o hg=>by
  rw[D.heap]at hg;cases hb:r.rd bb with
  |false=>rw[hb]at hg;simp at hg
  |true=>exact⟨rfl,by rw[hpVeq bb hb,D.heap];exact hg⟩
 let ρr:=ρ.cut r.g.next
 have hrel:Rel P ρr r.g w:=by
  refine⟨rfl,?_,?_,?_,?_,by rw[D.ro];exact I.lq,I.gl⟩
  ·have h1:=D.ro;have h2:=D.n0;show r.g.ro<=r.g.next;omega
  ·intro bb o hg;obtain⟨h1,h2⟩:=galive bb o hg;exact aap (I.heap bb o h2).1 (hpNle bb h1)
  ·intro bb o hg;obtain⟨h1,h2⟩:=galive bb _ hg;obtain⟨_,pl,hp,hc⟩:=I.heap bb o h2;refine⟨pl,hp,?_⟩;rw[D.ro];exact hc.Jk (hpNle bb h1)
  ·intro b1 b2 o1 o2 p1 p2 g1 g2;exact I.inj b1 b2 o1 o2 p1 p2 (galive b1 o1 g1).2 (galive b2 o2 g2).2
 have hlook:∀t,t∈r.o.looksAt ops->zG ρr (r.s.get t) (tm.getD t undef):=by
  intro t ht;have h1:=I.env t;have e1:UD (tr.filter λx=>S x.j) s0 t=r.s.get t:=by rw[D.env t];simp only[UD,lookEnv t ht]
  have e2:eT (tr.filter λx=>S x.j) h0.next t<=r.g.next:=by
   simp only[eT,lookEnv t ht];split
   ·rename_i x hx;exact D.nA x (XG hx).1
   ·exact D.n0
  rw[e1]at h1;exact h1.Jk e2
 obtain⟨v',w',ρq,st,hv,sx⟩:=Jz D.op D.sem hrel (D.size.trans I.size) hlook ds rest b k cs
 let ρ':xA:={next:=N,m:=λbb=>if r.g.next<=bb/\bb<r.g'.next then ρq.m bb else ρ.m bb}
 have qnext:ρq.next=r.g'.next:=st.rel.next;have qlow:∀bb,bb<r.g.next->ρq.m bb=ρ.m bb:=λbb hb=>st.le.2 bb hb
 have pq:∀bb,bb<r.g'.next->ρ'.m bb=ρq.m bb:=by
  intro bb hb;by_cases hl:r.g.next<=bb
  ·exact aah ⟨hl,hb⟩
  ·rw[show ρ'.m bb=ρ.m bb from aae (by omega),qlow bb (by omega)]
 have rfresh:=I.fresh r hrm hnot
 have pext:∀bb pl,ρ.m bb=some pl->ρ'.m bb=some pl:=by
  intro bb pl hm
  rw[show ρ'.m bb=ρ.m bb from aae (by
   rintro⟨h1,h2⟩;rw[rfresh bb h1 h2]at hm;cases hm)]
  exact hm
 have hn1N:r.g'.next<=N:=hN r hrm
 have notMine:∀bb o pl,YV (tr.filter λx=>S x.j) h0 bb=some o->ρ.m bb=some pl->r.rd bb=false->¬mE ρr r.g pl.c:=by
  rintro bb o pl hg hm hb ⟨b1,o1,p1,g1,_,m1,e1⟩;obtain⟨k1,k2⟩:=galive b1 o1 g1;have:=I.inj b1 bb o1 o p1 pl k2 hg m1 hm e1;subst this;rw[hb]at k1;cases k1
 have hpVnew:∀bb,YV (tr.filter λx=>qT S r.j x.j) h0 bb=if r.tc bb=true then r.g'.get bb else YV (tr.filter λx=>S x.j) h0 bb:=by
  intro bb;cases ht:r.tc bb with
  |true=>
   rw[aah rfl];simp only[YV]
   rw[cR V hdown e hready hnot ht (λx hx=>by
    cases hw:x.tc bb with
    |false=>rfl
    |true=>have:=(hx.b1 bb hw).2;rw[ht]at this;cases this) (λx hx=>by
    cases hw:x.tc bb with
    |false=>rfl
    |true=>have:=(hx.b1 bb ht).2;rw[hw]at this;cases this)]
  |false=>
   rw[aae (by simp)];simp only[YV];rw[cS V e hnot (p:=λx=>x.tc bb) ht]
 have hpNnew:∀bb,ie (tr.filter λx=>qT S r.j x.j) h0.next bb=if r.tc bb=true then r.g'.next else ie (tr.filter λx=>S x.j) h0.next bb:=by
  intro bb;cases ht:r.tc bb with
  |true=>
   rw[aah rfl];simp only[ie]
   rw[cR V hdown e hready hnot ht (λx hx=>by
    cases hw:x.tc bb with
    |false=>rfl
    |true=>have:=(hx.b1 bb hw).2;rw[ht]at this;cases this) (λx hx=>by
    cases hw:x.tc bb with
    |false=>rfl
    |true=>have:=(hx.b1 bb ht).2;rw[hw]at this;cases this)]
  |false=>
   rw[aae (by simp)];simp only[ie];rw[cS V e hnot (p:=λx=>x.tc bb) ht]
 have cases':∀bb o,YV (tr.filter λx=>qT S r.j x.j) h0 bb=some o->(r.tc bb=true/\r.g'.get bb=some o)\/(r.tc bb=false/\YV (tr.filter λx=>S x.j) h0 bb=some o):=by
  intro bb o h;rw[hpVnew]at h;cases ht:r.tc bb with
  |true=>rw[ht,aah rfl]at h;exact .inl ⟨rfl,h⟩
  |false=>rw[ht,aae (by simp)]at h;exact .inr ⟨rfl,h⟩
 refine⟨ρ',w',qj tm r.o.dst v',⟨rfl,?_,?_,?_,?_,?_,?_,st.os.trans I.os,st.tape.trans I.tape,st.output.trans I.output,aaU I.bL st.size,?_,?_,I.lq,λb pl hb hm=>I.gl b pl hb (by
  rw[show ρ'.m b=ρ.m b from aae (by have:=D.n0;have:=I.lq;omega)]at hm;exact hm)⟩,sx⟩
 ·intro bb hb;rw[show ρ'.m bb=ρ.m bb from aae (by have:=D.n0;omega)];exact I.old bb hb
 ·cases r.o.dst with
  |none=>exact I.size
  |some d=>simp only[qj,Array.size_setIfInBounds];exact I.size
 ·
  intro t;by_cases ht:r.o.dst=some t
  ·have e1:vv (tr.filter λx=>qT S r.j x.j) (UN t)=some r:=cR V hdown e hready hnot (p:=UN t) (by simp[UN,ht]) (λx hx=>by
    cases hw:UN t x with
    |false=>rfl
    |true=>exact absurd ht (hx.d1 t (aa7 hw)).2) (λx hx=>by
    cases hw:UN t x with
    |false=>rfl
    |true=>exact absurd (aa7 hw) (hx.d1 t ht).2)
   simp only[UD,eT,e1]
   have e2:(qj tm r.o.dst v').getD t undef=v':=by
    have hlt:t<tm.size:=(by rw[<- I.size];exact D.put t ht);rw[ht];simp[qj,aaA,hlt]
   rw[e2];refine hv.ext (by show ρq.next<=r.g'.next;rw[qnext];exact aaj _) (λbb pl hb hm=>?_);show ρ'.m bb=some pl;rw[pq bb (by rw[<- qnext];exact hb)];exact hm
  ·have e1:vv (tr.filter λx=>qT S r.j x.j) (UN t)=vv (tr.filter λx=>S x.j) (UN t):=cS V e hnot (p:=UN t) (by simp[UN,ht])
   have e2:(qj tm r.o.dst v').getD t undef=tm.getD t undef:=by
    cases hd:r.o.dst with
    |none=>rfl
    |some d=>
     have:d≠t:=λh=>ht (by rw[hd,h]);simp[qj,aaA,this]
   have h1:=I.env t;simp only[UD,eT]at h1 ⊢;rw[e1,e2];exact h1.pf (ρ':=ρ') pext
 ·
  intro bb o hg;rcases cases' bb _ hg with⟨ht,hg'⟩|⟨ht,hg'⟩
  ·rw[hpNnew,aah ht];obtain⟨pl,hp,hc⟩:=st.rel.ok bb o hg';have hlt:=st.rel.KJ bb _ hg';refine⟨hlt,pl,by rw[pq bb hlt];exact hp,?_⟩;have hro:r.g'.ro=h0.ro:=st.ro.trans D.ro;rw[hro]at hc;exact hc.ext (by show ρq.next<=r.g'.next;rw[qnext];exact aaj _) (λb2 p2 hb hm=>by show ρ'.m b2=some p2;rw[pq b2 (by rw[<- qnext];exact hb)];exact hm)
  ·rw[hpNnew,ht,aae (by simp)];obtain⟨hlt,pl,hp,hc⟩:=I.heap bb o hg';refine⟨hlt,pl,pext bb pl hp,?_⟩
   have hdone:vV P (ρ.cut (ie (tr.filter λx=>S x.j) h0.next bb)) (decide (h0.ro<=bb)) o pl w':=by
    cases hb:r.rd bb with
    |true=>
     have hgg:r.g'.get bb=some o:=(by rw[D.tc2 bb ht,<- hpVeq bb hb];exact hg');obtain⟨p2,hp2,hc2⟩:=st.rel.ok bb o hgg;have hbl:bb<r.g.next:=aap hlt (hpNle bb hb);rw[qlow bb hbl,hp]at hp2;cases hp2;have hro:r.g'.ro=h0.ro:=st.ro.trans D.ro;rw[hro]at hc2;exact vV.down (ρ:=ρ.cut (ie (tr.filter λx=>S x.j) h0.next bb)) (ρ2:=ρq) (λb2 hb2=>qlow b2 (aap hb2 (hpNle bb hb))) hc hc2
    |false=>exact hc.other (st.frame pl.c hc.lt (notMine bb _ pl hg' hp hb))
   exact hdone.pf (ρ':=ρ') pext
 ·
  have key:∀b1 b2 o1 o2 p1 p2,r.tc b1=true->r.g'.get b1=some o1->r.tc b2=false->YV (tr.filter λx=>S x.j) h0 b2=some o2->ρ'.m b1=some p1->ρ'.m b2=some p2->p1.c=p2.c->b1=b2:=by
   intro b1 b2 o1 o2 p1 p2 t1 g1 t2 g2 m1 m2 ec;obtain⟨hlt2,q2,hq2,hc2⟩:=I.heap b2 o2 g2;rw[pext b2 q2 hq2]at m2;cases m2;have hl1:=st.rel.KJ b1 o1 g1;rw[pq b1 hl1]at m1;cases hb2:r.rd b2 with
   |true=>
    have hgg:r.g'.get b2=some o2:=(by rw[D.tc2 b2 t2,<- hpVeq b2 hb2];exact g2);have hbl:b2<r.g.next:=aap hlt2 (hpNle b2 hb2);exact st.rel.inj b1 b2 o1 _ p1 p2 g1 hgg m1 (by rw[qlow b2 hbl];exact hq2) ec
   |false=>
    by_cases hw:h0.ro<=b1
    ·have hM:mE ρq r.g' p1.c:=⟨b1,o1,p1,g1,by rw[st.ro,D.ro];exact hw,m1,rfl⟩;have hlt:p1.c<w.heap.size:=by rw[ec];exact hc2.lt
     have:=st.mo p1.c hlt hM;rw[ec]at this;exact absurd this (notMine b2 _ p2 g2 hq2 hb2)
    ·have hb1:b1<r.g.next:=(by have:=D.n0;omega);have hne:=D.tc3 b1 o1 t1 hb1 g1;obtain⟨o1',ho1'⟩:∃o,r.g.get b1=some o:=by cases hh:r.g.get b1 with|none=>exact absurd hh hne|some o=>exact⟨o,rfl⟩
     rw[qlow b1 hb1]at m1;exact I.inj b1 b2 o1' _ p1 p2 (galive b1 o1' ho1').2 g2 m1 hq2 ec
  intro b1 b2 o1 o2 p1 p2 g1 g2 m1 m2 ec;rcases cases' b1 o1 g1 with⟨t1,k1⟩|⟨t1,k1⟩ <;> rcases cases' b2 o2 g2 with⟨t2,k2⟩|⟨t2,k2⟩
  ·have l1:=st.rel.KJ b1 o1 k1;have l2:=st.rel.KJ b2 o2 k2;rw[pq b1 l1]at m1;rw[pq b2 l2]at m2;exact st.rel.inj b1 b2 o1 o2 p1 p2 k1 k2 m1 m2 ec
  ·exact key b1 b2 o1 o2 p1 p2 t1 k1 t2 k2 m1 m2 ec
  ·exact(key b2 b1 o2 o1 p2 p1 t2 k2 t1 k1 m2 m1 ec.symm).symm
  ·obtain⟨_,q1,hq1,_⟩:=I.heap b1 o1 k1;obtain⟨_,q2,hq2,_⟩:=I.heap b2 o2 k2;rw[pext b1 q1 hq1]at m1;rw[pext b2 q2 hq2]at m2;cases m1;cases m2;exact I.inj b1 b2 _ _ p1 p2 k1 k2 hq1 hq2 ec
 ·
  intro x hx hS bb h1 h2;simp only[qT,aba,aam]at hS;have h3:=I.fresh x hx hS.1 bb h1 h2;have hne:x≠r:=λh=>hS.2 (by rw[h])
  have hdis:¬(r.g.next<=bb/\bb<r.g'.next):=by
   rw[e]at hx;rcases aaD.1 hx with hxA|hxB
   ·have:=D.nA x hxA;omega
   ·rcases aaz.1 hxB with hxr|hxB
    ·exact absurd hxr hne
    ·obtain⟨B1,B2,rfl⟩:=aaP hxB;have:=(V.told (A++r::B1) x B2 (by simp[e])).nA r (by simp);omega
  rw[show ρ'.m bb=ρ.m bb from aae hdis];exact h3
 ·intro c hc hn
  rw[st.frame c (aap hc I.bL) (by
   rintro⟨b1,o1,p1,g1,hro1,m1,rfl⟩;exact hn (I.mo b1 o1 p1 (galive b1 o1 g1).2 (by rw[<- D.ro];exact hro1) m1 hc))]
  exact I.frame c hc hn
 ·intro bb o pl hg hro hm hc;rcases cases' bb o hg with⟨ht,hg'⟩|⟨ht,hg'⟩
  ·rw[pq bb (st.rel.KJ bb o hg')]at hm;obtain⟨b1,o1,p1,g1,hro1,m1,e1⟩:=st.mo pl.c (aap hc I.bL) ⟨bb,o,pl,hg',by rw[st.ro,D.ro];exact hro,hm,rfl⟩;rw[<- e1];exact I.mo b1 o1 p1 (galive b1 o1 g1).2 (by rw[<- D.ro];exact hro1) m1 (by rw[e1];exact hc)
  ·obtain⟨_,q,hq,_⟩:=I.heap bb o hg';rw[pext bb q hq]at hm;cases hm;exact I.mo bb _ pl hg' hro hq hc
end
end
noncomputable section
variable {P:Program}
section
variable {ops:Array Oper}{s0:Env}{h0:za}{tr:List yz}
theorem aH{listed:Array Bool}{i:Nat}(h:i∈Region.ready .any ops listed):i<ops.size/\listed.getD i true=false /\ ∀o,ops[i]? = some o->∀e,e∈o.after->Region.binds .any e=true->listed.getD e.on false=true:=by
 simp only[Region.ready,abP,abj,aac,aao]at h;refine⟨h.1,h.2.1,λo ho e he hb=>?_⟩;have:=h.2.2;rw[ho]at this;simp only[abn,abC,Array.all_eq_true_iff_forall_mem,aaV,aao]at this;rcases this e he with h1|h1
 ·rw[hb]at h1;cases h1
 ·exact h1
theorem Fq{listed:Array Bool}{i:Nat}(hi:i<ops.size)(hl:listed.getD i true=false)(h:∀o,ops[i]? = some o->∀e,e∈o.after->Region.binds .any e=true->listed.getD e.on false=true):i∈Region.ready .any ops listed:=by
 simp only[Region.ready,abP,abj,aac,aao];refine⟨hi,hl,?_⟩;rw[aaL hi];simp only[abn,abC,Array.all_eq_true_iff_forall_mem,aaV,aao];intro e he;cases hb:Region.binds .any e with
 |false=>exact .inl rfl
 |true=>exact .inr (h _ (aaL hi) e he hb)
theorem R5(hro0:h0.ro<=h0.next)(V:Valid P ops s0 h0 tr){N:Nat}(hN:∀x,x∈tr->x.g'.next<=N){ρ0:xA}{w0:World}(ds:List Deferred)(b:Frame)(k:List Item)(cs:List Frame) :
  ∀(fuel t:Nat) (listed:Array Bool) (ρ:xA) (w:World) (tm:Array aaa),listed.size=ops.size->((List.range ops.size).filter λi => !listed.getD i false).length<=fuel ->
   (∀i j,Prec ops i j->listed.getD j false=true->listed.getD i false=true)->aL P tr s0 h0 N ρ0 w0 (λj=>listed.getD j false) ρ w tm ->
   ∃S ρ' w' tm',(∀r,r∈tr->S r.j=true)/\aL P tr s0 h0 N ρ0 w0 S ρ' w' tm' /\
    Steps P (lone (vD b tm ds (.inRegion ops (Region.linearise.go .any ops fuel t listed [])::k)) cs w) (lone (vD b tm' ds (.inRegion ops []::k)) cs w'):=by
 intro fuel
 induction fuel with
 |zero=>
  intro t listed ρ w tm hsz hcount hdown I;refine⟨_,ρ,w,tm,?_,I,.refl P _⟩;intro r hr;have hnil:=abu (Nat.le_zero.1 hcount);obtain⟨A,B,e⟩:=aaP hr;have yj:=(V.told A r B e).op
  have hlt:r.j<ops.size:=by
   rcases aaI r.j ops.size with h|h
   ·exact h
   ·rw[aaJ h]at yj;cases yj
  cases hl:listed.getD r.j false with
  |true=>rfl
  |false=>
   have:r.j∈(List.range ops.size).filter λi => !listed.getD i false:=abP.2 ⟨abj.2 hlt,by rw[hl];rfl⟩;rw[hnil]at this;cases this
 |succ fuel ih=>
  intro t listed ρ w tm hsz hcount hdown I;simp only[Region.linearise.go]
  change ∃S ρ' w' tm',(∀r,r∈tr->S r.j=true)/\aL P tr s0 h0 N ρ0 w0 S ρ' w' tm'/\Steps P (lone (vD b tm ds (.inRegion ops (match (Region.ready .any ops listed)[t%(Region.ready .any ops listed).length]? with
   |some i=>Region.linearise.go .any ops fuel (t/(Region.ready .any ops listed).length) (listed.setIfInBounds i true) [i]
   |none=>[].reverse)::k)) cs w) _
  have getTF:∀i,i<ops.size->listed.getD i true=listed.getD i false:=by
   intro i hi;simp[aaA,aaL (hsz ▸ hi)]
  by_cases hall:∀r,r∈tr->listed.getD r.j false=true
  ·
   have hnone:Region.ready .any ops listed=[]:=by
    rw[List.eq_nil_iff_forall_not_mem];intro i hi;obtain⟨h1,h2,_⟩:=aH hi;obtain⟨r,hr,hrj⟩:=V.all i h1;have:=hall r hr;rw[hrj,<- getTF i h1,h2]at this;cases this
   rw[hnone];exact⟨_,ρ,w,tm,hall,I,.refl P _⟩
  ·
   have hex:∃i,i∈Region.ready .any ops listed:=by
    have:∃A r B,tr=A++r::B/\listed.getD r.j false=false /\ ∀x,x∈A->listed.getD x.j false=true:=by
     clear ih I hN V
     induction tr with
     |nil=>exact absurd (λr hr=>by cases hr) hall
     |cons x tr iht=>
      cases hx:listed.getD x.j false with
      |false=>exact⟨[],x,tr,rfl,hx,λy hy=>by cases hy⟩
      |true=>
       obtain⟨A,r,B,e,h1,h2⟩:=iht (λh=>hall (λr hr=>by rcases aaz.1 hr with rfl|hr;exact hx;exact h r hr));exact⟨x::A,r,B,by rw[e];rfl,h1,λy hy=>by rcases aaz.1 hy with rfl|hy;exact hx;exact h2 y hy⟩
    obtain⟨A,r,B,e,h1,h2⟩:=this;have yj:=(V.told A r B e).op
    have hlt:r.j<ops.size:=by
     rcases aaI r.j ops.size with h|h
     ·exact h
     ·rw[aaJ h]at yj;cases yj
    refine⟨r.j,Fq hlt (by rw[getTF _ hlt];exact h1) (λo ho ed hed hb=>?_)⟩;rw[yj]at ho;cases ho;obtain⟨x,hx,hxe⟩:=V.Vr A r B e ed hed hb;rw[<- hxe];exact h2 x hx
   cases hi:(Region.ready .any ops listed)[t%(Region.ready .any ops listed).length]? with
   |none=>
    obtain⟨i,hmem⟩:=hex;have hpos:0<(Region.ready .any ops listed).length:=List.length_pos_of_mem hmem;rw[aag (Nat.mod_lt _ hpos)]at hi;cases hi
   |some i=>
    simp only[];rw[linearise_go_acc,List.reverse_singleton,List.singleton_append];obtain⟨hlt,hl,hed⟩:=aH (aax hi);obtain⟨r,hr,hrj⟩:=V.all i hlt;obtain⟨A,B,e⟩:=aaP hr;subst hrj;have yj:=(V.told A r B e).op
    have hready:∀q,Prec ops q r.j->listed.getD q false=true:=by
     intro q hq;cases hq with
     |one ho he hb=>exact hed _ ho _ he hb
     |more ho he hb hp=>exact hdown _ _ hp (hed _ ho _ he hb)
    have hnot:listed.getD r.j false=false:=(by rw[<- getTF _ hlt];exact hl);obtain⟨ρ1,w1,tm1,I1,sx⟩:=Mg hro0 V hdown e hready hnot hN I ds (Region.linearise.go .any ops fuel (t/(Region.ready .any ops listed).length) (listed.setIfInBounds r.j true) []) b k cs
    have hadd:(λj=>(listed.setIfInBounds r.j true).getD j false)=qT (λj=>listed.getD j false) r.j:=by
     funext j
     simp only[qT,aaA,aa5];by_cases ej:r.j=j
     ·subst ej;rw[aah rfl,aah (by omega)];simp
     ·rw[aae ej];have:decide (j=r.j)=false:=aaT (λh=>ej h.symm);rw[this,Bool.or_false]
    rw[<- hadd]at I1
    have hcnt:((List.range ops.size).filter λi => !(listed.setIfInBounds r.j true).getD i false).length<=fuel:=by
     have hmem:r.j∈(List.range ops.size).filter λi => !listed.getD i false:=abP.2 ⟨abj.2 hlt,by rw[hnot];rfl⟩
     have hsub:(List.range ops.size).filter (λi => !(listed.setIfInBounds r.j true).getD i false)=((List.range ops.size).filter λi => !listed.getD i false).filter (λi=>decide (i≠r.j)):=by
      rw[abR];apply aby;intro i _;have:=congrFun hadd i;simp only[qT]at this;rw[this];by_cases ei:i=r.j <;> simp[ei]
     rw[hsub]
     have hlen:∀(l:List Nat),r.j∈l->(l.filter λi=>decide (i≠r.j)).length<l.length:=by
      intro l hl;apply List.length_filter_lt_length_iff_exists.2;exact⟨r.j,hl,by simp⟩
     have:=hlen _ hmem;omega
    have hdn:∀q j,Prec ops q j->(listed.setIfInBounds r.j true).getD j false=true->(listed.setIfInBounds r.j true).getD q false=true:=by
     intro q j hq hj;have h1:=congrFun hadd j;have h2:=congrFun hadd q;rw[h1]at hj;rw[h2];simp only[qT,aaV,aaG]at hj ⊢;rcases hj with hj|rfl
     ·exact .inl (hdown q j hq hj)
     ·exact .inl (hready q hq)
    obtain⟨S,ρ2,w2,tm2,hS,I2,sx2⟩:=ih (t/(Region.ready .any ops listed).length) (listed.setIfInBounds r.j true) ρ1 w1 tm1 (by simpa using hsz) hcnt hdn I1;exact⟨S,ρ2,w2,tm2,hS,I2,sx.trans sx2⟩
theorem WE(hmix:P.follows .mixedOrders=true){id:Nat}{rd:Option Nat}{Q:Ex->Env->za->Prop}(V:Valid P ops s0 h0 tr){sf:Env}{hf:za}(hs:∀t,sf.get t=UD tr s0 t)(hsz:sf.size=s0.size)
  (hh:∀b,hf.get b=YV tr h0 b) (hro:hf.ro=h0.ro) (hn:h0.next<=hf.next) (hN:∀x,x∈tr->x.g'.next<=hf.next) (hq:Q .normal sf hf):T P rd (.region id ops true) s0 h0 Q:=by
 intro ρ w tm ds hr hse b hb k cs
 let w1:World:={w with drawn:=w.drawn+1}
 let ρ1:xA:={next:=hf.next,m:=λbb=>if bb<h0.next then ρ.m bb else none}
 have hm1:∀bb pl,bb<ρ.next->ρ.m bb=some pl->ρ1.m bb=some pl:=λbb pl hb hm=>by
  rw[show ρ1.m bb=ρ.m bb from aah (by rw[<- hr.next];exact hb)];exact hm
 have hnil:tr.filter (λr=>(Array.replicate ops.size false).getD r.j false)=[]:=by
  rw[acn];intro r _ h;simp only[aaA,abQ]at h;split at h <;> simp at h
 have I:aL P tr s0 h0 hf.next ρ w (λj=>(Array.replicate ops.size false).getD j false) ρ1 w1 tm:=by
  refine⟨rfl,λbb hb=>aah hb,hse.size,?_,?_,?_,?_,rfl,rfl,rfl,aaj _,λ_ _ _=>rfl,?_,hr.lq,λbb pl hb hm=>hr.Y0 bb pl hb (by
   rw[show ρ1.m bb=ρ.m bb from aah (aap hb (aaU hr.lq hr.ro))]at hm;exact hm)⟩
  ·intro t;rw[hnil];exact(hse.get t).ext (ρ':=ρ1.cut h0.next) (by rw[hr.next];exact aaj _) hm1
  ·intro bb o hg;rw[hnil]at hg ⊢;have hb:=hr.KJ bb _ hg;obtain⟨pl,hp,hc⟩:=hr.ok bb o hg;refine⟨hb,pl,hm1 bb pl (by rw[hr.next];exact hb) hp,?_⟩;exact vV.other (vV.ext (ρ:=ρ) (ρ':=ρ1.cut h0.next) (by rw[hr.next];exact aaj _) hm1 hc) rfl
  ·intro b1 b2 o1 o2 p1 p2 g1 g2 m1 m2 e;rw[hnil]at g1 g2;have l1:=hr.KJ b1 o1 g1;have l2:=hr.KJ b2 o2 g2;rw[show ρ1.m b1=ρ.m b1 from aah l1]at m1;rw[show ρ1.m b2=ρ.m b2 from aah l2]at m2;exact hr.inj b1 b2 o1 o2 p1 p2 g1 g2 m1 m2 e
  ·intro x hx _ bb h1 h2;obtain⟨A,B,e⟩:=aaP hx;have:=(V.told A x B e).n0;exact aae (by omega)
  ·intro bb o pl hg hro' hm hc;rw[hnil]at hg;have l:=hr.KJ bb o hg;rw[show ρ1.m bb=ρ.m bb from aah l]at hm;exact⟨bb,o,pl,hg,hro',hm,rfl⟩
 have hcount:((List.range ops.size).filter λi => !(Array.replicate ops.size false).getD i false).length<=ops.size:=by
  have:=List.length_filter_le (λi => !(Array.replicate ops.size false).getD i false) (List.range ops.size);simpa using this
 obtain⟨S,ρ2,w2,tm2,hS,I2,sx⟩:=R5 hr.ro V hN ds b k cs ops.size (w.tape w.drawn (.order b.fn id)) (Array.replicate ops.size false) ρ1 w1 tm (by simp) hcount (λi j _ hj=>by
  simp only[aaA,abQ]at hj;split at hj <;> simp at hj) I
 have hfull:tr.filter (λr=>S r.j)=tr:=List.filter_eq_self.2 hS;have lastn:∀(p:yz->Bool) x,vv tr p=some x->x.g'.next<=hf.next:=λp x hx=>hN x (XG hx).1;have hcut:ρ2=ρ2.cut hf.next:=by have:=I2.next;cases ρ2;simp only at this;subst this;rfl
 have hrel:Rel P ρ2 hf w2:=by
  refine⟨I2.next,by rw[hro];exact aaU hr.ro hn,?_,?_,?_,by rw[hro];exact hr.lq,I2.gl⟩
  ·intro bb o hg;rw[hh]at hg;have:=(I2.heap bb o (by rw[hfull];exact hg)).1;rw[hfull]at this;refine aap this ?_;simp only[ie];split
   ·rename_i x hx;exact lastn _ x hx
   ·exact hn
  ·intro bb o hg;rw[hh]at hg;obtain⟨_,pl,hp,hc⟩:=I2.heap bb o (by rw[hfull];exact hg);refine⟨pl,hp,?_⟩;rw[hro];rw[hfull]at hc;rw[hcut];refine vV.Jk ?_ hc;simp only[ie];split
   ·rename_i x hx;exact lastn _ x hx
   ·exact hn
  ·intro b1 b2 o1 o2 p1 p2 g1 g2;rw[hh]at g1 g2;exact I2.inj b1 b2 o1 o2 p1 p2 (by rw[hfull];exact g1) (by rw[hfull];exact g2)
 refine⟨.normal,sf,hf,ρ2,w2,tm2,ds,hq,⟨⟨by rw[I2.next,hr.next];exact hn,λbb hb=>I2.old bb (by rw[<- hr.next];exact hb)⟩,hrel,hro,I2.os,I2.tape,I2.output,I2.bL,I2.frame,?_⟩,⟨hsz.trans I2.size,λt=>?_⟩,.refl _ _ _,?_⟩
 ·rintro c hc ⟨bb,o,pl,hg,hrb,hm,rfl⟩;rw[hh]at hg;exact I2.mo bb o pl (by rw[hfull];exact hg) (by rw[<- hro];exact hrb) hm hc
 ·have:=I2.env t;rw[hfull]at this;rw[hs t];rw[hcut];refine zG.Jk ?_ this;simp only[eT];split
  ·rename_i x hx;exact lastn _ x hx
  ·exact hn
 ·refine .head Ui ?_
  have:Region.schedule (P.follows .mixedOrders) ops (w.tape w.drawn (.order b.fn id))=Region.linearise .any ops (w.tape w.drawn (.order b.fn id)):=by
   simp only[Region.schedule,hmix,Bool.true_or,abZ]
  rw[this];exact sx.trans (.one XE)
end
end
end Go.Ai
