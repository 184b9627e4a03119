/- A part of the proof. -/
import Derived.Test.YtfhacoddmpbgnaaGreatDoorTD
set_option linter.unusedVariables false
set_option linter.unusedSimpArgs false
set_option maxRecDepth 100000
namespace Go.Ai
noncomputable section
variable {P:Program}
theorem zO{α:Sort _}{a b:α}(h:a=b):a=b:=h
theorem ua{p:Prop}[Decidable p](h:p):decide p=true:=decide_eq_true h
theorem vm{p:Prop}[Decidable p](h:¬p):decide p=false:=decide_eq_false h
def zw(h:za)(b off:Nat):Option aaa:=match h.get b with
 |some (.cells c _)=>c[off]?
 |_=>none
def ya(h:za)(b off n:Nat):Option aaa:=match h.get b with
 |some (.cells c _)=>if off+n<=c.length then some (.agg ((c.drop off).take n).toArray) else none
 |_=>none
def yM(h:za)(b off:Nat)(vs:List aaa):Option za:=match h.get b with
 |some (.cells c t)=>if off+vs.length<=c.length/\h.ro<=b/\vs.all cellOk=true then some (h.set b (some (.cells (zb c off vs) t))) else none
 |_=>none
theorem Wg{α:Type}{b:Bool}{p:Prop}[Decidable p]{x y:α}(h:b=true ↔ p):cond b x y=if p then x else y:=by
 by_cases hp:p
 ·rw[aai hp,h.2 hp];rfl
 ·rw[aac hp,show b=false by simpa using λe=>hp (h.1 e)];rfl
theorem xV{t:TypeId}(ha:yO P (isAgg t)=some false)(b off:Nat)(h:za):zd P t (.pointer (some ⟨b,off,none⟩)) h=zw h b off:=by
 unfold zd zw;simp only[ha];cases h.get b with
 |none=>rfl
 |some o=>cases o <;> rfl
theorem YL{t:TypeId}{n:Nat}(ha:yO P (isAgg t)=some true)(hn:yO P (sizeOf t)=some n)(b off:Nat)(h:za):zd P t (.pointer (some ⟨b,off,none⟩)) h=ya h b off n:=by
 unfold zd ya;simp only[ha,hn];cases h.get b with
 |none=>rfl
 |some o=>
  cases o <;> simp only[];rw[Wg (p:=off+n<=_) (by rw[acm])]
theorem Bh{t:TypeId}{n:Nat}(hn:yO P (sizeOf t)=some n)(b off:Nat)(v:aaa)(h:za)(hv:v.cells.size=n):xO P t (.pointer (some ⟨b,off,none⟩)) v h=yM h b off v.cells.toList:=by
 unfold xO yM;simp only[hn];cases h.get b with
 |none=>rfl
 |some o=>
  cases o <;> simp only[];refine Wg ?_;simp only[aaj,acm,acQ,abO,hv,abP,and_assoc]
theorem vz{t:TypeId}(hn:yO P (sizeOf t)=some 1)(b off:Nat)(v:aaa)(h:za)(hv:v.cells = #[v]):xO P t (.pointer (some ⟨b,off,none⟩)) v h=yM h b off [v]:=by
 rw[Bh hn b off v h (by rw[hv];rfl),hv]
theorem Xr{t:TypeId}{n:Nat}(hn:yO P (sizeOf t)=some n)(b off:Nat)(l:List aaa)(h:za)(hv:l.length=n):xO P t (.pointer (some ⟨b,off,none⟩)) (.agg l.toArray) h=yM h b off l:=by
 rw[Bh hn b off _ h (by simpa [Value.cells] using hv)];rfl
theorem wN{t e:TypeId}{n:Nat}(hu:yO P (underlying t)=some (.slice e))(hn:yO P (sizeOf e)=some n){b off len c:Nat}{k:IntKind}{i:Int} :
  ym P t (.slice (some ⟨b,off,none⟩) len c) (.int k i)=if 0<=i/\i<len then some (.pointer (some ⟨b,off+i.toNat*n,none⟩)) else none:=by
 unfold ym;simp only[hu,hn];exact Wg (by simp)
theorem Fs{t e:TypeId}{n len:Nat}(hu:yO P (underlying t)=some (.array len e))(hn:yO P (sizeOf e)=some n){b off:Nat}{k:IntKind}{i:Int} :
  ym P t (.pointer (some ⟨b,off,none⟩)) (.int k i)=if 0<=i/\i<len then some (.pointer (some ⟨b,off+i.toNat*n,none⟩)) else none:=by
 unfold ym;simp only[hu,hn];exact Wg (by simp)
theorem eQ{d m:Nat}:uO none d m=some d:=zO rfl
theorem Xq{k:IntKind}{i:Int}{d m:Nat}:uO (some (.int k i)) d m=if 0<=i/\i<=m then some i.toNat else none:=Wg (by simp)
theorem La:I9 none=true:=zO rfl
theorem od{v:aaa}(h:zU v=false):I9 (some v)=true:=by simp only[I9,h,aa1]
theorem pJ{t e:TypeId}{n:Nat}(hu:yO P (underlying t)=some (.slice e))(hn:yO P (sizeOf e)=some n){b off len c:Nat}{lo hi:Option aaa}{h:za} :
  Gw P t (.slice (some ⟨b,off,none⟩) len c) lo hi h=(uO hi len len).bind λhh=>(uO lo 0 hh).bind λl=>some (.slice (some ⟨b,off+l*n,none⟩) (hh-l) (cond (wide P h b n) (bQ c l) 0)):=by
 simp only[Gw,pK,hu,hn];cases uO hi len len with
 |none=>rfl
 |some hh=>
  simp only[aaI];cases uO lo 0 hh <;> rfl
theorem Rc{t e:TypeId}{n k:Nat}(hu:yO P (underlying t)=some (.array k e))(hn:yO P (sizeOf e)=some n){b off:Nat}{lo hi:Option aaa}{h:za} :
  Gw P t (.pointer (some ⟨b,off,none⟩)) lo hi h=(uO hi k k).bind λhh=>(uO lo 0 hh).bind λl=>some (.slice (some ⟨b,off+(if k=l then 0 else l*n),none⟩) (hh-l) 0):=by
 simp only[Gw,pK,hu,hn];cases uO hi k k with
 |none=>rfl
 |some hh=>
  simp only[aaI];cases uO lo 0 hh <;> rfl
theorem Gt{h:za}{b n:Nat}{cs:List aaa}{t:TypeId}(hb:h.get b=some (.cells cs t)):wide P h b n=Nat.beq (P.cellsOf t) n:=by simp only[wide,hb]
def Pw(P:Program)(t:TypeId):Option (Nat×Nat):=(yO P (typeInfo t)).map λi=>(i.size,i.bytes)
theorem m9{t e:TypeId}{z:aaa}{zs:List aaa}{n bytes:Nat}(hu:yO P (underlying t)=some (.slice e))(hs:Pw P e=some (n,bytes))(hz:Yu P e=some z)(hzs:z.cells.toList=zs)(hn:0<n)(hb:bytes<=65536)(hl:zs.length=n)
  {k k2:IntKind} {l c:Int} {h:za} (h0:0<=l) (h1:l<=c) (h2:c<2^31):XZ P t (.int k l) (.int k2 c) h=some (.slice (some ⟨h.next,0,none⟩) l.toNat (c.toNat+2),h.push (.cells (qO zs (c.toNat*n)) e)):=by
 unfold Pw at hs;simp only[aat,aah]at hs;obtain⟨i,hi,rfl,rfl⟩:=hs;unfold XZ;simp only[hu,hi,hz];have w:∀n:Int,0<=n->n<2^31->IntKind.i64.wrap n=n:=λn p q=>by simp only[IntKind.wrap,IntKind.bits,IntKind.signed];simp;omega
 have hm:(i.bytes:Int)*c<=2^48:=by
  have:(i.bytes:Int)*c<=65536*c:=Int.mul_le_mul_of_nonneg_right (by omega) (by omega);omega
 have hz2:z.cells.size=i.size:=by rw[<- hl,<- hzs];simp
 rw[show(decide (IntKind.i64.wrap l=l)&&decide (IntKind.i64.wrap c=c)&&decide (0<=l)&&decide (l<=c)&&decide ((i.bytes:Int)*c<=2^48)&&Nat.beq z.cells.size i.size&&Nat.blt 0 i.size)=true by
  simp only[aaj,aaT,acQ,aa5];exact⟨⟨⟨⟨⟨⟨w l h0 (by omega),w c (by omega) h2⟩,h0⟩,h1⟩,hm⟩,hz2⟩,hn⟩]
 simp only[aaB,hzs]
def Ui(h:za)(elem size bytes n:Nat)(new:List aaa)(s:aaa):Option (aaa×za):=match s with
 | .slice none 0 0=>if n=0 then some (.slice none 0 0,h) else if n*bytes<=2^48 then some (.slice (some ⟨h.next,0,none⟩) n 1,h.push (.cells new elem)) else none
 | .slice (some ⟨b,off,none⟩) len c=>if n=0 then some (s,h) else (match h.get b with
   |some (.cells cs t)=>if c≠0/\t=elem/\h.ro<=b/\off+len*size<=cs.length/\roomFor c (len+n) bytes=true/\off%size=0 then
     some (.slice (some ⟨h.next,0,none⟩) (len+n) (ux c (len+n)),(h.set b none).push (.cells (((cs.drop off).take (len*size))++new) elem)) else none
   |_=>none)
 |_=>none
theorem Zj{sT xT e e2:TypeId}{size bytes:Nat}(h1:yO P (underlying sT)=some (.slice e))(h2:yO P (underlying xT)=some (.slice e2))(hs:Pw P e=some (size,bytes))(hz:(Yu P e).map (λz=>z.cells.size)=some size)(hb:0<bytes)
  {r:TypeId} {v x:aaa} {n:Nat} {new:List aaa} {h:za} (hn:eT x=some n) (hf:wJ h n size x=some new) (hc:new.all cellOk=true) (hl:new.length=n*size) :
  zv P .append [sT,xT] r [v,x] h=Ui h e size bytes n new v:=by
 unfold Pw at hs;simp only[aat,aah]at hs hz;obtain⟨i,hi,rfl,rfl⟩:=hs;obtain⟨z,hz,hz2⟩:=hz;simp only[zv,Ka,h1,h2,hn,hi,hz,hf]
 rw[show(!pU (TypeDesc.slice e2)&&Nat.blt 0 i.bytes&&Nat.beq z.cells.size i.size&&new.all cellOk&&Nat.beq new.length (n*i.size))=true by
  simp only[aaj,acQ,aa5];exact⟨⟨⟨⟨rfl,hb⟩,hz2⟩,hc⟩,hl⟩]
 simp only[aaB];unfold JA Ui;split
 ·exact(Wg (p:=n=0) (by simp)).trans (by
   by_cases h0:n=0
   ·rw[aai h0];exact(aai h0).symm
   ·rw[aac h0];exact(Wg (p:=n*i.bytes<=2^48) (by simp)).trans (aac h0).symm)
 ·rename_i b off len c;refine(Wg (p:=n=0) (by simp)).trans ?_;by_cases h0:n=0
  ·rw[aai h0];exact(aai h0).symm
  ·rw[aac h0];refine Eq.trans ?_ (aac h0).symm;cases hg:h.get b with
   |none=>rfl
   |some o=>
    cases o with
    |cells cs t=>
     refine Wg ?_;simp only[aaj,aaC,acQ,acm,ne_eq,and_assoc];refine and_congr ?_ (Iff.rfl);rw[<- acF,acQ]
    |_=>rfl
 ·rename_i q1 q2;split
  ·exact(q1 rfl).elim
  ·exact(q2 _ _ _ _ rfl).elim
  ·rfl
section heaps
variable {h:za}{b c off n:Nat}{cs:List aaa}{t:TypeId}{o:wm}
theorem rC(hb:h.get b=some (.cells cs t))(off:Nat)(vs:List aaa):yM h b off vs=if off+vs.length<=cs.length/\h.ro<=b/\vs.all cellOk=true then some (h.set b (some (.cells (zb cs off vs) t))) else none:=by simp only[yM,hb]
theorem zk:(h.push o).get h.next=some o:=by rw[za.vo,aai rfl]
theorem zM(hb:b=h.next):(h.push o).get b=some o:=by rw[za.vo,aai hb]
theorem zt(hb:b<h.next):(h.push o).get b=h.get b:=by rw[za.vo,aac (by omega)]
theorem zW{x:Option wm}:(h.set b x).get b=x:=by rw[za.yI,aai rfl]
theorem zJ{x:Option wm}(hb:¬c=b):(h.set b x).get c=h.get c:=by rw[za.yI,aac hb]
theorem fC(h:za)(b:Nat):h.lock.get b=h.get b:=zO rfl
theorem UM(h:za):h.lock.next=h.next:=zO rfl
theorem Pr(h:za):h.lock.ro=h.next:=zO rfl
theorem yG(h:za)(o:wm):(h.push o).next=h.next+1:=zO rfl
theorem qU(h:za)(b:Nat)(o:Option wm):(h.set b o).next=h.next:=zO rfl
theorem qt(h:za)(o:wm):(h.push o).ro=h.ro:=zO rfl
theorem iA(h:za)(b:Nat)(o:Option wm):(h.set b o).ro=h.ro:=zO rfl
theorem pX{a n k:Nat}(h:a<n):(a<n+k)=True:=by simp;omega
theorem tC{n:Nat}:(n<n+1)=True:=by simp
end heaps
section numbers
variable {t:TypeId}{x y:Operand}{k k':IntKind}{a b:Int}
theorem uw{v:aaa}{op:BinOp}{p q:aaa}(h:PZ P op t x y p q=some v):zX P op t x y p q=some v:=by unfold zX;rw[h]
theorem qA:zX P .lss t x y (.int k a) (.int k b)=some (.bool (decide (a<b))):=uw (by cases k <;> rfl)
theorem zdB:zX P .leq t x y (.int k a) (.int k b)=some (.bool (decide (a<=b))):=uw (by cases k <;> rfl)
theorem Ua:zX P .gtr t x y (.int k a) (.int k b)=some (.bool (decide (b<a))):=uw (by cases k <;> rfl)
theorem Ec:zX P .geq t x y (.int k a) (.int k b)=some (.bool (decide (b<=a))):=uw (by cases k <;> rfl)
theorem Wx:zX P .eql t x y (.int k a) (.int k b)=some (.bool (decide (a=b))):=uw (by cases k <;> rfl)
theorem YV:zX P .neq t x y (.int k a) (.int k b)=some (.bool (!decide (a=b))):=uw (by cases k <;> rfl)
theorem YU:zX P .add t x y (.int k a) (.int k b)=some (.int k (k.wrap (a+b))):=uw (by cases k <;> rfl)
theorem VV:zX P .sub t x y (.int k a) (.int k b)=some (.int k (k.wrap (a-b))):=uw (by cases k <;> rfl)
theorem Kc:zX P .mul t x y (.int k a) (.int k b)=some (.int k (k.wrap (a*b))):=uw (by cases k <;> rfl)
theorem sj(hb:¬b=0):zX P .quo t x y (.int k a) (.int k b)=some (.int k (k.wrap (a.tdiv b))):=by
 refine uw ?_;have:yO P (Op.intDiv .quo k a b)=some (.int k (k.wrap (a.tdiv b))):=by unfold Op.intDiv;rw[aac hb];rfl
 cases k <;> (show fl (yO P (Op.intDiv .quo _ a b))=_;rw[this];rfl)
theorem iT(hb:¬b=0):zX P .rem t x y (.int k a) (.int k b)=some (.int k (a.tmod b)):=by
 refine uw ?_;have:yO P (Op.intDiv .rem k a b)=some (.int k (a.tmod b)):=by unfold Op.intDiv;rw[aac hb];rfl
 cases k <;> (show fl (yO P (Op.intDiv .rem _ a b))=_;rw[this];rfl)
theorem zdA:zX P .and t x y (.int k a) (.int k b)=some (.int k (k.wrap (BitVec.ofInt k.bits a &&& BitVec.ofInt k.bits b).toNat)):=uw (by cases k <;> rfl)
theorem Rh:zX P .or t x y (.int k a) (.int k b)=some (.int k (k.wrap (BitVec.ofInt k.bits a ||| BitVec.ofInt k.bits b).toNat)):=uw (by cases k <;> rfl)
theorem zdC:zX P .xor t x y (.int k a) (.int k b)=some (.int k (k.wrap (BitVec.ofInt k.bits a ^^^ BitVec.ofInt k.bits b).toNat)):=uw (by cases k <;> rfl)
theorem Ie:zX P .andNot t x y (.int k a) (.int k b)=some (.int k (k.wrap (BitVec.ofInt k.bits a &&& ~~~BitVec.ofInt k.bits b).toNat)):=uw (by cases k <;> rfl)
theorem Ed(hb:0<=b):zX P .shl t x y (.int k a) (.int k' b)=some (.int k (k.wrap (a*2^(min b.toNat k.bits)))):=by
 refine uw ?_;have:yO P (Op.shift .shl k a k' b)=some (.int k (k.wrap (a*2^(min b.toNat k.bits)))):=by unfold Op.shift;rw[aac (by omega)];rfl
 show fl (yO P (Op.shift .shl k a k' b))=_;rw[this];rfl
theorem Ig(hb:0<=b):zX P .shr t x y (.int k a) (.int k' b)=some (.int k (a.fdiv (2^(min b.toNat k.bits)))):=by
 refine uw ?_;have:yO P (Op.shift .shr k a k' b)=some (.int k (a.fdiv (2^(min b.toNat k.bits)))):=by unfold Op.shift;rw[aac (by omega)];rfl
 show fl (yO P (Op.shift .shr k a k' b))=_;rw[this];rfl
theorem CA{c:Bool}:YY P .not (.bool c)=some (.bool (!c)):=zO rfl
theorem zb2:YY P .neg (.int k a)=some (.int k (k.wrap (0-a))):=by cases k <;> rfl
end numbers
section nils
variable {t e:TypeId}{x y:Operand}
theorem zbs{p q:aaa}{r:Bool}(hf:(flat p&&flat q)=false)(h:isNil P t p q=some r):zX P .eql t x y p q=some (.bool r)/\zX P .neq t x y p q=some (.bool (!r)):=by
 constructor <;> refine uw ?_ <;> unfold PZ <;> rw[hf] <;> simp only[aaJ,zd6,h,abV]
theorem zgk(hu:yO P (underlying t)=some (.pointer e))(a:Addr):zX P .eql t x y (.pointer (some a)) (.pointer none)=some (.bool false):=(zbs (p := .pointer (some a)) (q := .pointer none) (r:=false) rfl (by simp only[isNil,hu])).1
theorem zeW(hu:yO P (underlying t)=some (.slice e))(a:Addr)(n c:Nat):zX P .eql t x y (.slice (some a) n c) (.slice none 0 0)=some (.bool false):=(zbs (p := .slice (some a) n c) (q := .slice none 0 0) (r:=false) rfl (by simp only[isNil,hu])).1
end nils
theorem JW{α β:Type}(s:Sem α)(f:α->Sem β):yO P (s >>= f)=(yO P s).bind λa=>yO P (f a):=by
 induction s with
 |pure a=>rfl
 |program k ih=>exact ih P
 |_=>rfl
theorem JX{α:Type}(a:α):yO P (Pure.pure a:Sem α)=some a:=rfl
def eqF(P:Program)(d:Nat)(xs ys:Array aaa):List Field->Option Bool
 |[]=>some true
 |f::fs=>if f.name ≠ "_" then (match yO P (part f.type xs f.offset),yO P (part f.type ys f.offset) with
  |some a,some b=>(match yO P (Op.equalIn d f.type a b) with
   |some r=>cond r (eqF P d xs ys fs) (some false)
   |none=>none)
  |_,_=>none) else eqF P d xs ys fs
theorem ot{d:Nat}{t:TypeId}{xs ys:Array aaa}{fs:Array Field}(hu:P.underlying t=some (.struct fs))(hp:P.stoodInHeld t=false) :
  yO P (Op.equalIn (d+1) t (.agg xs) (.agg ys))=eqF P d xs ys fs.toList:=by
 have h2:yO P program=some P:=rfl
 have h1:yO P (underlying t)=some (.struct fs):=by
  unfold underlying;simp only[JW,h2,aaI,hu];rfl
 simp only[Op.equalIn,JW,h1,h2,aaI,hp,abo,abj];rw[<- Array.forIn_toList];generalize fs.toList=l;clear hu h1
 induction l with
 |nil=>rfl
 |cons f l ih=>
  simp only[List.forIn_cons,eqF,JW]at ih ⊢;by_cases hn:f.name ≠ "_"
  ·rw[aai hn,aai hn];simp only[JW];cases yO P (part f.type xs f.offset) with
   |none=>rfl
   |some a=>
    cases yO P (part f.type ys f.offset) with
    |none=>rfl
    |some b=>
     simp only[aaI];cases yO P (Op.equalIn d f.type a b) with
     |none=>rfl
     |some r=>
      cases r
      ·simp only[aaI,aa1,aad,JX];rfl
      ·simp only[aaI,abq,abo,abj,JX];exact ih
  ·rw[aac hn,aac hn];simp only[JX,aaI];exact ih
theorem bF{t:TypeId}{x y:Operand}{xs ys:Array aaa}{fs:Array Field}{r:Bool}(hu:P.underlying t=some (.struct fs))(hp:P.stoodInHeld t=false)(hg:P.eqGuardType P.depth t=false)(hx:flat (.agg xs)=true)(hy:flat (.agg ys)=true)
  (hr:eqF P 9999 xs ys fs.toList=some r):zX P .eql t x y (.agg xs) (.agg ys)=some (.bool r)/\zX P .neq t x y (.agg xs) (.agg ys)=some (.bool (!r)):=by
 have he:yO P (Op.equal t (.agg xs) (.agg ys))=some r:=(ot hu hp).trans hr
 have hgd:∀op:BinOp,yO P (eqGuard op t x y (.agg xs) (.agg ys))=some ():=by
  intro op;have h2:yO P program=some P:=rfl;cases op <;> simp[eqGuard,JW,h2,hg,JX]
 constructor <;> refine uw ?_ <;> unfold PZ <;> rw[hx,hy] <;> simp only[abg,aaB,JW,hgd,aaI,binOp,he,JX] <;> rfl
section
theorem zP{b}:zU (.bool b)=false:=zO rfl
theorem yc{k n}:zU (.int k n)=false:=zO rfl
theorem Cb{s}:zU (.string s)=false:=zO rfl
theorem xz{a}:zU (.pointer a)=false:=zO rfl
theorem yH{a n c}:zU (.slice a n c)=false:=zO rfl
theorem Pl{a}:zU (.map a)=false:=zO rfl
theorem I5{f a c}:zU (.func f a c)=false:=zO rfl
theorem I6:zU .nilFunc=false:=zO rfl
theorem Ez{t v}:zU (.iface t v)=false:=zO rfl
theorem I7:zU .nilIface=false:=zO rfl
theorem yJ{a}:zU (.agg a)=false:=zO rfl
theorem EA{a}:zU (.tuple a)=false:=zO rfl
theorem Ix{b}:cellOk (.bool b)=true:=zO rfl
theorem qB{k n}:cellOk (.int k n)=true:=zO rfl
theorem Bs{s}:cellOk (.string s)=true:=zO rfl
theorem ij{a}:cellOk (.pointer a)=true:=zO rfl
theorem JH{a n c}:cellOk (.slice a n c)=true:=zO rfl
theorem OR{a}:cellOk (.map a)=true:=zO rfl
theorem Iy{f a c}:cellOk (.func f a c)=true:=zO rfl
end
theorem EB:yD []=true:=zO rfl
theorem Cd{v:aaa}{l:List aaa}(h:zU v=false):yD (v::l)=yD l:=by simp only[yD,h,aaJ]
theorem yg{α:Type}(x:Option α):nb [] x=x:=zO rfl
theorem zK{α:Type}{v:aaa}{l:List aaa}{x:Option α}(h:zU v=false):nb (v::l) x=nb l x:=by simp only[nb,yD,h,aaJ]
theorem yZ{A B J}:CD (.bool true) A B J=A J:=zO rfl
theorem yq{A B J}:CD (.bool false) A B J=B J:=zO rfl
theorem SJ{b want:Bool}{A K h}(e:b=want):GD (.bool b) want A K h=A K:=by
 apply propext;constructor
 ·intro g;exact g.1 e
 ·intro g;exact⟨λ_=>g,λne=>absurd e ne⟩
theorem SI{b want:Bool}{A K h}(e:¬b=want):GD (.bool b) want A K h=K undef h:=by
 apply propext;constructor
 ·intro g;exact g.2 e
 ·intro g;exact⟨λe'=>absurd e' e,λ_=>g⟩
theorem NN{w A K h}:GD undef w A K h=K undef h:=zO rfl
theorem j3{A K h}:GD (.bool true) true A K h=A K:=SJ rfl
theorem kM{A K h}:GD (.bool false) false A K h=A K:=SJ rfl
theorem Qx{A K h}:GD (.bool true) false A K h=K undef h:=SI (by simp)
theorem ZV{A K h}:GD (.bool false) true A K h=K undef h:=SI (by simp)
theorem xF{a b:aaa}(h:zU a=false):pk (.bool true) a b=some a:=by simp only[pk,zK h,yg]
theorem yK{a b:aaa}(h:zU b=false):pk (.bool false) a b=some b:=by simp only[pk,zK h,yg]
theorem wK(a:Addr):xW (.pointer (some a))=some (.pointer (some a)):=zO rfl
theorem eZ{vs:Array aaa}{i:Nat}(h:yD vs.toList=true):Yt (.tuple vs) i=vs[i]?:=by simp only[Yt,nb,h,aaB]
theorem bJ{a b:aaa}(ha:zU a=false)(hb:zU b=false):Yt (.tuple #[a,b]) 0=some a:=(eZ (by simp only[yD,ha,hb,aaJ])).trans rfl
theorem bK{a b:aaa}(ha:zU a=false)(hb:zU b=false):Yt (.tuple #[a,b]) 1=some b:=(eZ (by simp only[yD,ha,hb,aaJ])).trans rfl
theorem qu{v:aaa}{h R}(hb:zU v=false):rv [v] h R=R v h:=by
 apply propext;simp only[rv,yD,hb,aaJ,Zx,abP]
theorem uD{v w:aaa}{h R}(hb:zU v=false)(hc:zU w=false):rv [v,w] h R=R (.tuple #[v,w]) h:=by
 apply propext;simp only[rv,yD,hb,hc,aaJ,Zx,abP]
theorem xX{g:FuncId}{args:List aaa}{h:za}{K R:aaa->za->Prop}(hc:xM P g=true)(hn:yD args=true)(hT:DC P g args h R)(hk:∀v h1,R v h1->K v h1):zu P (.func (.func g) #[] #[]) args h K :=
 ⟨hn,by simpa using hn,.inl ⟨hc,by simpa using hT.mono hk⟩⟩
theorem nk{g:FuncId}{args:List aaa}{h:za}{K R:aaa->za->Prop}(hc:xM P g=true)(hn:yD args=true)(hT:DC P g args h R)(hk:∀v h1,R v h1->K v h1):Yv P g args h K :=
 ⟨hc,hn,hT.mono hk⟩
theorem qQ{step:List aaa->za->(List aaa->za->Prop)->Prop}(I:Nat->List aaa->za->Prop)(n:Nat){vs:List aaa}{h:za}(h0:I n vs h)
  (hs:∀n vs h,I n vs h->step vs h (λvs' h'=>∃m,m<n/\I m vs' h')):LP step vs h:=⟨I,n,h0,hs⟩
def yX(P:Program)(f:FuncId)(args:List aaa)(h:za)(v:aaa):Prop:=rq v=true/\TC P f args h.lock (λv1 _=>v1=v)
theorem yX.dc{f:FuncId}{args:List aaa}{h:za}{v:aaa}(q:yX P f args h v):DC P f args h (λv1 h1=>v1=v/\h1=h):=λ_=>
 ⟨v,h,⟨rfl,rfl⟩,.refl _,(q.2.quiet (λv1 _ e=>by rw[e];exact q.1)).mono (by rintro v1 h1 ⟨⟨_,e1⟩,e2⟩;exact⟨e1,e2⟩)⟩
theorem yX.of{f:FuncId}{args:List aaa}{h:za}{v:aaa}(hs:rq v=true)(d:DC P f args h.lock (λv1 _=>v1=v)):yX P f args h v:=⟨hs,d.tc⟩
theorem Kd{g:FuncId}{args:List aaa}{h:za}{K:aaa->za->Prop}{v:aaa}(hc:xM P g=true)(hn:yD args=true)(hq:yX P g args h v)(hk:K v h):zu P (.func (.func g) #[] #[]) args h K :=
 xX hc hn hq.dc (by rintro v1 h1 ⟨rfl,rfl⟩;exact hk)
theorem tj{g:FuncId}{args:List aaa}{h:za}{K:aaa->Prop}{v:aaa}(hc:xM P g=true)(hn:yD args=true)(hq:yX P g args h v)(hk:K v):qd P g args h K :=
 ⟨hc,hn,v,hq.1,hq.2,hk⟩
end
end Go.Ai
