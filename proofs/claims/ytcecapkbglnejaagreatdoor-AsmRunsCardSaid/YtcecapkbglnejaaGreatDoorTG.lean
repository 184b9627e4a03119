import Derived.Test.YtcecapkbglnejaaGreatDoorTD
set_option linter.unusedVariables false
set_option linter.unusedSimpArgs false
set_option maxRecDepth 100000
namespace Go.Ai
noncomputable section
abbrev Part:=Nat->Option wQ
structure yE where
 get:Nat->Option (Option wQ)
 ro:Nat
def yE.un(lo:yE)(a:Part):yE:=⟨λx=>match a x with
 |some o=>some (some o)
 |none=>lo.get x,lo.ro⟩
def yE.of(h:za):yE:=⟨λb=>if b<h.next then some (h.get b) else none,h.ro⟩
def yE.dj(lo:yE)(a:Part):Prop := ∀x o,a x=some o->lo.get x=none
structure yE.Le (lo lo':yE):Prop where
 ro:lo'.ro=lo.ro
 get:∀b x,lo.get b=some x->lo'.get b=some x
structure rm (lo:yE) (h:za):Prop where
 ro:h.ro=lo.ro
 Fx:h.ro<=h.next
 get:∀b x,lo.get b=some x->h.get b=x/\b<h.next
abbrev HP:=Part->Prop
def Sat(lo:yE)(h:za):List HP->Prop
 |[]=>rm lo h
 |A::L=>∃a,A a/\lo.dj a/\(∀b o,a b=some o->lo.ro<=b)/\Sat (lo.un a) h L
theorem yE.Le.refl(lo:yE):lo.Le lo:=⟨rfl,λ_ _ h=>h⟩
theorem yE.Le.trans{a b c:yE}(x:a.Le b)(y:b.Le c):a.Le c:=⟨y.ro.trans x.ro,λi o h=>y.get i o (x.get i o h)⟩
theorem yE.bM{lo:yE}{a:Part}(d:lo.dj a):lo.Le (lo.un a):=⟨rfl,λb x h=>by
 unfold yE.un;cases e:a b with
 |none=>simp only[e];exact h
 |some o=>rw[d b o e]at h;cases h⟩
theorem yE.uj{lo:yE}{a:Part}{b:Nat}{o:wQ}(e:a b=some o):(lo.un a).get b=some (some o):=by simp only[yE.un,e]
theorem yE.qq{lo:yE}{a:Part}{b:Nat}(e:a b=none):(lo.un a).get b=lo.get b:=by simp only[yE.un,e]
theorem yE.zcA{lo:yE}{a c:Part}(d:(lo.un a).dj c):(lo.un a).un c=(lo.un c).un a:=by
 unfold yE.un
 congr 1
 funext x
 cases e:c x with
 |none=>simp only[e]
 |some o=>
  have:=d x o e;simp only[yE.un]at this;cases e2:a x with
  |none=>simp only[e]
  |some p=>rw[e2]at this;cases this
theorem yE.Tx{lo:yE}{a c:Part}(d:lo.dj a)(k:(lo.un a).dj c):lo.dj c:=λx o e=>by
 cases e2:lo.get x with
 |none=>rfl
 |some p=>rw[<- k x o e,(yE.bM d).get x p e2]
theorem yE.zbI{lo:yE}{a c:Part}(d:lo.dj a)(k:(lo.un a).dj c):(lo.un c).dj a:=λx o e=>by
 cases e2:c x with
 |none=>rw[yE.qq e2];exact d x o e
 |some p=>have:=k x p e2;rw[yE.uj e]at this;cases this
theorem yE.Le.dj{lo lo':yE}(l:lo.Le lo'){a:Part}(d:lo'.dj a):lo.dj a:=λx o e=>by
 cases e2:lo.get x with
 |none=>rfl
 |some p=>rw[<- d x o e,l.get x p e2]
theorem yE.Le.un{lo lo':yE}(l:lo.Le lo')(a:Part):(lo.un a).Le (lo'.un a):=⟨l.ro,λb x h=>by
 cases e:a b with
 |none=>rw[yE.qq e]at h ⊢;exact l.get b x h
 |some o=>rw[yE.uj e]at h ⊢;exact h⟩
theorem rm.mono{lo lo':yE}{h:za}(l:lo.Le lo')(x:rm lo' h):rm lo h:=⟨x.ro.trans l.ro,x.Fx,λb y e=>x.get b y (l.get b y e)⟩
theorem Sat.mono{h:za}:∀{L:List HP} {lo lo':yE},lo.Le lo'->Sat lo' h L->Sat lo h L
 |[],lo,lo',l,x=>rm.mono l x
 |A::L,lo,lo',l,⟨a,ha,d,w,x⟩=>⟨a,ha,l.dj d,λb o e=>by rw[<- l.ro];exact w b o e,Sat.mono (l.un a) x⟩
theorem Sat.base{h:za}:∀{L:List HP} {lo:yE},Sat lo h L->rm lo h
 |[],_,x=>x
 |A::L,_,⟨_,_,d,_,x⟩=>(Sat.base x).mono (yE.bM d)
theorem Sat.part{h:za}{A:HP}:∀{L:List HP} {lo:yE},Sat lo h L->A∈L->∃a,A a/\lo.dj a /\ ∀b o,a b=some o->h.get b=some o/\h.ro<=b/\b<h.next
 |B::L,lo,⟨a,ha,d,w,x⟩,hm=>by
  rcases abm.1 hm with rfl|hm
  ·refine⟨a,ha,d,λb o e=>?_⟩;have bs:=Sat.base x;obtain⟨g1,g2⟩:=bs.get b _ (yE.uj e);exact⟨g1,by rw[bs.ro];exact w b o e,g2⟩
  ·obtain⟨c,hc,dc,g⟩:=Sat.part x hm;exact⟨c,hc,yE.Tx d dc,g⟩
theorem Sat.swap{h:za}{A B:HP}{L:List HP}{lo:yE}(x:Sat lo h (A::B::L)):Sat lo h (B::A::L):=by
 obtain⟨a,ha,d,w,c,hc,dc,wc,x⟩:=x;exact⟨c,hc,yE.Tx d dc,wc,a,ha,yE.zbI d dc,w,by rw[<- yE.zcA dc];exact x⟩
theorem Sat.cons{h:za}{A:HP}{L L':List HP}(f:∀lo,Sat lo h L->Sat lo h L'){lo:yE}(x:Sat lo h (A::L)):Sat lo h (A::L'):=by
 obtain⟨a,ha,d,w,x⟩:=x;exact⟨a,ha,d,w,f _ x⟩
theorem Sat.perm{h:za}{L L':List HP}(p:L.Perm L'):∀{lo:yE},Sat lo h L->Sat lo h L':=by
 induction p with
 |nil=>exact λx=>x
 |cons A p ih=>exact λx=>x.cons λlo=>ih
 |swap A B L=>exact λx=>x.swap
 |trans p q ih1 ih2=>exact λx=>ih2 (ih1 x)
theorem Sat.drop{h:za}{A:HP}{L:List HP}{lo:yE}(x:Sat lo h (A::L)):Sat lo h L:=by
 obtain⟨a,ha,d,w,x⟩:=x;exact x.mono (yE.bM d)
theorem Sat.zc6{h:za}{L':List HP}{lo:yE}:∀{L:List HP},Sat lo h (L++L')->Sat lo h L'
 |[],x=>x
 |A::L,x=>Sat.zc6 (L:=L) x.drop
def pe:Nat->List HP->List HP
 |0,L=>L
 |_+1,[]=>[]
 |i+1,A::L=>match pe i L with
  |[]=>[A]
  |B::L'=>B::A::L'
theorem pd:∀(i:Nat) (L:List HP),L.Perm (pe i L)
 |0,L=>List.Perm.refl _
 |_+1,[]=>List.Perm.refl _
 |i+1,A::L=>by
  have ih:=pd i L;unfold pe;split
  ·rename_i e;rw[e]at ih;exact ih.cons A
  ·rename_i B L' e;rw[e]at ih;exact(ih.cons A).trans (List.Perm.swap _ _ _)
theorem Sat.p{h:za}{L:List HP}{lo:yE}(x:Sat lo h L)(i:Nat):Sat lo h (pe i L):=x.perm (pd i L)
def zds:List Nat->List HP->List HP
 |[],L=>L
 |i::is,L=>zds is (pe i L)
theorem Sat.ps{h:za}{lo:yE}:∀(is:List Nat) {L:List HP},Sat lo h L->Sat lo h (zds is L)
 |[],_,x=>x
 |i::is,_,x=>Sat.ps is (x.p i)
def rX:List Nat->List Nat->List HP->List HP
 |[],_,L=>L
 |i::is,prev,L=>match pe (i-(prev.filter λj=>Nat.blt j i).length) L with
  |[]=>[]
  |A::L'=>A::rX is (i::prev) L'
def front(is:List Nat)(L:List HP):List HP:=rX is [] L
theorem m9:∀(is prev:List Nat) (L:List HP),L.Perm (rX is prev L)
 |[],_,L=>List.Perm.refl _
 |i::is,prev,L=>by
  have p:=pd (i-(prev.filter λj=>Nat.blt j i).length) L;unfold rX;split
  ·rename_i e;rw[e]at p;exact p
  ·rename_i A L' e;rw[e]at p;exact p.trans ((m9 _ _ L').cons A)
theorem Md(is:List Nat)(L:List HP):L.Perm (front is L):=m9 _ _ _
theorem Sat.f{h:za}{L:List HP}{lo:yE}(x:Sat lo h L)(is:List Nat):Sat lo h (front is L):=x.perm (Md is L)
theorem Sat.zG{h:za}{L:List HP}{lo:yE}(x:Sat lo h L)(n:Nat):Sat lo h (L.take n):=by
 have q:(L.take n++L.drop n).Perm (L.drop n++L.take n):=List.perm_append_comm;rw[List.take_append_drop]at q;exact(x.perm q).zc6
theorem Sat.k{h:za}{L:List HP}{lo:yE}(x:Sat lo h L)(is:List Nat):Sat lo h ((front is L).take is.length):=(x.f is).zG _
theorem Sat.to{h h':za}:∀{L:List HP} {lo lo':yE},Sat lo h L->(∀b,b<h.next->lo.get b=none->lo'.get b=none)->rm lo' h'->lo'.ro=lo.ro->h.next<=h'.next->(∀b,b<h.next->lo.get b=none->h'.get b=h.get b)->Sat lo' h' L
 |[],_,_,_,_,b,_,_,_=>b
 |A::L,lo,lo',⟨a,ha,d,w,x⟩,k,b,r,n,g=>by
  have bs:=Sat.base x;have lt:∀y o,a y=some o->y<h.next:=λy o e=>(bs.get y _ (yE.uj e)).2
  have dn:∀y,(lo.un a).get y=none->a y=none/\lo.get y=none:=λy e=>by
   cases e2:a y with
   |none=>rw[yE.qq e2]at e;exact⟨rfl,e⟩
   |some o=>rw[yE.uj e2]at e;cases e
  refine⟨a,ha,λy o e=>k y (lt y o e) (d y o e),λy o e=>by rw[r];exact w y o e,Sat.to x (λy hy e=>?_) ?_ r n λy hy e=>?_⟩
  ·rw[yE.qq (dn y e).1];exact k y hy (dn y e).2
  ·refine⟨b.ro,b.Fx,λy z e=>?_⟩;cases e2:a y with
   |none=>rw[yE.qq e2]at e;exact b.get y z e
   |some o=>
    rw[yE.uj e2]at e;cases e;exact⟨(g y (lt y o e2) (d y o e2)).trans (bs.get y _ (yE.uj e2)).1,aan (lt y o e2) n⟩
  ·exact g y hy (dn y e).2
theorem Sat.zf8{h:za}{L2:List HP}:∀{L1:List HP} {lo:yE},Sat lo h (L1++L2)->∃lo1,lo.Le lo1/\Sat lo1 h L2 /\ ∀h' L',Sat lo1 h' L'->Sat lo h' (L1++L')
 |[],lo,x=>⟨lo,.refl lo,x,λ_ _ y=>y⟩
 |A::L1,lo,⟨a,ha,d,w,x⟩=>by
  obtain⟨lo1,l,s,f⟩:=Sat.zf8 (L1:=L1) x;exact⟨lo1,(yE.bM d).trans l,s,λh' L' y=>⟨a,ha,d,w,f h' L' y⟩⟩
theorem Sat.call{h:za}{L1 L2:List HP}{lo:yE}(x:Sat lo h (L2++L1)):∃lo1,lo.Le lo1/\Sat lo1 h L2 /\ ∀h' L',Sat lo1 h' L'->Sat lo h' (L'++L1):=by
 obtain⟨lo1,l,s,f⟩:=Sat.zf8 (x.perm List.perm_append_comm);exact⟨lo1,l,s,λh' L' y=>(f h' L' y).perm List.perm_append_comm⟩
def pt(b:Nat)(o:wQ):HP:=λm=>∀x,m x=if x=b then some o else none
theorem Sat.zep{h:za}{L:List HP}{lo:yE}(x:Sat lo h L){b:Nat}{o:wQ}(hm:pt b o∈L):h.get b=some o/\h.ro<=b/\b<h.next:=by
 obtain⟨a,ha,_,g⟩:=x.part hm;exact g b o (by rw[ha b,aai rfl])
theorem Sat.get{h:za}{L:List HP}{lo:yE}{b:Nat}{o:wQ}(x:Sat lo h (pt b o::L)):h.get b=some o:=(x.zep (List.mem_cons_self ..)).1
theorem Sat.wr{h:za}{L:List HP}{lo:yE}{b:Nat}{o:wQ}(x:Sat lo h (pt b o::L)):h.ro<=b:=(x.zep (List.mem_cons_self ..)).2.1
theorem Sat.lt{h:za}{L:List HP}{lo:yE}{b:Nat}{o:wQ}(x:Sat lo h (pt b o::L)):b<h.next:=(x.zep (List.mem_cons_self ..)).2.2
theorem Sat.ne{h:za}{L:List HP}{lo:yE}{b c:Nat}{o o':wQ}(x:Sat lo h (pt b o::pt c o'::L)):¬b=c:=by
 rintro rfl;obtain⟨a,ha,d,w,e,he,de,we,x⟩:=x;have:=de b o' (by rw[he,aai rfl]);rw[yE.uj (o:=o) (by rw[ha,aai rfl])]at this;cases this
theorem Sat.push{h:za}{L:List HP}{lo:yE}(x:Sat lo h L)(o:wQ):Sat lo (h.push o) (pt h.next o::L):=by
 have bs:=x.base
 have hn:lo.get h.next=none:=by
  cases e:lo.get h.next with
  |none=>rfl
  |some y=>exact absurd (bs.get _ _ e).2 (Nat.lt_irrefl _)
 refine⟨λy=>if y=h.next then some o else none,λ_=>rfl,λy p e=>?_,λy p e=>?_,x.to (λy hy e=>?_) ⟨bs.ro,abQ bs.Fx,λy z e=>?_⟩ rfl (abC _) λy hy _=>zD hy⟩
 ·dsimp only at e;split at e
  ·rename_i q;rw[q];exact hn
  ·cases e
 ·dsimp only at e;split at e
  ·rename_i q;rw[q,<- bs.ro];exact bs.Fx
  ·cases e
 ·rw[yE.qq (by rw[aae (by omega)])];exact e
 ·by_cases q:y=h.next
  ·subst q;rw[yE.uj (o:=o) (by rw[aai rfl])]at e;cases e;exact⟨zv,aa6 _⟩
  ·rw[yE.qq (by rw[aae q])]at e;obtain⟨g1,g2⟩:=bs.get y z e;exact⟨(zD g2).trans g1,acH g2⟩
theorem Sat.set{h:za}{L:List HP}{lo:yE}{b:Nat}{o:wQ}(x:Sat lo h (pt b o::L))(o':wQ):Sat lo (h.set b (some o')) (pt b o'::L):=by
 obtain⟨a,ha,d,w,x⟩:=x;have hb:lo.get b=none:=d b o (by rw[ha b,aai rfl]);have bs:=x.base;refine⟨λy=>if y=b then some o' else none,λ_=>rfl,λy p e=>?_,λy p e=>?_,x.to (λy hy e=>?_) ⟨bs.ro,bs.Fx,λy z e=>?_⟩ rfl (aam _) λy hy e=>?_⟩
 ·dsimp only at e;split at e
  ·rename_i q;rw[q];exact hb
  ·cases e
 ·dsimp only at e;split at e
  ·rename_i q;rw[q];exact w b o (by rw[ha b,aai rfl])
  ·cases e
 ·have q:y≠b:=by rintro rfl;rw[yE.uj (o:=o) (by rw[ha,aai rfl])]at e;cases e
  rw[yE.qq (by rw[ha,aae q])]at e;rw[yE.qq (by rw[aae q])];exact e
 ·by_cases q:y=b
  ·subst q;rw[yE.uj (o:=o') (by rw[aai rfl])]at e;cases e;exact⟨yr,(bs.get y _ (yE.uj (o:=o) (by rw[ha,aai rfl]))).2⟩
  ·rw[yE.qq (by rw[aae q])]at e;obtain⟨g1,g2⟩:=bs.get y z (by rw[yE.qq (by rw[ha,aae q])];exact e);exact⟨(zU q).trans g1,g2⟩
 ·have q:y≠b:=by rintro rfl;rw[yE.uj (o:=o) (by rw[ha,aai rfl])]at e;cases e
  exact zU q
theorem Sat.forget{h:za}{L:List HP}{lo:yE}{b:Nat}{o:wQ}(x:Sat lo h (pt b o::L))(z:Option wQ):Sat lo (h.set b z) L:=by
 obtain⟨a,ha,d,w,x⟩:=x;have hb:lo.get b=none:=d b o (by rw[ha b,aai rfl]);have bs:=x.base;refine x.to (λy hy e=>?_) ⟨bs.ro,bs.Fx,λy z e=>?_⟩ rfl (aam _) λy hy e=>?_
 ·cases q:lo.get y with
  |none=>rfl
  |some v=>rw[(yE.bM d).get y v q]at e;cases e
 ·have q:y≠b:=by rintro rfl;rw[hb]at e;cases e
  obtain⟨g1,g2⟩:=bs.get y z ((yE.bM d).get y z e);exact⟨(zU q).trans g1,g2⟩
 ·have q:y≠b:=by rintro rfl;rw[yE.uj (o:=o) (by rw[ha,aai rfl])]at e;cases e
  exact zU q
theorem w8{h:za}{L:List HP}{lo:yE}{c:List aaa}{t:TypeId}{K:aaa->za->Prop}(s:Sat lo h L)(k:∀b h',Sat lo h' (pt b (.cells c t)::L)->K (.pointer (some ⟨b,0,none⟩)) h'):nw h c t K:=k _ _ (s.push _)
theorem z9{h:za}{L:List HP}{lo:yE}{b off:Nat}{cs vs:List aaa}{t:TypeId}{K:za->Prop}(s:Sat lo h (pt b (.cells cs t)::L))(hl:off+vs.length<=cs.length)(hc:vs.all wI=true)(k:∀h',Sat lo h' (pt b (.cells (zb cs off vs) t)::L)->K h'):opt (xw h b off vs) K:=by
 rw[Fo s.get,aai ⟨hl,s.wr,hc⟩];exact k _ (s.set _)
theorem KD{h:za}{R:aaa->za->Prop}:rv [] h R=R (Zh []) h:=by
 unfold rv;simp only[yy,ab1]
theorem Sat.zeC{h h':za}{L:List HP}{lo:yE}(x:Sat lo h L)(hn:h.next<=h'.next)(hr:h'.ro=h.ro)(hg:∀b,b<h.next->h'.get b=h.get b):Sat lo h' L:=by
 have bs:=x.base;exact x.to (λ_ _ e=>e) ⟨hr.trans bs.ro,by rw[hr];exact aaZ bs.Fx hn,λb y e=>⟨(hg b (bs.get b y e).2).trans (bs.get b y e).1,aan (bs.get b y e).2 hn⟩⟩ rfl hn λb hb _=>hg b hb
def ex{α:Type}(f:α->HP):HP:=λm=>∃x,f x m
theorem Sat.TG{h:za}{α:Type}{f:α->HP}{L:List HP}{lo:yE}:Sat lo h (ex f::L) ↔ ∃x,Sat lo h (f x::L) :=
 ⟨λ⟨a,⟨x,hx⟩,d,w,s⟩=>⟨x,a,hx,d,w,s⟩,λ⟨x,a,hx,d,w,s⟩=>⟨a,⟨x,hx⟩,d,w,s⟩⟩
theorem Sat.zbc{h:za}{α:Type}{f:α->HP}{L:List HP}{lo:yE}(s:Sat lo h (ex f::L)):∃x,Sat lo h (f x::L):=Sat.TG.1 s
theorem Sat.zai{h:za}{α:Type}{f:α->HP}{L:List HP}{lo:yE}(x:α)(s:Sat lo h (f x::L)):Sat lo h (ex f::L):=Sat.TG.2 ⟨x,s⟩
def fact(p:Prop):HP:=λm=>p /\ ∀x,m x=none
theorem yE.py{lo:yE}{a:Part}(e:∀x,a x=none):lo.un a=lo:=by
 unfold yE.un;cases lo
 congr 1
 funext x
 simp only[e x]
theorem Sat.HA{h:za}{p:Prop}{L:List HP}{lo:yE}:Sat lo h (fact p::L) ↔ p/\Sat lo h L :=
 ⟨λ⟨a,⟨hp,ha⟩,d,w,s⟩=>⟨hp,by rw[yE.py ha]at s;exact s⟩,λ⟨hp,s⟩=>⟨λ_=>none,⟨hp,λ_=>rfl⟩,λ_ _ e=>(by cases e),λ_ _ e=>(by cases e),by rw[yE.py λ_=>rfl];exact s⟩⟩
def Q0:List HP->HP
 |[]=>λm=>∀x,m x=none
 |A::L=>λm=>∃a b,A a/\Q0 L b/\(∀x o,b x=some o->a x=none) /\ ∀x,m x=match b x with
  |some o=>some o
  |none=>a x
theorem yE.zdG{lo:yE}{a b m:Part}(hm:∀x,m x=match b x with
  |some o=>some o
  |none=>a x):lo.un m=(lo.un a).un b:=by
 unfold yE.un
 congr 1
 funext x
 rw[hm x];cases b x <;> rfl
theorem Sat.fR{h:za}{L:List HP}:∀{M:List HP} {lo:yE},Sat lo h (Q0 M::L) ↔ Sat lo h (M++L)
 |[],lo=>⟨λ⟨a,ha,d,w,s⟩=>by rw[yE.py ha]at s;exact s,λs=>⟨λ_=>none,λ_=>rfl,λ_ _ e=>(by cases e),λ_ _ e=>(by cases e),by rw[yE.py λ_=>rfl];exact s⟩⟩
 |A::M,lo=>by
  constructor
  ·rintro⟨m,⟨a,b,ha,hb,dab,hm⟩,d,w,s⟩
   have da:lo.dj a:=λx o e=>by
    cases q:b x with
    |none=>exact d x o (by rw[hm x,q];exact e)
    |some p=>rw[dab x p q]at e;cases e
   refine⟨a,ha,da,λx o e=>?_,Sat.fR.1 ⟨b,hb,λx o e=>?_,λx o e=>?_,?_⟩⟩
   ·cases q:b x with
    |none=>exact w x o (by rw[hm x,q];exact e)
    |some p=>rw[dab x p q]at e;cases e
   ·rw[yE.qq (dab x o e)];exact d x o (by rw[hm x,e])
   ·exact w x o (by rw[hm x,e])
   ·rw[<- yE.zdG hm];exact s
  ·rintro⟨a,ha,d,w,s⟩;obtain⟨b,hb,db,wb,s⟩:=Sat.fR.2 s
   refine⟨λx=>match b x with
    |some o=>some o
    |none=>a x,⟨a,b,ha,hb,λx o e=>?_,λ_=>rfl⟩,λx o e=>?_,λx o e=>?_,?_⟩
   ·cases q:a x with
    |none=>rfl
    |some p=>have:=db x o e;rw[yE.uj q]at this;cases this
   ·dsimp only at e;split at e
    ·rename_i p q;exact yE.Tx d db x p q
    ·exact d x o e
   ·dsimp only at e;split at e
    ·rename_i p q;exact wb x p q
    ·exact w x o e
   ·rw[yE.zdG (a:=a) (b:=b) λ_=>rfl];exact s
theorem Sat.open{h:za}{M L:List HP}{lo:yE}(s:Sat lo h (Q0 M::L)):Sat lo h (M++L):=Sat.fR.1 s
theorem Sat.close{h:za}{M L:List HP}{lo:yE}(s:Sat lo h (M++L)):Sat lo h (Q0 M::L):=Sat.fR.2 s
theorem Sat.self{h:za}(hr:h.ro<=h.next):Sat (.of h) h []:=⟨rfl,hr,λb x e=>by
 unfold yE.of at e;dsimp only at e;split at e
 ·cases e;exact⟨rfl,by assumption⟩
 ·cases e⟩
theorem Sat.join{h h':za}{L L':List HP}{lo:yE}(x:Sat lo h L)(y:Sat (.of h) h' L'):Sat lo h' (L'++L):=by
 have bx:=x.base;have by':=y.base;have get:∀b,b<h.next->h'.get b=h.get b/\b<h'.next:=λb hb=>by'.get b _ (by unfold yE.of;dsimp only;rw[aai hb])
 have hn:h.next<=h'.next:=by
  rcases ab2 h.next with e|e
  ·omega
  ·have:=(get (h.next-1) (by omega)).2;omega
 have key:∀(L':List HP) (lo lo2:yE),Sat lo2 h' L'->lo2.ro=lo.ro->(∀b,b<h.next->lo2.get b≠none)->(∀b,h.next<=b->lo.get b=lo2.get b)->rm lo h' ->
   (∀lo3,yE.Le lo lo3->(∀b,b<h.next->lo3.get b=lo.get b)->rm lo3 h'->Sat lo3 h' L)->Sat lo h' (L'++L):=by
  intro L'
  induction L' with
  |nil=>intro lo lo2 _ _ _ _ b k;exact k lo (.refl lo) (λ_ _=>rfl) b
  |cons A L' ih=>
   rintro lo lo2 ⟨a,ha,d,w,s⟩ r f e b k
   have up:∀y o,a y=some o->h.next<=y:=λy o q=>by
    rcases aax y h.next with z|z
    ·exact absurd (d y o q) (f y z)
    ·exact z
   have bs:=s.base;have dl:lo.dj a:=λy o q=>by rw[e y (up y o q)];exact d y o q
   refine⟨a,ha,dl,λy o q=>by rw[<- r];exact w y o q,ih (lo.un a) (lo2.un a) s r (λy hy=>?_) (λy hy=>?_) ⟨b.ro,b.Fx,λy z q=>?_⟩ λlo3 l3 q3 b3=>k lo3 ((yE.bM dl).trans l3) (λy hy=>?_) b3⟩
   ·cases q:a y with
    |none=>rw[yE.qq q];exact f y hy
    |some o=>rw[yE.uj q];simp
   ·cases q:a y with
    |none=>rw[yE.qq q,yE.qq q];exact e y hy
    |some o=>rw[yE.uj q,yE.uj q]
   ·cases q2:a y with
    |none=>rw[yE.qq q2]at q;exact b.get y z q
    |some o=>rw[yE.uj q2]at q;cases q;exact bs.get y _ (yE.uj q2)
   ·rw[q3 y hy];cases q:a y with
    |none=>rw[yE.qq q]
    |some o=>have:=up y o q;omega
 have rr:(yE.of h).ro=lo.ro:=bx.ro;refine key L' lo (.of h) y rr (λb hb=>by unfold yE.of;dsimp only;rw[aai hb];simp) (λb hb=>?_) ⟨by rw[by'.ro];exact rr,by'.Fx,λb z e=>?_⟩ λlo3 l3 q3 b3=>?_
 ·unfold yE.of;dsimp only;rw[aae (by omega)];cases e:lo.get b with
  |none=>rfl
  |some z=>have:=(bx.get b z e).2;omega
 ·obtain⟨g1,g2⟩:=bx.get b z e;exact⟨(get b g2).1.trans g1,(get b g2).2⟩
 ·exact x.to (λb hb e=>by rw[q3 b hb];exact e) b3 l3.ro hn λb hb _=>(get b hb).1
theorem Sat.zdA{h h':za}:∀{L:List HP} {lo lo':yE},Sat lo h L->lo'.get=lo.get->lo'.ro<=lo.ro->h'.ro=lo'.ro->h'.ro<=h'.next->h.next<=h'.next->(∀b,b<h.next->h'.get b=h.get b)->Sat lo' h' L
 |[],lo,lo',x,g,r,e,k,n,he=>⟨e,k,λb z hz=>by
  rw[g]at hz;obtain⟨h1,h2⟩:=rm.get x b z hz;exact⟨(he b h2).trans h1,aan h2 n⟩⟩
 |A::L,lo,lo',⟨a,ha,d,w,x⟩,g,r,e,k,n,he=>
  ⟨a,ha,λy o q=>by rw[g];exact d y o q,λb o q=>aaZ r (w b o q),Sat.zdA x (by unfold yE.un;rw[g]) r e k n he⟩
theorem Sat.qi{h h2:za}{L L':List HP}{lo:yE}(s:Sat lo h L)(s2:Sat (.of h.lock) h2 L'):Sat lo (Go.Ai.qi h h2) (L'++L):=by
 have b1:=s.base;have b2:=s2.base;have old:∀b,b<h.next->h2.get b=h.get b/\b<h2.next:=λb hb=>b2.get b _ (by unfold yE.of;dsimp only;rw[aai (by exact hb)];rfl)
 have hn:h.next<=h2.next:=by
  rcases ab2 h.next with e|e
  ·omega
  ·have:=(old (h.next-1) (by omega)).2;omega
 have gr:(Go.Ai.qi h h2).ro=h.ro:=rfl;have gn:(Go.Ai.qi h h2).next=h2.next:=rfl;refine s.join (s2.zdA (lo' := .of h) rfl b1.Fx gr (by rw[gr,gn];exact aaZ b1.Fx hn) (by rw[gn];exact aam _) λb hb=>?_);rw[qN];by_cases q:h.next<=b
 ·rw[aai ⟨q,hb⟩]
 ·rw[aae (by omega),(old b (by omega)).1]
theorem Ok{h:za}{L:List HP}{lo:yE}{c:List aaa}{t:TypeId}{K:aaa->za->Prop}(s:Sat lo h L)(wf:eH h)(k:∀b h',eH h'->Sat lo h' (pt b (.cells c t)::L)->K (.pointer (some ⟨b,0,none⟩)) h'):nw h c t K:=k _ _ (Ir wf _) (s.push _)
theorem Ez{P:Program}{g:FuncId}{args:List aaa}{h:za}{L:List HP}{lo:yE}{K R:aaa->za->Prop}(hc:wk P g=true)(hn:yy args=true)(wf:eH h)(s:Sat lo h L)(d:DC P g args h.lock R)(hk:∀v h2,R v h2->(∀L',Sat (.of h.lock) h2 L'->Sat lo (qi h h2) (L'++L))->eH (qi h h2)->K v (qi h h2)):Al P g args h K:=by
 have wl:eH h.lock:=⟨wf.1,aam _⟩;obtain⟨v,h1,r,af,t⟩:=d wl;refine⟨hc,hn,v,h1,t,af,hk v h1 r (λL' s2=>s.qi s2) ?_⟩;have w1:=wl.af af;have hn:h.next<=h1.next:=af.next;refine⟨λb o hb=>?_,?_⟩
 ·rw[qN]at hb;show b<h1.next;split at hb
  ·omega
  ·exact aan (wf.1 b o hb) hn
 ·show h.ro<=h1.next;exact aaZ wf.2 hn
theorem DC.zgQ{P:Program}{f:FuncId}{args:List aaa}{h:za}{R R':aaa->za->Prop}(d:DC P f args h R)(m:∀v h1,R v h1->eH h1->R' v h1):DC P f args h R':=λwf=>by
 obtain⟨v,h1,r,af,t⟩:=d wf;exact⟨v,h1,m v h1 r (wf.af af),af,t⟩
def own(X:za->(Nat->Prop)->Prop):HP:=λm=>∃g,X g (λb=>m b≠none) /\ ∀b o,m b=some o->g.get b=some o
def Mv(X:za->(Nat->Prop)->Prop):Prop := ∀g h F G,X g F->(∀b o,F b->g.get b=some o->h.get b=some o/\G b)->(∀b,G b->h.ro<=b/\b<h.next)->X h G
theorem Sat.dY{h:za}{L:List HP}{lo:yE}{X:za->(Nat->Prop)->Prop}(hX:Mv X)(s:Sat lo h (own X::L)):∃F:Nat->Prop,X h F/\(∀b,F b->lo.get b=none/\h.ro<=b/\b<h.next) /\ ∀h1 F' X',Mv X'->h.next<=h1.next->h1.ro=h.ro->(∀b,¬F b->b<h.next->h1.get b=h.get b)->X' h1 F'->(∀b,F' b->F b\/h.next<=b)->(∀b,F' b->h1.ro<=b/\b<h1.next)->Sat lo h1 (own X'::L):=by
 obtain⟨a,⟨g,hx,hg⟩,d,w,s⟩:=s;have bs:=s.base;have bl:=bs.mono (yE.bM d)
 have hF:∀b,a b≠none->lo.get b=none/\h.ro<=b/\b<h.next /\ ∃o,a b=some o/\h.get b=some o:=λb hb=>by
  cases e:a b with
  |none=>exact absurd e hb
  |some o=>
   obtain⟨g1,g2⟩:=bs.get b _ (yE.uj e);exact⟨d b o e,by rw[bs.ro];exact w b o e,g2,o,rfl,g1⟩
 refine⟨λb=>a b≠none,hX g h _ _ hx (λb o hb hgb=>?_) (λb hb=>⟨(hF b hb).2.1,(hF b hb).2.2.1⟩),λb hb=>⟨(hF b hb).1,(hF b hb).2.1,(hF b hb).2.2.1⟩,λh1 F' X' hX' hn hr hget hx' hsub hok=>?_⟩
 ·obtain⟨_,_,_,o',e,g1⟩:=hF b hb;rw[hg b o' e]at hgb;cases hgb;exact⟨g1,hb⟩
 ·classical
  let a':Part:=λb=>if F' b then h1.get b else none
  have ha':∀b o,a' b=some o->F' b/\h1.get b=some o:=λb o e=>by
   have e:(if F' b then h1.get b else none)=some o:=e;split at e
   ·rename_i q;exact⟨q,e⟩
   ·cases e
  have out:∀b o,a' b=some o->lo.get b=none:=λb o e=>by
   rcases hsub b (ha' b o e).1 with q|q
   ·exact(hF b q).1
   ·cases e2:lo.get b with
    |none=>rfl
    |some z=>have:=(bl.get b z e2).2;omega
  refine⟨a',⟨h1,hX' h1 h1 F' _ hx' (λb o hb e=>⟨e,by show(if F' b then h1.get b else none)≠none;rw[aai hb,e];simp⟩) (λb hb=>?_),λb o e=>(ha' b o e).2⟩,out,λb o e=>?_,s.to (λb hb e=>?_) ⟨by rw[hr];exact bs.ro,?_,λb z e=>?_⟩ rfl hn λb hb e=>?_⟩
  ·cases e:a' b with
   |none=>exact absurd e hb
   |some o=>exact hok b (ha' b o e).1
  ·have:=(hok b (ha' b o e).1).1;rw[hr,bl.ro]at this;exact this
  ·cases e2:a b with
   |some o=>rw[yE.uj e2]at e;cases e
   |none=>
    rw[yE.qq e2]at e;cases e3:a' b with
    |none=>rw[yE.qq e3];exact e
    |some o=>
     rcases hsub b (ha' b o e3).1 with q|q
     ·exact absurd e2 q
     ·omega
  ·rw[hr];exact aaZ bs.Fx hn
  ·cases e3:a' b with
   |some o=>
    rw[yE.uj e3]at e;cases e;exact⟨(ha' b o e3).2,(hok b (ha' b o e3).1).2⟩
   |none=>
    rw[yE.qq e3]at e;obtain⟨g1,g2⟩:=bl.get b z e;refine⟨(hget b (λq=>?_) g2).trans g1,aan g2 hn⟩;rw[(hF b q).1]at e;cases e
  ·cases e2:a b with
   |some o=>rw[yE.uj e2]at e;cases e
   |none=>exact hget b (λq=>q e2) hb
theorem Sat.zcf{h h1:za}{L:List HP}{lo:yE}{X:za->(Nat->Prop)->Prop}{F:Nat->Prop}(hX:Mv X)(s:Sat lo h L)(hn:h.next<=h1.next)(hr:h1.ro=h.ro)(hget:∀b,b<h.next->h1.get b=h.get b)(hx:X h1 F)(hF:∀b,F b->h.next<=b/\b<h1.next):Sat lo h1 (own X::L):=by
 classical
 have bl:=s.base
 let a:Part:=λb=>if F b then h1.get b else none
 have ha:∀b o,a b=some o->F b/\h1.get b=some o:=λb o e=>by
  have e:(if F b then h1.get b else none)=some o:=e;split at e
  ·rename_i q;exact⟨q,e⟩
  ·cases e
 have out:∀b o,a b=some o->lo.get b=none:=λb o e=>by
  have:=(hF b (ha b o e).1).1;cases e2:lo.get b with
  |none=>rfl
  |some z=>have:=(bl.get b z e2).2;omega
 have Fx:h1.ro<=h.next:=by rw[hr];exact bl.Fx
 refine⟨a,⟨h1,hX h1 h1 F _ hx (λb o hb e=>⟨e,by show(if F b then h1.get b else none)≠none;rw[aai hb,e];simp⟩) (λb hb=>?_),λb o e=>(ha b o e).2⟩,out,λb o e=>?_,s.to (λb hb e=>?_) ⟨by rw[hr];exact bl.ro,aaZ Fx hn,λb z e=>?_⟩ rfl hn λb hb e=>hget b hb⟩
 ·cases e:a b with
  |none=>exact absurd e hb
  |some o=>have:=hF b (ha b o e).1;omega
 ·have:=hF b (ha b o e).1;have:=bl.ro;omega
 ·cases e3:a b with
  |none=>rw[yE.qq e3];exact e
  |some o=>have:=hF b (ha b o e3).1;omega
 ·cases e3:a b with
  |some o=>
   rw[yE.uj e3]at e;cases e;exact⟨(ha b o e3).2,(hF b (ha b o e3).1).2⟩
  |none=>
   rw[yE.qq e3]at e;obtain⟨g1,g2⟩:=bl.get b z e;exact⟨(hget b g2).trans g1,aan g2 hn⟩
structure yE.Has (lo:yE) (h0:za):Prop where
 ro:lo.ro=h0.ro
 get:∀b,b<h0.next->lo.get b=some (h0.get b)
theorem yE.Has.mono{lo lo':yE}{h0:za}(x:lo.Has h0)(l:lo.Le lo'):lo'.Has h0:=⟨l.ro.trans x.ro,λb hb=>l.get b _ (x.get b hb)⟩
theorem yE.uf(h:za):(yE.of h).Has h:=⟨rfl,λb hb=>by unfold yE.of;dsimp only;rw[aai hb]⟩
theorem yE.Has.old{lo:yE}{h0 h:za}(x:lo.Has h0)(b:rm lo h):h0.next<=h.next/\h.ro=h0.ro /\ ∀c,c<h0.next->h.get c=h0.get c:=by
 refine⟨?_,b.ro.trans x.ro,λc hc=>(b.get c _ (x.get c hc)).1⟩;rcases ab2 h0.next with e|e
 ·omega
 ·have:=(b.get (h0.next-1) _ (x.get _ (by omega))).2;omega
end
theorem xg(A:(List aaa->za->Prop)->Prop)(J:List aaa->za->Prop):BK A J=A J:=rfl
end Go.Ai
