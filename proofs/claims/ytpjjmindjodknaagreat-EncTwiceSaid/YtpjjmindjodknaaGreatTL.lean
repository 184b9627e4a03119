import Derived.Test.YtpjjmindjodknaaGreatTK
set_option linter.unusedVariables false
set_option linter.unusedSimpArgs false
set_option maxRecDepth 100000
namespace Go.En
open Go.Ai Go.Proofs
open Go.As (zo Pg)
section
variable {bs rest:List Int}{r m k s o w s2:Int}
theorem Sb{d:Int}(hq:wk bs (3,false)=(k,(7,false)))(hr:¬r=4)(h7:¬d=7)(ha:¬qe (d*8+1)=0):Ww bs ⟨d,r,false,false,0⟩ (3,false)=(⟨8,r,0,qe (d*8+1),0,0,k⟩,(7,false)):=by
 unfold Ww zU;simp only[hq];rw[aae h7,aae (λh=>hr h.1),aae (λh=>hr h.1),aaT ha];rfl
theorem zbt(r0:0<=r)(r1:r<16)(hr:¬r=4)(hk:Go.Ar.zM k=true)(hs:s=11\/s=12\/s=16\/s=17\/s=18):xM (ze ⟨8,r,0,s,0,0,k⟩ 0++rest)=(⟨8,r,0,s,0,0,k⟩,false,(7,false)):=by
 have q:∀a b c:Int,wk (a::b::c::(xz 4 k++rest)) (3,false)=(k,(7,false)):=λa b c=>Ym (pre:=[a,b,c]) hk false rfl rfl
 have go:∀d s:Int,0<=d->d<7->qe (d*8+1)=s->¬s=0->zH 72 0 r=zH 72 d r->ze ⟨8,r,0,s,0,0,k⟩ 0++rest=zH 72 0 r::129::xB d r::(xz 4 k++rest)->xM (ze ⟨8,r,0,s,0,0,k⟩ 0++rest)=(⟨8,r,0,s,0,0,k⟩,false,(7,false)):=λd s d0 d1 hs h0 hx e=>by
  rw[hx]at e;have p:∀bs:List Int,qR bs 129 0 ⟨d,r,false,false,0⟩ (3,false)=Ww bs ⟨d,r,false,false,0⟩ (3,false):=λ_=>rfl;rw[qf d0 (by omega) r0 r1 e (by decide) (by decide) (by decide) (by decide) (by decide),e,p,Sb (q _ _ _) hr (by omega) (by rw[hs];exact h0),hs];rfl
 rcases hs with rfl|rfl|rfl|rfl|rfl
 ·exact go 0 11 (by decide) (by decide) (by decide) (by decide) rfl rfl
 ·exact go 5 12 (by decide) (by decide) (by decide) (by decide) rfl rfl
 ·exact go 4 16 (by decide) (by decide) (by decide) (by decide) rfl rfl
 ·exact go 1 17 (by decide) (by decide) (by decide) (by decide) rfl rfl
 ·exact go 6 18 (by decide) (by decide) (by decide) (by decide) rfl rfl
theorem Tg(r0:0<=r)(r1:r<16)(hk:Go.Ar.zM k=true):xM (ze ⟨8,r,0,13,0,0,k⟩ 0++rest)=(⟨8,r,0,13,0,0,k⟩,false,(7,false)):=by
 have e:ze ⟨8,r,0,13,0,0,k⟩ 0++rest=zH 72 r r::105::xB r r::(xz 4 k++rest):=rfl;have q:wk (zH 72 r r::105::xB r r::(xz 4 k++rest)) (3,false)=(k,(7,false)):=Ym (pre:=[zH 72 r r,105,xB r r]) hk false rfl rfl;have z:zU (decide (¬r=r)) (3,false)=(3,false):=by simp[zU]
 have p:∀bs:List Int,qR bs 105 0 ⟨r,r,false,false,0⟩ (3,false)=(⟨8,r,0,13,0,0,(wk bs (zU (decide (¬r=r)) (3,false))).1⟩,(wk bs (zU (decide (¬r=r)) (3,false))).2):=λ_=>rfl;rw[qf r0 r1 r0 r1 e (by decide) (by decide) (by decide) (by decide) (by decide),e,p,z,q];rfl
theorem Td(hk:Go.Ar.zM k=true):xM (ze ⟨23,0,0,0,0,0,k⟩ 0++rest)=(⟨23,0,0,0,0,0,k⟩,false,(7,false)):=by
 have e:ze ⟨23,0,0,0,0,0,k⟩ 0++rest=zH 72 5 4::129::xB 5 4::(xz 4 k++rest):=rfl;have q:wk (zH 72 5 4::129::xB 5 4::(xz 4 k++rest)) (3,false)=(k,(7,false)):=Ym (pre:=[zH 72 5 4,129,xB 5 4]) hk false rfl rfl;have p:∀bs:List Int,qR bs 129 0 ⟨5,4,false,false,0⟩ (3,false)=(⟨23,0,0,0,0,0,(wk bs (3,false)).1⟩,(wk bs (3,false)).2):=λ_=>rfl;rw[qf (by decide) (by decide) (by decide) (by decide) e (by decide) (by decide) (by decide) (by decide) (by decide),e,p,q];rfl
theorem Te(hk:Go.Ar.zM k=true):xM (ze ⟨24,0,0,0,0,0,k⟩ 0++rest)=(⟨24,0,0,0,0,0,k⟩,false,(7,false)):=by
 have e:ze ⟨24,0,0,0,0,0,k⟩ 0++rest=zH 72 0 4::129::xB 0 4::(xz 4 k++rest):=rfl;have q:wk (zH 72 0 4::129::xB 0 4::(xz 4 k++rest)) (3,false)=(k,(7,false)):=Ym (pre:=[zH 72 0 4,129,xB 0 4]) hk false rfl rfl;have p:∀bs:List Int,qR bs 129 0 ⟨0,4,false,false,0⟩ (3,false)=(⟨24,0,0,0,0,0,(wk bs (3,false)).1⟩,(wk bs (3,false)).2):=λ_=>rfl;rw[qf (by decide) (by decide) (by decide) (by decide) e (by decide) (by decide) (by decide) (by decide) (by decide),e,p,q];rfl
theorem zbp(r0:0<=r)(r1:r<16)(hk:Go.Ar.zM k=true):xM (ze ⟨2,r,0,0,0,0,k⟩ 0++rest)=(⟨2,r,0,0,0,0,k⟩,false,(7,false)):=by
 have e0:ze ⟨2,r,0,0,0,0,k⟩ 0=if Go.Ar.zM k=true then [zH 72 0 r,199,xB 0 r]++xz 4 k else [zH 72 0 r,184+r%8]++xz 8 k:=rfl;rw[aah hk]at e0;have e:ze ⟨2,r,0,0,0,0,k⟩ 0++rest=zH 72 0 r::199::xB 0 r::(xz 4 k++rest):=by rw[e0];rfl
 have q:wk (zH 72 0 r::199::xB 0 r::(xz 4 k++rest)) (3,false)=(k,(7,false)):=Ym (pre:=[zH 72 0 r,199,xB 0 r]) hk false rfl rfl;have p:∀bs:List Int,qR bs 199 0 ⟨0,r,false,false,0⟩ (3,false)=(⟨2,r,0,0,0,0,(wk bs (3,false)).1⟩,(wk bs (3,false)).2):=λ_=>rfl;rw[qf (by decide) (by decide) r0 r1 e (by decide) (by decide) (by decide) (by decide) (by decide),e,p,q];rfl
theorem fJ(a0:0<=r)(a1:r<16)(b0:0<=m)(b1:m<16)(hk:Go.Ar.zM k=true)(he:bs=zH 72 r m::o::(u1 r m k++rest))(h1:¬(184<=o/\o<=191))(h2:¬o=153)(h3:¬o=237)(h4:¬o=239)(h5:¬o=15) :
  xM bs=((uz o 0 ⟨r,m,true,false,k⟩ (2+(u1 r m k).length,false)).1,decide ((uz o 0 ⟨r,m,true,false,k⟩ (2+(u1 r m k).length,false)).1.op=6),(uz o 0 ⟨r,m,true,false,k⟩ (2+(u1 r m k).length,false)).2):=by
 have x:=fP r m;have q:uy bs (zH 72 r m) (2,false)=_:=Cg (pre:=[zH 72 r m,o]) (rest:=rest) a0 a1 b0 b1 hk x.2.1 x.2.2 false he rfl;rw[Qk x.1 he,CC he h1 h2 h3 h4 h5,oT q]
theorem Hd(a0:0<=r)(a1:r<16)(b0:0<=m)(b1:m<16)(hk:Go.Ar.zM k=true)(he:bs=zH 72 r m::15::s2::(u1 r m k++rest)) :
  xM bs=((uz 15 s2 ⟨r,m,true,false,k⟩ (3+(u1 r m k).length,false)).1,decide ((uz 15 s2 ⟨r,m,true,false,k⟩ (3+(u1 r m k).length,false)).1.op=6),(uz 15 s2 ⟨r,m,true,false,k⟩ (3+(u1 r m k).length,false)).2):=by
 have x:=fP r m;have q:uy bs (zH 72 r m) (3,false)=_:=Cg (pre:=[zH 72 r m,15,s2]) (rest:=rest) a0 a1 b0 b1 hk x.2.1 x.2.2 false he rfl;rw[Qk x.1 he,Lr he,oT q]
theorem zbq(r0:0<=r)(r1:r<16)(m0:0<=m)(m1:m<16)(hk:Go.Ar.zM k=true):xM (ze ⟨5,r,m,0,0,0,k⟩ 0++rest)=(⟨5,r,m,0,0,0,k⟩,false,(2+(u1 r m k).length,false)):=by
 have e:ze ⟨5,r,m,0,0,0,k⟩ 0++rest=zH 72 r m::141::(u1 r m k++rest):=rfl;rw[fJ r0 r1 m0 m1 hk e (by decide) (by decide) (by decide) (by decide) (by decide)];rfl
theorem PS(r0:0<=r)(r1:r<16)(m0:0<=m)(m1:m<16)(hk:Go.Ar.zM k=true):xM (ze ⟨3,r,m,8,0,0,k⟩ 0++rest)=(⟨3,r,m,8,0,0,k⟩,false,(2+(u1 r m k).length,false)):=by
 have e:ze ⟨3,r,m,8,0,0,k⟩ 0++rest=zH 72 r m::139::(u1 r m k++rest):=rfl;rw[fJ r0 r1 m0 m1 hk e (by decide) (by decide) (by decide) (by decide) (by decide)];rfl
theorem PR(r0:0<=r)(r1:r<16)(m0:0<=m)(m1:m<16)(hk:Go.Ar.zM k=true):xM (ze ⟨3,r,m,4,0,0,k⟩ 0++rest)=(⟨3,r,m,4,0,0,k⟩,false,(2+(u1 r m k).length,false)):=by
 have e:ze ⟨3,r,m,4,0,0,k⟩ 0++rest=zH 72 r m::99::(u1 r m k++rest):=rfl;rw[fJ r0 r1 m0 m1 hk e (by decide) (by decide) (by decide) (by decide) (by decide)];rfl
theorem PQ(r0:0<=r)(r1:r<16)(m0:0<=m)(m1:m<16)(hk:Go.Ar.zM k=true):xM (ze ⟨3,r,m,1,0,0,k⟩ 0++rest)=(⟨3,r,m,1,0,0,k⟩,false,(3+(u1 r m k).length,false)):=by
 have e:ze ⟨3,r,m,1,0,0,k⟩ 0++rest=zH 72 r m::15::190::(u1 r m k++rest):=rfl;rw[Hd r0 r1 m0 m1 hk e];rfl
theorem PV(r0:0<=r)(r1:r<16)(m0:0<=m)(m1:m<16)(hk:Go.Ar.zM k=true):xM (ze ⟨4,r,m,8,0,0,k⟩ 0++rest)=(⟨4,r,m,8,0,0,k⟩,false,(2+(u1 r m k).length,false)):=by
 have e:ze ⟨4,r,m,8,0,0,k⟩ 0++rest=zH 72 r m::137::(u1 r m k++rest):=rfl;rw[fJ r0 r1 m0 m1 hk e (by decide) (by decide) (by decide) (by decide) (by decide)];rfl
end
section
variable {bs rest:List Int}{r m k s o w s2:Int}
theorem S3(r0:0<=r)(r1:r<16)(k0:0<=k)(k1:k<256)(hs:s=19\/s=20):xM (ze ⟨11,r,0,s,0,0,k⟩ 0++rest)=(⟨11,r,0,s,0,0,k⟩,false,(4,false)):=by
 have ek:u8 k=k:=by rw[bJ];omega
 have q:∀a b c:Int,zw (a::b::c::u8 k::rest) (3,false)=(k,(4,false)):=λa b c=>by
  have:=j0 (b:=a::b::c::u8 k::rest) (pre:=[a,b,c]) (rest:=rest) (z:=u8 k) (n:=3) false rfl rfl;rw[this,ek]
 rcases hs with rfl|rfl
 ·have e:ze ⟨11,r,0,19,0,0,k⟩ 0++rest=zH 72 4 r::193::xB 4 r::u8 k::rest:=rfl;have p:∀bs:List Int,qR bs 193 0 ⟨4,r,false,false,0⟩ (3,false)=(⟨11,r,0,19,0,0,(zw bs (3,false)).1⟩,(zw bs (3,false)).2):=λ_=>rfl;rw[qf (by decide) (by decide) r0 r1 e (by decide) (by decide) (by decide) (by decide) (by decide),e,p,q];rfl
 ·have e:ze ⟨11,r,0,20,0,0,k⟩ 0++rest=zH 72 7 r::193::xB 7 r::u8 k::rest:=rfl;have p:∀bs:List Int,qR bs 193 0 ⟨7,r,false,false,0⟩ (3,false)=(⟨11,r,0,20,0,0,(zw bs (3,false)).1⟩,(zw bs (3,false)).2):=λ_=>rfl;rw[qf (by decide) (by decide) r0 r1 e (by decide) (by decide) (by decide) (by decide) (by decide),e,p,q];rfl
theorem I7(r0:0<=r)(r1:r<16)(hk:Go.Mem.qU k)(he:bs=zH 72 0 r::(184+r%8)::(xz 8 k++rest)):xM bs=(⟨2,r,0,0,0,0,k⟩,false,(10,false)):=by
 have x:=fP 0 r;have e:zw bs (1,false)=(184+r%8,(2,false)):=j0 (pre:=[zH 72 0 r]) false he rfl
 have z:zU (decide (zH 72 0 r/4%2=1)) (2,false)=(2,false):=by
  rw[aaT (λh=>absurd (x.2.1.1 h) (by decide))];rfl
 have q:W3 bs (2,false)=(k,(10,false)):=SL (pre:=[zH 72 0 r,184+r%8]) hk false he rfl
 have er:184+r%8-184+zH 72 0 r%2*8=r:=by
  have:=x.2.2;by_cases h:8<=r
  ·have:=this.2 h;omega
  ·have h2:¬zH 72 0 r%2=1:=λq=>h (this.1 q);omega
 rw[Qk x.1 he];unfold Yk;simp only[e];rw[aah (by omega),z,q,er];rfl
theorem p9(r0:0<=r)(r1:r<16)(m0:0<=m)(m1:m<16)(hk:Go.Ar.zM k=true)(ho:o=136\/o=137)(he:bs=zH 64 r m::o::(u1 r m k++rest)) :
  xM bs=(⟨4,r,m,if o=136 then 1 else 4,0,0,k⟩,false,(2+(u1 r m k).length,false)):=by
 have x:=I9 r m;have e:zw bs (1,false)=(o,(2,false)):=j0 (pre:=[zH 64 r m]) false he rfl;have q:uy bs (zH 64 r m) (2,false)=_:=Cg (pre:=[zH 64 r m,o]) (rest:=rest) r0 r1 m0 m1 hk x.2.1 x.2.2 false he rfl;rw[pR x.1 he];unfold jZ;simp only[e];rw[aah ho,q];rfl
theorem PU(r0:0<=r)(r1:r<16)(m0:0<=m)(m1:m<16)(hk:Go.Ar.zM k=true):xM (ze ⟨4,r,m,4,0,0,k⟩ 0++rest)=(⟨4,r,m,4,0,0,k⟩,false,(2+(u1 r m k).length,false)) :=
 p9 (o:=137) r0 r1 m0 m1 hk (.inr rfl) rfl
theorem PT(r0:0<=r)(r1:r<16)(m0:0<=m)(m1:m<16)(hk:Go.Ar.zM k=true):xM (ze ⟨4,r,m,1,0,0,k⟩ 0++rest)=(⟨4,r,m,1,0,0,k⟩,false,(2+(u1 r m k).length,false)) :=
 p9 (o:=136) r0 r1 m0 m1 hk (.inl rfl) rfl
theorem eP(cc:Int):0<=vC cc/\vC cc<16:=by
 unfold vC
 repeat' split
 all_goals decide
theorem Lg{pre:List Int}:∀(zs:List Int) (n:Nat) (pre:List Int),bs=pre++(zs++rest)->n=pre.length->Yj bs zs (n,false)=(n+zs.length,false)
 |[],n,pre,he,hn=>rfl
 |z::zs,n,pre,he,hn=>by
  have e:zw bs (n,false)=(z,(n+1,false)):=j0 (pre:=pre) false he hn;unfold Yj;rw[e];have h:zU (decide (¬True)) (n+1,false)=(n+1,false):=by simp[zU]
  simp only;rw[h,Lg (pre:=pre) zs (n+1) (pre++[z]) (by rw[he];simp) (by simp[hn])];simp only[abc]
  congr 1
  omega
theorem S8{cc:Int}(r0:0<=r)(r1:r<16)(c0:21<=cc)(c1:cc<=26):xM (ze ⟨17,r,0,0,cc,0,0⟩ 0++rest)=(⟨17,r,0,0,cc,0,0⟩,false,(8,false)):=by
 generalize hbs:ze ⟨17,r,0,0,cc,0,0⟩ 0++rest=bs;have he:bs=zH 64 0 r::15::(144+vC cc)::xB 0 r::zH 72 r r::15::182::xB r r::rest:=hbs.symm;have x:=I9 0 r;have e1:zw bs (1,false)=(15,(2,false)):=j0 (pre:=[zH 64 0 r]) false he rfl;have e2:zw bs (2,false)=(144+vC cc,(3,false)):=j0 (pre:=[zH 64 0 r,15]) false he rfl;have cb:=eP cc;have e3:u8 (144+vC cc-144)=vC cc:=by rw[bJ];omega
 have e4:Zh (vC cc) (3,false)=(cc,(3,false)):=by unfold Zh;rw[Iy c0 c1]
 have q:uy bs (zH 64 0 r) (3,false)=(⟨0,r,false,false,0⟩,(4,false)):=by
  rw[he];exact Ch (pre:=[zH 64 0 r,15,144+vC cc]) (by decide) (by decide) r0 r1 x.2.1 x.2.2 false rfl
 have z:=Lg (bs:=bs) (rest:=rest) (pre:=[]) [zH 72 r r,15,182,xB r r] 4 [zH 64 0 r,15,144+vC cc,xB 0 r] he rfl;have w0:zU (false||false||decide (¬True)) (4,false)=(4,false):=rfl;rw[pR x.1 he];unfold jZ;simp only[e1];rw[aae (by decide),abZ];unfold Cx;simp only[e2,e3,e4,q];rw[w0,z];rfl
end
section
variable {bs rest:List Int}{r d:Int}
theorem S9(hd:Go.Ar.zM d=true)(x:zo)(hx:x.op=18):xM (ze x d++rest)=(⟨18,0,0,0,0,0,d⟩,true,(5,false)):=by
 have e:ze x d=233::xz 4 d:=by unfold ze;simp[hx]
 have q:wk (233::(xz 4 d++rest)) (1,false)=(d,(5,false)):=Ym (pre:=[233]) hd false rfl rfl;rw[e];show xM (233::(xz 4 d++rest))=_;have p:∀l:List Int,xM (233::l)=(⟨18,0,0,0,0,0,(wk (233::l) (1,false)).1⟩,true,(wk (233::l) (1,false)).2):=λ_=>rfl;rw[p,q]
theorem Tb(hd:Go.Ar.zM d=true)(x:zo)(hx:x.op=21):xM (ze x d++rest)=(⟨21,0,0,0,0,0,d⟩,true,(5,false)):=by
 have e:ze x d=232::xz 4 d:=by unfold ze;simp[hx]
 have q:wk (232::(xz 4 d++rest)) (1,false)=(d,(5,false)):=Ym (pre:=[232]) hd false rfl rfl;rw[e];show xM (232::(xz 4 d++rest))=_;have p:∀l:List Int,xM (232::l)=(⟨21,0,0,0,0,0,(wk (232::l) (1,false)).1⟩,true,(wk (232::l) (1,false)).2):=λ_=>rfl;rw[p,q]
theorem Ta(hd:Go.Ar.zM d=true)(x:zo)(hx:x.op=19)(c0:21<=x.cc)(c1:x.cc<=26):xM (ze x d++rest)=(⟨19,0,0,0,x.cc,0,d⟩,true,(6,false)):=by
 have e:ze x d=[15,128+vC x.cc]++xz 4 d:=by unfold ze;simp[hx]
 have cb:=eP x.cc;have e3:u8 (128+vC x.cc-128)=vC x.cc:=by rw[bJ];omega
 have q:wk (15::(128+vC x.cc)::(xz 4 d++rest)) (2,false)=(d,(6,false)):=Ym (pre:=[15,128+vC x.cc]) hd false rfl rfl;rw[e];show xM (15::(128+vC x.cc)::(xz 4 d++rest))=_;have p:∀(z:Int) (l:List Int),xM (15::z::l)=(⟨19,0,0,0,(Zh (u8 (z-128)) (2,false)).1,0,(wk (15::z::l) (Zh (u8 (z-128)) (2,false)).2).1⟩,true,(wk (15::z::l) (Zh (u8 (z-128)) (2,false)).2).2):=λ_ _=>rfl;have e4:Zh (vC x.cc) (2,false)=(x.cc,(2,false)):=by unfold Zh;rw[Iy c0 c1]
 rw[p,e3,e4];simp only[q]
theorem zbr(hd:Go.Ar.zM d=true)(x:zo)(hx:x.op=6)(r0:0<=x.r)(r1:x.r<16):xM (ze x d++rest)=(⟨6,x.r,0,0,0,0,d⟩,true,(7,false)):=by
 have e:ze x d=[zH 72 x.r 0,141,5+x.r%8*8]++xz 4 d:=by unfold ze;simp[hx]
 generalize hbs:ze x d++rest=bs;have he:bs=zH 72 x.r 0::141::(5+x.r%8*8)::(xz 4 d++rest):=by rw[<- hbs,e];rfl
 have w:=fP x.r 0;have h1:zw bs (2,false)=(5+x.r%8*8,(3,false)):=j0 (pre:=[zH 72 x.r 0,141]) false he rfl;have h2:wk bs (3,false)=(d,(7,false)):=Ym (pre:=[zH 72 x.r 0,141,5+x.r%8*8]) hd false he rfl;have hw:¬zH 72 x.r 0%2=1:=λq=>absurd (w.2.2.1 q) (by decide)
 have q:uy bs (zH 72 x.r 0) (2,false)=(⟨x.r,Y3 (5+x.r%8*8) (zH 72 x.r 0),false,true,d⟩,(7,false)):=by
  unfold uy;simp only[h1]
  have z:zU (decide (¬(5+x.r%8*8)%8=5)||decide (zH 72 x.r 0%2=1)) (3,false)=(3,false):=by
   rw[aaT hw,aaT (by omega)];rfl
  rw[aae (by omega),aae (by omega),aah (by omega),z,h2,fL (b:=0) r0 r1 w.2.1 (by omega)]
 rw[Qk w.1 he,CC he (by decide) (by decide) (by decide) (by decide) (by decide)];unfold uE;simp only[q];rfl
end
def zX(r:Int):Prop:=0<=r/\r<16
inductive YY:zo->Prop
 |mov (r m:Int):zX r->zX m->YY ⟨1,r,m,0,0,0,0⟩
 |movk (r k:Int):zX r->Go.Ar.zM k=true->YY ⟨2,r,0,0,0,0,k⟩
 |load8 (r m k:Int):zX r->zX m->Go.Ar.zM k=true->YY ⟨3,r,m,8,0,0,k⟩
 |load4 (r m k:Int):zX r->zX m->Go.Ar.zM k=true->YY ⟨3,r,m,4,0,0,k⟩
 |load1 (r m k:Int):zX r->zX m->Go.Ar.zM k=true->YY ⟨3,r,m,1,0,0,k⟩
 |sto8 (r m k:Int):zX r->zX m->Go.Ar.zM k=true->YY ⟨4,r,m,8,0,0,k⟩
 |sto4 (r m k:Int):zX r->zX m->Go.Ar.zM k=true->YY ⟨4,r,m,4,0,0,k⟩
 |sto1 (r m k:Int):zX r->zX m->Go.Ar.zM k=true->YY ⟨4,r,m,1,0,0,k⟩
 |lea (r m k:Int):zX r->zX m->Go.Ar.zM k=true->YY ⟨5,r,m,0,0,0,k⟩
 |H8 (r m s:Int):zX r->zX m->(s=11\/s=12\/s=16\/s=17\/s=18)->YY ⟨7,r,m,s,0,0,0⟩
 |mul (r m:Int):zX r->zX m->YY ⟨7,r,m,13,0,0,0⟩
 |aluk (r k s:Int):zX r->¬r=4->Go.Ar.zM k=true->(s=11\/s=12\/s=16\/s=17\/s=18)->YY ⟨8,r,0,s,0,0,k⟩
 |mulk (r k:Int):zX r->Go.Ar.zM k=true->YY ⟨8,r,0,13,0,0,k⟩
 |un (r s:Int):zX r->(s=1\/s=2)->YY ⟨9,r,0,s,0,0,0⟩
 |ext4 (r m:Int):zX r->zX m->YY ⟨10,r,m,4,0,0,0⟩
 |ext3 (r m:Int):zX r->zX m->YY ⟨10,r,m,3,0,0,0⟩
 |shift (r k s:Int):zX r->0<=k->k<256->(s=19\/s=20)->YY ⟨11,r,0,s,0,0,k⟩
 |shiftc (r s:Int):zX r->(s=19\/s=20)->YY ⟨12,r,0,s,0,0,0⟩
 |cqo:YY ⟨13,0,0,0,0,0,0⟩
 |idiv (m:Int):zX m->YY ⟨14,0,m,0,0,0,0⟩
 |cmp (r m:Int):zX r->zX m->YY ⟨15,r,m,0,0,0,0⟩
 |cmpk (r k:Int):zX r->Go.Ar.zM k=true->YY ⟨16,r,0,0,0,0,k⟩
 |set (r cc:Int):zX r->21<=cc->cc<=26->YY ⟨17,r,0,0,cc,0,0⟩
 |ret:YY ⟨22,0,0,0,0,0,0⟩
 |enter (k:Int):Go.Ar.zM k=true->YY ⟨23,0,0,0,0,0,k⟩
 |leave (k:Int):Go.Ar.zM k=true->YY ⟨24,0,0,0,0,0,k⟩
 |inI:YY ⟨25,0,0,0,0,0,0⟩
 |outI:YY ⟨26,0,0,0,0,0,0⟩
theorem MU{x:zo}(h:YY x)(rest:List Int):∃n:Nat,xM (ze x 0++rest)=(x,false,(n,false)):=by
 cases h with
 |mov r m a b=>exact⟨_,zbo a.1 a.2 b.1 b.2⟩
 |movk r k a b=>exact⟨_,zbp a.1 a.2 b⟩
 |load8 r m k a b c=>exact⟨_,PS a.1 a.2 b.1 b.2 c⟩
 |load4 r m k a b c=>exact⟨_,PR a.1 a.2 b.1 b.2 c⟩
 |load1 r m k a b c=>exact⟨_,PQ a.1 a.2 b.1 b.2 c⟩
 |sto8 r m k a b c=>exact⟨_,PV a.1 a.2 b.1 b.2 c⟩
 |sto4 r m k a b c=>exact⟨_,PU a.1 a.2 b.1 b.2 c⟩
 |sto1 r m k a b c=>exact⟨_,PT a.1 a.2 b.1 b.2 c⟩
 |lea r m k a b c=>exact⟨_,zbq a.1 a.2 b.1 b.2 c⟩
 |H8 r m s a b c=>exact⟨_,zbs a.1 a.2 b.1 b.2 c⟩
 |mul r m a b=>exact⟨_,Tf a.1 a.2 b.1 b.2⟩
 |aluk r k s a b c d=>exact⟨_,zbt a.1 a.2 b c d⟩
 |mulk r k a b=>exact⟨_,Tg a.1 a.2 b⟩
 |un r s a b=>exact⟨_,zbu a.1 a.2 b⟩
 |ext4 r m a b=>exact⟨_,SZ a.1 a.2 b.1 b.2⟩
 |ext3 r m a b=>exact⟨_,PO a.1 a.2 b.1 b.2⟩
 |shift r k s a b c d=>exact⟨_,S3 a.1 a.2 b c d⟩
 |shiftc r s a b=>exact⟨_,S4 a.1 a.2 b⟩
 |cqo=>exact⟨_,Cq 13 153 (.inl ⟨rfl,rfl⟩)⟩
 |idiv m a=>exact⟨_,S5 a.1 a.2⟩
 |cmp r m a b=>exact⟨_,S6 a.1 a.2 b.1 b.2⟩
 |cmpk r k a b=>exact⟨_,S7 a.1 a.2 b⟩
 |set r cc a b c=>exact⟨_,S8 a.1 a.2 b c⟩
 |ret=>exact⟨_,Tc⟩
 |enter k a=>exact⟨_,Td a⟩
 |leave k a=>exact⟨_,Te a⟩
 |inI=>exact⟨_,Cq 25 237 (.inr (.inl ⟨rfl,rfl⟩))⟩
 |outI=>exact⟨_,Cq 26 239 (.inr (.inr ⟨rfl,rfl⟩))⟩
end Go.En
namespace Go.Eb
open Go.Ai Go.Proofs
open Go.Rtl (zv zE Old inc)
open Go.As (zo)
open Go.En
def VN(h:za)(bs:List Int)(r:aaa)(h':za):Prop:=Sat (.of h) h' [uO r bs]
section
variable {h h2:za}{b:Nat}{r m sub cc l k:Int}{J:List aaa->za->Prop}
theorem fin{v:aaa}{bs bs':List Int}{L:List HP}(s:Sat (.of h) h2 (uO v bs::L))(e:bs=bs'):VN h bs' v h2:=by
 subst e;exact s.yN 1
theorem Kp{h:za}{n b:Nat}{o:wS}(hg:h.get b=some o)(hb:b<n):(trim h n).get b=some o:=by rw[EN hb];exact hg
theorem zcE(R:zX r)(M:zX m)(w2:qC h2)(s2:Sat (.of h) h2 [pt b (.cells (zo.row ⟨1,r,m,sub,cc,l,k⟩) 42)]):yQ (.int .i64 1) h2 (.pointer (some ⟨b,0,none⟩)) (VN h (ze ⟨1,r,m,sub,cc,l,k⟩ 0)) J:=by
 have g2:=s2.get;have l2:=s2.lt;have s3:Sat (.of h) (h2.push (.cells [.int .u8 137] 5)) (uO (.slice (some ⟨h2.next,0,none⟩) 1 3) [137]::[pt b _]):=wM s2 [137] 3 (by decide);unfold yQ;simp only[EE,zu,zg,xr,yy,yP,Dw,g2,l2];refine UI (.inl rfl) M R s3 (by decide) λr h' rn s4=>?_;simp only[EE,rn];exact fin s4 rfl
theorem Su(R:zX r)(M:zX m)(w2:qC h2)(s2:Sat (.of h) h2 [pt b (.cells (zo.row ⟨3,r,m,8,cc,l,k⟩) 42)]):yQ (.int .i64 3) h2 (.pointer (some ⟨b,0,none⟩)) (VN h (ze ⟨3,r,m,8,cc,l,k⟩ 0)) J:=by
 have g2:=s2.get;have l2:=s2.lt;have s3:Sat (.of h) (h2.push (.cells [.int .u8 139] 5)) (uO (.slice (some ⟨h2.next,0,none⟩) 1 3) [139]::[pt b _]):=wM s2 [139] 3 (by decide);unfold yQ;simp only[EE,↓zB,Int.reduceEq,zu,xP,zg,xr,yy,yP,zn,zC,HY,l6,qa,uD,g2,l2];refine Vx (.inl rfl) R M s3 (by decide) λr h' rn s4=>?_;simp only[EE,rn];exact fin s4 rfl
theorem St(R:zX r)(M:zX m)(w2:qC h2)(s2:Sat (.of h) h2 [pt b (.cells (zo.row ⟨3,r,m,4,cc,l,k⟩) 42)]):yQ (.int .i64 3) h2 (.pointer (some ⟨b,0,none⟩)) (VN h (ze ⟨3,r,m,4,cc,l,k⟩ 0)) J:=by
 have g2:=s2.get;have l2:=s2.lt;have s3:Sat (.of h) (h2.push (.cells [.int .u8 99] 5)) (uO (.slice (some ⟨h2.next,0,none⟩) 1 3) [99]::[pt b _]):=wM s2 [99] 3 (by decide);unfold yQ;simp only[EE,↓zB,Int.reduceEq,zu,xP,zg,xr,yy,yP,zn,zC,HX,Bp,l6,qa,uD,g2,l2];refine Vx (.inl rfl) R M s3 (by decide) λr h' rn s4=>?_;simp only[EE,rn];exact fin s4 rfl
theorem Ss(R:zX r)(M:zX m)(w2:qC h2)(s2:Sat (.of h) h2 [pt b (.cells (zo.row ⟨3,r,m,1,cc,l,k⟩) 42)]):yQ (.int .i64 3) h2 (.pointer (some ⟨b,0,none⟩)) (VN h (ze ⟨3,r,m,1,cc,l,k⟩ 0)) J:=by
 have g2:=s2.get;have l2:=s2.lt;have s3:Sat (.of h) (h2.push (.cells [.int .u8 15,.int .u8 190] 5)) (uO (.slice (some ⟨h2.next,0,none⟩) 2 4) [15,190]::[pt b _]):=wM s2 [15,190] 4 (by decide);unfold yQ;simp only[EE,↓zB,Int.reduceEq,zu,xP,zg,uN,yy,yP,zn,zC,Bp,l6,HZ,qa,uD,g2,l2];refine Vx (.inl rfl) R M s3 (by decide) λr h' rn s4=>?_;simp only[EE,rn];exact fin s4 rfl
theorem Sx(R:zX r)(M:zX m)(w2:qC h2)(s2:Sat (.of h) h2 [pt b (.cells (zo.row ⟨4,r,m,8,cc,l,k⟩) 42)]):yQ (.int .i64 4) h2 (.pointer (some ⟨b,0,none⟩)) (VN h (ze ⟨4,r,m,8,cc,l,k⟩ 0)) J:=by
 have g2:=s2.get;have l2:=s2.lt;have s3:Sat (.of h) (h2.push (.cells [.int .u8 137] 5)) (uO (.slice (some ⟨h2.next,0,none⟩) 1 3) [137]::[pt b _]):=wM s2 [137] 3 (by decide);unfold yQ;simp only[EE,↓zB,Int.reduceEq,zu,xP,zg,xr,yy,yP,zn,zC,Df,dZ,ko,qa,uD,g2,l2];refine Vx (.inl rfl) R M s3 (by decide) λr h' rn s4=>?_;simp only[EE,rn];exact fin s4 rfl
theorem Sw(R:zX r)(M:zX m)(w2:qC h2)(s2:Sat (.of h) h2 [pt b (.cells (zo.row ⟨4,r,m,4,cc,l,k⟩) 42)]):yQ (.int .i64 4) h2 (.pointer (some ⟨b,0,none⟩)) (VN h (ze ⟨4,r,m,4,cc,l,k⟩ 0)) J:=by
 have g2:=s2.get;have l2:=s2.lt;have s3:Sat (.of h) (h2.push (.cells [.int .u8 137] 5)) (uO (.slice (some ⟨h2.next,0,none⟩) 1 3) [137]::[pt b _]):=wM s2 [137] 3 (by decide);unfold yQ;simp only[EE,↓zB,Int.reduceEq,zu,xP,zg,xr,yy,yP,zn,zC,De,nq,dZ,ko,qa,uD,g2,l2];refine Vx (.inr rfl) R M s3 (by decide) λr h' rn s4=>?_;simp only[EE,rn];exact fin s4 rfl
theorem Sv(R:zX r)(M:zX m)(w2:qC h2)(s2:Sat (.of h) h2 [pt b (.cells (zo.row ⟨4,r,m,1,cc,l,k⟩) 42)]):yQ (.int .i64 4) h2 (.pointer (some ⟨b,0,none⟩)) (VN h (ze ⟨4,r,m,1,cc,l,k⟩ 0)) J:=by
 have g2:=s2.get;have l2:=s2.lt;have s3:Sat (.of h) (h2.push (.cells [.int .u8 136] 5)) (uO (.slice (some ⟨h2.next,0,none⟩) 1 3) [136]::[pt b _]):=wM s2 [136] 3 (by decide);unfold yQ;simp only[EE,↓zB,Int.reduceEq,zu,xP,zg,xr,yy,yP,zn,zC,nq,dZ,Dg,ko,qa,uD,g2,l2];refine Vx (.inr rfl) R M s3 (by decide) λr h' rn s4=>?_;simp only[EE,rn];exact fin s4 rfl
theorem zcG(R:zX r)(M:zX m)(w2:qC h2)(s2:Sat (.of h) h2 [pt b (.cells (zo.row ⟨5,r,m,sub,cc,l,k⟩) 42)]):yQ (.int .i64 5) h2 (.pointer (some ⟨b,0,none⟩)) (VN h (ze ⟨5,r,m,sub,cc,l,k⟩ 0)) J:=by
 have g2:=s2.get;have l2:=s2.lt;have s3:Sat (.of h) (h2.push (.cells [.int .u8 141] 5)) (uO (.slice (some ⟨h2.next,0,none⟩) 1 3) [141]::[pt b _]):=wM s2 [141] 3 (by decide);unfold yQ;simp only[EE,Int.reduceEq,zu,xP,zg,xr,yy,yP,zC,Dv,ZD,ko,qa,uD,g2,l2];refine Vx (.inl rfl) R M s3 (by decide) λr h' rn s4=>?_;simp only[EE,rn];exact fin s4 rfl
theorem za1(R:zX r)(M:zX m)(w2:qC h2)(s2:Sat (.of h) h2 [pt b (.cells (zo.row ⟨7,r,m,13,cc,l,k⟩) 42)]):yQ (.int .i64 7) h2 (.pointer (some ⟨b,0,none⟩)) (VN h (ze ⟨7,r,m,13,cc,l,k⟩ 0)) J:=by
 have g2:=s2.get;have l2:=s2.lt;have s3:Sat (.of h) (h2.push (.cells [.int .u8 15,.int .u8 175] 5)) (uO (.slice (some ⟨h2.next,0,none⟩) 2 4) [15,175]::[pt b _]):=wM s2 [15,175] 4 (by decide);unfold yQ;simp only[EE,Int.reduceEq,zu,zg,uN,yy,yP,zn,Di,nz,Y7,Yb,ZD,ko,qa,uD,g2,l2];refine UI (.inl rfl) R M s3 (by decide) λr h' rn s4=>?_;simp only[EE,rn];exact fin s4 rfl
theorem zcI(R:zX r)(M:zX m)(hs:¬sub=13)(w2:qC h2)(s2:Sat (.of h) h2 [pt b (.cells (zo.row ⟨7,r,m,sub,cc,l,k⟩) 42)]):yQ (.int .i64 7) h2 (.pointer (some ⟨b,0,none⟩)) (VN h (ze ⟨7,r,m,sub,cc,l,k⟩ 0)) J:=by
 have g2:=s2.get;have l2:=s2.lt;have gt:∀o,(trim (h2.push o) h2.next).get b=some (.cells (zo.row ⟨7,r,m,sub,cc,l,k⟩) 42):=λo=>Kp (by rw[yR l2];exact g2) l2;have s3:Sat (.of h) (h2.push (.cells [.int .u8 (Go.En.kY sub)] 5)) (uO (.slice (some ⟨h2.next,0,none⟩) 1 3) [Go.En.kY sub]::[pt b _]):=wM s2 [Go.En.kY sub] 3 (by decide);unfold yQ;simp only[EE,Int.reduceEq,zu,zg,zn,nz,Y7,Yb,ZD,ko,qa,uD,g2,hs];refine cqq (ae sub _) ?_;simp only[EE,zu,zg,xr,yy,yP,Dj,gt];refine Cs (.inl rfl) M R s3 (Vw w2 _) (by simp) λv h' w rn s4=>?_;simp only[EE,rn];refine fin s4 ?_;have e:ze ⟨7,r,m,sub,cc,l,k⟩ 0=if sub=13 then [zH 72 r m,15,175,xB r m] else [zH 72 m r,Go.En.kY sub,xB m r]:=rfl;rw[e,aae hs];rfl
theorem zcF(R:zX r)(hk:Go.Ar.zM k=true)(w2:qC h2)(s2:Sat (.of h) h2 [pt b (.cells (zo.row ⟨2,r,m,sub,cc,l,k⟩) 42)]):yQ (.int .i64 2) h2 (.pointer (some ⟨b,0,none⟩)) (VN h (ze ⟨2,r,m,sub,cc,l,k⟩ 0)) J:=by
 have g2:=s2.get;have l2:=s2.lt;have gt:∀o,(trim (h2.push o) h2.next).get b=some (.cells (zo.row ⟨2,r,m,sub,cc,l,k⟩) 42):=λo=>Kp (by rw[yR l2];exact g2) l2;have s3:Sat (.of h) (h2.push (.cells [.int .u8 199] 5)) (uO (.slice (some ⟨h2.next,0,none⟩) 1 3) [199]::[pt b _]):=wM s2 [199] 3 (by decide);unfold yQ;simp only[EE,Int.reduceEq,zu,xP,zC,nB,uD,g2];refine VM (IA k _) ?_;rw[hk];simp only[EE,zu,zg,xr,yy,HU,gt];refine Cs (.inl rfl) (by decide) R s3 (Vw w2 _) (by decide) λv h' w rn s4=>?_;have g4:(trim h' h2.next).get b=some (.cells (zo.row ⟨2,r,m,sub,cc,l,k⟩) 42):=Kp (s4.p 2).get l2;simp only[EE,zu,xP,zC,HT,g4];refine fA s4 w (n:=4) rfl (by decide) λv2 h5 w5 rn2 s5=>?_;refine bw (s5.f [0,1]) (by simp[wW]) λv3 h6 rn3 s6=>?_;simp only[EE,rn3];refine fin s6 ?_;have e:ze ⟨2,r,m,sub,cc,l,k⟩ 0=if Go.Ar.zM k=true then [zH 72 0 r,199,xB 0 r]++xz 4 k else [zH 72 0 r,184+r%8]++xz 8 k:=rfl;rw[e,aah hk];rfl
theorem za0(R:zX r)(hk:¬Go.Ar.zM k=true)(w2:qC h2)(s2:Sat (.of h) h2 [pt b (.cells (zo.row ⟨2,r,m,sub,cc,l,k⟩) 42)]):yQ (.int .i64 2) h2 (.pointer (some ⟨b,0,none⟩)) (VN h (ze ⟨2,r,m,sub,cc,l,k⟩ 0)) J:=by
 have g2:=s2.get;have l2:=s2.lt;have hk0:Go.Ar.zM k=false:=by simpa using hk
 have q1:=oG R.1 R.2
 have q2:IntKind.wrap .u8 (184+IntKind.wrap .u8 (r%8))=184+r%8:=by
  have:∀n:Int,IntKind.wrap .u8 n=n%256:=bJ;rw[this,this];omega
 have s3:Sat (.of h) (h2.push (.cells [.int .u8 (zH 72 0 r),.int .u8 (184+r%8)] 5)) (uO (.slice (some ⟨h2.next,0,none⟩) 2 4) [zH 72 0 r,184+r%8]::[pt b _]):=wM s2 [zH 72 0 r,184+r%8] 4 (by decide);have gc:(cut (h2.push (.cells [.int .u8 (zH 72 0 r),.int .u8 (184+r%8)] 5)) h2.next (h2.next+1)).get b=some (.cells (zo.row ⟨2,r,m,sub,cc,l,k⟩) 42):=Yt (by rw[yR l2];exact g2) l2;unfold yQ;simp only[EE,Int.reduceEq,zu,xP,zC,nB,uD,g2];refine VM (IA k _) ?_;rw[hk0];simp only[EE,zu,zg,yy,HW,g2];refine cqq (Lc (.inl rfl) 0 r _) ?_;simp only[EE,zu,xP,zg,uN,ph,yy,zC,HV,g2,q1,q2,gc];refine ik s3 (Vw w2 _) (n:=8) rfl (by decide) rfl (λ_ _=>Gv) λv h' w rn s4=>?_;refine Gj (s4.f [1,0]) (λq hq=>?_) (yD s4 aak) (by simp[wW]) rn λa n c h5 s5=>?_
 ·simp only[Go.Rtl.FV,aat]at hq;subst hq;exact⟨aaj _,aa6 _⟩
 ·simp only[EE];refine fin s5 ?_;have e:ze ⟨2,r,m,sub,cc,l,k⟩ 0=if Go.Ar.zM k=true then [zH 72 0 r,199,xB 0 r]++xz 4 k else [zH 72 0 r,184+r%8]++xz 8 k:=rfl;rw[e,aae hk]
theorem zcH(R:zX r)(w2:qC h2)(s2:Sat (.of h) h2 [pt b (.cells (zo.row ⟨6,r,m,sub,cc,l,k⟩) 42)]):yQ (.int .i64 6) h2 (.pointer (some ⟨b,0,none⟩)) (VN h (ze ⟨6,r,m,sub,cc,l,k⟩ 0)) J:=by
 have g2:=s2.get;have l2:=s2.lt;have q1:=oG R.1 R.2;have q2:IntKind.wrap .u8 (BitVec.ofInt (IntKind.bits .u8) 5 ||| BitVec.ofInt (IntKind.bits .u8) (IntKind.wrap .u8 (IntKind.wrap .u8 (r%8)*2^(min 3 (IntKind.bits .u8))))).toNat=5+r%8*8:=za4 (sN r).1 (sN r).2;have s3:Sat (.of h) (h2.push (.cells [.int .u8 (zH 72 r 0),.int .u8 (141),.int .u8 (5+r%8*8)] 5)) (uO (.slice (some ⟨h2.next,0,none⟩) 3 5) [zH 72 r 0,141,5+r%8*8]::[pt b _]):=wM s2 [zH 72 r 0,141,5+r%8*8] 5 (by decide);unfold yQ;simp only[EE,Int.reduceEq,zu,zg,yy,Du,Yb,ZD,ko,qa,uD,g2];refine cqq (Lc (.inl rfl) r 0 _) ?_;simp only[EE,Int.reduceLE,Int.reduceToNat,zu,zg,UB,ph,yy,Dh,g2,q1,q2];refine ik s3 (Vw w2 _) (n:=4) rfl (by decide) rfl (λ_ _=>Gv) λv h' w rn s4=>?_;refine Gj (s4.f [1,0]) (λq hq=>?_) (yD s4 aak) (by simp[wW]) rn λa n c h5 s5=>?_
 ·simp only[Go.Rtl.FV,aat]at hq;subst hq;exact⟨aaj _,aa6 _⟩
 ·simp only[EE];exact fin s5 rfl
theorem za2(R:zX r)(w2:qC h2)(s2:Sat (.of h) h2 [pt b (.cells (zo.row ⟨8,r,m,13,cc,l,k⟩) 42)]):yQ (.int .i64 8) h2 (.pointer (some ⟨b,0,none⟩)) (VN h (ze ⟨8,r,m,13,cc,l,k⟩ 0)) J:=by
 have g2:=s2.get;have l2:=s2.lt;have gt:∀o,(trim (h2.push o) h2.next).get b=some (.cells (zo.row ⟨8,r,m,13,cc,l,k⟩) 42):=λo=>Kp (by rw[yR l2];exact g2) l2;have s3:Sat (.of h) (h2.push (.cells [.int .u8 105] 5)) (uO (.slice (some ⟨h2.next,0,none⟩) 1 3) [105]::[pt b _]):=wM s2 [105] 3 (by decide);unfold yQ;simp only[EE,Int.reduceEq,zu,zg,xr,yy,zn,Dl,nv,Ve,Y7,Yb,ZD,ko,qa,uD,g2,gt];refine Cs (.inl rfl) R R s3 (Vw w2 _) (by decide) λv h' w rn s4=>?_;have g4:(trim h' h2.next).get b=some (.cells (zo.row ⟨8,r,m,13,cc,l,k⟩) 42):=Kp (s4.p 2).get l2;simp only[EE,zu,xP,zC,Dk,g4];refine fA s4 w (n:=4) rfl (by decide) λv2 h5 w5 rn2 s5=>?_;refine bw (s5.f [0,1]) (by simp[wW]) λv3 h6 rn3 s6=>?_;simp only[EE,rn3];exact fin s6 rfl
theorem OD{s:Int}(h:s=11\/s=12\/s=16\/s=17\/s=18):IntKind.wrap .i64 (IntKind.wrap .u8 (Go.En.kY s/2^3))=UC s/\IntKind.wrap .i64 ((Go.En.kY s).fdiv (2^(min 3 (IntKind.bits .u8))))=UC s/\0<=UC s/\UC s<8:=by
 rcases h with rfl|rfl|rfl|rfl|rfl <;> decide
theorem zcJ(R:zX r)(hs:sub=11\/sub=12\/sub=16\/sub=17\/sub=18)(w2:qC h2)(s2:Sat (.of h) h2 [pt b (.cells (zo.row ⟨8,r,m,sub,cc,l,k⟩) 42)]):yQ (.int .i64 8) h2 (.pointer (some ⟨b,0,none⟩)) (VN h (ze ⟨8,r,m,sub,cc,l,k⟩ 0)) J:=by
 have g2:=s2.get;have l2:=s2.lt;have hs0:¬sub=13:=by omega
 have q:=OD hs;have s3:Sat (.of h) (h2.push (.cells [.int .u8 129] 5)) (uO (.slice (some ⟨h2.next,0,none⟩) 1 3) [129]::[pt b _]):=wM s2 [129] 3 (by decide);have gc:(cut (h2.push (.cells [.int .u8 129] 5)) h2.next (h2.next+1)).get b=some (.cells (zo.row ⟨8,r,m,sub,cc,l,k⟩) 42):=Yt (by rw[yR l2];exact g2) l2;unfold yQ;simp only[EE,Int.reduceEq,zu,zg,xr,zn,Dp,nv,Ve,Y7,Yb,ZD,ko,qa,uD,g2,hs0,gc];refine cqq (ae sub _) ?_;simp only[EE,Int.reduceLE,Int.reduceToNat,zu,zg,pj,yy,Dn,gc,q.2.1];refine fM (.inl rfl) ⟨q.2.2.1,by omega⟩ R s3 (Vw w2 _) (by decide) rfl (λ_ _ h=>h) (yD s3 aak) λv h' w nx rn s4=>?_;have g4:(cut (cut h' h2.next (h2.next+1)) (h2.next+1) h'.next).get b=some (.cells (zo.row ⟨8,r,m,sub,cc,l,k⟩) 42):=Yt (Yt (s4.p 2).get l2) (abF l2);simp only[EE,zu,xP,zC,Dm,g4];refine ik s4 w (n:=4) rfl (by decide) rfl (λ_ _ h=>h) λv2 h5 w5 rn2 s5=>?_;refine bw (s5.f [0,1]) (by simp[wW]) λv3 h6 rn3 s6=>?_;simp only[EE,rn3];refine fin s6 ?_;have e:ze ⟨8,r,m,sub,cc,l,k⟩ 0=if sub=13 then [zH 72 r r,105,xB r r]++xz 4 k else [zH 72 0 r,129,xB (UC sub) r]++xz 4 k:=rfl;have e2:zH 72 (UC sub) r=zH 72 0 r:=by unfold zH;rw[aae (show ¬8<=UC sub by omega),aae (show ¬(8:Int)<=0 by decide)]
 rw[e,aae hs0,e2];rfl
theorem zaX(R:zX r)(w2:qC h2)(s2:Sat (.of h) h2 [pt b (.cells (zo.row ⟨16,r,m,sub,cc,l,k⟩) 42)]):yQ (.int .i64 16) h2 (.pointer (some ⟨b,0,none⟩)) (VN h (ze ⟨16,r,m,sub,cc,l,k⟩ 0)) J:=by
 have g2:=s2.get;have l2:=s2.lt;have gt:∀o,(trim (h2.push o) h2.next).get b=some (.cells (zo.row ⟨16,r,m,sub,cc,l,k⟩) 42):=λo=>Kp (by rw[yR l2];exact g2) l2;have s3:Sat (.of h) (h2.push (.cells [.int .u8 129] 5)) (uO (.slice (some ⟨h2.next,0,none⟩) 1 3) [129]::[pt b _]):=wM s2 [129] 3 (by decide);unfold yQ;simp only[EE,Int.reduceEq,zu,zg,xr,yy,Dt,KZ,Ve,Y7,Yb,ZD,ko,qa,uD,gt];refine Cs (.inl rfl) (by decide) R s3 (Vw w2 _) (by decide) λv h' w rn s4=>?_;have g4:(trim h' h2.next).get b=some (.cells (zo.row ⟨16,r,m,sub,cc,l,k⟩) 42):=Kp (s4.p 2).get l2;simp only[EE,zu,xP,zC,Dq,g4];refine fA s4 w (n:=4) rfl (by decide) λv2 h5 w5 rn2 s5=>?_;refine bw (s5.f [0,1]) (by simp[wW]) λv3 h6 rn3 s6=>?_;simp only[EE,rn3];exact fin s6 rfl
theorem zaY  (w2:qC h2)(s2:Sat (.of h) h2 [pt b (.cells (zo.row ⟨23,r,m,sub,cc,l,k⟩) 42)]):yQ (.int .i64 23) h2 (.pointer (some ⟨b,0,none⟩)) (VN h (ze ⟨23,r,m,sub,cc,l,k⟩ 0)) J:=by
 have g2:=s2.get;have l2:=s2.lt;have s3:Sat (.of h) (h2.push (.cells [.int .u8 72,.int .u8 129,.int .u8 236] 5)) (uO (.slice (some ⟨h2.next,0,none⟩) 3 5) [72,129,236]::[pt b _]):=wM s2 [72,129,236] 5 (by decide);unfold yQ;simp only[EE,Int.reduceEq,zu,xP,UB,zC,Ds,eh,KZ,Ve,Y7,Yb,ZD,ko,qa,uD,g2,l2];refine Jx s3 (n:=4) rfl (by decide) λv h' rn s4=>?_;refine bw s4 (by simp[wW]) λv3 h6 rn3 s6=>?_;simp only[EE,rn3];exact fin s6 rfl
theorem zaZ  (w2:qC h2)(s2:Sat (.of h) h2 [pt b (.cells (zo.row ⟨24,r,m,sub,cc,l,k⟩) 42)]):yQ (.int .i64 24) h2 (.pointer (some ⟨b,0,none⟩)) (VN h (ze ⟨24,r,m,sub,cc,l,k⟩ 0)) J:=by
 have g2:=s2.get;have l2:=s2.lt;have s3:Sat (.of h) (h2.push (.cells [.int .u8 72,.int .u8 129,.int .u8 196] 5)) (uO (.slice (some ⟨h2.next,0,none⟩) 3 5) [72,129,196]::[pt b _]):=wM s2 [72,129,196] 5 (by decide);unfold yQ;simp only[EE,Int.reduceEq,zu,xP,UB,zC,Dr,nu,eh,KZ,Ve,Y7,Yb,ZD,ko,qa,uD,g2,l2];refine Jx s3 (n:=4) rfl (by decide) λv h' rn s4=>?_;refine bw s4 (by simp[wW]) λv3 h6 rn3 s6=>?_;simp only[EE,rn3];exact fin s6 rfl
end
section
variable {h h2:za}{b:Nat}{r m sub cc l k:Int}{J:List aaa->za->Prop}
theorem M6(R:zX r)(w2:qC h2)(s2:Sat (.of h) h2 [pt b (.cells (zo.row ⟨9,r,m,1,cc,l,k⟩) 42)]):z7 (.int .i64 9) (.pointer (some ⟨b,0,none⟩)) h2 (VN h (ze ⟨9,r,m,1,cc,l,k⟩ 0)) J:=by
 have g2:=s2.get;have l2:=s2.lt;unfold z7;have s3:Sat (.of h) (h2.push (.cells [.int .u8 247] 5)) (uO (.slice (some ⟨h2.next,0,none⟩) 1 3) [247]::[pt b _]):=wM s2 [247] 3 (by decide);simp only[EE,nth,zu,zg,xr,yy,zn,gy,cF,g2,l2];refine UI (a:=3) (.inl rfl) (by decide) R s3 (by decide) λv h' rn s4=>?_;simp only[EE,rn];exact fin s4 rfl
theorem M7(R:zX r)(w2:qC h2)(s2:Sat (.of h) h2 [pt b (.cells (zo.row ⟨9,r,m,2,cc,l,k⟩) 42)]):z7 (.int .i64 9) (.pointer (some ⟨b,0,none⟩)) h2 (VN h (ze ⟨9,r,m,2,cc,l,k⟩ 0)) J:=by
 have g2:=s2.get;have l2:=s2.lt;unfold z7;have s3:Sat (.of h) (h2.push (.cells [.int .u8 247] 5)) (uO (.slice (some ⟨h2.next,0,none⟩) 1 3) [247]::[pt b _]):=wM s2 [247] 3 (by decide);simp only[EE,nth,Int.reduceEq,zu,zg,xr,yy,zn,gy,cF,g2,l2];refine UI (a:=2) (.inl rfl) (by decide) R s3 (by decide) λv h' rn s4=>?_;simp only[EE,rn];exact fin s4 rfl
theorem Hi(R:zX r)(M:zX m)(w2:qC h2)(s2:Sat (.of h) h2 [pt b (.cells (zo.row ⟨10,r,m,3,cc,l,k⟩) 42)]):z7 (.int .i64 10) (.pointer (some ⟨b,0,none⟩)) h2 (VN h (ze ⟨10,r,m,3,cc,l,k⟩ 0)) J:=by
 have g2:=s2.get;have l2:=s2.lt;unfold z7;have s3:Sat (.of h) (h2.push (.cells [.int .u8 15,.int .u8 190] 5)) (uO (.slice (some ⟨h2.next,0,none⟩) 2 4) [15,190]::[pt b _]):=wM s2 [15,190] 4 (by decide);simp only[EE,Int.reduceEq,zu,zg,uN,yy,yP,zn,tV,cE,vo,g2,l2];refine UI (.inl rfl) R M s3 (by decide) λv h' rn s4=>?_;simp only[EE,rn];exact fin s4 rfl
theorem Hj(R:zX r)(M:zX m)(hs:¬sub=3)(w2:qC h2)(s2:Sat (.of h) h2 [pt b (.cells (zo.row ⟨10,r,m,sub,cc,l,k⟩) 42)]):z7 (.int .i64 10) (.pointer (some ⟨b,0,none⟩)) h2 (VN h (ze ⟨10,r,m,sub,cc,l,k⟩ 0)) J:=by
 have g2:=s2.get;have l2:=s2.lt;unfold z7;have s3:Sat (.of h) (h2.push (.cells [.int .u8 99] 5)) (uO (.slice (some ⟨h2.next,0,none⟩) 1 3) [99]::[pt b _]):=wM s2 [99] 3 (by decide);simp only[EE,Int.reduceEq,zu,zg,xr,yy,yP,zn,tW,cE,vo,g2,l2,hs];refine UI (.inl rfl) R M s3 (by decide) λv h' rn s4=>?_;simp only[EE,rn];refine fin s4 ?_;have e:ze ⟨10,r,m,sub,cc,l,k⟩ 0=if sub=3 then [zH 72 r m,15,190,xB r m] else [zH 72 r m,99,xB r m]:=rfl;rw[e,aae hs];rfl
theorem M4(R:zX r)(w2:qC h2)(s2:Sat (.of h) h2 [pt b (.cells (zo.row ⟨12,r,m,19,cc,l,k⟩) 42)]):z7 (.int .i64 12) (.pointer (some ⟨b,0,none⟩)) h2 (VN h (ze ⟨12,r,m,19,cc,l,k⟩ 0)) J:=by
 have g2:=s2.get;have l2:=s2.lt;unfold z7;have s3:Sat (.of h) (h2.push (.cells [.int .u8 211] 5)) (uO (.slice (some ⟨h2.next,0,none⟩) 1 3) [211]::[pt b _]):=wM s2 [211] 3 (by decide);simp only[EE,nth,Int.reduceEq,zu,zg,xr,zc,yy,zn,gC,UW,Vh,vM,vo,g2,l2];refine UI (a:=4) (.inl rfl) (by decide) R s3 (by decide) λv h' rn s4=>?_;simp only[EE,rn];exact fin s4 rfl
theorem M1(R:zX r)(w2:qC h2)(s2:Sat (.of h) h2 [pt b (.cells (zo.row ⟨11,r,m,19,cc,l,k⟩) 42)]):z7 (.int .i64 11) (.pointer (some ⟨b,0,none⟩)) h2 (VN h (ze ⟨11,r,m,19,cc,l,k⟩ 0)) J:=by
 have g2:=s2.get;have l2:=s2.lt;unfold z7;have s3:Sat (.of h) (h2.push (.cells [.int .u8 193] 5)) (uO (.slice (some ⟨h2.next,0,none⟩) 1 3) [193]::[pt b _]):=wM s2 [193] 3 (by decide);have gc:(cut (h2.push (.cells [.int .u8 193] 5)) h2.next (h2.next+1)).get b=some (.cells (zo.row ⟨11,r,m,19,cc,l,k⟩) 42):=Yt (by rw[yR l2];exact g2) l2;simp only[EE,nth,Int.reduceEq,zu,zg,xr,zc,yy,zn,gB,UW,Vh,vM,vo,g2,gc];refine fM (a:=4) (.inl rfl) (by decide) R s3 (Vw w2 _) (by decide) rfl (λ_ _ h=>h) (yD s3 aak) λv h' w nx rn s4=>?_;have g4:(cut (cut h' h2.next (h2.next+1)) (h2.next+1) h'.next).get b=some (.cells (zo.row ⟨11,r,m,19,cc,l,k⟩) 42):=Yt (Yt (s4.p 2).get l2) (abF l2);simp only[EE,zu,xP,xr,Gw,zC,gz,g4];refine zae s4 (by simp) λv3 h6 rn3 s6=>?_;simp only[EE,rn3];exact fin s6 rfl
theorem M5(R:zX r)(w2:qC h2)(s2:Sat (.of h) h2 [pt b (.cells (zo.row ⟨12,r,m,20,cc,l,k⟩) 42)]):z7 (.int .i64 12) (.pointer (some ⟨b,0,none⟩)) h2 (VN h (ze ⟨12,r,m,20,cc,l,k⟩ 0)) J:=by
 have g2:=s2.get;have l2:=s2.lt;unfold z7;have s3:Sat (.of h) (h2.push (.cells [.int .u8 211] 5)) (uO (.slice (some ⟨h2.next,0,none⟩) 1 3) [211]::[pt b _]):=wM s2 [211] 3 (by decide);simp only[EE,nth,Int.reduceEq,zu,zg,xr,zc,yy,zn,gC,UW,Vh,vM,vo,g2,l2];refine UI (a:=7) (.inl rfl) (by decide) R s3 (by decide) λv h' rn s4=>?_;simp only[EE,rn];exact fin s4 rfl
theorem M3(R:zX r)(w2:qC h2)(s2:Sat (.of h) h2 [pt b (.cells (zo.row ⟨11,r,m,20,cc,l,k⟩) 42)]):z7 (.int .i64 11) (.pointer (some ⟨b,0,none⟩)) h2 (VN h (ze ⟨11,r,m,20,cc,l,k⟩ 0)) J:=by
 have g2:=s2.get;have l2:=s2.lt;unfold z7;have s3:Sat (.of h) (h2.push (.cells [.int .u8 193] 5)) (uO (.slice (some ⟨h2.next,0,none⟩) 1 3) [193]::[pt b _]):=wM s2 [193] 3 (by decide);have gc:(cut (h2.push (.cells [.int .u8 193] 5)) h2.next (h2.next+1)).get b=some (.cells (zo.row ⟨11,r,m,20,cc,l,k⟩) 42):=Yt (by rw[yR l2];exact g2) l2;simp only[EE,nth,Int.reduceEq,zu,zg,xr,zc,yy,zn,gB,UW,Vh,vM,vo,g2,gc];refine fM (a:=7) (.inl rfl) (by decide) R s3 (Vw w2 _) (by decide) rfl (λ_ _ h=>h) (yD s3 aak) λv h' w nx rn s4=>?_;have g4:(cut (cut h' h2.next (h2.next+1)) (h2.next+1) h'.next).get b=some (.cells (zo.row ⟨11,r,m,20,cc,l,k⟩) 42):=Yt (Yt (s4.p 2).get l2) (abF l2);simp only[EE,zu,xP,xr,Gw,zC,gz,g4];refine zae s4 (by simp) λv3 h6 rn3 s6=>?_;simp only[EE,rn3];exact fin s6 rfl
theorem P5(M:zX m)(w2:qC h2)(s2:Sat (.of h) h2 [pt b (.cells (zo.row ⟨14,r,m,sub,cc,l,k⟩) 42)]):z7 (.int .i64 14) (.pointer (some ⟨b,0,none⟩)) h2 (VN h (ze ⟨14,r,m,sub,cc,l,k⟩ 0)) J:=by
 have g2:=s2.get;have l2:=s2.lt;unfold z7;have s3:Sat (.of h) (h2.push (.cells [.int .u8 247] 5)) (uO (.slice (some ⟨h2.next,0,none⟩) 1 3) [247]::[pt b _]):=wM s2 [247] 3 (by decide);simp only[EE,nth,Int.reduceEq,zu,zg,xr,yP,od,qG,qk,vM,vo,g2,l2];refine UI (a:=7) (.inl rfl) (by decide) M s3 (by decide) λv h' rn s4=>?_;simp only[EE,rn];exact fin s4 rfl
theorem P6(R:zX r)(M:zX m)(w2:qC h2)(s2:Sat (.of h) h2 [pt b (.cells (zo.row ⟨15,r,m,sub,cc,l,k⟩) 42)]):z7 (.int .i64 15) (.pointer (some ⟨b,0,none⟩)) h2 (VN h (ze ⟨15,r,m,sub,cc,l,k⟩ 0)) J:=by
 have g2:=s2.get;have l2:=s2.lt;unfold z7;have s3:Sat (.of h) (h2.push (.cells [.int .u8 57] 5)) (uO (.slice (some ⟨h2.next,0,none⟩) 1 3) [57]::[pt b _]):=wM s2 [57] 3 (by decide);simp only[EE,nth,Int.reduceEq,zu,zg,xr,yy,yP,oc,kR,qG,qk,vM,vo,g2,l2];refine UI (.inl rfl) M R s3 (by decide) λv h' rn s4=>?_;simp only[EE,rn];exact fin s4 rfl
theorem P4  (w2:qC h2)(s2:Sat (.of h) h2 [pt b (.cells (zo.row ⟨13,r,m,sub,cc,l,k⟩) 42)]):z7 (.int .i64 13) (.pointer (some ⟨b,0,none⟩)) h2 (VN h (ze ⟨13,r,m,sub,cc,l,k⟩ 0)) J:=by
 have g2:=s2.get;have l2:=s2.lt;unfold z7;have s3:Sat (.of h) (h2.push (.cells [.int .u8 72,.int .u8 153] 5)) (uO (.slice (some ⟨h2.next,0,none⟩) 2 4) [72,153]::[pt b _]):=wM s2 [72,153] 4 (by decide);simp only[EE,nth,Int.reduceEq,uN,qk,vM,vo];exact fin s3 rfl
theorem Rc  (w2:qC h2)(s2:Sat (.of h) h2 [pt b (.cells (zo.row ⟨22,r,m,sub,cc,l,k⟩) 42)]):z7 (.int .i64 22) (.pointer (some ⟨b,0,none⟩)) h2 (VN h (ze ⟨22,r,m,sub,cc,l,k⟩ 0)) J:=by
 have g2:=s2.get;have l2:=s2.lt;unfold z7;have s3:Sat (.of h) (h2.push (.cells [.int .u8 195] 5)) (uO (.slice (some ⟨h2.next,0,none⟩) 1 3) [195]::[pt b _]):=wM s2 [195] 3 (by decide);simp only[EE,nth,Int.reduceEq,xr,Vg,Xv,Yp,ZE,jS,kR,qG,qk,vM,vo];exact fin s3 rfl
theorem Re  (w2:qC h2)(s2:Sat (.of h) h2 [pt b (.cells (zo.row ⟨25,r,m,sub,cc,l,k⟩) 42)]):z7 (.int .i64 25) (.pointer (some ⟨b,0,none⟩)) h2 (VN h (ze ⟨25,r,m,sub,cc,l,k⟩ 0)) J:=by
 have g2:=s2.get;have l2:=s2.lt;unfold z7;have s3:Sat (.of h) (h2.push (.cells [.int .u8 72,.int .u8 237] 5)) (uO (.slice (some ⟨h2.next,0,none⟩) 2 4) [72,237]::[pt b _]):=wM s2 [72,237] 4 (by decide);simp only[EE,nth,Int.reduceEq,uN,QM,Vg,Xv,Yp,ZE,jS,kR,qG,qk,vM,vo];exact fin s3 rfl
theorem Rf  (w2:qC h2)(s2:Sat (.of h) h2 [pt b (.cells (zo.row ⟨26,r,m,sub,cc,l,k⟩) 42)]):z7 (.int .i64 26) (.pointer (some ⟨b,0,none⟩)) h2 (VN h (ze ⟨26,r,m,sub,cc,l,k⟩ 0)) J:=by
 have g2:=s2.get;have l2:=s2.lt;unfold z7;have s3:Sat (.of h) (h2.push (.cells [.int .u8 72,.int .u8 239] 5)) (uO (.slice (some ⟨h2.next,0,none⟩) 2 4) [72,239]::[pt b _]):=wM s2 [72,239] 4 (by decide);simp only[EE,nth,Int.reduceEq,uN,cD,QM,Vg,Xv,Yp,ZE,jS,kR,qG,qk,vM,vo];exact fin s3 rfl
theorem P8  (w2:qC h2)(s2:Sat (.of h) h2 [pt b (.cells (zo.row ⟨18,r,m,sub,cc,l,k⟩) 42)]):z7 (.int .i64 18) (.pointer (some ⟨b,0,none⟩)) h2 (VN h (ze ⟨18,r,m,sub,cc,l,k⟩ 0)) J:=by
 have g2:=s2.get;have l2:=s2.lt;unfold z7;have s3:Sat (.of h) (h2.push (.cells [.int .u8 233] 5)) (uO (.slice (some ⟨h2.next,0,none⟩) 1 3) [233]::[pt b _]):=wM s2 [233] 3 (by decide);simp only[EE,nth,Int.reduceEq,xr,oa,ZE,jS,kR,qG,qk,vM,vo];refine Jx s3 (n:=4) rfl (by decide) λv h' rn s4=>?_;refine bw s4 (by simp[wW]) λv3 h6 rn3 s6=>?_;simp only[EE,rn3];exact fin s6 rfl
theorem Rb  (w2:qC h2)(s2:Sat (.of h) h2 [pt b (.cells (zo.row ⟨21,r,m,sub,cc,l,k⟩) 42)]):z7 (.int .i64 21) (.pointer (some ⟨b,0,none⟩)) h2 (VN h (ze ⟨21,r,m,sub,cc,l,k⟩ 0)) J:=by
 have g2:=s2.get;have l2:=s2.lt;unfold z7;have s3:Sat (.of h) (h2.push (.cells [.int .u8 232] 5)) (uO (.slice (some ⟨h2.next,0,none⟩) 1 3) [232]::[pt b _]):=wM s2 [232] 3 (by decide);simp only[EE,nth,Int.reduceEq,xr,n7,Xv,Yp,ZE,jS,kR,qG,qk,vM,vo];refine Jx s3 (n:=4) rfl (by decide) λv h' rn s4=>?_;refine bw s4 (by simp[wW]) λv3 h6 rn3 s6=>?_;simp only[EE,rn3];exact fin s6 rfl
theorem P9(c0:21<=cc)(c1:cc<=26)(w2:qC h2)(s2:Sat (.of h) h2 [pt b (.cells (zo.row ⟨19,r,m,sub,cc,l,k⟩) 42)]):z7 (.int .i64 19) (.pointer (some ⟨b,0,none⟩)) h2 (VN h (ze ⟨19,r,m,sub,cc,l,k⟩ 0)) J:=by
 have g2:=s2.get;have l2:=s2.lt;unfold z7;have cb:=eP cc
 have q:IntKind.wrap .u8 (128+vC cc)=128+vC cc:=by
  have:∀n:Int,IntKind.wrap .u8 n=n%256:=bJ;rw[this];omega
 have s3:Sat (.of h) (h2.push (.cells [.int .u8 (15),.int .u8 (128+vC cc)] 5)) (uO (.slice (some ⟨h2.next,0,none⟩) 2 4) [15,128+vC cc]::[pt b _]):=wM s2 [15,128+vC cc] 4 (by decide);simp only[EE,nth,Int.reduceEq,zu,zg,aj,Yp,ZE,jS,kR,qG,qk,vM,vo,g2];refine VM (Uf c0 c1 _) ?_;simp only[EE,uN,nZ,q];refine Jx s3 (n:=4) rfl (by decide) λv h' rn s4=>?_;refine bw s4 (by simp[wW]) λv3 h6 rn3 s6=>?_;simp only[EE,rn3];exact fin s6 rfl
theorem P7(R:zX r)(c0:21<=cc)(c1:cc<=26)(w2:qC h2)(s2:Sat (.of h) h2 [pt b (.cells (zo.row ⟨17,r,m,sub,cc,l,k⟩) 42)]):z7 (.int .i64 17) (.pointer (some ⟨b,0,none⟩)) h2 (VN h (ze ⟨17,r,m,sub,cc,l,k⟩ 0)) J:=by
 have g2:=s2.get;have l2:=s2.lt;unfold z7;have cb:=eP cc
 have q:IntKind.wrap .u8 (144+vC cc)=144+vC cc:=by
  have:∀n:Int,IntKind.wrap .u8 n=n%256:=bJ;rw[this];omega
 have s3:Sat (.of h) (h2.push (.cells [.int .u8 (15),.int .u8 (144+vC cc)] 5)) (uO (.slice (some ⟨h2.next,0,none⟩) 2 4) [15,144+vC cc]::[pt b _]):=wM s2 [15,144+vC cc] 4 (by decide);have gc:(cut (h2.push (.cells [.int .u8 15,.int .u8 (144+vC cc)] 5)) h2.next (h2.next+1)).get b=some (.cells (zo.row ⟨17,r,m,sub,cc,l,k⟩) 42):=Yt (by rw[yR l2];exact g2) l2;simp only[EE,nth,Int.reduceEq,zu,zg,aj,jS,kR,qG,qk,vM,vo,g2];refine cqq (Uf c0 c1 _) ?_;simp only[EE,zu,zg,uN,yy,tY,q,gc];refine fM (.inr rfl) (by decide) R s3 (Vw w2 _) (by simp) rfl (λ_ _ h=>h) (yD s3 aak) λv h' w nx rn s4=>?_;have l4:b<h'.next:=(s4.p 2).lt;have gc4:∀o,(cut (cut (cut (h'.push o) h2.next (h2.next+1)) (h2.next+1) h'.next) h'.next (h'.next+1)).get b=some (.cells (zo.row ⟨17,r,m,sub,cc,l,k⟩) 42):=λo=>Yt (Yt (Yt (by rw[yR l4];exact(s4.p 2).get) l2) (abF l2)) l4;have s5:Sat (.of h) (h'.push (.cells [.int .u8 15,.int .u8 182] 5)) (uO (.slice (some ⟨h'.next,0,none⟩) 2 4) [15,182]::_):=wM s4 [15,182] 4 (by decide);simp only[EE,zu,zg,uN,yy,tX,gc4];refine fM (.inl rfl) R R s5 (Vw w _) (by decide) rfl (λ_ _ h=>h) (yD s5 aak) λv5 h5 w5 nx5 rn5 s6=>?_;refine bw (s6.f [0,2]) (by simp) λv3 h6 rn3 s7=>?_;simp only[EE,rn3];exact fin s7 rfl
theorem Ra(s2:Sat (.of h) h2 [pt b (.cells (zo.row ⟨20,r,m,sub,cc,l,k⟩) 42)])(hJ:∀vs,J vs h2):z7 (.int .i64 20) (.pointer (some ⟨b,0,none⟩)) h2 (VN h (ze ⟨20,r,m,sub,cc,l,k⟩ 0)) J:=by
 unfold z7;simp only[EE,nth,Int.reduceEq,cD,QM,Vg,Xv,Yp,ZE,jS,kR,qG,qk,vM,vo];exact hJ _
end
structure r8 (x:zo):Prop where
 op:1<=x.op/\x.op<=26
 r:Go.As.fW x.op=true->zX x.r
 m:Go.As.KF x.op=true->zX x.m
 H8:x.op=7\/x.op=8->x.sub=11\/x.sub=12\/x.sub=13\/x.sub=16\/x.sub=17\/x.sub=18
 siz:x.op=3\/x.op=4->x.sub=1\/x.sub=4\/x.sub=8
 un:x.op=9->x.sub=1\/x.sub=2
 ext:x.op=10->x.sub=3\/x.sub=4
 sh:x.op=11\/x.op=12->x.sub=19\/x.sub=20
 cc:x.op=17\/x.op=19->21<=x.cc/\x.cc<=26
section
variable {h:za}{x:zo}
theorem Tj(Y:r8 x)(hx:9<=x.op /\ ¬x.op=16 /\ ¬x.op=23 /\ ¬x.op=24):DC Tryz.prog 52 [x.val] h (VN h (ze x 0)):=by
 apply UP;intro wf;apply F9;unfold H4;obtain⟨op,r,m,sub,cc,l,k⟩:=x;obtain⟨Yop,YR,YM,Yalu,Ysiz,Yun,Yext,Ysh,Ycc⟩:=Y;have s0:=Sat.self wf.2;simp only[EE,Value.cells];refine I0 s0 wf λb h2 w2 s2=>?_;have g2:=s2.get;have wl:qC h2:=w2;simp only[EE,↓zB,zu,zg,zc,g2];simp only at Yop YR YM Yalu Ysiz Yun Yext Ysh Ycc hx;have:op=9\/op=10\/op=11\/op=12\/op=13\/op=14\/op=15\/op=17\/op=18\/op=19\/op=20\/op=21\/op=22\/op=25\/op=26:=by omega
 rcases this with rfl|rfl|rfl|rfl|rfl|rfl|rfl|rfl|rfl|rfl|rfl|rfl|rfl|rfl|rfl
 ·rcases Yun rfl with rfl|rfl
  ·exact M6 (YR rfl) wl s2
  ·exact M7 (YR rfl) wl s2
 ·rcases Yext rfl with rfl|rfl
  ·exact Hi (YR rfl) (YM rfl) wl s2
  ·exact Hj (YR rfl) (YM rfl) (by decide) wl s2
 ·rcases Ysh (.inl rfl) with rfl|rfl
  ·exact M1 (YR rfl) wl s2
  ·exact M3 (YR rfl) wl s2
 ·rcases Ysh (.inr rfl) with rfl|rfl
  ·exact M4 (YR rfl) wl s2
  ·exact M5 (YR rfl) wl s2
 ·exact P4 wl s2
 ·exact P5 (YM rfl) wl s2
 ·exact P6 (YR rfl) (YM rfl) wl s2
 ·exact P7 (YR rfl) (Ycc (.inl rfl)).1 (Ycc (.inl rfl)).2 wl s2
 ·exact P8 wl s2
 ·exact P9 (Ycc (.inr rfl)).1 (Ycc (.inr rfl)).2 wl s2
 ·refine Ra s2 λvs=>?_;exact fin (BL s2) rfl
 ·exact Rb wl s2
 ·exact Rc wl s2
 ·exact Re wl s2
 ·exact Rf wl s2
theorem zad(Y:r8 x):DC Tryz.prog 24 [x.val] h (VN h (ze x 0)):=by
 apply UP;intro wf;apply NJ;unfold TJ;have Z:=Y
 have go:∀{h2:za} {b:Nat} {J:List aaa->za->Prop},Sat (.of h) h2 [pt b (.cells x.row 42)]->(9<=x.op /\ ¬x.op=16 /\ ¬x.op=23 /\ ¬x.op=24)->(zL Tryz.prog (.func (.func 52) #[] #[]) [x.val] h2 (λt200 h122=>rv [t200] h122 (VN h (ze x 0)))):=λ{h2 b J} s2 hx=>by
  refine KI (Tj Y hx) ?_;rintro v h3 s3;have s4:=s2.join s3;have vn:=xt s3;simp only[EE,vn];exact fin s4 rfl
 obtain⟨op,r,m,sub,cc,l,k⟩:=x;obtain⟨Yop,YR,YM,Yalu,Ysiz,Yun,Yext,Ysh,Ycc⟩:=Z;have s0:=Sat.self wf.2;simp only[EE,Value.cells];refine I0 s0 wf λb h2 w2 s2=>?_;have g2:=s2.get;simp only[EE,↓zB,jY,zu,zg,vu,zc,g2];simp only at Yop YR YM Yalu Ysiz Yun Yext Ysh Ycc go;by_cases h1:op=1
 ·subst h1;exact zcE (YR rfl) (YM rfl) w2 s2
 by_cases h2':op=2
 ·subst h2';by_cases hk:Go.Ar.zM k=true
  ·exact zcF (YR rfl) hk w2 s2
  ·exact za0 (YR rfl) hk w2 s2
 by_cases h3:op=3
 ·subst h3;rcases Ysiz (.inl rfl) with rfl|rfl|rfl
  ·exact Ss (YR rfl) (YM rfl) w2 s2
  ·exact St (YR rfl) (YM rfl) w2 s2
  ·exact Su (YR rfl) (YM rfl) w2 s2
 by_cases h4:op=4
 ·subst h4;rcases Ysiz (.inr rfl) with rfl|rfl|rfl
  ·exact Sv (YR rfl) (YM rfl) w2 s2
  ·exact Sw (YR rfl) (YM rfl) w2 s2
  ·exact Sx (YR rfl) (YM rfl) w2 s2
 by_cases h5:op=5
 ·subst h5;exact zcG (YR rfl) (YM rfl) w2 s2
 by_cases h6:op=6
 ·subst h6;exact zcH (YR rfl) w2 s2
 by_cases h7:op=7
 ·subst h7;by_cases hs:sub=13
  ·subst hs;exact za1 (YR rfl) (YM rfl) w2 s2
  ·exact zcI (YR rfl) (YM rfl) hs w2 s2
 by_cases h8:op=8
 ·subst h8;by_cases hs:sub=13
  ·subst hs;exact za2 (YR rfl) w2 s2
  ·have:=Yalu (.inr rfl);exact zcJ (YR rfl) (by omega) w2 s2
 by_cases h16:op=16
 ·subst h16;exact zaX (YR rfl) w2 s2
 by_cases h23:op=23
 ·subst h23;exact zaY w2 s2
 by_cases h24:op=24
 ·subst h24;exact zaZ w2 s2
 unfold yQ;simp only[EE,Nat.reduceAdd,nu,eh,KZ,Ve,Y7,Yb,ZD,ko,qa,uD,h1,h2',h3,h4,h5,h6,h7,h8,h16,h23,h24,g2];exact go (J:=λ_ _=>True) s2 ⟨by omega,h16,h23,h24⟩
end
theorem IM{x:zo}(h:Go.Ar.zO x=true):r8 x:=by
 unfold Go.Ar.zO at h;simp only[aac,aao,aam]at h;obtain⟨a1,a2,a3,a4,a5,a6,a7⟩:=h;unfold Go.Ar.Xh at a3;unfold Go.Ar.Wl at a4;unfold Go.Ar.tailD at a7;refine⟨by omega,λe=>?_,λe=>?_,λe=>?_,λe=>?_,λe=>?_,λe=>?_,λe=>?_,λe=>?_⟩
 ·rw[e,abr,aao,aba,aam,aam]at a3;unfold zX;omega
 ·rw[e,abr,aao,aba,aam,aam]at a4;unfold zX;omega
 ·rcases e with e|e <;> (simp[e,Go.As.kY]at a7;omega)
 ·rcases e with e|e <;> (simp[e]at a7;omega)
 ·simp[e]at a7;omega
 ·simp[e]at a7;omega
 ·rcases e with e|e <;> (simp[e]at a7;omega)
 ·rcases e with e|e <;> (simp[e,Go.As.ZI]at a7;omega)
section
variable {lo:yH}{h:za}{L:List HP}{a b:Int}{K:aaa->za->Prop}
end
section
variable {h h2:za}{b:Nat}{r m sub cc l k d:Int}{J:List aaa->za->Prop}
end
section
variable {h h2:za}{b:Nat}{r m sub cc l k d:Int}{J:List aaa->za->Prop}
end
section
variable {h:za}{x:zo}{d:Int}
end
open Go.Rm (j7 Z4 yU xO yG xx yJ zQ Rd Rd.of Rd.at)
open Go.As (qu vq)
section
variable {lo:yH}{h:za}{L:List HP}{gv sv:aaa}{gl zs:List Int}
theorem mq(zs:List Int):∀r,r∈zs.map zQ->r.length=1:=yJ (f:=zQ) (λ_=>rfl) zs
theorem QU(s:Sat lo h (j7 2 1 sv (zs.map zQ)::L))(z:Int)(bD:zs.length<=1000000) :
  ∃b c h',(∀r,zF Tryz.prog .append [67,67] r [sv,.slice (some ⟨h.next,0,none⟩) 1 3] (h.push (.cells [.int .i64 z] 2))=some (.slice (some ⟨b,0,none⟩) (zs.length+1) c,h'))/\Sat lo h' (j7 2 1 (.slice (some ⟨b,0,none⟩) (zs.length+1) c) ((zs++[z]).map zQ)::L):=by
 have s1:=s.push (.cells [.int .i64 z] 2);obtain⟨b',c',h',a1,s2⟩:=Z4 (s1.p 1) (mq zs) [.int .i64 z] rfl (by decide) 8 (by rw[aaq];omega);rw[aaq]at a1 s2;refine⟨b',c',h',λr=>?_,?_⟩
 ·rw[zb3 r _ _ 1 [.int .i64 z] _ rfl (by simp only[qp,wQ];rfl) rfl rfl];exact a1
 ·rw[aaY];exact(s2.p 1).drop
theorem Mn{g a:Int}(g0:0<=g)(g1:g<=65536)(a0:0<=a)(a1:a<=100000000):IntKind.wrap .i64 (a+IntKind.wrap .i64 (IntKind.wrap .i64 ((IntKind.wrap .i64 (g+31)).tdiv 16)*16))=a+(g+31)/16*16:=by
 have e1:IntKind.wrap .i64 (g+31)=g+31:=Go.Mem.Rq (by omega) (by omega);have e2:(g+31).tdiv 16=(g+31)/16:=Int.tdiv_eq_ediv_of_nonneg (by omega);have e3:IntKind.wrap .i64 ((g+31)/16)=(g+31)/16:=Go.Mem.Rq (by omega) (by omega);have e4:IntKind.wrap .i64 ((g+31)/16*16)=(g+31)/16*16:=Go.Mem.Rq (by omega) (by omega);rw[e1,e2,e3,e4,Go.Mem.Rq (by omega) (by omega)]
theorem rD(S:zv h gv gl)(hg:∀g,g∈gl->0<=g/\g<=65536)(bD:gl.length<=1000):DC Tryz.prog 25 [gv] h (λr h'=>Sat (.of h) h' [j7 2 1 r ((yi gl 16777216).map zQ)]):=by
 apply UP;intro wf;apply DM;unfold DL;have s0:Sat (.of h) h []:=Sat.self wf.2;have R:Rd (.of h) (zv · gv gl):=Rd.of (yH.Wx h) S λh' o=>S.old o;have gn:=S.Kc;have ln:=vq S 3 h;simp only[EE,↓zB,gn,ln];refine kW (λm vs h'=>∃(i:Nat) (r:aaa),i<=gl.length/\m=gl.length-i/\vs=[.int .i64 (j3 (gl.take i) 16777216),r,.int .i64 (i:Nat)]/\Sat (.of h) h' [j7 2 1 r ((yi (gl.take i) 16777216).map zQ)]) gl.length ⟨0,.slice none 0 0,aaS _,rfl,rfl,xO _ _ s0⟩ ?_;rintro m vs h' ⟨i,r,hi,rfl,rfl,s⟩;have rn:=yG s;unfold nY;by_cases hc:(i:Int)<(gl.length:Int)
 ·obtain⟨g,hgi⟩:∃g,gl[i]? = some g:=⟨_,aag (by omega)⟩;have gb:=hg g (aax hgi);obtain⟨b,o,c,t,a1,a2,a3,a4⟩:=qu (R.at s) hgi;have et:gl.take (i+1)=gl.take i++[g]:=by rw[abw,hgi];rfl
  have eb:=Qh (gl.take i) 16777216 λx hx=>hg x (abV hx);rw[aa3,acr hi]at eb;have hl:(yi (gl.take i) 16777216).length=i:=by rw[ak,aa3,acr hi]
  obtain⟨b2,c2,h2,e1,s2⟩:=QU s (j3 (gl.take i) 16777216) (by omega);have w1:IntKind.wrap .i64 (g+16)=g+16:=Go.Mem.Rq (by omega) (by omega);have w2:IntKind.wrap .i64 (g+16+16)=g+32:=by rw[Go.Mem.Rq (by omega) (by omega)];omega
  have w3:g+32-1=g+31:=by omega
  have w4:=Mn gb.1 gb.2 (show 0<=j3 (gl.take i) 16777216 by omega) (by omega);have hin:=inc (show i<4611686018427387904 by omega);simp only[EE,nth,↓zB,Int.reduceEq,zu,zg,L9,nW,nX,hc,a1,a3,a4,rn,e1,w1,w2,w3,w4,hin];refine⟨gl.length-(i+1),by omega,i+1,.slice (some ⟨b2,0,none⟩) ((yi (gl.take i) 16777216).length+1) c2,by omega,rfl,?_,?_⟩
  ·rw[et,(cQ g (gl.take i) 16777216).2]
  ·rw[et,(cQ g (gl.take i) 16777216).1];exact s2
 ·have e:i=gl.length:=by omega
  subst e;rw[abD]at s;simp only[EE,nth,hc,rn];exact s
end
open Go.Rm (zS JJ)
section
variable {lo:yH}{h:za}{L:List HP}{y:aaa}{xs ys:List Int}
theorem zaH{b n c c2 o m:Nat}(s:Sat lo h (uO (.slice (some ⟨b,0,none⟩) n c) xs::L))(ho:o+4=xs.length)(hm:m=4)(S:xb h y ys)(hy:ys.length=4) :
  ∃h',(∀r,zF Tryz.prog .copy [29,29] r [.slice (some ⟨b,o,none⟩) m c2,y] h=some (.int .i64 4,h'))/\Sat lo h' (uO (.slice (some ⟨b,0,none⟩) n c) (xs.take o++ys)::L)/\(qC h->qC h'):=by
 subst hm;obtain⟨hn,hf⟩:=vy S;rw[hy]at hn hf;rcases zS s with⟨e,_,_⟩|⟨b',c',cs,e,hc,hl,ht,s'⟩
 ·cases e
 ·simp only[Value.slice.injEq,aab,Addr.mk.injEq]at e;obtain⟨⟨rfl,_⟩,e2,rfl⟩:=e;rw[aaq]at e2 hl ht;subst e2
  have ht2:cs.take xs.length=xs.map λz=>Value.int .u8 z:=by
   have:=ht;rw[abI,Ys]at this;exact this
  have hl2:xs.length<=cs.length:=by omega
  have ln:(ys.map λz=>Value.int .u8 z).length=4:=by rw[aaq,hy]
  refine⟨h.set b (some (.cells (zt cs o (ys.map λz=>Value.int .u8 z)) 5)),λr=>?_,?_,λw=>Go.Rtl.wf_set w s'.lt _⟩
  ·show oB Tryz.prog 29 _ y h=_;unfold oB;have h1:yd Tryz.prog (underlying 29)=some (.slice 5):=by kernel_rfl
   have h2:(yd Tryz.prog (typeInfo 5)).map (λi=>i.size)=some 1:=by kernel_rfl
   cases h3:yd Tryz.prog (typeInfo 5) with
   |none=>rw[h3]at h2;cases h2
   |some i=>
    rw[h3]at h2;have h2:i.size=1:=abg h2;rw[h1];simp only[hn,h3,h2,Nat.min_self,hf];unfold QV;rw[ln];have e1:Nat.beq 4 0=false:=rfl
    have e2:(Nat.ble h.ro b&&Nat.ble (o+4) cs.length&&(ys.map λz=>Value.int .u8 z).all xX)=true:=by
     rw[Ap,ab6 s'.wr,ab6 (by omega:o+4<=cs.length)];rfl
    simp only[e1,aaH,s'.get,e2,aaw,abn];rfl
  ·have hlen:(zt cs o (ys.map λz=>Value.int .u8 z)).length=cs.length:=x6 _ _ _;have hl3:(xs.take o++ys).length=xs.length:=by rw[aaB,aa3,hy];omega
   have q:=JJ (ty:=5) (n:=1) (rows:=(xs.take o++ys).map yI) (c:=c) hc (by rw[aaq,hl3,hlen];omega) (by
    rw[aaq,hl3,abI,Ys];refine abz λj=>?_;by_cases hj:j<xs.length
    ·rw[aaW hj,Go.Mem.EK _ _ _ _ (by rw[ln];omega),ln];by_cases hq:o<=j/\j<o+4
     ·rw[aah hq,aaY,aaZ (by rw[aaq,aa3];omega)];rw[aaq,aa3,acr (by omega)]
     ·rw[aae hq,aaY,aa2 (by rw[aaq,aa3];omega),<- aaW (l:=cs) hj,ht2,List.map_take,aaW (by omega)]
    ·rw[aas (by rw[aa3];omega),aas (by rw[aaq,hl3];omega)]) (s'.set (.cells (zt cs o (ys.map λz=>Value.int .u8 z)) 5))
   rw[aaq,hl3]at q;exact q
theorem KH{b off:Nat}{cs vs:List aaa}{t:TypeId}{K:za->Prop}(s:Sat lo h (pt b (.cells cs t)::L))(wf:qC h)(hl:off+vs.length<=cs.length)(hc:vs.all xX=true)(k:∀h',qC h'->Sat lo h' (pt b (.cells (zt cs off vs) t)::L)->K h'):opt (sU h b off vs) K:=by
 rw[Rl s.get,aah ⟨hl,s.wr,hc⟩];exact k _ (Go.Rtl.wf_set wf s.lt _) (s.set _)
theorem zaf{q:Nat}{o:wS}(s:Sat lo h (pt q o::L)):∃lo1,lo.Le lo1/\Rd lo1 (λh=>h.get q=some o)/\Sat lo1 h L:=by
 obtain⟨a,ha,d,w,s⟩:=s;refine⟨lo.un a,yH.lz d,λh1 b1=>?_,s⟩;have:Sat lo h1 [pt q o]:=⟨a,ha,d,w,b1⟩;exact this.get
end
theorem mkm(h:za):wV h=(.map (some h.next),h.push (.map [] 0)):=rfl
def aO(ls:List Nat)(n:Nat):List aaa:=(ls.map λq=>Value.map (some q))++List.replicate (n-ls.length) (.map none)
theorem Mu(n:Nat):Z9 [.map none] n=aO [] n:=by
 unfold Z9 aO;rw[acy,abv];apply abz;intro i;by_cases h:i<n
 ·simp[h,Nat.mod_one]
 ·rw[aas (by simp;omega),aas (by simp;omega)]
theorem O1{ls:List Nat}{n:Nat}(h:ls.length<=n):(aO ls n).length=n:=by unfold aO;simp;omega
theorem Mt{ls:List Nat}{n q:Nat}(h:ls.length<n):(aO ls n).set ls.length (.map (some q))=aO (ls++[q]) n:=by
 unfold aO;rw[List.set_append_right _ _ (by simp),aaq,acw,aaY,aa4]
 congr 1
 obtain⟨k,hk⟩:∃k,n-ls.length=k+1:=⟨n-ls.length-1,by omega⟩;rw[hk,aaB,List.length_singleton,show n-(ls.length+1)=k by omega,List.replicate_succ];rfl
theorem IL{ls:List Nat}{n k q:Nat}(h:ls[k]? = some q):(aO ls n)[k]? = some (.map (some q)):=by
 unfold aO;rw[aa2 (by rw[aaq];exact(aaM.1 h).1),aay,h];rfl
open Go.As (Pg Xn uQ vp We x8 kU)
section
variable {lo:yH}{h:za}{L:List HP}{f:Go.As.Fn}{q bl N c n st:Nat}{cs:List aaa}{v0 v1:aaa}{J:List aaa->za->Prop}
theorem ye{h:za}{y:aaa}{ys:List Int}(S:xb h y ys)(r:TypeId)(h':za):zF Tryz.prog .len [29] r [y] h'=some (.int .i64 ys.length,h'):=by
 have:=(vy S).1;rcases S with⟨rfl,e⟩|⟨b,off,cp,rfl,_⟩
 ·have:ys=[]:=by simpa using e
  subst this;rfl
 ·rw[aaq]at *
  rfl
theorem zaW(hF:Rd lo (Xn · f))(hY:∀x,x∈f.code->r8 x)(hcs:cs[n]? = some (.map (some q)))(hn:n<N)(hst:st<=1000000)(hsz:zD f.code<=1000000)(hfl:f.code.length<=1000000)
  (s:Sat lo h (pt q (Yh [])::pt bl (.cells cs 65)::L)) (k:∀h',Sat lo h' (pt q (Yh (Jw f.code st []))::pt bl (.cells cs 65)::L)->J [.int .i64 ((st+zD f.code:Nat):Int)] h') :
  LP (bU (.int .i64 f.code.length) J f.cv (.slice (some ⟨bl,0,none⟩) N c) [v0,v1,.int .i64 n]) [.int .i64 st,.int .i64 0] h:=by
 refine kW (λm vs h'=>∃j:Nat,j<=f.code.length/\m=f.code.length-j/\vs=[.int .i64 ((st+zD (f.code.take j):Nat):Int),.int .i64 (j:Nat)]/\Sat lo h' (pt q (Yh (Jw (f.code.take j) st []))::pt bl (.cells cs 65)::L)) f.code.length ⟨0,aaS _,rfl,rfl,s⟩ ?_;rintro m vs h1 ⟨j,hj,rfl,rfl,s1⟩;have F:=hF.at s1;unfold bU;by_cases hc:(j:Int)<(f.code.length:Int)
 ·obtain⟨i,hi⟩:∃i,f.code[j]? = some i:=⟨_,aag (by omega)⟩;obtain⟨bi,oi,ci,ti,ha,hbi,hgi,hle,htk,_⟩:=vp F.code (i:=j) (r:=i.row) (by rw[aay,hi];rfl) rfl;have et:f.code.take (j+1)=f.code.take j++[i]:=by rw[abw,hi];rfl
  have hsn:=AK i (f.code.take j) st [];rw[<- et]at hsn;have hss:=Hk (f.code.take j) i;rw[<- et]at hss
  have hmono:zD (f.code.take (j+1))<=zD f.code:=by
   have:=Qs (f.code.take (j+1)) (f.code.drop (j+1));rw[abl]at this;omega
  have hin:=inc (show j<4611686018427387904 by omega);have gL:=(s1.p 1).get;have n0:0<=(n:Int)/\(n:Int)<(N:Int):=by omega
  simp only[EE,nth,Value.cells,↓zB,jY,vu,uM,mO,hc,ha,hgi,hle,htk];refine vR s1 λb8 h2 s2=>?_;simp only[EE,Nat.reduceAdd,yV];refine zY s2 (by simp) rfl λh3 s3=>?_;have g8:=s3.get;have gM:=(s3.p 1).get;have gL3:=(s3.p 2).get
  have fin:∀{h5:za} {L':List HP},Sat lo h5 (pt b8 (.cells i.row 42)::pt q (Yh (Jw (f.code.take (j+1)) st []))::pt bl (.cells cs 65)::L) ->
    zL Tryz.prog (.func (.func 24) #[] #[]) [i.val] h5 (bR [.int .i64 ((st+zD (f.code.take j):Nat):Int),.int .i64 (j:Nat)] (bT [.int .i64 ((st+zD (f.code.take j):Nat):Int),.int .i64 (j:Nat)] λvs' h'=>∃m,m<f.code.length-j /\ ∃j:Nat,j<=f.code.length/\m=f.code.length-j/\vs'=[.int .i64 ((st+zD (f.code.take j):Nat):Int),.int .i64 (j:Nat)]/\Sat lo h' (pt q (Yh (Jw (f.code.take j) st []))::pt bl (.cells cs 65)::L))):=λ{h5 L'} s5=>by
   refine KI (zad (hY i (aax hi))) ?_;rintro v h6 s6;have s7:=s5.join s6;have vn:=xt s6;have lv:=λh'=>ye (yD s6 aak) 3 h';have sz:(ze i 0).length=ym i:=rfl;rw[sz]at lv
   have hadd:IntKind.wrap .i64 (((st+zD (f.code.take j):Nat):Int)+(ym i:Int))=((st+zD (f.code.take (j+1)):Nat):Int):=by
    rw[hss,Go.Mem.Rq (by omega) (by omega)];push_cast;omega
   simp only[EE,nth,bR,bT,vn,lv,hadd,hin];refine⟨f.code.length-(j+1),by omega,j+1,by omega,rfl,rfl,?_⟩;exact s7.drop.drop
  by_cases h20:i.op=20
  ·rw[aah h20]at hsn;have up:=rX (P:=Tryz.prog) (t:=65) (kt:=3) (et:=3) (kind := .i64) (by kernel_rfl) (by kernel_rfl) gM (s3.p 1).wr i.l (.int .i64 ((st+zD (f.code.take j):Nat):Int));have s4:=(s3.p 1).set (Yh (ZN (Jw (f.code.take j) st []) i.l (.int .i64 ((st+zD (f.code.take j):Nat):Int))));have g84:=(s4.p 1).get;have hd:decide (i.op=20)=true:=aa1 h20;simp only[EE,nth,zt,Nat.reduceAdd,jY,zu,zg,vu,WA,zc,xw,Wj,mN,g8,hd,n0,abb,abI,gL3,hcs,up,g84];refine fin (L':=L) ?_;rw[hsn];exact s4.f [1,0]
  ·rw[aae h20]at hsn;simp only[EE,zt,Nat.reduceAdd,jY,zu,zg,vu,zc,g8,h20];refine fin (L':=L) ?_;rw[hsn];exact s3
 ·have e:j=f.code.length:=by omega
  subst e;rw[abD]at s1 ⊢;simp only[EE,nth,hc];exact k h1 s1
end
open Go.Rm (Rd.mono)
section
variable {lo:yH}{h:za}{L:List HP}{p:Pg}{b2 b4 bl c:Nat}{gv v0:aaa}{zs:List Int}{J:List aaa->za->Prop}{R:aaa->za->Prop}
abbrev lN(p:Pg)(cv sv gv:aaa):wS := .cells [cv,sv,gv,.int .i64 p.main,.int .i64 p.params] 31
def Nl(p:Pg)(ls:List Nat)(h:za):Prop := ∀(k q:Nat) (f:Go.As.Fn),ls[k]? = some q->p.funcs[k]? = some f->h.get q=some (Yh (Jw f.code (yg (p.funcs.take k)) []))
theorem iC:∀fs gs:List Go.As.Fn,yg (fs++gs)=yg fs+yg gs
 |[],gs=>by rw[abv];show _=0+_;omega
 |f::fs,gs=>by
  show zD f.code+yg (fs++gs)=zD f.code+yg fs+yg gs;rw[iC fs gs];omega
theorem kV(fs:List Go.As.Fn)(i:Nat):yg (fs.take i)<=yg fs:=by
 have:=iC (fs.take i) (fs.drop i);rw[abl]at this;omega
theorem RM(s:Sat lo h (j7 3 1 gv (zs.map zQ)::L))(z:Int)(bD:zs.length<=1000000) :
  ∃b c h',(∀r,zF Tryz.prog .append [22,22] r [gv,.slice (some ⟨h.next,0,none⟩) 1 3] (h.push (.cells [.int .i64 z] 3))=some (.slice (some ⟨b,0,none⟩) (zs.length+1) c,h'))/\Sat lo h' (j7 3 1 (.slice (some ⟨b,0,none⟩) (zs.length+1) c) ((zs++[z]).map zQ)::L):=by
 have s1:=s.push (.cells [.int .i64 z] 3);obtain⟨b',c',h',a1,s2⟩:=Z4 (s1.p 1) (mq zs) [.int .i64 z] rfl (by decide) 8 (by rw[aaq];omega);rw[aaq]at a1 s2;refine⟨b',c',h',λr=>?_,?_⟩
 ·rw[WB r _ _ 1 [.int .i64 z] _ rfl (by simp only[qp,wQ];rfl) rfl rfl];exact a1
 ·rw[aaY];exact(s2.p 1).drop
def qz(fs:List Go.As.Fn):List Int:=(xq fs 0).map λ(n:Nat)=>(n:Int)
theorem VJ(fs:List Go.As.Fn):(qz fs).length=fs.length:=by unfold qz;rw[aaq,u3]
theorem FH(fs:List Go.As.Fn)(f:Go.As.Fn):qz (fs++[f])=qz fs++[((yg fs:Nat):Int)]:=by
 unfold qz;rw[lF,aaY,abf];rfl
theorem Rj(hp:Rd lo (uQ · p))(hY:∀f,f∈p.funcs->∀x,x∈f.code->r8 x)(hsz:yg p.funcs<=1000000)(hcf:∀f,f∈p.funcs->f.code.length<=1000000)(hfl:p.funcs.length<=100)
  (s:Sat lo h (pt bl (.cells (aO [] p.funcs.length) 65)::j7 3 1 (.slice none 0 0) ([].map zQ)::pt b4 (lN p (.slice none 0 0) (.slice none 0 0) gv)::L)) (gn:zR gv=false)
  (k:∀h' lo1 ls sv,lo.Le lo1->ls.length=p.funcs.length->Rd lo1 (Nl p ls)->Sat lo1 h' (pt bl (.cells (aO ls p.funcs.length) 65)::j7 3 1 sv ((qz p.funcs).map zQ)::pt b4 (lN p (.slice none 0 0) sv gv)::L)->J [v0] h') :
  LP (KN (.int .i64 p.funcs.length) J p.fv (.pointer (some ⟨b4,0,none⟩)) (.slice (some ⟨bl,0,none⟩) p.funcs.length c) (.pointer (some ⟨b2,0,none⟩)) R) [v0,.int .i64 0,.int .i64 0] h:=by
 refine kW (λm vs h'=>∃(i:Nat) (lo1:yH) (ls:List Nat) (sv:aaa),i<=p.funcs.length/\m=p.funcs.length-i/\vs=[v0,.int .i64 ((yg (p.funcs.take i):Nat):Int),.int .i64 (i:Nat)]/\ls.length=i/\lo.Le lo1/\Rd lo1 (Nl p ls)/\Sat lo1 h' (pt bl (.cells (aO ls p.funcs.length) 65)::j7 3 1 sv ((qz (p.funcs.take i)).map zQ)::pt b4 (lN p (.slice none 0 0) sv gv)::L)) p.funcs.length
  ⟨0,lo,[],.slice none 0 0,aaS _,rfl,rfl,rfl,yH.Le.refl _,λh b k q f h1=>(by cases h1),s⟩ ?_
 rintro m vs h1 ⟨i,lo1,ls,sv,hi,rfl,rfl,hls,hle1,hR,s1⟩;unfold KN;by_cases hc:(i:Int)<(p.funcs.length:Int)
 ·obtain⟨f,hf⟩:∃f,p.funcs[i]? = some f:=⟨_,aag (by omega)⟩;have P:=(hp.mono hle1).at s1;have fm:=aax hf;obtain⟨bf,ofs,cf,tf,hif,hbf,hgf,hlf,htf,hkf⟩:=We P.funcs (i:=i) (r:=f.row) (by rw[aay,hf];rfl) rfl;have hF:Rd lo1 (Xn · f):=λh b=>(hp.mono hle1 h b).fns f fm;have cvn:=(P.fns f fm).code.Kc;have cvc:=(P.fns f fm).code.Au;have hin:=inc (show i<4611686018427387904 by omega);have et:p.funcs.take (i+1)=p.funcs.take i++[f]:=by rw[abw,hf];rfl
  have hss:=rR f (p.funcs.take i);rw[<- et]at hss;have hmono:=kV p.funcs (i+1);have svn:=yG (s1.p 1);simp only[EE,nth,Value.cells,↓zB,jY,Zf,Wf,mQ,hc,hif,hgf,hlf,htf];refine vR s1 λb8 h2 s2=>?_;simp only[EE,Nat.reduceAdd,Wd];refine zY s2 (by simp) (by simp[cvc];rfl) λh3 s3=>?_;have g4:=(s3.p 3).get;have svc:=xx (s3.p 2);obtain⟨b5,c5,h5,e5,s5⟩:=RM (s3.p 2) ((yg (p.funcs.take i):Nat):Int) (by rw[VJ,aa3];omega);rw[<- FH,<- et]at s5;simp only[EE,nth,zu,wi,WC,uw,u7,g4,svn,e5];refine zY (s5.p 3) (by simp) rfl λh6 s6=>?_;have gl:=(s6.p 3).get;have wl:=(s6.p 3).wr;have ll:=(s6.p 3).lt;have n0:0<=(i:Int)/\(i:Int)<(p.funcs.length:Int):=by omega
  have g8:=(s6.p 2).get;have s7:=s6.push (.map [] 0);simp only[EE,nth,Ud,Wj,n0,abb,abI,mkm];refine zY (s7.p 4) (by rw[O1 (by omega)];simp;omega) rfl λh8 s8=>?_
  have es:zt (aO ls p.funcs.length) i [.map (some h6.next)]=aO (ls++[h6.next]) p.funcs.length:=by
   rw[<- hls,<- Mt (by omega)];rfl
  rw[es]at s8;have g8:=(s8.p 4).get;have hlc:=λh'=>x8 ((hF.at s8).code) 3 h';simp only[EE,nth,↓zB,zt,zu,qd,wP,g8,cvn,hlc];refine zaW (q:=h6.next) (st:=yg (p.funcs.take i)) hF (hY f fm) (IL (by rw[aaZ (by omega)];simp[hls])) (by omega) (by have:=kV p.funcs i;omega) (by omega) (hcf f fm) (s8.f [1,0]) λh9 s9=>?_;obtain⟨lo2,l2,hm,s10⟩:=zaf s9;have hgt:¬((yg (p.funcs.take i)+zD f.code:Nat):Int)>8388608:=by omega
  simp only[EE,nth,mP,hgt];simp only[EE,nth,iG,hin];refine⟨p.funcs.length-(i+1),by omega,i+1,lo2,ls++[h6.next],.slice (some ⟨b5,0,none⟩) ((qz (p.funcs.take i)).length+1) c5,by omega,rfl,by rw[hss],by simp[hls],hle1.trans l2,λh b k q f' hk hf'=>?_,?_⟩
  ·by_cases hki:k<ls.length
   ·rw[aa2 hki]at hk;exact hR.mono l2 h b k q f' hk hf'
   ·have hk2:k=ls.length:=by
     have:=(aaM.1 hk).1;simp at this;omega
    subst hk2;simp at hk;subst hk;rw[hls,hf]at hf';cases hf';rw[hls];exact hm h b
  ·exact(s10.f [3]).drop.f [0,2,1]
 ·have e:i=p.funcs.length:=by omega
  subst e;rw[abD]at s1;simp only[EE,nth,hc];exact k h1 lo1 ls sv hle1 hls hR s1
end
open Go.As (wL)
open Go.Ar (yB uZ uS)
structure InX (p:Pg) (code:List zo) (x:zo):Prop where
 lay:r8 x
 lab:x.op=18\/x.op=19->¬yB code x.l 0<0
 call:x.op=21->0<=x.sub/\x.sub<p.funcs.length
 pW:x.op=6->0<=x.sub/\x.sub<p.globals.length/\0<=x.k/\x.k<=65536
structure Nn (p:Pg):Prop where
 ins:∀f,f∈p.funcs->∀x,x∈f.code->InX p f.code x
 once:∀f,f∈p.funcs->∀(j:Nat) y,f.code[j]? = some y->y.op=20->yB f.code y.l 0=(j:Int)
 cf:∀f,f∈p.funcs->f.code.length<=100000
 fl:p.funcs.length<=100
 gl:p.globals.length<=200
 gr:∀g,g∈p.globals->0<=g/\g<=65536
theorem Wy{p:Pg}(h:wL p=true):Nn p:=by
 have hd:uZ p=true:=by rw[uS];exact h
 have hl:=λf fm=>Sr h (f:=f) fm;unfold uZ at hd;simp only[aac,aav]at hd;obtain⟨h1,h2,h3⟩:=hd;unfold Go.As.uR at h1;simp only[aac,aao,aam]at h1
 have gr:∀g,g∈p.globals->0<=g/\g<=65536:=λg hg=>by
  have:=h2 g hg;unfold Go.As.BX at this;simp only[aac,aao,aam]at this;omega
 refine⟨λf fm x hx=>?_,λf fm=>(hl f fm).1,λf fm=>?_,by omega,by omega,gr⟩
 ·have a:=h3 f fm;unfold Go.Ar.Qc at a;simp only[aac]at a;have a1:=a.1;unfold Go.Ar.Qb at a1;rw[aav]at a1;obtain⟨n,hn⟩:=abW hx;have hn':=(aaM.1 hn).1;have b:=a1 n (by simpa using hn');unfold Go.Ar.EU at b;rw[hn]at b;have b:Go.Ar.wK p f.code n x=true:=b;unfold Go.Ar.wK Go.Ar.jk at b;simp only[aac,aao]at b;obtain⟨b1,b2,b3,b4⟩:=b;refine⟨IM b1,(hl f fm).2 x hx,λe=>?_,λe=>?_⟩
  ·rw[aa1 e,abr,aba,aam,aam]at b3;omega
  ·rw[aa1 e,abr]at b4;simp only[aba,aam]at b4;obtain⟨c1,c2,c3,c4⟩:=b4;have hlt:x.sub.toNat<p.globals.length:=by omega
   have:=gr _ (abU hlt);rw[abd,aag hlt,abC]at c4;exact⟨by omega,by omega,by omega,by omega⟩
 ·have a:=h3 f fm;unfold Go.Ar.Qc at a;simp only[aac,aao,aam]at a;omega
theorem Jd{h:za}{sv:aaa}{zs:List Int}(S:zE h sv 1 (zs.map zQ)){i:Nat}{z:Int}(hz:zs[i]? = some z):∃b o c t,vG Tryz.prog 67 sv (.int .i64 i)=some (.pointer (some ⟨b,o,none⟩))/\b<h.next/\h.get b=some (.cells c t)/\c[o]? = some (.int .i64 z):=by
 obtain⟨b,o,c,t,⟨off,cp,e1,e2⟩,hi,hb,hg,_,_,hk⟩:=S.spot (i:=i) (r:=zQ z) (by rw[aay,hz];rfl) rfl;refine⟨b,o,c,t,?_,hb,hg,by have:=hk 0 (by decide);exact this⟩;rw[e1,Un,aah (by omega),e2,abb]
theorem Gm{h:za}{sv:aaa}{zs:List Int}(S:zE h sv 1 (zs.map zQ)){i:Nat}{z:Int}(hz:zs[i]? = some z):∃b o c t,vG Tryz.prog 22 sv (.int .i64 i)=some (.pointer (some ⟨b,o,none⟩))/\b<h.next/\h.get b=some (.cells c t)/\c[o]? = some (.int .i64 z):=by
 obtain⟨b,o,c,t,⟨off,cp,e1,e2⟩,hi,hb,hg,_,_,hk⟩:=S.spot (i:=i) (r:=zQ z) (by rw[aay,hz];rfl) rfl;refine⟨b,o,c,t,?_,hb,hg,by have:=hk 0 (by decide);exact this⟩;rw[e1,Wi,aah (by omega),e2,abb]
theorem FI{p:Pg}{i:Int}(h0:0<=i)(h1:i<p.funcs.length):(qz p.funcs)[i.toNat]? = some (((xq p.funcs 0)[i.toNat]?.getD 0:Nat):Int)/\(xq p.funcs 0)[i.toNat]?.getD 0<=yg p.funcs:=by
 have hl:=Qu p.funcs 0 i.toNat (by omega);have:=kV p.funcs i.toNat;unfold qz;rw[aay,hl];refine⟨rfl,?_⟩;rw[abC];omega
theorem IF{p:Pg}(X:Nn p){i:Int}(h0:0<=i)(h1:i<p.globals.length):(yi p.globals 16777216)[i.toNat]? = some ((yi p.globals 16777216)[i.toNat]?.getD 0)/\16777216<=(yi p.globals 16777216)[i.toNat]?.getD 0/\(yi p.globals 16777216)[i.toNat]?.getD 0<=100000000:=by
 have hl:=Qi p.globals 16777216 i.toNat (by omega);have:=Qh (p.globals.take i.toNat) 16777216 λg hg=>X.gr g (abV hg);have h2:(p.globals.take i.toNat).length<=200:=by rw[aa3];have:=X.gl;omega
 rw[hl,abC];exact⟨rfl,by omega,by omega⟩
theorem rQ(xs:List zo)(j:Nat):zD (xs.take j)<=zD xs:=by
 have:=Qs (xs.take j) (xs.drop j);rw[abl]at this;omega
theorem A7{fs:List Go.As.Fn}{f:Go.As.Fn}(h:f∈fs):zD f.code<=yg fs:=by
 obtain⟨a,b,rfl⟩:=aaP h;rw[iC];show _<=yg a+(zD f.code+yg b);omega
open Go.Rm (yx)
section
variable {lo:yH}{h:za}{L:List HP}{p:Pg}{b4 bl b8 c n o i:Nat}{gv sv av cv:aaa}{ls:List Nat}{f:Go.As.Fn}{x:zo}{J:List aaa->za->Prop}{J0:List aaa->za->Prop}
structure CK (p:Pg) (bl:Nat) (ls:List Nat) (sv av:aaa) (h:za):Prop where
 pg:uQ h p
 zdz:Nl p ls h
 cells:h.get bl=some (.cells (aO ls p.funcs.length) 65)
 zbC:zE h sv 1 ((qz p.funcs).map zQ)
 Ck:zE h av 1 ((yi p.globals 16777216).map zQ)
theorem Xm{P:Program}{g:FuncId}{args:List aaa}{h:za}{R:aaa->za->Prop}(d:DC P g args h R):DC P g args h (λv h1=>R v h1/\qC h1):=d.zcQ λv h1 r w=>⟨r,w⟩
theorem pY{q:Nat}{m:List (Int×aaa)}{l z:Int}(g:h.get q=some (Yh m))(hz:ZJ m l=some (.int .i64 z)):Zg Tryz.prog 65 (.map (some q)) (.int .i64 l) false h=some (.int .i64 z):=by
 have:=E2 (P:=Tryz.prog) (t:=65) (kt:=3) (et:=3) (kind := .i64) (z := .int .i64 0) (by kernel_rfl) (by kernel_rfl) (by kernel_rfl) g l false;rw[hz]at this;exact this
theorem zaO(K:CK p bl ls sv av h)(X:Nn p)(hfi:p.funcs[i]? = some f)(hls:ls.length=p.funcs.length)(hx:x∈f.code)(hsz:yg p.funcs<=1000000)(g4:h.get b4=some (lN p cv sv gv))(g8:h.get b8=some (.cells x.row 42))
  (near:¬VP x->J0 [] h) (far:VP x->J [.int .i64 (uG (yi p.globals 16777216) (xq p.funcs 0) f.code (yg (p.funcs.take i)) x)] h) :
  KQ (.int .i64 x.op) h (.slice (some ⟨bl,0,none⟩) p.funcs.length c) [.int .i64 i] (.pointer (some ⟨b8,0,none⟩)) (.pointer (some ⟨b4,0,none⟩)) av J0 J:=by
 have fm:=aax hfi;have hi:=(aaM.1 hfi).1;have IX:=X.ins f fm x hx;have n0:0<=(i:Int)/\(i:Int)<(p.funcs.length:Int):=by omega
 obtain⟨q,hq⟩:∃q,ls[i]? = some q:=⟨_,aag (by omega)⟩;have hcs:=IL (n:=p.funcs.length) hq;have gM:=K.zdz i q f hq hfi;have gL:=K.cells;have yj:=IX.lay.op;unfold VP at near far;unfold uG at far;unfold KQ;by_cases h18:x.op=18
 ·have hd:decide (x.op=18)=true:=aa1 h18;have lk:=pY gM (AL (X.once f fm) (IX.lab (.inl h18)) (yg (p.funcs.take i)) []);rw[aah (.inl h18)]at far;simp only[EE,nth,zu,zg,WA,xw,Wj,KP,hd,n0,abb,abI,gL,hcs,g8,lk];exact far (.inl h18)
 have hd18:decide (x.op=18)=false:=aaT h18;by_cases h19:x.op=19
 ·have hd:decide (x.op=19)=true:=aa1 h19;have lk:=pY gM (AL (X.once f fm) (IX.lab (.inr h19)) (yg (p.funcs.take i)) []);rw[aah (.inr h19)]at far;simp only[EE,nth,zu,zg,WA,xw,Wj,KP,hd18,hd,n0,abb,abI,gL,hcs,g8,lk];exact far (.inr (.inl h19))
 have hd19:decide (x.op=19)=false:=aaT h19;rw[aae (by omega)]at far;by_cases h21:x.op=21
 ·have hd:decide (x.op=21)=true:=aa1 h21;have cl:=IX.call h21;have sa:=(FI cl.1 cl.2).1;obtain⟨b,o,c3,t,a1,a2,a3,a4⟩:=Gm K.zbC sa;rw[acf cl.1]at a1;rw[aah h21]at far;simp only[EE,nth,zu,wi,zg,u7,zn,iI,VU,hd18,hd19,hd,g4,g8,a1,a3,a4];exact far (.inr (.inr (.inl h21)))
 have hd21:decide (x.op=21)=false:=aaT h21;rw[aae h21]at far;by_cases h6:x.op=6
 ·have hd:decide (x.op=6)=true:=aa1 h6;have lg:=IX.pW h6;have sa:=IF X lg.1 lg.2.1;obtain⟨b,o,c3,t,a1,a2,a3,a4⟩:=Jd K.Ck sa.1;rw[acf lg.1]at a1;rw[aah h6]at far;have w:=Go.Mem.Rq (n:=(yi p.globals 16777216)[x.sub.toNat]?.getD 0+x.k) (by omega) (by omega);simp only[EE,nth,zu,xP,zg,zn,zC,iH,KO,VU,hd18,hd19,hd21,hd,g8,a1,a3,a4,w];exact far (.inr (.inr (.inr h6)))
 have hd6:decide (x.op=6)=false:=aaT h6;simp only[EE,nth,KO,VU,hd18,hd19,hd21,hd6];exact near (by omega)
theorem Sk(X:Nn p)(hfi:p.funcs[i]? = some f)(hx:x∈f.code)(hsz:yg p.funcs<=1000000)(hf:VP x):0<=uG (yi p.globals 16777216) (xq p.funcs 0) f.code (yg (p.funcs.take i)) x/\uG (yi p.globals 16777216) (xq p.funcs 0) f.code (yg (p.funcs.take i)) x<=200000000:=by
 have fm:=aax hfi;have IX:=X.ins f fm x hx;unfold VP at hf;unfold uG;by_cases h1:x.op=18\/x.op=19
 ·rw[aah h1];have:=kV p.funcs i;have:=rQ f.code (yB f.code x.l 0).toNat;have:=A7 fm;omega
 ·rw[aae h1];by_cases h21:x.op=21
  ·rw[aah h21];have cl:=IX.call h21;have:=(FI cl.1 cl.2).2;omega
  ·have h6:x.op=6:=by omega
   rw[aae h21,aah h6];have lg:=IX.pW h6;have sa:=IF X lg.1 lg.2.1;omega
theorem OW(hK:Rd lo (CK p bl ls sv av))(X:Nn p)(hfi:p.funcs[i]? = some f)(hls:ls.length=p.funcs.length)(hx:x∈f.code)(hsz:yg p.funcs<=1000000){bs:List Int}(hbs:bs.length=yg (p.funcs.take i)+n)(hn:n<=1000000)(wf:qC h)
  (s:Sat lo h (pt b8 (.cells x.row 42)::pt b4 (lN p cv sv gv)::uO cv bs::L)) (cvc:zR gv=false)
  (k:∀h' cv',qC h'->Sat lo h' (pt b4 (lN p cv' sv gv)::uO cv' (bs++ze x (Wv (yi p.globals 16777216) (xq p.funcs 0) f.code (yg (p.funcs.take i)) (yg (p.funcs.take i)+n) x))::L)->J0 [] h') :
  zL Tryz.prog (.func (.func 24) #[] #[]) [x.val] h (KR (.pointer (some ⟨b4,0,none⟩)) (.pointer (some ⟨b8,0,none⟩)) (.slice (some ⟨bl,0,none⟩) p.funcs.length c) [.int .i64 i] av J0):=by
 have fm:=aax hfi;have IX:=X.ins f fm x hx;refine KI (Xm (zad IX.lay)) ?_;rintro v h1 ⟨s1,w1⟩;have s2:=s.join s1;have sz:(ze x 0).length=ym x:=rfl;have szl:=size_le x;have tk:=kV p.funcs i;have g4:=(s2.p 2).get;obtain⟨a,m,c1,h2,a1,s3,w3,_⟩:=Xl ((s2.p 3)) (yD (s2.p 3) (aar _ aak)) (by omega);have vn:=xt s1;have cn:=xt (s2.p 3);simp only[EE,zu,jE,Uc,uF,KR,g4,vn,cn,a1];refine KH (s3.p 3) (w3 w1) (by simp) (by rfl) λh3 w4 s4=>?_;have g43:=s4.get;have g83:=(s4.p 3).get;have ln:=λh'=>ye (yD (s4.p 1) aak) 3 h';rw[aaB,sz,hbs]at ln;simp only[EE,↓zB,zt,zu,jE,zg,uF,zc,g43,g83,ln];refine zaO (cv := .slice a m c1) (f:=f) (hK.at s4) X hfi hls hx hsz g43 g83 (λnf=>?_) (λhf=>?_)
 ·refine k h3 (.slice a m c1) w4 ?_;rw[QY nf];exact(s4.f [0,1,2,3]).f [2,3] |>.drop.drop
 ·obtain⟨f1,f2⟩:=Ma hf (Wv (yi p.globals 16777216) (xq p.funcs 0) f.code (yg (p.funcs.take i)) (yg (p.funcs.take i)+n) x);have gb:=Sk X hfi hx hsz hf;rw[f2]at k;have hlen:(bs++ze x 0).length=yg (p.funcs.take i)+n+ym x:=by rw[aaB,sz,hbs]
  have efar:Wv (yi p.globals 16777216) (xq p.funcs 0) f.code (yg (p.funcs.take i)) (yg (p.funcs.take i)+n) x=uG (yi p.globals 16777216) (xq p.funcs 0) f.code (yg (p.funcs.take i)) x-((yg (p.funcs.take i)+n+ym x:Nat):Int):=by
   unfold Wv;rw[aah (by unfold VP at hf;omega)]
  revert gb efar
  generalize uG (yi p.globals 16777216) (xq p.funcs 0) f.code (yg (p.funcs.take i)) x=gg;intro gb efar;rw[efar]at k;generalize hN:yg (p.funcs.take i)+n+ym x=N at *
  rcases zS (s4.p 1) with⟨e,e2,_⟩|⟨b,c',cs,e,hc,hl,ht,_⟩
  ·have:(bs++ze x 0).length=0:=by
    have:=congrArg List.length e2;simpa using this
   omega
  ·have e':=e;simp only[Value.slice.injEq]at e;obtain⟨rfl,e3,rfl⟩:=e;rw[aaq,hlen]at e3;subst e3;have wsub:IntKind.wrap .i64 ((m:Int)-4)=((m-4:Nat):Int):=by rw[Go.Mem.Rq (by omega) (by omega)];omega
   have wg:=Go.Mem.Rq (n:=gg-(m:Int)) (by omega) (by omega);have c0:(0:Int)<=((m-4:Nat):Int)/\((m-4:Nat):Int)<=(m:Int):=by omega
   unfold iJ;simp only[EE,nth,zt,zu,jE,uF,VI,g43,wsub,c0,abb,wg];refine fA s4 w4 (n:=4) rfl (by decide) λr h5 w5 rn s5=>?_;obtain⟨h6,a6,s6,w6⟩:=zaH (o:=m-4) (m:=m-(m-4)) (c2:=(bif wide Tryz.prog h3 b 1 then QZ c1 (m-4) else 0)) (s5.p 2) (by rw[hlen];omega) (by omega) (yD s5 aak) (wW 4 _)
   have e7:(bs++ze x 0).take (m-4)++xz 4 (gg-(m:Int))=bs++((ze x 0).take (ym x-4)++xz 4 (gg-(m:Int))):=by
    rw[<- aa4]
    congr 1
    rw[List.take_append,ab2 (by omega)]
    congr 2
    omega
   rw[e7]at s6;simp only[abI]at *
   simp only[EE,rn,a6];exact k h6 (.slice (some ⟨b,0,none⟩) m c1) (w6 w5) ((s6.f [1,3,4]).drop.drop.drop.f [1,0])
end
open Go.Rm (qy)
section
variable {lo:yH}{h:za}{L:List HP}{p:Pg}{b2 b4 bl b8 c n o i:Nat}{gv sv av cv:aaa}{ls:List Nat}{f:Go.As.Fn}{x:zo}{J:List aaa->za->Prop}{R:aaa->za->Prop}
theorem zaG(hK:Rd lo (CK p bl ls sv av))(X:Nn p)(hfi:p.funcs[i]? = some f)(hls:ls.length=p.funcs.length)(hsz:yg p.funcs<=1000000){bs:List Int}(hbs:bs.length=yg (p.funcs.take i))(wf:qC h)
  (s:Sat lo h (pt b4 (lN p cv sv gv)::uO cv bs::L)) (gvn:zR gv=false)
  (k:∀h' cv',qC h'->Sat lo h' (pt b4 (lN p cv' sv gv)::uO cv' (bs++uP (yi p.globals 16777216) (xq p.funcs 0) f.code (yg (p.funcs.take i)) f.code (yg (p.funcs.take i)))::L)->J [] h') :
  LP (KS (.int .i64 f.code.length) J f.cv (.pointer (some ⟨b4,0,none⟩)) (.slice (some ⟨bl,0,none⟩) p.funcs.length c) [.int .i64 i] av) [.int .i64 0] h:=by
 refine kW (λm vs h'=>∃(j:Nat) (cv':aaa),j<=f.code.length/\m=f.code.length-j/\vs=[.int .i64 (j:Nat)]/\qC h'/\Sat lo h' (pt b4 (lN p cv' sv gv)::uO cv' (bs++uP (yi p.globals 16777216) (xq p.funcs 0) f.code (yg (p.funcs.take i)) (f.code.take j) (yg (p.funcs.take i)))::L)) f.code.length
  ⟨0,cv,aaS _,rfl,rfl,wf,by
   have e:bs++uP (yi p.globals 16777216) (xq p.funcs 0) f.code (yg (p.funcs.take i)) (f.code.take 0) (yg (p.funcs.take i))=bs:=abm bs;rw[e];exact s⟩ ?_
 rintro m vs h1 ⟨j,cv',hj,rfl,rfl,w1,s1⟩;have K:=hK.at s1;have fm:=aax hfi;have F:=K.pg.fns f fm;have hcf:=X.cf f fm;unfold KS;by_cases hc:(j:Int)<(f.code.length:Int)
 ·obtain⟨x,hi⟩:∃x,f.code[j]? = some x:=⟨_,aag (by omega)⟩;obtain⟨bi,oi,ci,ti,ha,hbi,hgi,hle,htk,_⟩:=vp F.code (i:=j) (r:=x.row) (by rw[aay,hi];rfl) rfl;have et:f.code.take (j+1)=f.code.take j++[x]:=by rw[abw,hi];rfl
  have hin:=inc (show j<4611686018427387904 by omega);have szf:=A7 fm;have szt:=rQ f.code j;simp only[EE,nth,Value.cells,↓zB,jY,vu,uM,iK,iL,hc,ha,hgi,hle,htk];refine I0 s1 w1 λb8 h2 w2 s2=>?_;simp only[EE,Nat.reduceAdd,yV];refine KH s2 w2 (by simp) rfl λh3 w3 s3=>?_;have g8:=s3.get;simp only[EE,zt,Nat.reduceAdd,jY,vu,g8];refine OW (n:=zD (f.code.take j)) hK X hfi hls (aax hi) hsz (by rw[aaB,hbs,W6]) (by omega) w3 s3 gvn λh4 cv2 w4 s4=>?_;simp only[EE,nth,hin];refine⟨f.code.length-(j+1),by omega,j+1,cv2,by omega,rfl,rfl,w4,?_⟩;rw[et,oZ,<- aa4];exact s4
 ·have e:j=f.code.length:=by omega
  subst e;rw[abD]at s1;simp only[EE,nth,hc];exact k h1 cv' w1 s1
theorem Sg(hK:Rd lo (CK p bl ls sv av))(X:Nn p)(hls:ls.length=p.funcs.length)(hsz:yg p.funcs<=1000000)(wf:qC h)
  (s:Sat lo h (pt b4 (lN p (.slice none 0 0) sv gv)::L)) (gvn:zR gv=false)
  (k:∀h' cv',Sat lo h' (pt b4 (lN p cv' sv gv)::uO cv' (jW p)::L)->J [] h') :
  LP (KT (.int .i64 p.funcs.length) J p.fv (.pointer (some ⟨b4,0,none⟩)) (.slice (some ⟨bl,0,none⟩) p.funcs.length c) av) [.int .i64 0] h:=by
 refine kW (λm vs h'=>∃(i:Nat) (cv':aaa),i<=p.funcs.length/\m=p.funcs.length-i/\vs=[.int .i64 (i:Nat)]/\qC h'/\Sat lo h' (pt b4 (lN p cv' sv gv)::uO cv' (Yf (yi p.globals 16777216) (xq p.funcs 0) (p.funcs.take i) 0)::L)) p.funcs.length
  ⟨0,.slice none 0 0,aaS _,rfl,rfl,wf,(BL s).f [1,0]⟩ ?_
 rintro m vs h1 ⟨i,cv',hi,rfl,rfl,w1,s1⟩;have K:=hK.at s1;have fl:=X.fl;unfold KT;by_cases hc:(i:Int)<(p.funcs.length:Int)
 ·obtain⟨f,hf⟩:∃f,p.funcs[i]? = some f:=⟨_,aag (by omega)⟩;have fm:=aax hf;obtain⟨bf,ofs,cf,tf,hif,hbf,hgf,hlf,htf,hkf⟩:=We K.pg.funcs (i:=i) (r:=f.row) (by rw[aay,hf];rfl) rfl;have cvn:=(K.pg.fns f fm).code.Kc;have cvc:=(K.pg.fns f fm).code.Au;have hin:=inc (show i<4611686018427387904 by omega);have et:p.funcs.take (i+1)=p.funcs.take i++[f]:=by rw[abw,hf];rfl
  simp only[EE,nth,Value.cells,↓zB,jY,Zf,Wf,iM,iN,hc,hif,hgf,hlf,htf];refine I0 s1 w1 λb8 h2 w2 s2=>?_;simp only[EE,Nat.reduceAdd,Wd];refine KH s2 w2 (by simp) (by simp[cvc];rfl) λh3 w3 s3=>?_;have g8:=s3.get;have hlc:=λh'=>x8 ((hK.at s3).pg.fns f fm).code 3 h';simp only[EE,↓zB,zt,zu,qd,wP,g8,cvn,hlc];refine zaG (bs:=Yf (yi p.globals 16777216) (xq p.funcs 0) (p.funcs.take i) 0) hK X hf hls hsz (W7 _ _ _ _) w3 (s3.drop) gvn λh4 cv2 w4 s4=>?_;simp only[EE,nth,hin];refine⟨p.funcs.length-(i+1),by omega,i+1,cv2,by omega,rfl,rfl,w4,?_⟩;rw[et,pb,abf];exact s4
 ·have e:i=p.funcs.length:=by omega
  subst e;rw[abD]at s1;simp only[EE,nth,hc];exact k h1 cv' s1
end
end Go.Eb
namespace Go.Ac
open Go.Ai Go.Proofs
end Go.Ac
namespace Go.Ai
open Go.Ai Go.Proofs
end Go.Ai
namespace Go.Ar
open Go.Ai Go.Proofs
open Go.Rtl (zv zE Old inc wm Cw VG Km JI)
open Go.Rm (Rd Rd.of Rd.at j7 yx yJ zQ)
open Go.As (zo Pg Xn uQ)
theorem WZ(xs:List zo):∀r,r∈xs.map zo.row->r.length=7:=yJ (f:=zo.row) (λ_=>rfl) xs
theorem pD(fs:List Go.As.Fn):∀r,r∈fs.map Go.As.Fn.row->r.length=2:=yJ (f:=Go.As.Fn.row) (λ_=>rfl) fs
def Rx(f:Go.As.Fn):HP:=j7 42 7 f.cv (f.code.map zo.row)
def SU(q:Pg):HP:=Qt [j7 3 1 q.gv (q.globals.map zQ),j7 50 2 q.fv (q.funcs.map Go.As.Fn.row),Qt (q.funcs.map Rx)]
section
variable {lo:yH}{h:za}{L:List HP}
theorem fF{q:Pg}(s:Sat lo h (SU q::L))(h1:q.globals.length<=17592186043904)(h2:q.funcs.length*24<=140737488351232)(h3:∀f,f∈q.funcs->f.code.length*56<=140737488351232):uQ h q:=by
 have s1:=s.open;refine⟨JI s1 (by simp),h1,yx (s1.p 1) (pD _),h2,λf hf=>⟨?_,h3 f hf⟩⟩;have:=Cw (s1.p 2) (abY (f:=Rx) hf);exact yx this (WZ _)
end
open Go.Rtl (W9 wT FV xU)
end Go.Ar
namespace Go.Ac
open Go.Ai Go.Proofs
open Go.Rtl (zv zE Old inc wm Cw VG Km JI Rh oJ Qv)
open Go.Rm (Rd Rd.of Rd.at j7 yx xO Z4 yG xx yJ zQ)
open Go.As (zo Pg Xn uQ We qu kU vq)
open Go.Ar (Rx SU WZ pD)
section
variable {h:za}{p:Pg}
end
end Go.Ac
namespace Go.Eb
open Go.Ai Go.Proofs
open Go.Rtl (zv zE Old inc Rh oJ Qv wm)
open Go.Rm (j7 zS yG xx yx xO qy yJ zQ Rd Rd.of Rd.at Rd.mono)
open Go.As (zo Pg Xn uQ vp x8 We kU wL)
open Go.Ar (yB)
open Go.En
def CI(p:Pg)(h:za)(v:aaa)(h':za):Prop :=
 if wL p=true then ∃cv sv gv,v=.tuple #[.agg #[cv,sv,gv,.int .i64 p.main,.int .i64 p.params],.int .i64 0]/\Sat (.of h) h' [uO cv (jW p),j7 3 1 sv ((qz p.funcs).map zQ),j7 3 1 gv (p.globals.map zQ)]
 else v=.tuple #[.agg #[.slice none 0 0,.slice none 0 0,.slice none 0 0,.int .i64 0,.int .i64 0],.int .i64 1]/\Sat (.of h) h' []
section
variable {h:za}{p:Pg}
theorem Jl(P:uQ h p)(hsz:wL p=true->yg p.funcs<=1000000):DC Tryz.prog 10 [p.val] h (CI p h):=by
 apply UP;intro wf;apply CR;unfold CQ;have s0:Sat (.of h) h []:=Sat.self wf.2;have RP:Rd (.of h) (uQ · p):=Rd.of (yH.Wx h) P λh' o=>P.old o;have gvn:=P.globals.Kc;have gvc:=P.globals.Au;have fvn:=P.funcs.Kc;have fvc:=P.funcs.Au;simp only[EE,nth,Value.cells,↓zB,zt,seval,acD,k9,jY,zu,abk,xP,wi,vI,YT,jE,zg,Xk,vu,qd,Zf,WA,WB,Ua,WC,Uc,Vm,yV,Wd,Ud,Vo,uM,Wf,XD,uv,qK,uw,xp,yO,vZ,qx,uF,u7,zc,zn,xw,zC,wP,Wi,Ul,Um,Wj,Un,Yu,Yv,Qm,VI,gvn,gvc,fvn,fvc];refine vR s0 λb1 h2 s2=>?_;simp only[EE,nth,Value.cells,↓zB,zt,seval,acD,k9,jY,zu,abk,xP,wi,vI,YT,jE,zg,Xk,vu,qd,Zf,WA,WB,Ua,WC,Uc,Vm,yV,Wd,Ud,Vo,uM,Wf,XD,uv,qK,uw,xp,yO,vZ,qx,uF,u7,zc,zn,xw,zC,wP,Wi,Ul,Um,Wj,Un,Yu,Yv,Qm,VI,gvn,gvc,fvn,fvc];refine vR s2 λb2 h4 s4=>?_;have g1:=(s4.p 1).get;simp only[EE,nth,Value.cells,↓zB,zt,seval,acD,k9,jY,zu,abk,xP,wi,vI,YT,jE,zg,Xk,vu,qd,Zf,WA,WB,Ua,WC,Uc,Vm,yV,Wd,Ud,Vo,uM,Wf,XD,uv,qK,uw,xp,yO,vZ,qx,uF,u7,zc,zn,xw,zC,wP,Wi,Ul,Um,Wj,Un,Yu,Yv,Qm,VI,g1,gvn,gvc,fvn,fvc];refine gZ (by simp only[yk,gvn,fvn,aaH];rfl) (Go.As.zaP (RP.at s4)) ?_;cases hg:wL p with
 |false=>
  simp only[EE,nth,Value.cells,↓zB,zt,seval,acD,k9,jY,zu,abk,xP,wi,vI,YT,jE,zg,Xk,vu,qd,Zf,WA,WB,Ua,WC,Uc,Vm,yV,Wd,Ud,Vo,uM,Wf,XD,uv,qK,uw,xp,yO,vZ,qx,uF,u7,zc,zn,xw,zC,wP,Wi,Ul,Um,Wj,Un,Yu,Yv,Qm,VI,bQ];refine zY s4 (by simp) rfl λh5 s5=>?_;have g2:=s5.get;simp only[EE,nth,Value.cells,↓zB,zt,seval,acD,k9,jY,zu,abk,xP,wi,vI,YT,jE,zg,Xk,vu,qd,Zf,WA,WB,Ua,WC,Uc,Vm,yV,Wd,Ud,Vo,uM,Wf,XD,uv,qK,uw,xp,yO,vZ,qx,uF,u7,zc,zn,xw,zC,wP,Wi,Ul,Um,Wj,Un,Yu,Yv,Qm,VI,bQ,g2];unfold CI;rw[aae (by rw[hg];decide)];exact⟨rfl,s5.drop.drop⟩
 |true=>
  have X:=Wy hg;have hsz:=hsz hg;have l1:=(s4.p 1).lt;have gc1:∀t,(cut (h4.push (.cells [] 3)) h4.next t).get b1=some (.cells [p.gv,p.fv,.int .i64 p.main,.int .i64 p.params] 25):=λt=>by rw[qt l1,yR l1];exact g1
  simp only[EE,nth,Value.cells,↓zB,zt,seval,acD,k9,jY,zu,abk,xP,wi,vI,YT,jE,zg,Xk,vu,qd,Zf,WA,WB,Ua,WC,Uc,Vm,yV,Wd,Ud,Vo,uM,Wf,XD,uv,qK,uw,xp,yO,vZ,qx,uF,u7,zc,zn,xw,zC,wP,Wi,Ul,Um,Wj,Un,Yu,Yv,Qm,VI,iQ,gc1];refine oJ (h:=h4) ((RP.at s4).globals.old (Old.push _ _)) P.OT s4.base.Fw (aa6 _) ?_;intro gv' h6 W e6 r6;have s6:=Rh W e6 r6 s4;have g6:h6.get b1=some (.cells [p.gv,p.fv,.int .i64 p.main,.int .i64 p.params] 25):=(s6.p 2).get
  have gcc:(cut (cut h6 h4.next (h4.next+1)) (h4.next+1) h6.next).get b1=some (.cells [p.gv,p.fv,.int .i64 p.main,.int .i64 p.params] 25):=by
   rw[qt (by show b1<h4.next+1;omega),qt l1];exact g6
  obtain⟨va,vl,vc,rfl⟩:=W.shape;have fll:=X.fl;have lf:=λh'=>kU (RP.at s6).funcs 3 h';simp only[EE,nth,Value.cells,↓zB,zt,seval,acD,k9,jY,zu,abk,xP,wi,vI,YT,jE,zg,Xk,vu,qd,Zf,WA,WB,Ua,WC,Uc,Vm,yV,Wd,Ud,Vo,uM,Wf,XD,uv,qK,uw,xp,yO,vZ,qx,uF,u7,zc,zn,xw,zC,wP,Wi,Ul,Um,Wj,Un,Yu,Yv,Qm,VI,VV,gcc];refine vR s6 λb4 h8 s8=>?_;simp only[EE,nth,Value.cells,↓zB,zt,seval,acD,k9,jY,zu,abk,xP,wi,vI,YT,jE,zg,Xk,vu,qd,Zf,WA,WB,Ua,WC,Uc,Vm,yV,Wd,Ud,Vo,uM,Wf,XD,uv,qK,uw,xp,yO,vZ,qx,uF,u7,zc,zn,xw,zC,wP,Wi,Ul,Um,Wj,Un,Yu,Yv,Qm,VI,VV];refine zY s8 (by simp) (by rfl) λh9 s9=>?_;have g1:=(s9.p 3).get;have n0:(0:Int)<=(p.funcs.length:Int):=by omega
  have n1:(p.funcs.length:Int)<=(p.funcs.length:Int):=Int.le_refl _;have n2:(p.funcs.length:Int)<2147483648:=by omega
  have mk:=Qm .i64 .i64 (p.funcs.length:Int) (p.funcs.length:Int) h9 n0 n1 n2;rw[abb,abI,Mu]at mk;have s10:=s9.push (.cells (aO [] p.funcs.length) 65);have g1':=(s10.p 4).get;simp only[EE,nth,Value.cells,↓zB,zt,seval,acD,k9,jY,zu,abk,xP,wi,vI,YT,jE,zg,Xk,vu,qd,Zf,WA,WB,Ua,WC,Uc,Vm,yV,Wd,Ud,Vo,uM,Wf,XD,uv,qK,uw,xp,yO,vZ,qx,uF,u7,zc,zn,xw,zC,wP,Wi,Ul,Um,Wj,Un,Yu,Yv,VI,VV,g1,fvn,lf,mk,g1'];refine Rj (p:=p) (lo := .of h) RP (λf fm x hx=>(X.ins f fm x hx).lay) hsz (λf fm=>by have:=X.cf f fm;omega) X.fl ((xO 3 1 s10).f [1,0,2]) rfl λh11 lo1 ls sv hle hls hLR s11=>?_;obtain⟨lo2,l2,hL,s12⟩:=zaf s11;obtain⟨lo3,l3,hS,s13,back⟩:=qy s12 (mq _);have RP3:Rd lo3 (uQ · p):=RP.mono ((hle.trans l2).trans l3);have g1:=(s13.p 3).get;simp only[EE,nth,Value.cells,↓zB,zt,seval,acD,k9,jY,zu,abk,xP,wi,vI,YT,jE,zg,Xk,vu,qd,Zf,WA,WB,Ua,WC,Uc,Vm,yV,Wd,Ud,Vo,uM,Wf,XD,uv,qK,uw,xp,yO,vZ,qx,uF,u7,zc,zn,xw,zC,wP,Wi,Ul,Um,Wj,Un,Yu,Yv,Qm,VI,iP,g1];refine sE (by simp only[yk,gvn,aaH]) (Xm (rD (RP3.at s13).globals X.gr (aaU X.gl (by decide)))) ?_;rintro av h14 ⟨s14,w14⟩;have s15:=s13.join s14;have avn:=yG s14;obtain⟨lo4,l4,hA,s16,_⟩:=qy s15 (mq _);have g1:=(s16.p 3).get;have lf:=λh'=>kU ((RP3.mono l4).at s16).funcs 3 h';simp only[EE,nth,Value.cells,↓zB,zt,seval,acD,k9,jY,zu,abk,xP,wi,vI,YT,jE,zg,Xk,vu,qd,Zf,WA,WB,Ua,WC,Uc,Vm,yV,Wd,Ud,Vo,uM,Wf,XD,uv,qK,uw,xp,yO,vZ,qx,uF,u7,zc,zn,xw,zC,wP,Wi,Ul,Um,Wj,Un,Yu,Yv,Qm,VI,iO,g1,avn,fvn,lf];have hK:Rd lo4 (CK p h9.next ls sv av):=λh b=>⟨RP3.mono l4 h b,(hLR.mono (l2.trans (l3.trans l4))) h b,(hL.mono (l3.trans l4)) h b,(hS.mono l4) h b,hA h b⟩;refine Sg (p:=p) hK X hls hsz w14 s16 rfl λh17 cv s17=>?_;have s18:=Sat.mono l4 s17;have s19:=back _ _ s18;have s20:=Sat.mono (hle.trans l2) s19;have g4:=(s20.p 1).get;have svn:=yG s20;have svc:=xx s20;have cvn:=xt (s20.p 2);have cvc:=k8 (s20.p 2);simp only[EE,nth,Value.cells,↓zB,zt,seval,acD,k9,jY,zu,abk,xP,wi,vI,YT,jE,zg,Xk,vu,qd,Zf,WA,WB,Ua,WC,Uc,Vm,yV,Wd,Ud,Vo,uM,Wf,XD,uv,qK,uw,xp,yO,vZ,qx,uF,u7,zc,zn,xw,zC,wP,Wi,Ul,Um,Wj,Un,Yu,Yv,Qm,VI,KU,g4,svn,cvn,svc,cvc];refine zY (s20.p 4) (by simp) (by simp[svc,cvc];exact⟨rfl,rfl,rfl⟩) λh21 s21=>?_;have g2:=s21.get;simp only[EE,nth,Value.cells,↓zB,zt,seval,acD,k9,jY,zu,abk,xP,wi,vI,YT,jE,zg,Xk,vu,qd,Zf,WA,WB,Ua,WC,Uc,Vm,yV,Wd,Ud,Vo,uM,Wf,XD,uv,qK,uw,xp,yO,vZ,qx,uF,u7,zc,zn,xw,zC,wP,Wi,Ul,Um,Wj,Un,Yu,Yv,Qm,VI,KU,g2,svn,cvn];unfold CI;rw[aah hg];refine⟨cv,sv,.slice va vl vc,rfl,?_⟩;exact s21.k [3,1,4]
end
open Go.Rm (Z4)
section
variable {lo:yH}{h:za}{L:List HP}{p:Pg}{b1 c n o i st:Nat}{sv av lv:aaa}{f:Go.As.Fn}{x:zo}{J:List aaa->za->Prop}{v0 v1 v2:aaa}
end
open Go.Ar (Kf)
section
variable {lo:yH}{h:za}{L:List HP}{p:Pg}{b1 b13 b15 c n o i j:Nat}{sv av gv cv:aaa}{ls:List aaa}{f:Go.As.Fn}{x:zo}{J:List aaa->za->Prop}{v0 v1 v2:aaa}
end
end Go.Eb
namespace Go.En
open Go.Ai Go.Proofs
open Go.As (zo Pg)
def Xj(b:List Int)(s t:RS)(xs:List Int):Prop:=s.2=false/\t.2=false/\t.1=s.1+xs.length /\ ∀i,i<xs.length->b[s.1+i]? = xs[i]?
section
variable {b:List Int}{s t u:RS}{xs ys:List Int}{z k:Int}
theorem Xj.app(h:Xj b s t xs)(g:Xj b t u ys):Xj b s u (xs++ys):=by
 obtain⟨h1,h2,h3,h4⟩:=h;obtain⟨g1,g2,g3,g4⟩:=g;refine⟨h1,g2,by rw[aaB];omega,λi hi=>?_⟩;rw[aaB]at hi;by_cases c:i<xs.length
 ·rw[aa2 c];exact h4 i c
 ·rw[aaZ (by omega),<- g4 (i-xs.length) (by omega)]
  congr 1;omega
theorem Xj.nil(h:s.2=false):Xj b s s []:=⟨h,h,rfl,λi hi=>by cases hi⟩
theorem Xj.all(h:Xj b (0,false) t xs):b=xs++b.drop xs.length:=by
 obtain⟨h1,h2,h3,h4⟩:=h
 have e:b.take xs.length=xs:=by
  refine abz λi=>?_;by_cases c:i<xs.length
  ·rw[aaW c,<- h4 i c];congr 1;omega
  ·rw[aas (by rw[aa3];omega),aas (by omega)]
 conv=>lhs;rw[<- abl xs.length b,e]
theorem vr(ht:(zw b s).2.2=false):Xj b s (zw b s).2 [(zw b s).1]:=by
 unfold zw at ht ⊢;cases h:b[s.1]? with
 |none=>rw[h]at ht;cases ht
 |some v=>
  rw[h]at ht;refine⟨ht,ht,rfl,λi hi=>?_⟩;have:i=0:=by simp at hi;omega
  subst this;exact h
theorem vA{c:Bool}(h:(zU c s).2=false):c=false/\zU c s=s:=by
 unfold zU at h ⊢;rw[aba]at h;exact⟨h.2,by rw[h.2,Bool.or_false]⟩
theorem Jy:∀n:Nat,(qQ b n s).2.2=false->Xj b s (qQ b n s).2 (qQ b n s).1/\(qQ b n s).1.length=n
 |0,h=>⟨Xj.nil h,rfl⟩
 |n+1,h=>by
  have a:=vr (b:=b) (s:=(qQ b n s).2) h;obtain⟨h1,h2⟩:=Jy n a.1;exact⟨h1.app a,by show((qQ b n s).1++[_]).length=n+1;rw[aaB,h2];rfl⟩
theorem Je(hb:xa b)(h:Xj b s t xs):xa xs:=by
 intro x hx;obtain⟨i,hi⟩:=abW hx;have:=h.2.2.2 i (aaM.1 hi).1;rw[hi]at this;exact hb x (aax this)
theorem Wn(hb:xa b)(ht:(wk b s).2.2=false):Xj b s (wk b s).2 (xz 4 (wk b s).1)/\Go.Ar.zM (wk b s).1=true:=by
 obtain⟨h1,h2⟩:=Jy (b:=b) (s:=s) 4 ht;have hx:=Je hb h1;refine⟨?_,lr h2 hx⟩;show Xj b s (qQ b 4 s).2 (xz 4 (KA (qQ b 4 s).1));rw[MA h2 hx];exact h1
theorem Py(hb:xa b)(ht:(W3 b s).2.2=false):Xj b s (W3 b s).2 (xz 8 (W3 b s).1) /\ ∃xs,Xj b s (W3 b s).2 xs/\xs.length=8/\(W3 b s).1=fo xs:=by
 obtain⟨h1,h2⟩:=Jy (b:=b) (s:=s) 8 ht;have hx:=Je hb h1;refine⟨?_,_,h1,h2,rfl⟩;show Xj b s (qQ b 8 s).2 (xz 8 (fo (qQ b 8 s).1));rw[MC h2 hx];exact h1
end
theorem JD{z w:Int}(h0:0<=z)(h1:z<256):zX (qP z w)/\zX (Y3 z w):=by
 unfold zX qP Y3
 constructor <;> (split <;> omega)
theorem Qq{base z w:Int}(h0:0<=z)(h1:z<256)(hw:w=base\/w=base+1\/w=base+4\/w=base+5)(h8:base%8=0):zH base (qP z w) (Y3 z w)=w:=by
 have r1:8<=qP z w ↔ w/4%2=1:=by unfold qP;split <;> omega
 have r2:8<=Y3 z w ↔ w%2=1:=by unfold Y3;split <;> omega
 unfold zH;rcases hw with rfl|rfl|rfl|rfl <;> split <;> split <;> omega
theorem fK(z w:Int):qP z w%8=z/8%8/\Y3 z w%8=z%8:=by
 unfold qP Y3
 constructor <;> (split <;> omega)
theorem rW{z w:Int}(h0:0<=z)(h1:z<256)(h3:z/64=3):xB (qP z w) (Y3 z w)=z:=by
 unfold xB;rw[(fK z w).1,(fK z w).2];omega
theorem rC{z w:Int}(h0:0<=z)(h1:z<256)(h3:z/64=2):128+qP z w%8*8+Y3 z w%8=z:=by
 rw[(fK z w).1,(fK z w).2];omega
section
variable {b:List Int}{s:RS}{w:Int}
inductive Nm (b:List Int) (w:Int) (s t:RS):lJ->Prop
 |two (z:Int):0<=z->z<256->z/64=3->Xj b s t [z]->Nm b w s t ⟨qP z w,Y3 z w,false,false,0⟩
 |mem (z k:Int):0<=z->z<256->z/64=2->Go.Ar.zM k=true->Xj b s t (u1 (qP z w) (Y3 z w) k)->Nm b w s t ⟨qP z w,Y3 z w,true,false,k⟩
 |place (z k:Int):0<=z->z<64->z%8=5->¬w%2=1->Go.Ar.zM k=true->Xj b s t (z::xz 4 k)->Nm b w s t ⟨qP z w,Y3 z w,false,true,k⟩
theorem Qp(hb:xa b)(ht:(uy b w s).2.2=false):Nm b w s (uy b w s).2 (uy b w s).1:=by
 have fin:∀{t:RS},(zw b s).2.2=false->Xj b s (zw b s).2 [(zw b s).1]/\0<=(zw b s).1/\(zw b s).1<256:=λ{t} h=>by
  have a:=vr h;have:=Je hb a _ (aat.2 rfl);exact⟨a,this.1,this.2⟩
 unfold uy at ht ⊢;simp only at ht ⊢;by_cases h3:(zw b s).1/64=3
 ·rw[aah h3]at ht ⊢;obtain⟨a,h0,h1⟩:=fin (t:=s) ht;exact .two _ h0 h1 h3 a
 rw[aae h3]at ht ⊢;by_cases h2:(zw b s).1/64=2
 ·rw[aah h2]at ht ⊢;simp only at ht ⊢;obtain⟨q,qs⟩:=Wn hb ht;have s1:=q.1;unfold iB at q qs s1 ⊢;by_cases hm:Y3 (zw b s).1 w%8=4
  ·rw[aah hm]at q qs s1 ⊢;obtain⟨p1,p2⟩:=vA s1;rw[p2]at q qs s1 ⊢;have p3:(zw b (zw b s).2).1=36:=by simpa using p1
   have a2:=vr s1;obtain⟨a,h0,h1⟩:=fin (t:=s) a2.1;refine .mem _ _ h0 h1 h2 qs ?_;unfold u1 VD;rw[aah hm,rC h0 h1 h2];have:=(a.app a2).app q;rw[p3]at this;exact this
  ·rw[aae hm]at q qs s1 ⊢;obtain⟨a,h0,h1⟩:=fin (t:=s) s1;refine .mem _ _ h0 h1 h2 qs ?_;unfold u1 VD;rw[aae hm,rC h0 h1 h2];exact a.app q
 rw[aae h2]at ht ⊢;by_cases h0':(zw b s).1/64=0
 ·rw[aah h0']at ht ⊢;simp only at ht ⊢;obtain⟨q,qs⟩:=Wn hb ht;have s1:=q.1;obtain⟨p1,p2⟩:=vA s1;rw[p2]at q qs s1 ⊢;rw[aba,aam,aam]at p1;obtain⟨a,h0,h1⟩:=fin (t:=s) s1;exact .place _ _ h0 (by omega) (Classical.not_not.1 p1.1) p1.2 qs (a.app q)
 ·rw[aae h0']at ht;exact absurd (vA ht).1 (by decide)
end
def fH(r m:Int):List zo:=[⟨1,m,r,0,0,0,0⟩,⟨15,m,r,0,0,0,0⟩,⟨14,0,m,0,0,0,0⟩,⟨10,r,m,3,0,0,0⟩,⟨10,r,m,4,0,0,0⟩,⟨9,m,0,2,0,0,0⟩,⟨9,m,0,1,0,0,0⟩,⟨12,m,0,19,0,0,0⟩,⟨12,m,0,20,0,0,0⟩,⟨7,r,m,13,0,0,0⟩]
def ML:List Int:=[11,12,16,17,18]
def zbY(r m:Int)(n:Nat):List zo:=(ML.take n).map λs=>⟨7,m,r,s,0,0,0⟩
def zbB(m:Int)(n:Nat):List zo:=((List.range n).map λc=>⟨17,m,0,0,21+(c:Nat),0,0⟩)
def kL0(r m k:Int):List zo:=[⟨2,m,0,0,0,0,k⟩,⟨16,m,0,0,0,0,k⟩,⟨5,r,m,0,0,0,k⟩,⟨23,0,0,0,0,0,k⟩,⟨24,0,0,0,0,0,k⟩,⟨8,m,0,13,0,0,k⟩]
def kL1(m k:Int)(n:Nat):List zo:=(ML.take n).map λs=>⟨8,m,0,s,0,0,k⟩
def kL2(r m k:Int)(n:Nat):List zo:=(([1,2,4,8]:List Int).take n).flatMap λs=>[⟨3,r,m,s,0,0,k⟩,⟨4,r,m,s,0,0,k⟩]
def kL(r m k:Int):List zo:=kL0 r m k++kL1 m k 5++kL2 r m k 4
def Cj(r m:Int)(ks:List Int):List zo:=fH r m++zbY r m 5++zbB m 6++ks.flatMap (kL r m)
def qm(b:List Int)(i:Nat):Int:=b[i]?.getD 0
def So(b:List Int)(p:Nat):List Int:=(if p+5<=b.length then [KA ((b.drop (p+1)).take 4)] else [])++(if p+6<=b.length then [KA ((b.drop (p+2)).take 4)] else [])
def atL(b:List Int)(p:Nat):List zo:=Cj (qP (qm b p) (qm b 0)) (Y3 (qm b p) (qm b 0)) (So b p)
def g3(b:List Int):List zo:=if 3<=b.length then atL b 2++(if 4<=b.length then atL b 3 else []) else []
def sJ(b:List Int):List zo:=if 10<=b.length then [⟨2,Y3 (qm b 1) (qm b 0),0,0,0,0,fo ((b.drop 2).take 8)⟩] else []
def g4(b:List Int):List zo:=if 4<=b.length then [⟨11,Y3 (qm b 2) (qm b 0),0,19,0,0,qm b 3⟩,⟨11,Y3 (qm b 2) (qm b 0),0,20,0,0,qm b 3⟩] else []
def EI:List zo:=[⟨13,0,0,0,0,0,0⟩,⟨22,0,0,0,0,0,0⟩,⟨25,0,0,0,0,0,0⟩,⟨26,0,0,0,0,0,0⟩]
def ZL(b:List Int):List zo:=g3 b++sJ b++g4 b++EI
def bK(x:zo):List Int:=[zH 72 0 x.r,184+x.r%8]++xz 8 x.k
section
variable {b:List Int}{t s:RS}{xs:List Int}{x:zo}{w o z k r m s2:Int}{p:Nat}
def Qw(b:List Int)(p:Nat)(r m:Int):Prop:=(p=2\/p=3)/\p<b.length/\r=qP (qm b p) (qm b 0)/\m=Y3 (qm b p) (qm b 0)
theorem Qw.mem(S:Qw b p r m)(h:x∈Cj r m (So b p)):x∈ZL b:=by
 obtain⟨h1,h2,rfl,rfl⟩:=S;unfold ZL g3;rw[aah (by omega)];refine aaK _ (aaK _ (aaK _ ?_));rcases h1 with rfl|rfl
 ·exact aaK _ h
 ·rw[aah (by omega)];exact aaX _ h
theorem Qw.p0(S:Qw b p r m)(h:x∈fH r m):x∈ZL b:=S.mem (aaK _ (aaK _ (aaK _ h)))
theorem Qw.H8(S:Qw b p r m)(h:s2∈ML):⟨7,m,r,s2,0,0,0⟩∈ZL b:=S.mem (aaK _ (aaK _ (aaX _ (abY (f:=λs=>(⟨7,m,r,s,0,0,0⟩:zo)) h))))
theorem Qw.set(S:Qw b p r m)(h0:21<=s2)(h1:s2<=26):⟨17,m,0,0,s2,0,0⟩∈ZL b:=S.mem (aaK _ (aaX _ (by
 have:s2=21\/s2=22\/s2=23\/s2=24\/s2=25\/s2=26:=by omega
 rcases this with rfl|rfl|rfl|rfl|rfl|rfl <;> simp[zbB,List.range,List.range.loop])))
theorem Qw.kk(S:Qw b p r m)(hk:k∈So b p)(h:x∈kL r m k):x∈ZL b:=S.mem (aaX _ (List.mem_flatMap.2 ⟨k,hk,h⟩))
theorem II(A:Xj b (0,false) t (xs++xz 4 k))(hk:Go.Ar.zM k=true)(hl:xs.length=p+1\/xs.length=p+2):k∈So b p:=by
 have e:=A.all;rw[aa4]at e
 have hd:(b.drop xs.length).take 4=xz 4 k:=by
  rw[e,List.drop_left];exact List.take_left' (wW 4 k)
 have hn:xs.length+4<=b.length:=by rw[e,aaB,aaB,wW];omega
 unfold So;rcases hl with hl|hl
 ·refine aaK _ ?_;rw[aah (by omega),<- hl,hd,aq hk];exact aat.2 rfl
 ·refine aaX _ ?_;rw[aah (by omega),<- hl,hd,aq hk];exact aat.2 rfl
theorem WV(A:Xj b (0,false) t xs){i:Nat}{v:Int}(h:xs[i]? = some v):qm b i=v/\i<b.length:=by
 have hi:=(aaM.1 h).1;have:=A.2.2.2 i hi;rw[h]at this;have:b[i]? = some v:=by rw[<- this];congr 1;omega
 exact⟨by unfold qm;rw[this];rfl,(aaM.1 this).1⟩
theorem Wr{base:Int}(hx:xs[0]? = some (zH base r m))(hz:xs[p]? = some z)(hp:p=2\/p=3)(A:Xj b (0,false) t xs)(R:zX r)(M:zX m)(hbase:base=72\/base=64)(z1:z/8%8=r%8)(z2:z%8=m%8):Qw b p r m:=by
 have a0:=WV A hx;have a1:=WV A hz
 have w:(zH base r m/4%2=1 ↔ 8<=r)/\(zH base r m%2=1 ↔ 8<=m):=by
  rcases hbase with rfl|rfl
  ·exact⟨(fP r m).2.1,(fP r m).2.2⟩
  ·exact⟨(I9 r m).2.1,(I9 r m).2.2⟩
 refine⟨hp,a1.2,?_,?_⟩
 ·rw[a0.1,a1.1,fL (b:=m) R.1 R.2 w.1 z1]
 ·rw[a0.1,a1.1,Hg M.1 M.2 w.2 z2]
def bM(b:List Int)(q:zo×RS):Prop:=q.1∈ZL b/\(Xj b (0,false) q.2 (ze q.1 0)\/(q.1.op=2/\Go.Ar.zM q.1.k=true/\Xj b (0,false) q.2 (bK q.1)))
theorem Xj.ge(A:Xj b (0,false) t xs):xs.length<=b.length:=by
 have:=congrArg List.length A.all;rw[aaB]at this;omega
theorem GW(A:Xj b (0,false) t (xs++u1 r m k))(hk:Go.Ar.zM k=true)(hp:xs.length=p):k∈So b p:=by
 unfold u1 at A;rw[<- aa4]at A;refine II A hk ?_;unfold VD;rw[aaB];split
 ·right;simp[hp]
 ·left;simp[hp]
theorem Po:(u1 r m k)[0]? = some (128+r%8*8+m%8):=by
 unfold u1 VD;split <;> rfl
theorem NZ(R:zX r)(M:zX m)(hk:Go.Ar.zM k=true)(ho:¬o=15)(A:Xj b (0,false) s ([zH 72 r m,o]++u1 r m k))(ht:(uz o s2 ⟨r,m,true,false,k⟩ s).2.2=false):bM b (uz o s2 ⟨r,m,true,false,k⟩ s):=by
 have t:=Uq r m;have S:Qw b 2 r m:=Wr (base:=72) rfl (show(u1 r m k)[0]? = _ from Po) (.inl rfl) A R M (.inl rfl) t.2.1 t.2.2;have K:=GW A hk (p:=2) rfl;unfold uz at ht ⊢;by_cases h1:o=139
 ·subst h1;exact⟨S.kk K (by simp[kL,kL2]),.inl A⟩
 rw[aae h1]at ht ⊢;by_cases h2:o=99
 ·subst h2;exact⟨S.kk K (by simp[kL,kL2]),.inl A⟩
 rw[aae h2,aae (λq=>ho q.1)]at ht ⊢;by_cases h3:o=137
 ·subst h3;exact⟨S.kk K (by simp[kL,kL2]),.inl A⟩
 rw[aae h3]at ht ⊢;by_cases h4:o=141
 ·subst h4;exact⟨S.kk K (by simp[kL,kL0]),.inl A⟩
 rw[aae h4]at ht;exact absurd (vA ht).1 (by decide)
theorem N0(R:zX r)(M:zX m)(hk:Go.Ar.zM k=true)(A:Xj b (0,false) s ([zH 72 r m,15,s2]++u1 r m k))(ht:(uz 15 s2 ⟨r,m,true,false,k⟩ s).2.2=false):bM b (uz 15 s2 ⟨r,m,true,false,k⟩ s):=by
 have t:=Uq r m;have S:Qw b 3 r m:=Wr (base:=72) rfl (show(u1 r m k)[0]? = _ from Po) (.inr rfl) A R M (.inl rfl) t.2.1 t.2.2;have K:=GW A hk (p:=3) rfl;unfold uz at ht ⊢;rw[aae (by decide),aae (by decide)]at ht ⊢;by_cases h1:s2=190
 ·subst h1;exact⟨S.kk K (by simp[kL,kL2]),.inl A⟩
 rw[aae (λq=>h1 q.2),aae (by decide),aae (by decide)]at ht;exact absurd (vA ht).1 (by decide)
theorem Lb(R:zX r)(h:r<8)(m:Int):zH 72 r m=zH 72 0 m:=by
 unfold zH;rw[aae (show ¬8<=r by omega),aae (show ¬(8:Int)<=0 by decide)]
theorem N8(h:¬qe o=0):qe o∈ML/\kY (qe o)=o /\ ¬qe o=13:=by
 unfold qe at h ⊢;by_cases h1:o=1
 ·subst h1;decide
 by_cases h2:o=41
 ·subst h2;decide
 by_cases h3:o=33
 ·subst h3;decide
 by_cases h4:o=9
 ·subst h4;decide
 by_cases h5:o=49
 ·subst h5;decide
 rw[aae h1,aae h2,aae h3,aae h4,aae h5]at h;exact absurd rfl h
theorem LS(R:zX r)(h:¬qe (r*8+1)=0):UC (qe (r*8+1))=r/\r<8/\qe (r*8+1)∈ML /\ ¬qe (r*8+1)=13:=by
 have:=N8 h
 have e:r*8+1=1\/r*8+1=41\/r*8+1=33\/r*8+1=9\/r*8+1=49:=by
  unfold qe at h;by_cases h1:r*8+1=1
  ·exact .inl h1
  by_cases h2:r*8+1=41
  ·exact .inr (.inl h2)
  by_cases h3:r*8+1=33
  ·exact .inr (.inr (.inl h3))
  by_cases h4:r*8+1=9
  ·exact .inr (.inr (.inr (.inl h4)))
  by_cases h5:r*8+1=49
  ·exact .inr (.inr (.inr (.inr h5)))
  rw[aae h1,aae h2,aae h3,aae h4,aae h5]at h;exact absurd rfl h
 have:r=0\/r=5\/r=4\/r=1\/r=6:=by omega
 rcases this with rfl|rfl|rfl|rfl|rfl <;> decide
theorem Sq{s5:Int}(h:s5∈ML):(⟨8,m,0,s5,0,0,k⟩:zo)∈kL r m k:=aaK _ (aaX _ (abY (f:=λs=>(⟨8,m,0,s,0,0,k⟩:zo)) h))
theorem GI(hb:xa b)(R:zX r)(M:zX m)(A:Xj b (0,false) s [zH 72 r m,129,xB r m])(ht:(Ww b ⟨r,m,false,false,0⟩ s).2.2=false):bM b (Ww b ⟨r,m,false,false,0⟩ s):=by
 have t:=XM r m;have S:Qw b 2 r m:=Wr (base:=72) rfl rfl (.inl rfl) A R M (.inl rfl) t.2.1 t.2.2
 have go:(wk b s).2.2=false->(wk b s).1∈So b 2/\Xj b (0,false) (wk b s).2 ([zH 72 r m,129,xB r m]++xz 4 (wk b s).1):=λh=>by
  obtain⟨q,qs⟩:=Wn hb h;have A2:=A.app q;exact⟨II A2 qs (.inl rfl),A2⟩
 unfold Ww at ht ⊢;simp only at ht ⊢;by_cases h1:r=7
 ·subst h1;rw[aah rfl]at ht ⊢;obtain⟨K,A2⟩:=go ht;exact⟨S.kk K (by simp[kL,kL0]),.inl (by rw[Lb R (by decide)]at A2;exact A2)⟩
 rw[aae h1]at ht ⊢;by_cases h2:m=4/\r=5
 ·obtain⟨rfl,rfl⟩:=h2;rw[aah ⟨rfl,rfl⟩]at ht ⊢;obtain⟨K,A2⟩:=go ht;exact⟨S.kk K (by simp[kL,kL0]),.inl A2⟩
 rw[aae h2]at ht ⊢;by_cases h3:m=4/\r=0
 ·obtain⟨rfl,rfl⟩:=h3;rw[aah ⟨rfl,rfl⟩]at ht ⊢;obtain⟨K,A2⟩:=go ht;exact⟨S.kk K (by simp[kL,kL0]),.inl A2⟩
 rw[aae h3]at ht ⊢;obtain⟨p1,p2⟩:=vA ht;rw[p2]at ht ⊢;obtain⟨K,A2⟩:=go ht;obtain⟨d1,d2,d3,d4⟩:=LS R (of_decide_eq_false p1);refine⟨S.kk K (Sq d3),.inl ?_⟩;have e:ze ⟨8,m,0,qe (r*8+1),0,0,(wk b s).1⟩ 0=if qe (r*8+1)=13 then [zH 72 m m,105,xB m m]++xz 4 (wk b s).1 else [zH 72 0 m,129,xB (UC (qe (r*8+1))) m]++xz 4 (wk b s).1:=rfl;rw[e,aae d4,d1,<- Lb R d2];exact A2
theorem FE(hb:xa b)(R:zX r)(M:zX m)(ho:¬o=15)(A:Xj b (0,false) s [zH 72 r m,o,xB r m])(ht:(singleR b o ⟨r,m,false,false,0⟩ s).2.2=false):bM b (singleR b o ⟨r,m,false,false,0⟩ s):=by
 have t:=XM r m;have S:Qw b 2 r m:=Wr (base:=72) rfl rfl (.inl rfl) A R M (.inl rfl) t.2.1 t.2.2;unfold singleR at ht ⊢;simp only at ht ⊢;by_cases h1:o=199
 ·subst h1;rw[aah rfl]at ht ⊢;obtain⟨q,qs⟩:=Wn hb ht;obtain⟨p1,p2⟩:=vA q.1;have p1:r=0:=by simpa using p1
  subst p1;rw[p2]at q qs ht ⊢;have A2:=A.app q;refine⟨S.kk (II A2 qs (.inl rfl)) (by simp[kL,kL0]),.inl ?_⟩;have e:ze ⟨2,m,0,0,0,0,(wk b s).1⟩ 0=if Go.Ar.zM (wk b s).1=true then [zH 72 0 m,199,xB 0 m]++xz 4 (wk b s).1 else [zH 72 0 m,184+m%8]++xz 8 (wk b s).1:=rfl;rw[e,aah qs];exact A2
 rw[aae h1]at ht ⊢;by_cases h2:o=129
 ·subst h2;rw[aah rfl]at ht ⊢;exact GI hb R M A ht
 rw[aae h2]at ht ⊢;by_cases h3:o=247/\r=2
 ·obtain⟨rfl,rfl⟩:=h3;rw[aah ⟨rfl,rfl⟩];exact⟨S.p0 (by simp[fH]),.inl A⟩
 rw[aae h3]at ht ⊢;by_cases h4:o=247/\r=3
 ·obtain⟨rfl,rfl⟩:=h4;rw[aah ⟨rfl,rfl⟩];exact⟨S.p0 (by simp[fH]),.inl A⟩
 rw[aae h4]at ht ⊢;by_cases h5:o=247/\r=7
 ·obtain⟨rfl,rfl⟩:=h5;rw[aah ⟨rfl,rfl⟩];exact⟨S.p0 (by simp[fH]),.inl A⟩
 rw[aae h5]at ht ⊢;by_cases h6:o=193
 ·subst h6;rw[aah rfl]at ht ⊢;have q:=vr ht;obtain⟨p1,p2⟩:=vA q.1;rw[p2]at q ht ⊢
  have p1:r=4\/r=7:=by
   have:=of_decide_eq_false p1;rcases Classical.em (r=4) with h|h
   ·exact .inl h
   ·exact .inr (Classical.not_not.1 λh7=>this ⟨h,h7⟩)
  have A2:=A.app q;have by3:=WV A2 (i:=3) rfl;have by2:=WV A2 (i:=2) rfl;have by0:=WV A2 (i:=0) rfl;have hz:=Je hb q _ (aat.2 rfl);have u:u8 (zw b s).1=(zw b s).1:=by rw[bJ];omega
  have em:Y3 (qm b 2) (qm b 0)=m:=S.2.2.2.symm
  have ing:∀sh,(sh=19\/sh=20)->(⟨11,m,0,sh,0,0,(zw b s).1⟩:zo)∈ZL b:=λsh h=>by
   refine aaK _ (aaX _ ?_);unfold g4;rw[aah (by omega),em,by3.1];rcases h with rfl|rfl <;> simp
  rcases p1 with rfl|rfl
  ·refine⟨ing 19 (.inl rfl),.inl ?_⟩;have e:ze ⟨11,m,0,19,0,0,(zw b s).1⟩ 0=[zH 72 4 m,193,xB 4 m,u8 (zw b s).1]:=rfl;show Xj b (0,false) _ (ze ⟨11,m,0,19,0,0,(zw b s).1⟩ 0);rw[e,u];exact A2
  ·refine⟨ing 20 (.inr rfl),.inl ?_⟩;have e:ze ⟨11,m,0,20,0,0,(zw b s).1⟩ 0=[zH 72 7 m,193,xB 7 m,u8 (zw b s).1]:=rfl;show Xj b (0,false) _ (ze ⟨11,m,0,20,0,0,(zw b s).1⟩ 0);rw[e,u];exact A2
 rw[aae h6]at ht ⊢;by_cases h7:o=211
 ·subst h7;rw[aah rfl]at ht ⊢;obtain⟨p1,p2⟩:=vA ht;rw[p2]
  have p1:r=4\/r=7:=by
   have:=of_decide_eq_false p1;rcases Classical.em (r=4) with h|h
   ·exact .inl h
   ·exact .inr (Classical.not_not.1 λh7=>this ⟨h,h7⟩)
  rcases p1 with rfl|rfl
  ·exact⟨S.p0 (by simp[fH]),.inl A⟩
  ·exact⟨S.p0 (by simp[fH]),.inl A⟩
 rw[aae h7]at ht;exact absurd (vA ht).1 (by decide)
theorem zbk(hb:xa b)(R:zX r)(M:zX m)(ho:¬o=15)(A:Xj b (0,false) s [zH 72 r m,o,xB r m])(ht:(qR b o s2 ⟨r,m,false,false,0⟩ s).2.2=false):bM b (qR b o s2 ⟨r,m,false,false,0⟩ s):=by
 have t:=XM r m;have S:Qw b 2 r m:=Wr (base:=72) rfl rfl (.inl rfl) A R M (.inl rfl) t.2.1 t.2.2;unfold qR at ht ⊢;simp only at ht ⊢;by_cases h0:qe o=0
 ·rw[aae (not_not_intro h0)]at ht ⊢;by_cases h1:o=137
  ·subst h1;exact⟨S.p0 (by simp[fH]),.inl A⟩
  rw[aae h1]at ht ⊢;by_cases h2:o=99
  ·subst h2;exact⟨S.p0 (by simp[fH]),.inl A⟩
  rw[aae h2]at ht ⊢;by_cases h3:o=57
  ·subst h3;exact⟨S.p0 (by simp[fH]),.inl A⟩
  rw[aae h3]at ht ⊢;by_cases h4:o=105
  ·subst h4;rw[aah rfl]at ht ⊢;obtain⟨q,qs⟩:=Wn hb ht;obtain⟨p1,p2⟩:=vA q.1;have p1:r=m:=by simpa using p1
   subst p1;rw[p2]at q qs ht ⊢;have A2:=A.app q;exact⟨S.kk (II A2 qs (.inl rfl)) (by simp[kL,kL0]),.inl A2⟩
  rw[aae h4,aae ho]at ht ⊢;exact FE hb R M ho A ht
 ·rw[aah h0]at ht ⊢;obtain⟨a1,a2,a3⟩:=N8 h0;refine⟨S.H8 a1,.inl ?_⟩;have e:ze ⟨7,m,r,qe o,0,0,0⟩ 0=if qe o=13 then [zH 72 m r,15,175,xB m r] else [zH 72 r m,kY (qe o),xB r m]:=rfl;rw[e,aae a3,a2];exact A
theorem zbl(R:zX r)(M:zX m)(A:Xj b (0,false) s [zH 72 r m,15,s2,xB r m])(ht:(qR b 15 s2 ⟨r,m,false,false,0⟩ s).2.2=false):bM b (qR b 15 s2 ⟨r,m,false,false,0⟩ s):=by
 have t:=XM r m;have S:Qw b 3 r m:=Wr (base:=72) rfl rfl (.inr rfl) A R M (.inl rfl) t.2.1 t.2.2;have e:qR b 15 s2 ⟨r,m,false,false,0⟩ s=if s2=175 then (⟨7,r,m,13,0,0,0⟩,s) else if s2=190 then (⟨10,r,m,3,0,0,0⟩,s) else (WY,zU true s):=rfl;rw[e]at ht ⊢;by_cases h1:s2=175
 ·subst h1;exact⟨S.p0 (by simp[fH]),.inl A⟩
 rw[aae h1]at ht ⊢;by_cases h2:s2=190
 ·subst h2;exact⟨S.p0 (by simp[fH]),.inl A⟩
 rw[aae h2]at ht;exact absurd (vA ht).1 (by decide)
end
section
variable {b:List Int}{t s:RS}{xs:List Int}{x:zo}{w o z k r m s2:Int}{p:Nat}
inductive dp:zo->Prop
 |jmp:dp ⟨18,0,0,0,0,0,0⟩
 |call:dp ⟨21,0,0,0,0,0,0⟩
 |jcc (cc:Int):21<=cc->cc<=26->dp ⟨19,0,0,0,cc,0,0⟩
 |pW (r:Int):zX r->dp ⟨6,r,0,0,0,0,0⟩
def zbS(b:List Int)(q:zo×RS):Prop := ∃y d,dp y/\Go.Ar.zM d=true/\q.1 = {y with k:=d} /\ Xj b (0,false) q.2 (ze y d)
def Read(b:List Int)(far:Bool)(q:zo×RS):Prop:=if far=true then zbS b q else bM b q
theorem Ut{q:zo×RS}(h:bM b q)(h6:¬q.1.op=6):Read b (decide (q.1.op=6)) q:=by
 unfold Read;rw[aae (by simpa using h6)];exact h
theorem Af(o s2:Int)(d:lJ)(s:RS):¬(uz o s2 d s).1.op=6:=by
 unfold uz
 repeat' split
 all_goals simp
theorem M8(b:List Int)(o:Int)(d:lJ)(s:RS):¬(singleR b o d s).1.op=6:=by
 unfold singleR Ww
 repeat' split
 all_goals simp[WY]
theorem I5(b:List Int)(o s2:Int)(d:lJ)(s:RS):¬(qR b o s2 d s).1.op=6:=by
 unfold qR
 repeat' split
 all_goals first
  |exact M8 _ _ _ _
  |simp[WY]
theorem v7{c:Bool}(h:(zU c s).2=false):s.2=false:=by
 have:=(vA h).2
 rwa [this]at h
theorem aA(h:(wk b s).2.2=false):s.2=false:=(Jy 4 h).1.1
theorem DY{d:lJ}(ht:(uz o s2 d s).2.2=false):s.2=false:=by
 unfold uz at ht
 repeat' split at ht
 all_goals first
  |exact ht
  |exact v7 ht
theorem GJ{d:lJ}(ht:(Ww b d s).2.2=false):s.2=false:=by
 unfold Ww at ht;simp only at ht
 repeat' split at ht
 all_goals first
  |exact aA ht
  |exact aA (v7 ht)
theorem FF{d:lJ}(ht:(singleR b o d s).2.2=false):s.2=false:=by
 unfold singleR at ht
 repeat' split at ht
 all_goals first
  |exact ht
  |exact GJ ht
  |exact v7 (aA ht)
  |exact v7 (vr ht).1
  |exact v7 ht
theorem MP{d:lJ}(ht:(qR b o s2 d s).2.2=false):s.2=false:=by
 unfold qR at ht
 repeat' split at ht
 all_goals first
  |exact ht
  |exact FF ht
  |exact v7 (aA ht)
  |exact v7 ht
def Rn(b:List Int)(o s2:Int)(q:lJ×RS):zo×RS :=
 if q.1.place=true then (⟨6,q.1.reg,0,0,0,0,q.1.k⟩,zU (decide (¬o=141)) q.2)
 else if q.1.memory=true then uz o s2 q.1 q.2
 else qR b o s2 q.1 q.2
theorem An:uE b w o s2 s=Rn b o s2 (uy b w s):=rfl
theorem YU(ht:(uE b w o s2 s).2.2=false):(uy b w s).2.2=false:=by
 unfold uE at ht;simp only at ht;split at ht
 ·exact v7 ht
 split at ht
 ·exact DY ht
 ·exact MP ht
theorem Mw{z:Int}(hw:w=72\/w=73\/w=76\/w=77)(h0:0<=z)(h1:z<64)(z5:z%8=5)(w1:¬w%2=1):zH 72 (qP z w) 0=w/\5+qP z w%8*8=z:=by
 have r1:8<=qP z w ↔ w/4%2=1:=by unfold qP;split <;> omega
 refine⟨?_,by rw[(fK z w).1];omega⟩;unfold zH;rw[aae (show ¬(8:Int)<=0 by decide)];split <;> omega
theorem Ol(hb:xa b)(hw:w=72\/w=73\/w=76\/w=77)(ho:¬o=15)(A:Xj b (0,false) s [w,o])(ht:(uE b w o s2 s).2.2=false):Read b (decide ((uE b w o s2 s).1.op=6)) (uE b w o s2 s):=by
 have hw':w=72\/w=72+1\/w=72+4\/w=72+5:=hw;have Q:=Qp hb (YU ht);rw[An]at ht ⊢
 revert Q ht
 generalize uy b w s=q;obtain⟨d,t⟩:=q;intro ht Q;unfold Rn at ht ⊢;simp only at ht Q ⊢;cases Q with
 |two z h0 h1 h3 q=>
  rw[aae (by simp),aae (by simp)]at ht ⊢;have B:=JD (w:=w) h0 h1;have A2:=A.app q;refine Ut (zbk hb B.1 B.2 ho ?_ ht) (I5 _ _ _ _ _);rw[Qq h0 h1 hw' (by decide),rW h0 h1 h3];exact A2
 |mem z k h0 h1 h2 hk q=>
  rw[aae (by simp),aah rfl]at ht ⊢;have B:=JD (w:=w) h0 h1;have A2:=A.app q;refine Ut (NZ B.1 B.2 hk ho ?_ ht) (Af _ _ _ _);rw[Qq h0 h1 hw' (by decide)];exact A2
 |place z k h0 h1 h5 hw1 hk q=>
  rw[aah rfl]at ht ⊢;obtain⟨p1,p2⟩:=vA ht;have p1:o=141:=by simpa using p1
  subst p1;rw[p2];have A2:=A.app q;have l:=Mw hw h0 h1 h5 hw1;refine⟨⟨6,qP z w,0,0,0,0,0⟩,k,.pW _ (JD h0 (by omega)).1,hk,rfl,?_⟩;have e:ze ⟨6,qP z w,0,0,0,0,0⟩ k=[zH 72 (qP z w) 0,141,5+qP z w%8*8]++xz 4 k:=rfl;rw[e,l.1,l.2];exact A2
theorem Om(hb:xa b)(hw:w=72\/w=73\/w=76\/w=77)(A:Xj b (0,false) s [w,15,s2])(ht:(uE b w 15 s2 s).2.2=false):Read b (decide ((uE b w 15 s2 s).1.op=6)) (uE b w 15 s2 s):=by
 have hw':w=72\/w=72+1\/w=72+4\/w=72+5:=hw;have Q:=Qp hb (YU ht);rw[An]at ht ⊢
 revert Q ht
 generalize uy b w s=q;obtain⟨d,t⟩:=q;intro ht Q;unfold Rn at ht ⊢;simp only at ht Q ⊢;cases Q with
 |two z h0 h1 h3 q=>
  rw[aae (by simp),aae (by simp)]at ht ⊢;have B:=JD (w:=w) h0 h1;have A2:=A.app q;refine Ut (zbl B.1 B.2 ?_ ht) (I5 _ _ _ _ _);rw[Qq h0 h1 hw' (by decide),rW h0 h1 h3];exact A2
 |mem z k h0 h1 h2 hk q=>
  rw[aae (by simp),aah rfl]at ht ⊢;have B:=JD (w:=w) h0 h1;have A2:=A.app q;refine Ut (N0 B.1 B.2 hk ?_ ht) (Af _ _ _ _);rw[Qq h0 h1 hw' (by decide)];exact A2
 |place z k h0 h1 h5 hw1 hk q=>
  rw[aah rfl]at ht;exact absurd (vA ht).1 (by decide)
theorem IB(h:x∈EI):x∈ZL b:=aaX _ h
theorem Nd(hb:xa b)(hw:w=72\/w=73\/w=76\/w=77)(A:Xj b (0,false) s [w])(ht:(Yk b w s).2.2=false):Read b (decide ((Yk b w s).1.op=6)) (Yk b w s):=by
 unfold Yk at ht ⊢;simp only at ht ⊢;by_cases h1:184<=(zw b s).1/\(zw b s).1<=191
 ·rw[aah h1]at ht ⊢;refine Ut ?_ (by simp);simp only at ht;obtain⟨q,xs,q2,q3,q4⟩:=Py hb ht;obtain⟨p1,p2⟩:=vA q.1;rw[p2]at q q2 q4 ht ⊢;have q1:=vr q.1
  have w1:w=72\/w=73:=by
   have:=of_decide_eq_false p1;omega
  have A1:=A.app q1;have A2:=A1.app q;have A3:=A1.app q2;have b1:=WV A2 (i:=1) rfl;have b0:=WV A2 (i:=0) rfl;have hl:=A2.ge
  have er:zH 72 0 ((zw b s).1-184+w%2*8)=w:=by
   unfold zH;rw[aae (show ¬(8:Int)<=0 by decide)];split <;> omega
  have eo:184+((zw b s).1-184+w%2*8)%8=(zw b s).1:=by omega
  refine⟨?_,?_⟩
  ·refine aaK _ (aaK _ (aaX _ ?_));unfold sJ;have:10<=b.length:=by rw[aaB,wW]at hl;exact hl
   rw[aah this,b1.1,b0.1]
   have e2:(b.drop 2).take 8=xs:=by
    rw[A3.all,aa4];exact List.take_left' q3
   have e3:Y3 (zw b s).1 w=(zw b s).1-184+w%2*8:=by
    unfold Y3;split <;> omega
   rw[e2,<- q4,e3];exact aat.2 rfl
  ·have e:bK ⟨2,(zw b s).1-184+w%2*8,0,0,0,0,(W3 b (zw b s).2).1⟩=[w,(zw b s).1]++xz 8 (W3 b (zw b s).2).1:=by
    unfold bK;simp only[er,eo]
   by_cases hs:Go.Ar.zM (W3 b (zw b s).2).1=true
   ·refine .inr ⟨rfl,hs,?_⟩;show Xj b (0,false) _ (bK ⟨2,_,0,0,0,0,_⟩);rw[e];exact A2
   ·refine .inl ?_;have e0:∀r k:Int,ze ⟨2,r,0,0,0,0,k⟩ 0=if Go.Ar.zM k=true then [zH 72 0 r,199,xB 0 r]++xz 4 k else bK ⟨2,r,0,0,0,0,k⟩:=λ_ _=>rfl;show Xj b (0,false) _ (ze ⟨2,_,0,0,0,0,_⟩ 0);rw[e0,aae hs,e];exact A2
 rw[aae h1]at ht ⊢
 have one:∀(y:zo) (o:Int),(zw b s).1=o->y∈EI->ze y 0=[72,o]->(zU (decide (¬w=72)) (zw b s).2).2=false->bM b (y,zU (decide (¬w=72)) (zw b s).2):=λy o ho hy hby h=>by
  obtain⟨p1,p2⟩:=vA h;rw[p2]at h ⊢;have p1:w=72:=by simpa using p1
  subst p1;have A1:=A.app (vr h);rw[ho]at A1;exact⟨IB hy,.inl (by show Xj b (0,false) _ (ze y 0);rw[hby];exact A1)⟩
 by_cases h2:(zw b s).1=153
 ·rw[aah h2]at ht ⊢;exact Ut (one _ _ h2 (by simp[EI]) rfl ht) (by simp)
 rw[aae h2]at ht ⊢;by_cases h3:(zw b s).1=237
 ·rw[aah h3]at ht ⊢;exact Ut (one _ _ h3 (by simp[EI]) rfl ht) (by simp)
 rw[aae h3]at ht ⊢;by_cases h4:(zw b s).1=239
 ·rw[aah h4]at ht ⊢;exact Ut (one _ _ h4 (by simp[EI]) rfl ht) (by simp)
 rw[aae h4]at ht ⊢
 have Wo:∀{s:RS},(uy b w s).2.2=false->s.2=false:=λ{s} h=>by
  have Q:=Qp hb h
  revert Q
  generalize (uy b w s).1=d;intro Q;cases Q with
  |two z h0 h1 h3 q=>exact q.1
  |mem z k h0 h1 h2 hk q=>exact q.1
  |place z k h0 h1 h5 hw1 hk q=>exact q.1
 by_cases h5:(zw b s).1=15
 ·rw[aah h5]at ht ⊢;have m:=Wo (YU ht);have a2:=vr m;have A2:=(A.app (vr a2.1)).app a2;rw[h5]at A2 ht ⊢;exact Om hb hw A2 ht
 rw[aae h5]at ht ⊢;have m:=Wo (YU ht);exact Ol hb hw h5 (A.app (vr m)) ht
end
section
variable {b:List Int}{t s:RS}{xs:List Int}{x:zo}{w o z k r m s2:Int}{p:Nat}
theorem rN:∀(zs:List Int) (s:RS),(Yj b zs s).2=false->Xj b s (Yj b zs s) zs
 |[],s,h=>Xj.nil h
 |z::zs,s,h=>by
  have q:=rN zs _ h;obtain⟨p1,p2⟩:=vA q.1
  have e:Yj b (z::zs) s=Yj b zs (zw b s).2:=by
   show Yj b zs (zU _ _)=_;rw[p2]
  have p1:(zw b s).1=z:=by simpa using p1
  rw[p2]at q;have a:=vr q.1;rw[p1]at a;rw[e];exact a.app q
theorem pe(ht:(Zh z s).2.2=false):∃cc,Zh z s=(cc,s)/\21<=cc/\cc<=26/\vC cc=z:=by
 unfold Zh at ht ⊢;cases h:Jj z with
 |none=>rw[h]at ht;exact absurd (vA ht).1 (by decide)
 |some cc=>
  have:=SN h;exact⟨cc,rfl,this⟩
theorem Aw{cc base:Int}(h0:0<=z)(h1:z<256)(hb:base=144\/base=128)(h:vC cc=u8 (z-base)):base+vC cc=z:=by
 have cb:=eP cc;rw[bJ]at h;omega
theorem Ib(hb:xa b)(h:Xj b s t [z]):0<=z/\z<256:=Je hb h _ (aat.2 rfl)
theorem P2(hb:xa b)(hw:w=64\/w=64+1\/w=64+4\/w=64+5)(A:Xj b (0,false) s [w,15])(ht:(Cx b w s).2.2=false):bM b (Cx b w s):=by
 unfold Cx at ht ⊢;simp only at ht ⊢;have q:=rN _ _ ht;obtain⟨p1,p2⟩:=vA q.1;rw[p2]at q;rw[p2];have Q:=Qp hb q.1
 have c0:(Zh (u8 ((zw b s).1-144)) (zw b s).2).2.2=false:=by
  revert Q
  generalize (uy b w (Zh (u8 ((zw b s).1-144)) (zw b s).2).2).1=d;intro Q;cases Q with
  |two z h0 h1 h3 q=>exact q.1
  |mem z k h0 h1 h2 hk q=>exact q.1
  |place z k h0 h1 h5 hw1 hk q=>exact q.1
 obtain⟨cc,e,c1,c2,c3⟩:=pe c0;rw[e]at c0 Q q p1 ⊢;simp only at Q q p1 c0 ⊢;have a:=vr c0;have zb:=Ib hb a;have c4:=Aw zb.1 zb.2 (.inl rfl) c3;have A1:=A.app a
 revert Q q p1
 generalize uy b w (zw b s).2=g;obtain⟨d,t⟩:=g;intro p1 q Q;simp only at q p1 Q ⊢;cases Q with
 |two z h0 h1 h3 qq=>
  simp only[acA,aam,Classical.not_not]at p1;have er:=Qq h0 h1 hw (by decide);have ez:=rW (w:=w) h0 h1 h3;have B:=JD (w:=w) h0 h1;rw[p1]at er ez;have A2:=(A1.app qq).app q;have S:Qw b 3 0 (Y3 z w):=Wr (xs:=[w,15]++[(zw b s).1]++[z]++[zH 72 (Y3 z w) (Y3 z w),15,182,xB (Y3 z w) (Y3 z w)]) (base:=64) (by rw[er];rfl) rfl (.inr rfl) A2 (by unfold zX;decide) B.2 (.inr rfl) (by have:=(XM 0 (Y3 z w)).2.1;rw[ez]at this;exact this) (by have:=(XM 0 (Y3 z w)).2.2;rw[ez]at this;exact this);refine⟨S.set c1 c2,.inl ?_⟩;have e:ze ⟨17,Y3 z w,0,0,cc,0,0⟩ 0=[zH 64 0 (Y3 z w),15,144+vC cc,xB 0 (Y3 z w),zH 72 (Y3 z w) (Y3 z w),15,182,xB (Y3 z w) (Y3 z w)]:=rfl;rw[e,er,c4,ez];exact A2
 |mem z k h0 h1 h2 hk qq=>simp at p1
 |place z k h0 h1 h5 hw1 hk qq=>simp at p1
theorem Rk(hb:xa b)(hw:w=64\/w=64+1\/w=64+4\/w=64+5)(ho:o=136\/o=137)(A:Xj b (0,false) s [w,o]){d:lJ}{t:RS}(Q:(zU (!d.memory) t).2=false->Nm b w s t d)(ht:(zU (!d.memory) t).2=false) :
  bM b (⟨4,d.reg,d.rm,if o=136 then 1 else 4,0,0,d.k⟩,zU (!d.memory) t):=by
 obtain⟨p1,p2⟩:=vA ht;have Q:=Q ht;rw[p2];cases Q with
 |two z h0 h1 h3 q=>simp at p1
 |place z k h0 h1 h5 hw1 hk q=>simp at p1
 |mem z k h0 h1 h2 hk q=>
  have B:=JD (w:=w) h0 h1;have A2:=A.app q;have er:=Qq h0 h1 hw (by decide);have tp:=Uq (qP z w) (Y3 z w);have S:Qw b 2 (qP z w) (Y3 z w):=Wr (xs:=[w,o]++u1 (qP z w) (Y3 z w) k) (base:=64) (by rw[er];rfl) (show(u1 (qP z w) (Y3 z w) k)[0]? = _ from Po) (.inl rfl) A2 B.1 B.2 (.inr rfl) tp.2.1 tp.2.2;have K:=GW A2 hk (p:=2) rfl;rcases ho with rfl|rfl
  ·refine⟨S.kk K (by simp[kL,kL2]),.inl ?_⟩;have e:ze ⟨4,qP z w,Y3 z w,1,0,0,k⟩ 0=[zH 64 (qP z w) (Y3 z w),136]++u1 (qP z w) (Y3 z w) k:=rfl;show Xj b (0,false) t (ze ⟨4,qP z w,Y3 z w,1,0,0,k⟩ 0);rw[e,er];exact A2
  ·refine⟨S.kk K (by simp[kL,kL2]),.inl ?_⟩;have e:ze ⟨4,qP z w,Y3 z w,4,0,0,k⟩ 0=[zH 64 (qP z w) (Y3 z w),137]++u1 (qP z w) (Y3 z w) k:=rfl;show Xj b (0,false) t (ze ⟨4,qP z w,Y3 z w,4,0,0,k⟩ 0);rw[e,er];exact A2
theorem Wo(hb:xa b)(h:(uy b w s).2.2=false):s.2=false:=by
 have Q:=Qp hb h
 revert Q
 generalize (uy b w s).1=d;intro Q;cases Q with
 |two z h0 h1 h3 q=>exact q.1
 |mem z k h0 h1 h2 hk q=>exact q.1
 |place z k h0 h1 h5 hw1 hk q=>exact q.1
theorem FD(hb:xa b)(ht:(Cx b w s).2.2=false):(zw b s).2.2=false:=by
 unfold Cx at ht;simp only at ht;have q:=Wo hb (v7 (rN _ _ ht).1);obtain⟨cc,e,_⟩:=pe q;rw[e]at q;exact q
theorem E6(hb:xa b)(hw:w=64\/w=65\/w=68\/w=69)(A:Xj b (0,false) s [w])(ht:(jZ b w s).2.2=false):bM b (jZ b w s):=by
 have hw':w=64\/w=64+1\/w=64+4\/w=64+5:=hw;unfold jZ at ht ⊢;simp only at ht ⊢;by_cases h1:(zw b s).1=136\/(zw b s).1=137
 ·rw[aah h1]at ht ⊢;simp only at ht;have m:=Wo hb (v7 ht);have a:=vr m;exact Rk hb hw' h1 (A.app a) (λh=>Qp hb (v7 h)) ht
 rw[aae h1]at ht ⊢;by_cases h2:(zw b s).1=15
 ·rw[aah h2]at ht ⊢;have m:(zw b s).2.2=false:=(vr (FD hb ht)).1;have a:=A.app (vr m);rw[h2]at a;exact P2 hb hw' a ht
 rw[aae h2]at ht;exact absurd (vA ht).1 (by decide)
theorem Nf(hb:xa b)(ht:(Yk b w s).2.2=false):s.2=false:=by
 have nx:∀{s:RS},(zw b s).2.2=false->s.2=false:=λh=>(vr h).1;have n8:∀{s:RS},(W3 b s).2.2=false->s.2=false:=λh=>(Jy 8 h).1.1;unfold Yk at ht;simp only at ht
 repeat' split at ht
 all_goals first
  |exact nx (v7 (n8 ht))
  |exact nx (v7 ht)
  |exact nx (nx (Wo hb (YU ht)))
  |exact nx (Wo hb (YU ht))
theorem E7(hb:xa b)(ht:(jZ b w s).2.2=false):s.2=false:=by
 have nx:∀{s:RS},(zw b s).2.2=false->s.2=false:=λh=>(vr h).1;unfold jZ at ht;simp only at ht
 repeat' split at ht
 all_goals first
  |exact nx (Wo hb (v7 ht))
  |exact nx (nx (FD hb ht))
  |exact nx (v7 ht)
theorem fq(hb:xa b)(ht:(xM b).2.2.2=false):Read b (xM b).2.1 ((xM b).1,(xM b).2.2):=by
 have far:∀{q:zo×RS},zbS b q->Read b true q:=λh=>by unfold Read;rw[aah rfl];exact h
 have near:∀{q:zo×RS},bM b q->Read b false q:=λh=>by unfold Read;rw[aae (by decide)];exact h
 unfold xM at ht ⊢;simp only at ht ⊢;by_cases h1:(zw b (0,false)).1=233
 ·rw[aah h1]at ht ⊢;obtain⟨q,qs⟩:=Wn hb ht;have a:=vr q.1;rw[h1]at a;exact far ⟨_,_,.jmp,qs,rfl,a.app q⟩
 rw[aae h1]at ht ⊢;by_cases h2:(zw b (0,false)).1=232
 ·rw[aah h2]at ht ⊢;obtain⟨q,qs⟩:=Wn hb ht;have a:=vr q.1;rw[h2]at a;exact far ⟨_,_,.call,qs,rfl,a.app q⟩
 rw[aae h2]at ht ⊢;by_cases h3:(zw b (0,false)).1=15
 ·rw[aah h3]at ht ⊢;obtain⟨q,qs⟩:=Wn hb ht;obtain⟨cc,e,c1,c2,c3⟩:=pe q.1;simp only[e]at q qs ⊢;have a2:=vr q.1;have zb:=Ib hb a2;have c4:=Aw zb.1 zb.2 (.inr rfl) c3;have a:=vr a2.1;rw[h3]at a;refine far ⟨⟨19,0,0,0,cc,0,0⟩,_,.jcc cc c1 c2,qs,rfl,?_⟩;have e:∀d,ze ⟨19,0,0,0,cc,0,0⟩ d=[15,128+vC cc]++xz 4 d:=λ_=>rfl;rw[e,c4];exact(a.app a2).app q
 rw[aae h3]at ht ⊢;by_cases h4:(zw b (0,false)).1=195
 ·rw[aah h4]at ht ⊢;have a:=vr ht;rw[h4]at a;exact near ⟨IB (by simp[EI]),.inl a⟩
 rw[aae h4]at ht ⊢;by_cases h5:(zw b (0,false)).1=72\/(zw b (0,false)).1=73\/(zw b (0,false)).1=76\/(zw b (0,false)).1=77
 ·rw[aah h5]at ht ⊢;exact Nd hb h5 (vr (Nf hb ht)) ht
 rw[aae h5]at ht ⊢;by_cases h6:(zw b (0,false)).1=64\/(zw b (0,false)).1=65\/(zw b (0,false)).1=68\/(zw b (0,false)).1=69
 ·rw[aah h6]at ht ⊢;exact near (E6 hb h6 (vr (E7 hb ht)) ht)
 rw[aae h6]at ht;exact absurd (vA ht).1 (by decide)
end
end Go.En
