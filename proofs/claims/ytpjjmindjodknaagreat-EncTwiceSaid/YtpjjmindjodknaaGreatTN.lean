import Derived.Test.YtpjjmindjodknaaGreatTM
set_option linter.unusedVariables false
set_option linter.unusedSimpArgs false
set_option maxRecDepth 100000
namespace Go.Ed
open Go.Ai Go.Proofs
open Go.Rtl (zv zE Old inc z8 yS x9 Jv wm)
open Go.Rm (j7 yx yG zQ yJ Rd Rd.of Rd.at Rd.mono)
open Go.As (zo Pg qu vq)
open Go.Eb (xb yI ye lO uA wO vy)
open Go.Ec (rU FM)
open Go.En
open Go.Eb (Jd)
section
variable {lo:yH}{h:za}{L:List HP}{sv gv:aaa}{st gl:List Int}{x:zo}{to:Int}{n:Nat}
end
open Go.Rtl (xU)
open Go.Rm (xx yU xO vY zS)
def sM(v:aaa)(xs:List zo):HP:=j7 42 7 v (xs.map zo.row)
theorem WZ(xs:List zo):∀r,r∈xs.map zo.row->r.length=7:=yJ (f:=zo.row) (λ_=>rfl) xs
theorem Sm(xs:List zo):(xs.map zo.row).flatten.all xX=true:=by
 rw[aav];intro v hv;obtain⟨r,hr,hv⟩:=List.mem_flatten.1 hv;obtain⟨x,_,rfl⟩:=aa0.1 hr;simp only[zo.row,aaz,abE,acC]at hv;rcases hv with rfl|rfl|rfl|rfl|rfl|rfl|rfl <;> rfl
section
variable {lo:yH}{h:za}{L:List HP}{v y:aaa}{xs ys:List zo}
theorem ar(s:Sat lo h (sM v xs::L)):zR v=false:=yG s
theorem EW(s:Sat lo h L)(hm:sM v xs∈L):zE h v 7 (xs.map zo.row):=yx (wm s hm) (WZ xs)
theorem zcM(s:Sat lo h L)(zs:List zo)(c:Nat)(hc:c≠0):Sat lo (h.push (.cells (zs.map zo.row).flatten 42)) (sM (.slice (some ⟨h.next,0,none⟩) zs.length c) zs::L):=by
 have:=yU (ty:=42) (n:=7) (rows:=zs.map zo.row) (c:=c) hc (WZ zs) rfl (s.push (.cells (zs.map zo.row).flatten 42))
 rwa [aaq]at this
theorem zas(s:Sat lo h (sM v xs::L))(Y:zE h y 7 (ys.map zo.row))(hne:ys≠[])(bD:xs.length+ys.length<=100000) :
  ∃b c h',(∀r,zF Tryz.prog .append [48,48] r [v,y] h=some (.slice (some ⟨b,0,none⟩) (xs.length+ys.length) c,h'))/\Sat lo h' (sM (.slice (some ⟨b,0,none⟩) (xs.length+ys.length) c) (xs++ys)::L):=by
 have a:=Y.lK;have f:=Y.first (by decide) (WZ ys);rw[aaq]at a f;obtain⟨b,c,h',a1,s2⟩:=vY s (WZ xs) (ys.map zo.row) (WZ ys) 56 (by rw[aaq,aaq];omega) (by simpa using hne);rw[aaq,aaq]at a1 s2;refine⟨b,c,h',λr=>?_,?_⟩
 ·rw[zb2 r v y ys.length (ys.map zo.row).flatten h a f (Sm ys) (by rw[xU (WZ ys),aaq])];exact a1
 ·rw[<- aaY]at s2;exact s2
theorem Ob(s:Sat lo h (sM v xs::L))(ys:List zo)(hne:ys≠[])(bD:xs.length+ys.length<=100000){cs:List aaa}(hc:cs=(ys.map zo.row).flatten){m cp:Nat}(hm:m=ys.length)(hcp:cp≠0){K:aaa->za->Prop}(k:∀b c h',Sat lo h' (sM (.slice (some ⟨b,0,none⟩) (xs.length+ys.length) c) (xs++ys)::L)->K (.slice (some ⟨b,0,none⟩) (xs.length+ys.length) c) h') :
  zP (zF Tryz.prog .append [48,48] 48 [v,.slice (some ⟨h.next,0,none⟩) m cp] (h.push (.cells cs 42))) K:=by
 subst hc;subst hm;have s1:=(zcM s ys cp hcp).f [1,0];obtain⟨b,c,h',a1,s2⟩:=zas s1 (EW s1 (aar _ aak)) hne bD;rw[a1];exact k b c h' (s2.p 1).drop
variable {r m:Int}{H:za}{a:Nat}{J:List aaa->za->Prop}
end
open Go.Eb (QU)
section
variable {lo:yH}{h:za}{L:List HP}{v y kv:aaa}{xs ys:List zo}{r m:Int}{H:za}{a:Nat}{J:List aaa->za->Prop}{ks:List Int}
end
open Go.Rm (qy)
section
variable {lo:yH}{h:za}{L:List HP}{v y kv bv:aaa}{xs ys:List zo}{r m:Int}{H:za}{a p:Nat}{J:List aaa->za->Prop}{ks b:List Int}
end
end Go.Ed
namespace Go.En
open Go.As (zo)
theorem vt:xa []:=λx hx=>by cases hx
theorem yp{z:Int}{zs:List Int}(h0:0<=z)(h1:z<256)(h:xa zs):xa (z::zs):=λx hx=>by
 rcases aaz.1 hx with rfl|hx
 ·exact⟨h0,h1⟩
 ·exact h x hx
theorem jf{xs ys:List Int}(h:xa xs)(h2:xa ys):xa (xs++ys):=λx hx=>by
 rcases aaD.1 hx with hx|hx
 ·exact h x hx
 ·exact h2 x hx
theorem La{base a b:Int}(h:base=72\/base=64):0<=zH base a b/\zH base a b<256:=by unfold zH;split <;> split <;> omega
theorem zah(a b:Int):0<=xB a b/\xB a b<256:=by unfold xB;omega
theorem SV(a m:Int):xa (VD a m):=by
 unfold VD;split
 ·exact yp (by omega) (by omega) (yp (by omega) (by omega) vt)
 ·exact yp (by omega) (by omega) vt
theorem pZ(a m k:Int):xa (u1 a m k):=jf (SV a m) (ku 4 k)
theorem BN(c:Int):0<=vC c/\vC c<100:=by unfold vC;repeat' split <;> omega
theorem TL(c:Int):0<=kY c/\kY c<100:=by unfold kY;repeat' split <;> omega
theorem zc8(z:Int):0<=u8 z/\u8 z<256:=by
 have:=ku 1 z (u8 (z.fdiv (2^(8*0)))) (by unfold xz;simp);simpa using this
theorem qv{c:Prop}[Decidable c]{a b:List Int}(h:xa a)(h2:xa b):xa (if c then a else b):=by split <;> assumption
theorem rx{a b:Int}{zs:List Int}(h:xa zs):xa (zH 72 a b::zs):=yp (La (.inl rfl)).1 (La (.inl rfl)).2 h
theorem rq{a b:Int}{zs:List Int}(h:xa zs):xa (zH 64 a b::zs):=yp (La (.inr rfl)).1 (La (.inr rfl)).2 h
theorem tw{a b:Int}{zs:List Int}(h:xa zs):xa (xB a b::zs):=yp (zah _ _).1 (zah _ _).2 h
theorem Ie(x:zo)(d:Int):xa (ze x d):=by
 unfold ze;refine qv (rx (yp (z:=137) (by decide) (by decide) (tw (vt)))) ?_;refine qv (qv (jf (rx (yp (z:=199) (by decide) (by decide) (tw (vt)))) (ku _ _)) (jf (rx (yp (by omega) (by omega) (vt))) (ku _ _))) ?_;refine qv (qv (jf (rx (yp (z:=139) (by decide) (by decide) (vt))) (pZ _ _ _)) (qv (jf (rx (yp (z:=99) (by decide) (by decide) (vt))) (pZ _ _ _)) (jf (rx (yp (z:=15) (by decide) (by decide) (yp (z:=190) (by decide) (by decide) (vt)))) (pZ _ _ _)))) ?_;refine qv (qv (jf (rx (yp (z:=137) (by decide) (by decide) (vt))) (pZ _ _ _)) (qv (jf (rq (yp (z:=137) (by decide) (by decide) (vt))) (pZ _ _ _)) (jf (rq (yp (z:=136) (by decide) (by decide) (vt))) (pZ _ _ _)))) ?_;refine qv (jf (rx (yp (z:=141) (by decide) (by decide) (vt))) (pZ _ _ _)) ?_;refine qv (jf (rx (yp (z:=141) (by decide) (by decide) (yp (by omega) (by omega) (vt)))) (ku _ _)) ?_;refine qv (qv (rx (yp (z:=15) (by decide) (by decide) (yp (z:=175) (by decide) (by decide) (tw (vt))))) (rx (yp (by have:=TL x.sub;omega) (by have:=TL x.sub;omega) (tw (vt))))) ?_;refine qv (qv (jf (rx (yp (z:=105) (by decide) (by decide) (tw (vt)))) (ku _ _)) (jf (rx (yp (z:=129) (by decide) (by decide) (tw (vt)))) (ku _ _))) ?_;refine qv (rx (yp (z:=247) (by decide) (by decide) (tw (vt)))) ?_;refine qv (qv (rx (yp (z:=15) (by decide) (by decide) (yp (z:=190) (by decide) (by decide) (tw (vt))))) (rx (yp (z:=99) (by decide) (by decide) (tw (vt))))) ?_;refine qv (rx (yp (z:=193) (by decide) (by decide) (tw (yp (zc8 _).1 (zc8 _).2 (vt))))) ?_;refine qv (rx (yp (z:=211) (by decide) (by decide) (tw (vt)))) ?_;refine qv (yp (z:=72) (by decide) (by decide) (yp (z:=153) (by decide) (by decide) (vt))) ?_;refine qv (rx (yp (z:=247) (by decide) (by decide) (tw (vt)))) ?_;refine qv (rx (yp (z:=57) (by decide) (by decide) (tw (vt)))) ?_;refine qv (jf (rx (yp (z:=129) (by decide) (by decide) (tw (vt)))) (ku _ _)) ?_;refine qv (rq (yp (z:=15) (by decide) (by decide) (yp (by have:=BN x.cc;omega) (by have:=BN x.cc;omega) (tw (rx (yp (z:=15) (by decide) (by decide) (yp (z:=182) (by decide) (by decide) (tw (vt))))))))) ?_;refine qv (yp (z:=233) (by decide) (by decide) (ku _ _)) ?_;refine qv (jf (yp (z:=15) (by decide) (by decide) (yp (by have:=BN x.cc;omega) (by have:=BN x.cc;omega) (vt))) (ku _ _)) ?_;refine qv (yp (z:=232) (by decide) (by decide) (ku _ _)) ?_;refine qv (yp (z:=195) (by decide) (by decide) (vt)) ?_;refine qv (jf (yp (z:=72) (by decide) (by decide) (yp (z:=129) (by decide) (by decide) (yp (z:=236) (by decide) (by decide) (vt)))) (ku _ _)) ?_;refine qv (jf (yp (z:=72) (by decide) (by decide) (yp (z:=129) (by decide) (by decide) (yp (z:=196) (by decide) (by decide) (vt)))) (ku _ _)) ?_;refine qv (yp (z:=72) (by decide) (by decide) (yp (z:=237) (by decide) (by decide) (vt))) ?_;refine qv (yp (z:=72) (by decide) (by decide) (yp (z:=239) (by decide) (by decide) (vt))) ?_;exact vt
end Go.En
namespace Go.Ed
open Go.Ai Go.Proofs
open Go.Rtl (zv zE Old inc z8 yS x9 Jv wm xU)
open Go.Rm (j7 yx yG xx yU xO vY zS qy zQ yJ Rd Rd.of Rd.at Rd.mono)
open Go.As (zo Pg qu vq vp x8)
open Go.Eb (KH xb yI ye lO uA wO vy Jd QU Xm r8 VN U9 uO yD)
open Go.Ec (rU FM)
open Go.En
section
variable {lo:yH}{h:za}{L:List HP}{v y kv cv sv gv lv:aaa}{xs ys:List zo}{r m d:Int}{p n b8:Nat}{J:List aaa->za->Prop}{code st gl:List Int}{x:zo}
end
section
variable {lo:yH}{h:za}{L:List HP}{v y kv cv sv gv lv:aaa}{xs ys:List zo}{r m d:Int}{p n b8:Nat}{J:List aaa->za->Prop}{code st gl:List Int}{x:zo}
end
section
variable {lo:yH}{h:za}{L:List HP}{v y kv cv sv gv lv:aaa}{xs ys:List zo}{r m d:Int}{p n b8:Nat}{J:List aaa->za->Prop}{code st gl:List Int}{x:zo}
end
open Go.Ar (Ct zO XV)
open Go.Eb (IM xt wM Gj Gv Yt)
section
variable {lo:yH}{h:za}{L:List HP}{v y kv cv sv gv lv bv:aaa}{xs ys:List zo}{r m d:Int}{p n b8:Nat}{J:List aaa->za->Prop}{b code st gl:List Int}{x:zo}
end
end Go.Ed
namespace Go.Ec
open Go.Ai Go.Proofs
def cls:List Nat:=[0,0,1,1,1,1,1,1,1,1,1,1,1,1,1,1,1,1,1,1,1,1,1,1,1,1,1,1,1,1,1,1,1,1,1,1,1,1,1,1,1,1,1,1,1,1,1,3,1,1,1,1,1,1,1,1,1,1,1,1,1,1,1,1,1,1,1,1,1,1,1,1,1,1,1,1,1,1,1,1,1,1,1,1,1,1,1,1,1,1,1,1,1,1,1,1,1,1,1,1,1,1,1,1,1,1,1,1,1,1,1,1,1,1,1,1,1,1,1,1,1,1,1,1,1,1,0,0,0,0,0,0,0,0,0,0,0,0,0,0,0,0,0,0,0]
set_option maxRecDepth 100000 in
theorem fits:Yl Tryz.prog cls=true:=by decide +kernel
set_option maxRecDepth 100000 in
theorem LZ:zbw (run Tryz.prog cls 4000 (.call 7 []) (Cz 100 []))=true:=by kernel_rfl
theorem RO(h:za):vw Tryz.prog 7 [] h (.bool true):=by
 refine⟨rfl,?_⟩;obtain⟨h',he⟩:=SO LZ;have:=FW (P:=Tryz.prog) (m:=100) (tabs:=[]) (v := .bool true) (f:=7) rfl (aaF (by kernel_rfl)) (λx hx=>by cases hx) ((Lw fits mixed he).mono (λv h1 q=>q.1)) (h:=h.lock) (λx hx=>by cases hx);exact this.mono (λv h1 q=>q.1)
end Go.Ec
namespace Go.Ee
open Go.Ai Go.Proofs
open Go.Rtl (zv zE Old inc z8 yS x9 Jv wm xU)
open Go.Rm (j7 yx yG xx yU xO vY zS qy zQ yJ Rd Rd.of Rd.at Rd.mono)
open Go.As (zo Pg qu vq vp x8)
open Go.Eb (KH xb yI wO ye uO yD xt k8)
open Go.En
open Go.Ed
section
variable {lo:yH}{h:za}{L:List HP}{cv sv gv:aaa}{code:List Int}{mn pn at_ by_:Int}{b8 b10:Nat}{c8:List aaa}
end
open Go.Rtl (FV Ji W9 wT)
open Go.Rm (JJ)
def KG(v:aaa)(zs:List Int):HP:=j7 3 1 v (zs.map zQ)
def mG(h:za)(v:aaa)(zs:List Int):Prop:=zE h v 1 (zs.map zQ)
theorem mA(zs:List Int):∀r,r∈zs.map zQ->r.length=1:=yJ (f:=zQ) (λ_=>rfl) zs
section
variable {lo:yH}{h h':za}{L:List HP}{x y:aaa}{xs ys:List Int}
theorem XU(s:Sat lo h (KG x xs::L)):zR x=false:=yG s
theorem j4(s:Sat lo h L)(hm:KG x xs∈L):mG h x xs:=yx (wm s hm) (mA xs)
theorem aB:∀zs:List Int,(zs.map zQ).flatten=zs.map λz=>Value.int .i64 z
 |[]=>rfl
 |z::zs=>by rw[abo,acb,aB zs];rfl
theorem Pz(zs:List Int):(zs.map λz=>Value.int .i64 z).all xX=true:=by
 rw[aav];intro v hv;obtain⟨z,_,rfl⟩:=aa0.1 hv;rfl
theorem KB(s:Sat lo h L)(zs:List Int)(c:Nat)(hc:c≠0):Sat lo (h.push (.cells (zs.map λz=>Value.int .i64 z) 3)) (KG (.slice (some ⟨h.next,0,none⟩) zs.length c) zs::L):=by
 have:=yU (ty:=3) (n:=1) (rows:=zs.map zQ) (c:=c) hc (mA zs) (aB zs).symm (s.push (.cells (zs.map λz=>Value.int .i64 z) 3))
 rwa [aaq]at this
theorem G5(S:mG h y ys):U3 y=some ys.length/\qp h ys.length 1 y=some (ys.map λz=>Value.int .i64 z):=by
 have a:=S.lK;have b:=S.first (by decide) (mA ys);rw[aaq]at a b;rw[aB]at b;exact⟨a,b⟩
theorem bu(s:Sat lo h (KG x xs::L))(S:mG h y ys)(bD:xs.length+ys.length<=1000000000) :
  ∃a n c h',(∀r,zF Tryz.prog .append [22,22] r [x,y] h=some (.slice a n c,h'))/\Sat lo h' (KG (.slice a n c) (xs++ys)::L)/\(qC h->qC h')/\h.next<=h'.next/\h'.ro=h.ro/\(∀b,b<h.next->b∉FV x->h'.get b=h.get b)/\(∀q,a=some q->q.block∈FV x\/h.next<=q.block):=by
 obtain⟨hn,hf⟩:=G5 S;have hap:=λr=>WB r x y ys.length (ys.map λz=>Value.int .i64 z) h hn hf (Pz ys) (by simp);have hr3:=mA (xs++ys);have hlen:((xs++ys).map zQ).length=xs.length+ys.length:=by simp
 by_cases h0:ys.length=0
 ·have e0:ys=[]:=aa9.1 h0;subst e0;rcases zS s with⟨rfl,e2,s'⟩|⟨b,c,cs,rfl,hc,hl,hf2,s'⟩
  ·have:xs=[]:=by simpa using e2
   subst this;exact⟨none,0,0,h,λr=>by rw[hap];rfl,s,id,aaj _,rfl,λ_ _ _=>rfl,λq hq=>by cases hq⟩
  ·rw[aaq]at s hap ⊢;exact⟨some ⟨b,0,none⟩,xs.length,c,h,λr=>by rw[hap];rfl,by rw[abm];exact s,id,aaj _,rfl,λ_ _ _=>rfl,λq hq=>by cases hq;exact .inl (aat.2 rfl)⟩
 rcases zS s with⟨rfl,e2,s'⟩|⟨b,c,cs,rfl,hc,hl,hf2,s'⟩
 ·have:xs=[]:=by simpa using e2
  subst this;refine⟨some ⟨h.next,0,none⟩,ys.length,1,h.push (.cells (ys.map λz=>Value.int .i64 z) 3),λr=>?_,?_,λw=>Go.Rtl.Uu w _,abx _,rfl,λb hb _=>yR hb,λq hq=>by cases hq;exact .inr (aaj _)⟩
  ·rw[hap];simp only[Jc];rw[aae h0,aah (by simp at bD;omega)]
  ·have q:=KB s' ys 1 (by decide);rw[abv];exact q
 ·rw[aaq]at hl hf2 s hap ⊢
  have hroom:roomFor c (xs.length+ys.length) 8=true:=by
   unfold roomFor;cases Nat.beq c 2 <;> simp only[aaw,aaH,abS] <;> omega
  refine⟨some ⟨h.next,0,none⟩,xs.length+ys.length,vW c (xs.length+ys.length),(h.set b none).push (.cells (((cs.drop 0).take (xs.length*1))++(ys.map λz=>Value.int .i64 z)) 3),λr=>?_,?_,λw=>Go.Rtl.Uu (Go.Rtl.wf_set w s'.lt _) _,abx _,rfl,λb' hb hne=>?_,λq hq=>by cases hq;exact .inr (aaj _)⟩
  ·rw[hap];simp only[Jc,s'.get];rw[aae h0,aah ⟨hc,trivial,s'.wr,by omega,hroom,by decide⟩]
  ·have q:=yU (ty:=3) (n:=1) (rows:=(xs++ys).map zQ) (c:=vW c (xs.length+ys.length)) (cs:=((cs.drop 0).take (xs.length*1))++(ys.map λz=>Value.int .i64 z)) (Ji _ _) hr3 (by rw[abG,hf2,aaY,List.flatten_append,aB ys]) ((s'.forget none).push (.cells (((cs.drop 0).take (xs.length*1))++(ys.map λz=>Value.int .i64 z)) 3));rw[hlen]at q;exact q
  ·simp only[FV,aat]at hne;rw[yR (by show b'<h.next;exact hb),qL hne]
theorem BF{f t:Nat}(s:Sat lo h (KG x xs::L))(hx:∀b,b∈FV x->f<=b/\b<t)(S:mG h y ys)(bD:xs.length+ys.length<=1000000000)(hyn:zR y=false){K:aaa->za->Prop}
  (k:∀a n c h',Sat lo h' (KG (.slice a n c) (xs++ys)::L)->K (.slice a n c) h'):oI Tryz.prog [22,22] 22 [x,y] (some (f,t)) h h K:=by
 obtain⟨a,n,c,h',a1,s2,w2,n2,r2,g2,b2⟩:=bu s S bD;refine⟨?_,?_⟩
 ·rcases zS s with⟨rfl,e2,s'⟩|⟨b,c,cs,rfl,hc,hl,hf2,s'⟩
  ·trivial
  ·have:=hx b (aat.2 rfl);exact⟨this.1,this.2,by rw[s'.get];simp⟩
 ·rw[a1,Zl (XU s),Zl hyn,Ka];show K _ _;have gn:(vE (Qr h x h') h').next=h'.next:=wT _ _;have gr:(vE (Qr h x h') h').ro=h'.ro:=by rw[W9,mC,r2]
  refine k a n c _ (s2.Pd (Nat.le_of_eq gn.symm) gr λb hb=>?_);rw[wU,Qn];by_cases hb1:h.next<=b/\b<h'.next
  ·rw[aah hb1]
  ·rw[aae hb1];have hlt:b<h.next:=by omega
   by_cases hbx:b∈FV x
   ·rcases zS s with⟨rfl,e2,s'⟩|⟨b3,c,cs,rfl,hc,hl,hf2,s'⟩
    ·cases hbx
    ·have:=aat.1 hbx;subst this;show(h.set b (h'.get b)).get b=_;rw[Z3]
   ·have:(Qr h x h').get b=h.get b:=by
     rcases fk h x h' b with q|⟨⟨q,n,m,e1,e2⟩,e3⟩
     ·exact q
     ·subst e1;exact absurd (by rw[e2];exact aat.2 rfl) hbx
    rw[this,g2 b hlt hbx]
theorem mB{v:aaa}{zs:List Int}(S:zv h v zs):mG h v zs:=by
 rcases S with⟨e,q⟩|⟨b,off,cp,e,hc⟩
 ·exact .inl ⟨e,by rw[q];rfl⟩
 ·refine .inr ⟨b,off,cp,by rw[aaq];exact e,λhz=>?_⟩;obtain⟨c,t,hb,hg,hat⟩:=hc (by intro q;subst q;exact hz rfl);refine⟨c,t,hb,hg,λi r hr=>?_⟩;rw[aay]at hr;cases hzi:zs[i]? with
  |none=>rw[hzi]at hr;cases hr
  |some z=>
   rw[hzi]at hr;have hr:zQ z=r:=by simpa using hr
   have hv:=hat i z hzi;obtain⟨hl,hv⟩:=aaM.1 hv;rw[abI,abB hl,hv,<- hr];exact⟨hl,rfl⟩
end
open Go.As (uQ)
open Go.Eb (wM Xl)
open Go.Ec (OM Small df)
open Go.Ar (eS uZ uS)
open Go.Eb (qz)
section
variable {lo:yH}{h:za}{L:List HP}{rv:aaa}{raw:List Int}{at_ by_:Int}{p:Pg}
theorem Iu(gl:List Int)(st:List Nat)(code:List zo)(o:Nat):∀(xs:List zo) (n:Nat),xa (uP gl st code o xs n)
 |[],n=>vt
 |x::xs,n=>jf (Ie x _) (Iu gl st code o xs _)
theorem BM(gl:List Int)(st:List Nat):∀(fs:List Go.As.Fn) (n:Nat),xa (Yf gl st fs n)
 |[],n=>vt
 |f::fs,n=>jf (Iu gl st f.code n f.code n) (BM gl st fs _)
end
end Go.Ee
namespace Go.En
open Go.Ai Go.Proofs
open Go.As (zo Pg uH wL)
open Go.Ar (zO zM)
theorem PK{x:zo}(h:zO x=true)(hk:Go.Mem.qU x.k)(n6:¬VP x)(n20:¬x.op=20) :
  ∃y,Shape y/\zO y=true/\y.op=x.op /\ ¬VP y/\(∀d,ze x d=ze y 0):=by
 have h1:1<=x.op/\x.op<=26:=by
  have h2:=h;unfold zO at h2;simp only[aac,aao,aam]at h2;omega
 unfold VP at n6;obtain⟨op,r,m,sub,cc,l,k⟩:=x;simp only at h1 n6 n20 hk;have:op=1\/op=2\/op=3\/op=4\/op=5\/op=7\/op=8\/op=9\/op=10\/op=11\/op=12\/op=13\/op=14\/op=15\/op=16\/op=17\/op=22\/op=23\/op=24\/op=25\/op=26:=by omega
 rcases this with rfl|rfl|rfl|rfl|rfl|rfl|rfl|rfl|rfl|rfl|rfl|rfl|rfl|rfl|rfl|rfl|rfl|rfl|rfl|rfl|rfl
 ·exact⟨_,.mov r m,h,rfl,n6,λ_=>rfl⟩
 ·exact⟨_,.movk r k hk,h,rfl,n6,λ_=>rfl⟩
 ·exact⟨_,.load r m sub k,h,rfl,n6,λ_=>rfl⟩
 ·exact⟨_,.sU r m sub k,h,rfl,n6,λ_=>rfl⟩
 ·exact⟨_,.lea r m k,h,rfl,n6,λ_=>rfl⟩
 ·exact⟨_,.H8 r m sub,h,rfl,n6,λ_=>rfl⟩
 ·exact⟨_,.aluk r sub k,h,rfl,n6,λ_=>rfl⟩
 ·exact⟨_,.un r sub,h,rfl,n6,λ_=>rfl⟩
 ·exact⟨_,.ext r m sub,h,rfl,n6,λ_=>rfl⟩
 ·exact⟨_,.shift r sub k,h,rfl,n6,λ_=>rfl⟩
 ·exact⟨_,.shiftc r sub,h,rfl,n6,λ_=>rfl⟩
 ·exact⟨_,.cqo,h,rfl,n6,λ_=>rfl⟩
 ·exact⟨_,.idiv m,h,rfl,n6,λ_=>rfl⟩
 ·exact⟨_,.cmp r m,h,rfl,n6,λ_=>rfl⟩
 ·exact⟨_,.cmpk r k,h,rfl,n6,λ_=>rfl⟩
 ·exact⟨_,.set r cc,h,rfl,n6,λ_=>rfl⟩
 ·exact⟨_,.ret,h,rfl,n6,λ_=>rfl⟩
 ·exact⟨_,.enter k,h,rfl,n6,λ_=>rfl⟩
 ·exact⟨_,.leave k,h,rfl,n6,λ_=>rfl⟩
 ·exact⟨_,.inI,h,rfl,n6,λ_=>rfl⟩
 ·exact⟨_,.outI,h,rfl,n6,λ_=>rfl⟩
theorem EZ{st gl b:List Int}{len p:Nat}{r:zo×Nat}:∀{ns:List Nat},(∀n,n∈ns->0<n)->bG st gl len b p ns=some r->0<r.2
 |[],_,h=>by cases h
 |n::ns,hp,h=>by
  unfold bG at h;split at h
  ·split at h
   ·cases hg:EP st gl len ‹zo› (((p+n:Nat):Int)+Zi b n) with
    |none=>rw[hg]at h;cases h
    |some i=>
     rw[hg]at h;have:(i,n)=r:=abg h;rw[<- this];exact hp n aak
   ·exact EZ (λn hn=>hp n (aar _ hn)) h
  ·cases h
theorem R3{st gl b:List Int}{len p:Nat}{r:zo×Nat}(h:R2 st gl len b p=some r):0<r.2:=by
 unfold R2 at h;cases hf:findD b (ZL b) with
 |some q=>
  rw[hf]at h;have:q=r:=abg h;subst this;obtain⟨y,m⟩:=q;rcases (Qf hf).2.2 with⟨e,q⟩|⟨_,q⟩
  ·show 0<m;rw[q];exact e.1
  ·show 0<m;rw[q];decide
 |none=>
  rw[hf]at h;exact EZ (by decide) h
end Go.En
namespace Go.Ee
open Go.Ai Go.Proofs
open Go.Rtl (zv zE Old inc z8 yS x9 Jv wm xU JI)
open Go.Rm (j7 yx yG xx yU xO vY zS qy zQ yJ Rd Rd.of Rd.at Rd.mono)
open Go.As (zo Pg uQ qu vq vp x8)
open Go.Eb (KH xb yI wO ye uO yD xt k8 wM Xl Xm)
open Go.En
open Go.Ed
theorem oN{a b c:aaa}(ha:zR a=false)(hb:zR b=false)(hc:zR c=false):Jf (.tuple #[a,b,c]) 0=some a:=(oQ (by simp only[yk,ha,hb,hc,aaH])).trans rfl
theorem oO{a b c:aaa}(ha:zR a=false)(hb:zR b=false)(hc:zR c=false):Jf (.tuple #[a,b,c]) 1=some b:=(oQ (by simp only[yk,ha,hb,hc,aaH])).trans rfl
theorem oP{a b c:aaa}(ha:zR a=false)(hb:zR b=false)(hc:zR c=false):Jf (.tuple #[a,b,c]) 2=some c:=(oQ (by simp only[yk,ha,hb,hc,aaH])).trans rfl
section
variable {lo:yH}{h:za}{L:List HP}{rv:aaa}{raw:List Int}{at_ by_:Int}{p:Pg}
def yes(v:aaa)(_:za):Prop:=v=.bool true
end
end Go.Ee
namespace Go.Ef
open Go.Ai Go.Proofs
open Go.Rtl (zv zE Old inc z8 yS x9 Jv wm xU JI Km VG)
open Go.Rm (j7 yx yG xx yU xO vY zS qy zQ yJ Rd Rd.of Rd.at Rd.mono)
open Go.As (zo Pg uQ qu vq vp x8 wL uH)
open Go.Ar (Rx SU fF eS uZ uS)
open Go.Eb (KH xb yI wO ye uO yD xt k8 wM Xl Xm CI Jl qz VJ Wy)
open Go.En
open Go.Ed
open Go.Ee (yes oN oO oP)
section
variable {lo:yH}{h:za}{L:List HP}{x:zo}{av:aaa}{ahead:List zo}
end
end Go.Ef
namespace Go.Eg
open Go.Ai Go.Proofs
open Go.Rtl (zv zE Old inc z8 yS x9 Jv wm xU JI)
open Go.Rm (j7 yx yG xx yU xO vY zS qy zQ yJ Rd Rd.of Rd.at Rd.mono)
open Go.As (zo Pg uQ qu vq vp x8)
open Go.Eb (xb yI wO ye uO yD xt k8 wM Xl Xm)
open Go.En
open Go.Ed
open Go.Ee (oN oO oP)
def qh(st gl code:List Int)(to:Nat):Nat->Nat->List (Nat×zo)×Nat
 |0,a=>([],a)
 |f+1,a=>if a<to then (match Q1 st gl code.length (code.drop a) a with
  |some r=>if a+r.2<=to then ((a,r.1)::(qh st gl code to f (a+r.2)).1,(qh st gl code to f (a+r.2)).2) else ([],a)
  |none=>([],a)) else ([],a)
section
variable {lo:yH}{h:za}{L:List HP}{st gl code:List Int}{cv sv gv:aaa}{mn pn:Int}{to:Nat}
theorem FN{f a:Nat}(h:¬a<to):qh st gl code to f a=([],a):=by
 cases f with
 |zero=>rfl
 |succ f=>unfold qh;rw[aae h]
theorem Nb{f a:Nat}(h:a<to)(hd:Q1 st gl code.length (code.drop a) a=none):qh st gl code to (f+1) a=([],a):=by
 unfold qh;rw[aah h,hd]
theorem Na{f a n:Nat}{x:zo}(h:a<to)(hd:Q1 st gl code.length (code.drop a) a=some (x,n))(hf:¬a+n<=to):qh st gl code to (f+1) a=([],a):=by
 unfold qh;rw[aah h,hd];exact aae hf
theorem Lo{f a n:Nat}{x:zo}(h:a<to)(hd:Q1 st gl code.length (code.drop a) a=some (x,n))(hf:a+n<=to):qh st gl code to (f+1) a=((a,x)::(qh st gl code to f (a+n)).1,(qh st gl code to f (a+n)).2):=by
 conv=>lhs;unfold qh
 rw[aah h,hd];exact aah hf
theorem Ru{Lp:Nat}{args:List aaa}{h:za}{K:aaa->za->Prop}(hy:Rt Tryz.prog Lp args h K):zL Tryz.prog (.func (.yield Lp) #[] #[]) args h K:=⟨rfl,rfl,hy⟩
theorem To{Lp b5 b6 b4 b7 be fr f:Nat}{Body:List (Nat×zo)->List HP}(I:Be lo cv sv gv code st gl)(bl:xa code)(hto:to<=code.length)(hf:to<=fr+f)
  (Y:∀(d:List (Nat×zo)) (a:Nat) (x:zo) (e:Int) (h:za) (K:aaa->za->Prop),d.length<=a->a<code.length->Sat lo h (pt be (.cells [.int .i64 e] 3)::pt b5 (.cells [.int .i64 fr] 3)::pt b6 (.cells [.int .i64 to] 3)::pt b4 (.cells (Zd cv sv gv mn pn) 31)::pt b7 (.cells [rp be] 95)::Body d) ->
   (∀h',Sat lo h' (pt be (.cells [.int .i64 e] 3)::pt b5 (.cells [.int .i64 fr] 3)::pt b6 (.cells [.int .i64 to] 3)::pt b4 (.cells (Zd cv sv gv mn pn) 31)::pt b7 (.cells [rp be] 95)::Body (d++[(a,x)]))->K (.bool true) h')->Rt Tryz.prog Lp [.int .i64 a,x.val] h K)
  (s:Sat lo h (pt be (.cells [.int .i64 fr] 3)::pt b5 (.cells [.int .i64 fr] 3)::pt b6 (.cells [.int .i64 to] 3)::pt b4 (.cells (Zd cv sv gv mn pn) 31)::pt b7 (.cells [rp be] 95)::Body [])) :
  DC Tryz.prog 82 [.func (.yield Lp) #[] #[],rp b5,rp b6,rp b4,rp b7] h (λv h'=>Sat lo h' (pt be (.cells [.int .i64 (qh st gl code to f fr).2] 3)::pt b5 (.cells [.int .i64 fr] 3)::pt b6 (.cells [.int .i64 to] 3)::pt b4 (.cells (Zd cv sv gv mn pn) 31)::pt b7 (.cells [rp be] 95)::Body (qh st gl code to f fr).1)):=by
 have cn:=I.cn;have sn:=I.sn;have gn:=I.gn;have fewC:=I.bD;apply Gb;unfold H6;have g5:=(s.p 1).get;simp only[EE,↓zB,zu,zg,g5];refine kW (λm vs h'=>∃(a f':Nat) (d:List (Nat×zo)),fr<=a/\d.length+fr<=a/\a<=code.length+fr/\m=code.length+fr-a/\to<=a+f'/\vs=[.int .i64 a]/\d++(qh st gl code to f' a).1=(qh st gl code to f fr).1/\(qh st gl code to f' a).2=(qh st gl code to f fr).2/\Sat lo h' (pt be (.cells [.int .i64 a] 3)::pt b5 (.cells [.int .i64 fr] 3)::pt b6 (.cells [.int .i64 to] 3)::pt b4 (.cells (Zd cv sv gv mn pn) 31)::pt b7 (.cells [rp be] 95)::Body d)) code.length ⟨fr,f,[],aaj _,by simp,by omega,by omega,hf,rfl,rfl,rfl,s⟩ ?_;rintro m vs h1 ⟨a,f',d,ha0,hda,ha1,rfl,hf',rfl,hd,he,s1⟩;have g6:=(s1.p 2).get;have g4:=(s1.p 3).get
 have stop:(qh st gl code to f' a).1=[]->(qh st gl code to f' a).2=a->∀h',Sat lo h' (pt be (.cells [.int .i64 a] 3)::pt b5 (.cells [.int .i64 fr] 3)::pt b6 (.cells [.int .i64 to] 3)::pt b4 (.cells (Zd cv sv gv mn pn) 31)::pt b7 (.cells [rp be] 95)::Body d)->Sat lo h' (pt be (.cells [.int .i64 (qh st gl code to f fr).2] 3)::pt b5 (.cells [.int .i64 fr] 3)::pt b6 (.cells [.int .i64 to] 3)::pt b4 (.cells (Zd cv sv gv mn pn) 31)::pt b7 (.cells [rp be] 95)::Body (qh st gl code to f fr).1):=λe1 e2 h' s'=>by
  rw[e1,abm]at hd;rw[<- hd,<- he,e2];exact s'
 unfold oj;by_cases hlt:(a:Int)<(to:Int)
 ·have hn:a<code.length:=by omega
  obtain⟨f2,rfl⟩:∃f2,f'=f2+1:=⟨f'-1,by omega⟩;have bd:xa (code.drop a):=λx hx=>bl x (ab8 hx);have ed:=zaK (st:=st) (gl:=gl) bd code.length a
  have e4:zd Tryz.prog 31 (rp b4) h1=some (sL cv sv gv mn pn):=by
   simp only[EE,Nat.reduceAdd,jY,Xk,g4]
  simp only[EE,nth,↓zB,zu,zg,Aa,g6,e4,hlt];refine sE (by simp only[yk];rfl) (OB (i:=(a:Int)) I bl s1) ?_;rintro v h2 ⟨rfl,s2⟩;unfold zaJ;rw[aah ⟨by omega,by omega⟩]
  show W5 _ _ _ _ _ _ (match Q1 st gl code.length (code.drop a) a with
     |some r=>xV [r.1.val,.int .i64 r.2,.int .i64 0]
     |none=>xV [WY.val,.int .i64 0,.int .i64 7]) h2
  cases hde:Q1 st gl code.length (code.drop a) a with
  |none=>
   have w:=Nb (f:=f2) (show a<to by omega) hde;have er:xV [WY.val,.int .i64 0,.int .i64 7]=.tuple #[WY.val,.int .i64 0,.int .i64 7]:=rfl;show W5 _ _ _ _ _ _ (xV [WY.val,.int .i64 0,.int .i64 7]) h2;rw[er];unfold W5;simp only[EE,Value.cells,uM,oN,oO,oP];refine vR s2 λb8 h3 s3=>?_;simp only[EE,Nat.reduceAdd,yV];refine zY s3 (by simp) rfl λh4 s4=>?_;simp only[EE,Int.reduceEq,k9,J4,J5,J6,J7,J8,J9];exact stop (by rw[w]) (by rw[w]) _ s4.drop
  |some r=>
   obtain⟨x,n⟩:=r;have hpos:0<n:=R3 (ed.trans hde);have er:xV [x.val,.int .i64 n,.int .i64 0]=.tuple #[x.val,.int .i64 n,.int .i64 0]:=rfl;show W5 _ _ _ _ _ _ (xV [x.val,.int .i64 n,.int .i64 0]) h2;rw[er];unfold W5;obtain⟨op,r,m,sub,cc,l,k⟩:=x;simp only[EE,Value.cells,uM,oN,oO,oP];refine vR s2 λb8 h3 s3=>?_;simp only[EE,Nat.reduceAdd,yV];refine zY s3 (by simp) rfl λh4 s4=>?_;have s4:Sat lo h4 (pt b8 (.cells (zo.row ⟨op,r,m,sub,cc,l,k⟩) 42)::pt be (.cells [.int .i64 a] 3)::pt b5 (.cells [.int .i64 fr] 3)::pt b6 (.cells [.int .i64 to] 3)::pt b4 (.cells (Zd cv sv gv mn pn) 31)::pt b7 (.cells [rp be] 95)::Body d):=s4;have g8:=s4.get;have g6:=(s4.p 3).get;have wsub:IntKind.wrap .i64 ((to:Int)-a)=(to:Int)-a:=by simp only[IntKind.wrap,IntKind.bits,IntKind.signed];simp;omega
   by_cases hfit:a+n<=to
   ·have c1:¬(n:Int)>(to:Int)-a:=by omega
    have e8:zd Tryz.prog 42 (rp b8) h4=some (zo.val ⟨op,r,m,sub,cc,l,k⟩):=by
     simp only[EE,Nat.reduceAdd,jY,vu,g8]
    simp only[EE,nth,zu,zg,J5,J6,J7,J8,J9,g6,e8,wsub,c1];have w:=Lo (f:=f2) (show a<to by omega) hde hfit;rw[w]at hd he;refine Ru (Y d a ⟨op,r,m,sub,cc,l,k⟩ a h4 _ (by omega) (by omega) s4.drop λh5 s5=>?_);have g7:=(s5.p 4).get;have wadd:IntKind.wrap .i64 ((a:Int)+n)=((a+n:Nat):Int):=by simp only[IntKind.wrap,IntKind.bits,IntKind.signed];simp;omega
    simp only[EE,nth,zu,zbX,U6,tZ,J4,g7,wadd];refine zY s5 (by simp) rfl λh6 s6=>?_;have s6:Sat lo h6 (pt be (.cells [.int .i64 ((a+n:Nat):Int)] 3)::pt b5 (.cells [.int .i64 fr] 3)::pt b6 (.cells [.int .i64 to] 3)::pt b4 (.cells (Zd cv sv gv mn pn) 31)::pt b7 (.cells [rp be] 95)::Body (d++[(a,(⟨op,r,m,sub,cc,l,k⟩:zo))])):=s6;refine⟨code.length+fr-(a+n),by omega,a+n,f2,d++[(a,⟨op,r,m,sub,cc,l,k⟩)],by omega,by simp only[aaB,List.length_singleton];omega,by omega,rfl,by omega,rfl,?_,?_,s6⟩
    ·rw[aa4];exact hd
    ·exact he
   ·have c1:(n:Int)>(to:Int)-a:=(by omega);have w:=Na (f:=f2) (show a<to by omega) hde hfit;simp only[EE,nth,k9,zu,zg,J4,J5,J6,J7,J8,J9,g6,wsub,c1];exact stop (by rw[w]) (by rw[w]) _ s4.drop
 ·have w:=FN (st:=st) (gl:=gl) (code:=code) (f:=f') (show ¬a<to by omega);simp only[EE,nth,k9,zu,zg,g6,hlt];exact stop (by rw[w]) (by rw[w]) _ s1
end
open Go.Ee (KG XU j4 KB bu)
theorem A8(n:Nat)(l:List (Nat×aaa)):(aN n l).size=n:=by
 induction l with
 |nil=>simp[aN,Env.pw]
 |cons p l ih=>obtain⟨k,v⟩:=p;exact ih
theorem OQ(n t:Nat)(z:aaa)(l:List (Nat×aaa))(hl:∀p,p∈l->p.1≠t)(i:Nat):(aN n (l++[(t,z)])).get i=if i=t then z else (aN n l).get i:=by
 induction l with
 |nil=>simp only[abv,aN,Env.yq]
 |cons p l ih=>
  obtain⟨k,v⟩:=p;have hk:k≠t:=hl _ aak;have:=ih λp hp=>hl p (aar _ hp);simp only[ach,aN,Env.yq,this];by_cases h1:i=k
  ·subst h1;simp[hk]
  ·simp[h1]
theorem O7{n t:Nat}{l:List (Nat×aaa)}{s1:Env}(z:aaa)(h:Le (aN n l) s1)(ht:t<n)(hl':(l.all λp => !Nat.beq p.1 t)=true):s1.put (some t) z=some (s1.set t z)/\Le (aN n (l++[(t,z)])) (s1.set t z):=by
 have hs:s1.size=n:=by rw[<- h.size,A8]
 have hl:∀p,p∈l->p.1≠t:=λp hp e=>by
  rw[aav]at hl';have:=hl' p hp;rw[e]at this;simp at this
 refine⟨?_,⟨by rw[A8,Env.size_set,hs],λi=>?_⟩⟩
 ·simp only[Env.put];have:Nat.blt t s1.size=true:=by rw[hs];simpa [aaN] using ht
  simp[this]
 ·rw[OQ n t z l hl,Env.yq];by_cases h1:i=t
  ·simp[h1]
  ·simp only[h1,ab1];exact h.get i
theorem za3{n t u:Nat}{l:List (Nat×aaa)}{s1:Env}(z w:aaa)(h:Le (aN n l) s1)(ht:t<n)(hu:u<n)(hl:(l.all λp => !Nat.beq p.1 t)=true)(hl':((l++[(t,z)]).all λp => !Nat.beq p.1 u)=true):∃s0,ZP [t,u] [z,w] s1=some s0/\Le (aN n (l++[(t,z)]++[(u,w)])) s0:=by
 obtain⟨p1,q1⟩:=O7 z h ht hl;obtain⟨p2,q2⟩:=O7 w q1 hu hl';exact⟨_,by simp only[ZP,p1,p2],q2⟩
def KE(m:List (Int×aaa))(p:Nat×zo):List (Int×aaa):=if p.2.op=18\/p.2.op=19 then ZN m p.2.l (.bool true) else m
def vX(d:List (Nat×zo)):List (Int×aaa):=d.foldl KE []
def pP(b:Nat)(xs:List zo):HP:=ex λv:aaa=>Qt [pt b (.cells [v] 48),sM v xs]
def ru(b:Nat)(zs:List Int):HP:=ex λv:aaa=>Qt [pt b (.cells [v] 22),KG v zs]
def body(Lp b8 b9 b10 mb:Nat)(A0:VQ)(d:List (Nat×zo)):List HP:=[pt Lp (.loop A0),pP b8 (d.map Prod.snd),ru b9 (d.map λp=>(p.1:Int)),pt b10 (.cells [.map (some mb)] 115),pt mb (Yh (vX d))]
theorem ktN:yd Tryz.prog (underlying 115)=some (.map 3 4):=by kernel_rfl
theorem kt3:yd Tryz.prog (underlying 3)=some (.int .i64):=by kernel_rfl
theorem zrN:kX Tryz.prog 4=some (.bool false):=by kernel_rfl
theorem ps2:(wR Tryz.prog 41 0).1 = #[23,24]:=by kernel_rfl
section
variable {lo:yH}{h:za}{L:List HP}
theorem zaV{Lp b8 b9 b13 a:Nat}{B0:wS}{x:zo}{xs:List zo}{zs:List Int}{J:List aaa->za->Prop}{vs:List aaa}(bD:xs.length<=50000)(few2:zs.length<=50000)(s:Sat lo h (pt b13 (.cells x.row 42)::pt Lp B0::pP b8 xs::ru b9 zs::L))
  (k:∀h',Sat lo h' (pt Lp B0::pP b8 (xs++[x])::ru b9 (zs++[(a:Int)])::L)->J [] h'):J1 (rp b8) (rp b13) (rp b9) (.int .i64 a) J vs h:=by
 obtain⟨lv,s1⟩:=(s.p 2).Tn;have s1:=s1.open;obtain⟨av,s2⟩:=(s1.p 4).Tn;have s2:=s2.open;have s2:Sat lo h (pt b9 (.cells [av] 22)::KG av zs::pt b8 (.cells [lv] 48)::sM lv xs::pt b13 (.cells x.row 42)::pt Lp B0::L):=s2;have g8:=(s2.p 2).get;have g13:=(s2.p 4).get;have ln:=ar (s2.p 3);have an:=XU (s2.p 1);obtain⟨op,r,m,sub,cc,l,kk⟩:=x
 have e13:zd Tryz.prog 42 (rp b13) h=some (zo.val ⟨op,r,m,sub,cc,l,kk⟩):=by
  simp only[EE,Nat.reduceAdd,jY,vu,g13]
 have l9:=s2.lt
 have hb:∀n1 n2 n3 h',h.next<=n1->n1<=n2->(cut (cut (cut h' n1 n2) n2 n3) (gV lv) (gW lv)).get b9=h'.get b9:=λn1 n2 n3 h' q1 q2=>by
  rw[mi]
  have:¬(gV lv<=b9/\b9<gW lv):=by
   rw[Ic];rintro⟨q,n,c,rfl,e⟩;rcases zS (s2.f [3,0,1,2,4,5]) with⟨e2,_⟩|⟨b,c2,cs,e2,_,_,_,s3⟩
   ·cases e2
   ·cases e2;exact s3.ne e.symm
  rw[aae this,qt (by omega),qt (by omega)]
 unfold J1;simp only[EE,zu,qd,gX,g8,e13,ln];refine Ob (s2.f [3,0,1,2,4,5]) [⟨op,r,m,sub,cc,l,kk⟩] (by simp) (by show xs.length+1<=_;omega) rfl rfl (by decide) λb c h3 s3=>?_;have g9:=(s3.p 1).get;have c9:=(hb h.next (h.next+1) h3.next h3 (aaj _) (abx _)).trans g9;simp only[EE,zu,wi,uw,c9,an];have s4:Sat lo (h3.push (.cells [.int .i64 (a:Int)] 3)) (KG (.slice (some ⟨h3.next,0,none⟩) 1 3) [(a:Int)]::sM (.slice (some ⟨b,0,none⟩) (xs.length+1) c) (xs++[(⟨op,r,m,sub,cc,l,kk⟩:zo)])::pt b9 (.cells [av] 22)::KG av zs::pt b8 (.cells [lv] 48)::pt b13 (.cells (zo.row ⟨op,r,m,sub,cc,l,kk⟩) 42)::pt Lp B0::L):=KB s3 [(a:Int)] 3 (by decide);obtain⟨q,n,c',h5,e5,s5,_⟩:=bu (s4.f [3,0,1,2,4,5,6]) (j4 s4 aak) (by show zs.length+1<=_;omega);rw[e5];simp only[EE,zb6];refine zY (s5.f [4,0,1,2,3,5,6]) (by simp) rfl λh6 s6=>?_;simp only[EE,WC];refine zY (s6.f [4,0,1,2,3,5,6]) (by simp) rfl λh7 s7=>?_;have s7:Sat lo h7 (pt b9 (.cells [.slice q n c'] 22)::pt b8 (.cells [.slice (some ⟨b,0,none⟩) (xs.length+1) c] 48)::KG (.slice q n c') (zs++[(a:Int)])::KG (.slice (some ⟨h3.next,0,none⟩) 1 3) [(a:Int)]::sM (.slice (some ⟨b,0,none⟩) (xs.length+1) c) (xs++[(⟨op,r,m,sub,cc,l,kk⟩:zo)])::pt b13 (.cells (zo.row ⟨op,r,m,sub,cc,l,kk⟩) 42)::pt Lp B0::L):=s7;have s8:Sat lo h7 (pt b9 (.cells [.slice q n c'] 22)::KG (.slice q n c') (zs++[(a:Int)])::pt b8 (.cells [.slice (some ⟨b,0,none⟩) (xs.length+1) c] 48)::sM (.slice (some ⟨b,0,none⟩) (xs.length+1) c) (xs++[(⟨op,r,m,sub,cc,l,kk⟩:zo)])::pt Lp B0::L):=(s7.f [3,5,0,2,1,4,6]).drop.drop;have s9:Sat lo h7 (ru b9 (zs++[(a:Int)])::pt b8 (.cells [.slice (some ⟨b,0,none⟩) (xs.length+1) c] 48)::sM (.slice (some ⟨b,0,none⟩) (xs.length+1) c) (xs++[(⟨op,r,m,sub,cc,l,kk⟩:zo)])::pt Lp B0::L):=Sat.SD (Value.slice q n c') (Sat.close (M:=[_,_]) s8);have s10:Sat lo h7 (pP b8 (xs++[(⟨op,r,m,sub,cc,l,kk⟩:zo)])::ru b9 (zs++[(a:Int)])::pt Lp B0::L):=Sat.SD (Value.slice (some ⟨b,0,none⟩) (xs.length+1) c) (Sat.close (M:=[_,_]) (s9.f [1,2,0,3]));exact k _ (s10.f [2,0,1])
theorem Ti{Lp b8 b9 b10 mb:Nat}{A0:VQ}{s1:Env}{t0 t1 t2 t3 t6 t7 t11 t17 t18 t19 t20 t21 t22:aaa}(hl:Le (aN 84 [(0,t0),(1,t1),(2,t2),(3,t3),(6,t6),(7,t7),(8,rp b8),(9,rp b9),(10,rp b10),(11,t11),(17,t17),(18,t18),(19,t19),(20,t20),(21,t21),(22,t22)]) s1)
  (hA:A0 = {state := .ready,pending:=none,s:=s1,params:=(wR Tryz.prog 41 0).1,assign:=(wR Tryz.prog 41 0).2.1,body:=(wR Tryz.prog 41 0).2.2})
  {d:List (Nat×zo)} {a:Nat} {x:zo} {K:aaa->za->Prop} (bD:d.length<=50000) (s:Sat lo h (body Lp b8 b9 b10 mb A0 d++L)) (k:∀h',Sat lo h' (body Lp b8 b9 b10 mb A0 (d++[(a,x)])++L)->K (.bool true) h') :
  Rt Tryz.prog Lp [.int .i64 a,x.val] h K:=by
 obtain⟨s0,e0,l0⟩:=za3 (t:=23) (u:=24) (.int .i64 a) x.val hl (by decide) (by decide) rfl rfl;have g:=s.get;subst hA;refine Tq (EC (q:=qs) mixed) (n:=150) (lv:=14080) (lv':=0) (h:=h) g (s0:=s0) (by rw[ps2];exact e0) l0 rfl ?_;show zao Tryz.prog (EB Tryz.prog qs) 150 14080 0 Lp (wR Tryz.prog 41 0).2.1 (wR Tryz.prog 41 0).2.2 (aN 84 [(0,t0),(1,t1),(2,t2),(3,t3),(6,t6),(7,t7),(8,rp b8),(9,rp b9),(10,rp b10),(11,t11),(17,t17),(18,t18),(19,t19),(20,t20),(21,t21),(22,t22),(23,.int .i64 a),(24,x.val)]) h K;rw[sk];unfold nF;obtain⟨op,r,m,sub,cc,l,kk⟩:=x;simp only[EE,Value.cells,uM];refine vR s λb13 h2 s2=>?_;simp only[EE,Nat.reduceAdd,yV];refine zY s2 (by simp) rfl λh3 s3=>?_;refine⟨_,(s3.p 1).get,rfl,(s3.p 1).wr,?_⟩;have s4:=(s3.p 1).set (.loop {state := .busy,pending:=none,s:=s1,params:=(wR Tryz.prog 41 0).1,assign:=(wR Tryz.prog 41 0).2.1,body:=(wR Tryz.prog 41 0).2.2});simp only[↓zB];have s4:Sat lo _ (pt Lp (.loop {state := .busy,pending:=none,s:=s1,params:=(wR Tryz.prog 41 0).1,assign:=(wR Tryz.prog 41 0).2.1,body:=(wR Tryz.prog 41 0).2.2})::pt b13 (.cells (zo.row ⟨op,r,m,sub,cc,l,kk⟩) 42)::pP b8 (d.map Prod.snd)::ru b9 (d.map λp=>(p.1:Int))::pt b10 (.cells [.map (some mb)] 115)::pt mb (Yh (vX d))::L):=s4;generalize h3.set Lp _=h4 at s4 ⊢;have enm:vX (d++[(a,(⟨op,r,m,sub,cc,l,kk⟩:zo))])=KE (vX d) (a,⟨op,r,m,sub,cc,l,kk⟩):=by unfold vX;rw[List.foldl_append];rfl
 have g13:=(s4.p 1).get;have sJ:=(s4.p 4).get
 have tail:∀h5 vs,Sat lo h5 (pt Lp (.loop {state := .busy,pending:=none,s:=s1,params:=(wR Tryz.prog 41 0).1,assign:=(wR Tryz.prog 41 0).2.1,body:=(wR Tryz.prog 41 0).2.2})::pt b13 (.cells (zo.row ⟨op,r,m,sub,cc,l,kk⟩) 42)::pP b8 (d.map Prod.snd)::ru b9 (d.map λp=>(p.1:Int))::pt b10 (.cells [.map (some mb)] 115)::pt mb (Yh (vX (d++[(a,(⟨op,r,m,sub,cc,l,kk⟩:zo))])))::L)->J1 (rp b8) (rp b13) (rp b9) (.int .i64 a) (λvs29 h30=>Ai.Fin Lp K .normal h30) vs h5:=λh5 vs s5=>by
  refine zaV (x:=⟨op,r,m,sub,cc,l,kk⟩) (by rw[aaq];exact bD) (by rw[aaq];exact bD) (s5.f [1,0]) λh6 s6=>?_;have s7:=s6.set (.loop {state := .ready,pending:=none,s:=s1,params:=(wR Tryz.prog 41 0).1,assign:=(wR Tryz.prog 41 0).2.1,body:=(wR Tryz.prog 41 0).2.2});refine⟨_,s6.get,s6.wr,k _ ?_⟩;have e1:d.map Prod.snd++[(⟨op,r,m,sub,cc,l,kk⟩:zo)]=(d++[(a,(⟨op,r,m,sub,cc,l,kk⟩:zo))]).map Prod.snd:=by rw[aaY];rfl
  have e2:(d.map λp=>(p.1:Int))++[(a:Int)]=(d++[(a,(⟨op,r,m,sub,cc,l,kk⟩:zo))]).map λp=>(p.1:Int):=by rw[aaY];rfl
  rw[e1,e2]at s7;exact s7
 have jump:op=18\/op=19->∀J,(∀vs h5,Sat lo h5 (pt Lp (.loop {state := .busy,pending:=none,s:=s1,params:=(wR Tryz.prog 41 0).1,assign:=(wR Tryz.prog 41 0).2.1,body:=(wR Tryz.prog 41 0).2.2})::pt b13 (.cells (zo.row ⟨op,r,m,sub,cc,l,kk⟩) 42)::pP b8 (d.map Prod.snd)::ru b9 (d.map λp=>(p.1:Int))::pt b10 (.cells [.map (some mb)] 115)::pt mb (Yh (vX (d++[(a,(⟨op,r,m,sub,cc,l,kk⟩:zo))])))::L)->J vs h5)->gi (rp b10) h4 (rp b13) J:=λho J hJ=>by
  have up:=rX (v := .bool true) ktN kt3 (s4.p 5).get (s4.p 5).wr l;have e:vX (d++[(a,(⟨op,r,m,sub,cc,l,kk⟩:zo))])=ZN (vX d) l (.bool true):=by rw[enm];exact aah ho
  unfold gi;simp only[EE,zu,oD,zg,xw,sJ,g13,up];refine hJ _ _ ?_;rw[e];exact((s4.p 5).set (Yh (ZN (vX d) l (.bool true)))).f [1,2,3,4,5,0]
 unfold tM;by_cases o18:op=18
 ·simp only[EE,zu,zg,zc,J2,g13,o18];subst o18;exact jump (.inl rfl) _ λvs h5 s5=>tail h5 vs s5
 by_cases o19:op=19
 ·simp only[EE,Int.reduceEq,zu,zg,zc,J2,g13,o19];subst o19;exact jump (.inr rfl) _ λvs h5 s5=>tail h5 vs s5
 simp only[EE,zu,zg,zc,J2,g13,o18,o19];refine tail h4 _ ?_;have e:vX (d++[(a,(⟨op,r,m,sub,cc,l,kk⟩:zo))])=vX d:=by rw[enm];exact aae (λq=>q.elim o18 o19)
 rw[e];exact s4
end
open Go.As (hasB)
def W0(a:Nat):zo:=⟨20,0,0,0,0,(a:Int),0⟩
def Q7(m:List (Int×aaa))(a:Nat):List zo:=if hasB m a=true then [W0 a] else []
def jH(m:List (Int×aaa))(a:Nat):List (Int×aaa):=if hasB m a=true then eQ m a else m
def Ke:List (Nat×zo)->Nat->List (Int×aaa)->List zo×List (Int×aaa)
 |[],to,m=>(Q7 m to,jH m to)
 |p::d,to,m=>(Q7 m p.1++p.2::(Ke d to (jH m p.1)).1,(Ke d to (jH m p.1)).2)
def AM(st gl code:List Int)(fr to:Nat):Option (List zo) :=
 if (qh st gl code to (to-fr) fr).2=to then (if (Ke (qh st gl code to (to-fr) fr).1 to (vX (qh st gl code to (to-fr) fr).1)).2.length=0 then some (Ke (qh st gl code to (to-fr) fr).1 to (vX (qh st gl code to (to-fr) fr).1)).1 else none) else none
section
variable {lo:yH}{h:za}{L:List HP}{st gl code:List Int}{cv sv gv:aaa}{mn pn:Int}{to:Nat}
theorem zbF{fr be:Nat}(cn:zR cv=false)(sn:zR sv=false)(gn:zR gv=false)(cc:xX cv=true)(sc:xX sv=true)(gc:xX gv=true)(s:Sat lo h L) :
  DC Tryz.prog 45 [sL cv sv gv mn pn,.int .i64 fr,.int .i64 to,rp be] h (λv h'=>∃b5 b6 b4 b7,v=.func (.func 82) #[] #[rp b5,rp b6,rp b4,rp b7]/\Sat lo h' (pt b7 (.cells [rp be] 95)::pt b6 (.cells [.int .i64 to] 3)::pt b5 (.cells [.int .i64 fr] 3)::pt b4 (.cells (Zd cv sv gv mn pn) 31)::L)):=by
 apply LJ;unfold NO;simp only[EE,Value.cells];refine vR s λb4 h2 s2=>?_;refine vR s2 λb5 h3 s3=>?_;refine vR s3 λb6 h4 s4=>?_;refine vR s4 λb7 h5 s5=>?_;simp only[EE,abv];exact⟨b5,b6,b4,b7,rfl,s5⟩
theorem SW{b5 b6 b4 b7 be b8 b9 b10 mb fr:Nat}{t0 t1 t2 t3 t6 t7 t11 t17 t18 t19 t20 t21 t22:aaa}{sP ret:za->Prop}{ext:Nat->za->Prop}(I:Be lo cv sv gv code st gl)(bl:xa code)(hto:to<=code.length)(hc:code.length<=50000)(hfr:fr<=to)
  (s:Sat lo h (pt be (.cells [.int .i64 fr] 3)::pt b5 (.cells [.int .i64 fr] 3)::pt b6 (.cells [.int .i64 to] 3)::pt b4 (.cells (Zd cv sv gv mn pn) 31)::pt b7 (.cells [rp be] 95)::pP b8 []::ru b9 []::pt b10 (.cells [.map (some mb)] 115)::pt mb (Yh [])::L))
  (k:∀h',Sat lo h' (pt be (.cells [.int .i64 (qh st gl code to (to-fr) fr).2] 3)::pP b8 ((qh st gl code to (to-fr) fr).1.map Prod.snd)::ru b9 ((qh st gl code to (to-fr) fr).1.map λp=>(p.1:Int))::pt b10 (.cells [.map (some mb)] 115)::pt mb (Yh (vX (qh st gl code to (to-fr) fr).1))::L)->sP h') :
  RF Tryz.prog (.func (.func 82) #[] #[rp b5,rp b6,rp b4,rp b7]) (wR Tryz.prog 41 0).1 (wR Tryz.prog 41 0).2.1 (wR Tryz.prog 41 0).2.2 (aN 84 [(0,t0),(1,t1),(2,t2),(3,t3),(6,t6),(7,t7),(8,rp b8),(9,rp b9),(10,rp b10),(11,t11),(17,t17),(18,t18),(19,t19),(20,t20),(21,t21),(22,t22)]) h sP ret ext:=by
 refine⟨by kernel_rfl,λs1 hl=>?_⟩;generalize hA:({state := .ready,pending:=none,s:=s1,params:=(wR Tryz.prog 41 0).1,assign:=(wR Tryz.prog 41 0).2.1,body:=(wR Tryz.prog 41 0).2.2}:VQ)=A0;have s2:=s.push (.loop A0);have s3:Sat lo (h.push (.loop A0)) (pt be (.cells [.int .i64 fr] 3)::pt b5 (.cells [.int .i64 fr] 3)::pt b6 (.cells [.int .i64 to] 3)::pt b4 (.cells (Zd cv sv gv mn pn) 31)::pt b7 (.cells [rp be] 95)::(body h.next b8 b9 b10 mb A0 []++L)):=s2.f [1,2,3,4,5,0,6,7,8,9];refine(To (f:=to-fr) (Lp:=h.next) (Body:=λd=>body h.next b8 b9 b10 mb A0 d++L) I bl hto (by omega) (λd a x e h5 K hd ha s5 hk=>?_) s3).mono ?_
 ·refine Ti (L:=pt be (.cells [.int .i64 e] 3)::pt b5 (.cells [.int .i64 fr] 3)::pt b6 (.cells [.int .i64 to] 3)::pt b4 (.cells (Zd cv sv gv mn pn) 31)::pt b7 (.cells [rp be] 95)::L) hl hA.symm (by omega) (s5.f [5,6,7,8,9,0,1,2,3,4]) λh' s'=>hk h' (s'.f [5,6,7,8,9,0,1,2,3,4])
 ·rintro v h1 s4;have s5:=s4.f [5];refine⟨A0,s5.get,by rw[<- hA];rfl,s5.wr,.normal,by rw[<- hA];rfl,?_⟩;have s6:=s5.forget none;exact k _ (s6.f [1,2,3,4,0,5,6,7,8]).drop.drop.drop.drop
end
def cL(m:List (Int×aaa)):Prop := ∀p,p∈m->p.2=.bool true
theorem oE:∀{m:List (Int×aaa)} {k:Int},cL m->cL (eQ m k)
 |[],_,h=>h
 |(a,v)::m,k,h=>by
  unfold eQ;split
  ·exact λp hp=>h p (aar _ hp)
  ·intro p hp;rcases aaz.1 hp with rfl|hp
   ·exact h _ aak
   ·exact oE (λp hp=>h p (aar _ hp)) p hp
theorem D4:∀{m:List (Int×aaa)} {k:Int},cL m->cL (ZN m k (.bool true))
 |[],_,h=>λp hp=>by rw[aat.1 hp]
 |(a,v)::m,k,h=>by
  unfold ZN;split
  ·intro p hp;rcases aaz.1 hp with rfl|hp
   ·rfl
   ·exact h p (aar _ hp)
  ·intro p hp;rcases aaz.1 hp with rfl|hp
   ·exact h _ aak
   ·exact D4 (λp hp=>h p (aar _ hp)) p hp
theorem QQ(d:List (Nat×zo)):cL (vX d):=by
 unfold vX
 have:∀(d:List (Nat×zo)) m,cL m->cL (d.foldl KE m):=λd=>by
  induction d with
  |nil=>exact λm h=>h
  |cons p d ih=>
   intro m h;refine ih _ ?_;unfold KE;split
   ·exact D4 h
   ·exact h
 exact this d [] λp hp=>by cases hp
theorem pG:∀{m:List (Int×aaa)} {k:Int} {v:aaa},ZJ m k=some v->(k,v)∈m
 |[],_,_,h=>by cases h
 |(a,w)::m,k,v,h=>by
  unfold ZJ at h;split at h
  ·rename_i e;cases h;subst e;exact aak
  ·exact aar _ (pG h)
theorem BW{m:List (Int×aaa)}(h:cL m)(k:Int):(ZJ m k).getD (.bool false)=.bool (hasB m k)/\(hasB m k=true->ZJ m k=some (.bool true)):=by
 unfold hasB;cases hg:ZJ m k with
 |none=>exact⟨rfl,λq=>by cases q⟩
 |some v=>
  have:=h _ (pG hg);have:v=.bool true:=this;subst this;exact⟨rfl,λ_=>rfl⟩
def G9(d:List (Nat×zo))(to k:Nat)(m:List (Int×aaa)):List zo×List (Int×aaa):=if k<=d.length then Ke (d.drop k) to m else ([],m)
section
variable {lo:yH}{h:za}{L:List HP}{st gl code:List Int}{cv sv gv:aaa}{mn pn:Int}{to:Nat}
abbrev MN(ov lv av:aaa)(out xs:List zo)(zs:List Int)(b8 b9 b10 mb:Nat)(es:List Z7)(q:Nat)(L:List HP):List HP:=sM ov out::pt b8 (.cells [lv] 48)::sM lv xs::pt b9 (.cells [av] 22)::KG av zs::pt b10 (.cells [.map (some mb)] 115)::pt mb (.map es q)::L
theorem zbD{ov lv av:aaa}{out:List zo}{d:List (Nat×zo)}{b8 b9 b10 mb k a q:Nat}{es:List Z7}{m:List (Int×aaa)}{J:List aaa->za->Prop}(hk:k<=d.length)(hd:d.length<=40000)(ho:out.length<=2*k)(ha:(d.map (λp=>(p.1:Int))++[(to:Int)])[k]? = some (a:Int))(K:Ze es m)(T:cL m)
  (s:Sat lo h (MN ov lv av out (d.map Prod.snd) (d.map (λp=>(p.1:Int))++[(to:Int)]) b8 b9 b10 mb es q L))
  (kk:∀ov' es' h',Ze es' (jH m a)->Sat lo h' (MN ov' lv av (out++Q7 m a++(d.map Prod.snd)[k]?.toList) (d.map Prod.snd) (d.map (λp=>(p.1:Int))++[(to:Int)]) b8 b9 b10 mb es' q L)->J [ov',.int .i64 ((k+1:Nat):Int)] h') :
  cm av [ov,.int .i64 k] h (rp b10) (rp b8) (Vf [ov,.int .i64 k] J):=by
 have hin:=inc (show k<4611686018427387904 by omega);have A:=Go.Ee.j4 (s.f [4]) aak;obtain⟨b1,o1,c1,t1,a1,_,a2,a3⟩:=Go.As.qu (Go.Rtl.fT A) ha;have sJ:=(s.p 5).get;have lk:=Pe (P:=Tryz.prog) ktN kt3 zrN (s.p 6).get K (a:Int);rw[(BW T a).1]at lk;unfold cm
 have half:∀(ov':aaa) (out':List zo) (es':List Z7) h1 vs,out'=out++Q7 m a->Ze es' (jH m a)->vs=[ov']->Sat lo h1 (MN ov' lv av out' (d.map Prod.snd) (d.map (λp=>(p.1:Int))++[(to:Int)]) b8 b9 b10 mb es' q L)->gq (rp b8) [ov,.int .i64 k] (Vf [ov,.int .i64 k] J) vs h1:=by
  rintro ov' out' es' h1 vs rfl K' rfl s1;have g8:=(s1.p 1).get;have X1:=EW (s1.f [2]) aak;have lx:=λr h'=>x8 X1 r h';have ln:=ar (s1.p 2);have on:=ar s1
  have sz:(out++Q7 m a).length<=2*k+1:=by
   rw[aaB];unfold Q7;split
   ·show out.length+1<=_;omega
   ·show out.length+0<=_;omega
  unfold gq;rw[aaq]at lx;by_cases hc:(k:Int)<(d.length:Int)
  ·obtain⟨x,hx⟩:∃x,(d.map Prod.snd)[k]? = some x:=⟨_,aag (by rw[aaq];omega)⟩;obtain⟨bi,oi,ci,ti,hi,hbi,hgi,hle,htk,_⟩:=vp X1 (i:=k) (r:=x.row) (by rw[aay,hx];rfl) rfl;have ex:Value.agg x.row.toArray=x.val:=rfl;simp only[EE,nth,jY,zu,vu,qd,gX,tP,g8,lx,ln,hc,hi,hgi,hle,htk,ex,on];refine Ob s1 [x] (by simp) (by show _+1<=_;omega) rfl rfl (by decide) λb c h3 s3=>?_;simp only[EE,nth,Vf,hin];refine kk _ es' _ K' ?_;rw[hx];exact s3
  ·have hx:(d.map Prod.snd)[k]? = none:=aas (by rw[aaq];omega);simp only[EE,nth,zu,qd,Vf,g8,lx,ln,hc,hin];refine kk _ es' _ K' ?_;rw[hx];show Sat lo _ (MN ov' lv av (out++Q7 m a++[]) _ _ _ _ _ _ _ _ _);rw[abm];exact s1
 have an:=XU (s.p 4);have on:=ar s;cases hh:hasB m a with
 |false=>
  rw[hh]at lk;have eL:Q7 m a=[]:=by unfold Q7;rw[aae (by rw[hh];decide)]
  have eM:jH m a=m:=by unfold jH;rw[aae (by rw[hh];decide)]
  simp only[EE,nth,zu,oD,zg,a1,a2,a3,sJ,lk];exact half ov out es _ _ (by rw[eL,abm]) (by rw[eM];exact K) rfl s
 |true=>
  rw[hh]at lk;have eL:Q7 m a=[W0 a]:=by unfold Q7;rw[aah hh]
  have eM:jH m a=eQ m a:=by unfold jH;rw[aah hh]
  simp only[EE,nth,zu,oD,zg,a1,a2,a3,sJ,lk];unfold tO;simp only[EE,nth,zu,oD,L5,gX,on];refine Ob s [W0 a] (by simp) (by show _+1<=_;omega) rfl rfl (by decide) λb c h3 s3=>?_;have sJ:=(s3.p 5).get;obtain⟨es',K',ed⟩:=OC (P:=Tryz.prog) ktN kt3 (s3.p 6).get (s3.p 6).wr K ((BW T a).2 hh) [3] 0;simp only[EE,sJ,ed];have s4:=((s3.p 6).set (.map es' q)).f [1,2,3,4,5,6,0];exact half (.slice (some ⟨b,0,none⟩) (out.length+1) c) (out++[W0 a]) es' _ _ (by rw[eL]) (by rw[eM];exact K') rfl s4
theorem MO{d:List (Nat×zo)}{k a:Nat}{m:List (Int×aaa)}(hk:k<=d.length)(ha:(d.map (λp=>(p.1:Int))++[(to:Int)])[k]? = some (a:Int)):G9 d to k m=(Q7 m a++(d.map Prod.snd)[k]?.toList++(G9 d to (k+1) (jH m a)).1,(G9 d to (k+1) (jH m a)).2):=by
 unfold G9;rw[aah hk];rcases aaI k d.length with hlt|hge
 ·rw[aah (by omega),abB hlt];rw[aa2 (by rw[aaq];exact hlt),aay,aag hlt,abn,aab]at ha;have ha:d[k].1=a:=by omega
  rw[aay,aag hlt];show(Q7 m d[k].1++d[k].2::_,_)=(Q7 m a++[d[k].2]++_,_);rw[ha,aa4];rfl
 ·have:k=d.length:=by omega
  subst this;rw[aae (by omega),List.drop_length];rw[aaZ (by rw[aaq];omega),aaq,acw]at ha
  have ha:to=a:=by
   have:(to:Int)=a:=by simpa using ha
   omega
  subst ha;rw[aas (by rw[aaq];omega)];show(Q7 m to,jH m to)=(Q7 m to++[]++[],jH m to);rw[abm,abm]
theorem zcX{lv av:aaa}{d:List (Nat×zo)}{b8 b9 b10 mb q:Nat}{es:List Z7}{m:List (Int×aaa)}{R:aaa->za->Prop}{vs:List aaa}(hd:d.length<=40000)(K:Ze es m)(T:cL m)
  (s:Sat lo h (pt b8 (.cells [lv] 48)::sM lv (d.map Prod.snd)::pt b9 (.cells [av] 22)::KG av (d.map λp=>(p.1:Int))::pt b10 (.cells [.map (some mb)] 115)::pt mb (.map es q)::L))
  (kk:∀ov h',Sat lo h' (sM ov (Ke d to m).1::L)->R (xV [ov,.bool (decide ((Ke d to m).2.length=0))]) h') :
  cq (rp b9) (.int .i64 to) (rp b10) (rp b8) R vs h:=by
 have g9:=(s.p 2).get;have an:=XU (s.p 3);unfold cq;simp only[EE,zu,wi,uw,g9,an];have s4:Sat lo (h.push (.cells [.int .i64 (to:Int)] 3)) (KG (.slice (some ⟨h.next,0,none⟩) 1 3) [(to:Int)]::pt b8 (.cells [lv] 48)::sM lv (d.map Prod.snd)::pt b9 (.cells [av] 22)::KG av (d.map λp=>(p.1:Int))::pt b10 (.cells [.map (some mb)] 115)::pt mb (.map es q)::L):=KB s [(to:Int)] 3 (by decide);obtain⟨q2,n2,c',h5,e5,s5,_⟩:=bu (s4.f [4,0,1,2,3,5,6]) (j4 s4 aak) (by rw[aaq];show d.length+1<=_;omega);rw[e5];simp only[EE,WC];refine zY (s5.f [4,0,1,2,3,5,6]) (by simp) rfl λh6 s6=>?_;have s6:Sat lo h6 (pt b9 (.cells [.slice q2 n2 c'] 22)::KG (.slice q2 n2 c') (d.map (λp=>(p.1:Int))++[(to:Int)])::KG (.slice (some ⟨h.next,0,none⟩) 1 3) [(to:Int)]::pt b8 (.cells [lv] 48)::sM lv (d.map Prod.snd)::pt b10 (.cells [.map (some mb)] 115)::pt mb (.map es q)::L):=s6;have g9:=s6.get;have ln:=λr h'=>vq (Go.Rtl.fT (j4 (s6.f [1]) aak)) r h';have hl:(d.map (λp=>(p.1:Int))++[(to:Int)]).length=d.length+1:=by rw[aaB,aaq];rfl
 rw[hl]at ln;simp only[EE,↓zB,zu,wi,g9,ln,↓zB];have s7:Sat lo h6 (MN (.slice none 0 0) lv (.slice q2 n2 c') [] (d.map Prod.snd) (d.map (λp=>(p.1:Int))++[(to:Int)]) b8 b9 b10 mb es q L):=Go.Rm.xO _ _ ((s6.f [2]).drop.f [2,3,0,1,4,5]);refine kW (λn vs h'=>∃(k:Nat) (ov:aaa) (out:List zo) (es':List Z7) (m':List (Int×aaa)),k<=d.length+1/\n=d.length+1-k/\vs=[ov,.int .i64 k]/\Ze es' m'/\cL m'/\out.length<=2*k/\out++(G9 d to k m').1=(Ke d to m).1/\(G9 d to k m').2=(Ke d to m).2/\Sat lo h' (MN ov lv (.slice q2 n2 c') out (d.map Prod.snd) (d.map (λp=>(p.1:Int))++[(to:Int)]) b8 b9 b10 mb es' q L)) (d.length+1) ⟨0,_,[],es,m,aaS _,rfl,rfl,K,T,aaj _,rfl,rfl,s7⟩ ?_;rintro n vs h1 ⟨k,ov,out,es',m',hk,rfl,rfl,K',T',ho,h2,h3,s1⟩;unfold nC;by_cases hc:(k:Int)<((d.length+1:Nat):Int)
 ·have hk2:k<=d.length:=by omega
  obtain⟨z,hz⟩:∃z,(d.map (λp=>(p.1:Int))++[(to:Int)])[k]? = some z:=⟨_,aag (by rw[hl];omega)⟩
  obtain⟨a,rfl⟩:∃a:Nat,z=a:=by
   have:=aax hz;rcases aaD.1 this with q|q
   ·obtain⟨p,_,rfl⟩:=aa0.1 q;exact⟨p.1,rfl⟩
   ·exact⟨to,aat.1 q⟩
  have st:=MO (m:=m') hk2 hz;rw[st]at h2 h3;simp only[EE,nth,↓zB,hc,↓zB];refine zbD hk2 hd ho hz K' T' s1 λov2 es2 h4 K2 s2=>?_;refine⟨d.length+1-(k+1),by omega,k+1,ov2,_,es2,jH m' a,by omega,rfl,rfl,K2,?_,?_,?_,h3,s2⟩
  ·unfold jH;split
   ·exact oE T'
   ·exact T'
  ·rw[aaB,aaB];have e1:(Q7 m' a).length<=1:=by unfold Q7;split <;> simp
   have e2:((d.map Prod.snd)[k]?.toList).length<=1:=by cases (d.map Prod.snd)[k]? <;> simp
   omega
  ·rw[<- h2,aa4,aa4,aa4]
 ·have:k=d.length+1:=by omega
  subst this;unfold G9 at h2 h3;rw[aae (by omega)]at h2 h3;have h2:out++[]=(Ke d to m).1:=h2;have h3:m'=(Ke d to m).2:=h3;rw[abm]at h2;subst h2 h3;have sJ:=(s1.p 5).get;have ml:=λr=>Pl (P:=Tryz.prog) ktN (s1.p 6).get K' r;have on:=ar s1;have hz:∀z:Nat,decide ((z:Int)=0)=decide (z=0):=λz=>by simp
  simp only[EE,nth,zu,oD,nD,hc,sJ,ml,on,hz];exact kk ov _ (s1.f [1,2,3,4,5,6,0]).drop.drop.drop.drop.drop.drop
end
section
variable {lo:yH}{h:za}{L:List HP}{st gl code:List Int}{cv sv gv:aaa}{mn pn:Int}{fr to:Nat}
theorem mk1(h:za):(wV h).1=.map (some h.next):=rfl
theorem mk2(h:za):(wV h).2=h.push (Yh []):=rfl
theorem Lq:∀(f a:Nat),(qh st gl code to f a).1.length<=f
 |0,a=>aaj _
 |f+1,a=>by
  unfold qh;split
  ·split
   ·split
    ·exact Nat.succ_le_succ (Lq f _)
    ·exact aaS _
   ·exact aaS _
  ·exact aaS _
def Tx(lo:yH)(L:List HP)(o:Option (List zo))(v:aaa)(h':za):Prop:=match o with
 |some xs=>∃ov,v=xV [ov,.bool true]/\Sat lo h' (sM ov xs::L)
 |none=>∃ov,v=xV [ov,.bool false]/\zR ov=false/\xX ov=true/\Sat lo h' L
theorem za7(I:Be lo cv sv gv code st gl)(bl:xa code)(hto:to<=code.length)(hc:code.length<=40000)(hfr:fr<=to)(s:Sat lo h L) :
  DC Tryz.prog 41 [sL cv sv gv mn pn,.int .i64 fr,.int .i64 to] h (Tx lo L (AM st gl code fr to)):=by
 have cn:=I.cn;have sn:=I.sn;have gn:=I.gn;have cc:=I.cc;have sc:=I.sc;have gc:=I.gc;apply F6;unfold H0;simp only[EE,Value.cells,zaw,zb8,zb9];refine vR s λb3 h2 s2=>?_;refine vR s2 λb8 h4 s4=>?_;refine vR s4 λb9 h6 s6=>?_;simp only[EE,mk1,mk2];have s7:=s6.push (Yh []);refine vR s7 λb10 h8 s8=>?_;simp only[zat];refine zY s8 (by simp) rfl λh10 s10=>?_;simp only[EE,Value.cells,zdg];refine vR s10 λb11 h12 s12=>?_;simp only[U6];refine zY s12 (by simp) rfl λh14 s14=>?_;have s14:Sat lo h14 (pt b11 (.cells [.int .i64 fr] 3)::pt b10 (.cells [.map (some h6.next)] 115)::pt h6.next (Yh [])::pt b9 (.cells [.slice none 0 0] 22)::pt b8 (.cells [.slice none 0 0] 48)::pt b3 (.cells (Zd cv sv gv mn pn) 31)::L):=s14;have g3:=(s14.p 5).get
 have e3:zd Tryz.prog 31 (rp b3) h14=some (sL cv sv gv mn pn):=by
  simp only[EE,Nat.reduceAdd,jY,Xk,g3]
 simp only[EE,e3];refine sE (by simp only[yk];rfl) (zbF (be:=b11) cn sn gn cc sc gc s14) ?_;rintro v h15 ⟨b5,b6,b4,b7,rfl,s15⟩;simp only[↓zB];unfold tN;simp only[mk1];have s16:Sat lo h15 (pP b8 []::pt b7 (.cells [rp b11] 95)::pt b6 (.cells [.int .i64 to] 3)::pt b5 (.cells [.int .i64 fr] 3)::pt b4 (.cells (Zd cv sv gv mn pn) 31)::pt b11 (.cells [.int .i64 fr] 3)::pt b10 (.cells [.map (some h6.next)] 115)::pt h6.next (Yh [])::pt b9 (.cells [.slice none 0 0] 22)::pt b3 (.cells (Zd cv sv gv mn pn) 31)::L):=Sat.SD (Value.slice none 0 0) (Sat.close (M:=[_,_]) ((Go.Rm.xO 42 7 (s15.f [8])).f [1,0]));have s17:Sat lo h15 (ru b9 []::pP b8 []::pt b7 (.cells [rp b11] 95)::pt b6 (.cells [.int .i64 to] 3)::pt b5 (.cells [.int .i64 fr] 3)::pt b4 (.cells (Zd cv sv gv mn pn) 31)::pt b11 (.cells [.int .i64 fr] 3)::pt b10 (.cells [.map (some h6.next)] 115)::pt h6.next (Yh [])::pt b3 (.cells (Zd cv sv gv mn pn) 31)::L):=Sat.SD (Value.slice none 0 0) (Sat.close (M:=[_,_]) ((Go.Rm.xO 3 1 (s16.f [8])).f [1,0]));refine SW I bl hto (by omega) hfr (s17.f [6,4,3,5,2,1,0,7,8]) λh18 s18=>?_;unfold nE;have g11:=s18.get;unfold Tx AM;have hwl:=Lq (st:=st) (gl:=gl) (code:=code) (to:=to) (to-fr) fr;generalize qh st gl code to (to-fr) fr=w at s18 g11 hwl ⊢;obtain⟨d,e⟩:=w;by_cases he:e=to
 ·subst he;have c0:(!decide ((e:Int)=(e:Int)))=false:=by simp
  simp only[EE,zu,zg,g11];obtain⟨lv,s19⟩:=(s18.p 1).Tn;have s19:=s19.open;obtain⟨av,s20⟩:=(s19.p 3).Tn;have s20:=s20.open;have s20:Sat lo h18 (pt b9 (.cells [av] 22)::KG av (d.map λp=>(p.1:Int))::pt b8 (.cells [lv] 48)::sM lv (d.map Prod.snd)::pt b11 (.cells [.int .i64 e] 3)::pt b10 (.cells [.map (some h6.next)] 115)::pt h6.next (Yh (vX d))::pt b3 (.cells (Zd cv sv gv mn pn) 31)::L):=s20;refine zcX (by show d.length<=_;have:d.length<=e-fr:=hwl;omega) (IJ 0 _) (QQ d) (s20.f [2,3,0,1,5,6,4,7]) λov h21 s21=>?_;by_cases h0:(Ke d e (vX d)).2.length=0
  ·rw[aah h0];refine⟨ov,by rw[aa1 h0],(s21.f [1,2]).drop.drop⟩
  ·rw[aae h0];exact⟨ov,by rw[aaT h0],ar s21,xx s21,s21.drop.drop.drop⟩
 ·have ne:¬(e:Int)=(to:Int):=by omega
  have c0:(!decide ((e:Int)=(to:Int)))=true:=by simp[ne]
  simp only[EE,zu,zg,g11,c0]
  show match (if e=to then _ else none:Option (List zo)) with
   |some xs=>_
   |none=>_
  rw[aae he];exact⟨_,rfl,rfl,rfl,(s18.f [0,1,2,3,4,5]).drop.drop.drop.drop.drop.drop⟩
end
open Go.Rtl (Km VG)
open Go.Rm (Z4)
open Go.Ar (Rx SU pD)
open Go.Ee (BF mG mB)
theorem zce{n:Nat}(hn:n<10):∃s t:ByteArray,(∀h,vw Tryz.prog 42 [.int .i64 n] h (.string s))/\zT Tryz.prog .add 9 (.const (.string ⟨#[102]⟩)) (.tmp 92) (.string ⟨#[102]⟩) (.string s)=some (.string t):=by
 have all:∃s t:ByteArray,(∀H,w9 Tryz.prog 21 9 (.int .i32 (48+(n:Int))) H=some (.string s,H))/\zT Tryz.prog .add 9 (.const (.string ⟨#[102]⟩)) (.tmp 92) (.string ⟨#[102]⟩) (.string s)=some (.string t):=by
  match n,hn with
  |0,_=>exact⟨⟨#[48]⟩,⟨#[102,48]⟩,λH=>by kernel_rfl,by kernel_rfl⟩
  |1,_=>exact⟨⟨#[49]⟩,⟨#[102,49]⟩,λH=>by kernel_rfl,by kernel_rfl⟩
  |2,_=>exact⟨⟨#[50]⟩,⟨#[102,50]⟩,λH=>by kernel_rfl,by kernel_rfl⟩
  |3,_=>exact⟨⟨#[51]⟩,⟨#[102,51]⟩,λH=>by kernel_rfl,by kernel_rfl⟩
  |4,_=>exact⟨⟨#[52]⟩,⟨#[102,52]⟩,λH=>by kernel_rfl,by kernel_rfl⟩
  |5,_=>exact⟨⟨#[53]⟩,⟨#[102,53]⟩,λH=>by kernel_rfl,by kernel_rfl⟩
  |6,_=>exact⟨⟨#[54]⟩,⟨#[102,54]⟩,λH=>by kernel_rfl,by kernel_rfl⟩
  |7,_=>exact⟨⟨#[55]⟩,⟨#[102,55]⟩,λH=>by kernel_rfl,by kernel_rfl⟩
  |8,_=>exact⟨⟨#[56]⟩,⟨#[102,56]⟩,λH=>by kernel_rfl,by kernel_rfl⟩
  |9,_=>exact⟨⟨#[57]⟩,⟨#[102,57]⟩,λH=>by kernel_rfl,by kernel_rfl⟩
 obtain⟨s,t,hs,ht⟩:=all;refine⟨s,t,?_,ht⟩;refine(λh=>vw.of rfl ?_);generalize h.lock=H;apply ND;unfold TG;have hc:(n:Int)<10:=by omega
 have wd:IntKind.wrap .i64 (48+(n:Int))=48+n:=by simp only[IntKind.wrap,IntKind.bits,IntKind.signed];simp;omega
 have w2:IntKind.wrap .i32 (48+(n:Int))=48+n:=by simp only[IntKind.wrap,IntKind.bits,IntKind.signed];simp;omega
 simp only[EE,RY,HG,hc,wd,w2,hs H]
open Go.Rtl (FV)
section
variable {lo:yH}{h:za}{L:List HP}{gl code:List Int}{cv sv gv:aaa}{mn pn:Int}{sts:List Nat}{cs:Nat->List zo}
theorem zam(I:Be lo cv sv gv code (sts.map λ(n:Nat)=>(n:Int)) gl)(bl:xa code)(hc:code.length<=40000)(hn:sts.length<=9)(m0:0<=mn)(m1:mn<sts.length)
  (hs:∀k s e,sts[k]? = some s->(sts++[code.length])[k+1]? = some e->(k=0->s=0)/\s<e/\e<=code.length/\AM (sts.map λ(n:Nat)=>(n:Int)) gl code s e=some (cs k)) (s:Sat lo h L) :
  DC Tryz.prog 18 [sL cv sv gv mn pn] h (λv h'=>∃q:Pg,v=.tuple #[q.val,.int .i64 0]/\q.globals=gl/\q.main=mn/\q.params=pn/\q.funcs.map Go.As.Fn.code=(List.range sts.length).map cs/\Sat lo h' (SU q::L)):=by
 have cn:=I.cn;have sn:=I.sn;have gn:=I.gn;have cc:=I.cc;have sc:=I.sc;have gc:=I.gc;apply LA;unfold Nv;simp only[EE,Value.cells,Ok];refine vR s λb1 h2 s2=>?_;simp only[EE,zu,zg,BQ];refine vR s2 λb2 h4 s4=>?_;have g1:=(s4.p 1).get;have ls:=λr h'=>vq (I.rs.at s4) r h';rw[aaq]at ls;have c1:¬mn<0:=by omega
 have c2:¬mn ≥ (sts.length:Int):=by omega
 simp only[EE,zu,wi,zg,u7,BQ,tu,tA,tB,g1,sn,ls,c1,c2];have l1:=(s4.p 1).lt;have s5:=KB s4 [] 2 (by decide);have gc1:∀t,(cut (h4.push (.cells [] 3)) h4.next t).get b1=some (.cells (Zd cv sv gv mn pn) 31):=λt=>by rw[qt l1,yR l1];exact g1
 unfold tt;simp only[EE,zu,wi,qK,u7,gc1];refine BF s5 (λb hb=>?_) (mB (I.rs.at s5)) (by rw[aaq];show 0+sts.length<=_;omega) sn λa n c h6 s6=>?_
 ·have:b=h4.next:=aat.1 hb;omega
 have s6:Sat lo h6 (KG (.slice a n c) (sts.map λ(n:Nat)=>(n:Int))::pt b2 (.cells [.slice none 0 0,.slice none 0 0,.int .i64 0,.int .i64 0] 25)::pt b1 (.cells (Zd cv sv gv mn pn) 31)::L):=s6;have g6:=(s6.p 2).get
 have gm:∀N M:Nat,h4.next<=N->(cut (cut h6 h4.next N) N M).get b1=some (.cells (Zd cv sv gv mn pn) 31):=λN M hN=>by
  rw[qt (by omega),qt l1];exact g6
 have gm1:=gm (h4.next+1) h6.next (by omega);have lnc:=λr h'=>ye (I.rc.at s6) r h';unfold tq;simp only[EE,zu,jE,uw,uF,gm1,cn,lnc];have s7:Sat lo (h6.push (.cells [.int .i64 (code.length:Int)] 3)) (KG (.slice (some ⟨h6.next,0,none⟩) 1 3) [(code.length:Int)]::KG (.slice a n c) (sts.map λ(n:Nat)=>(n:Int))::pt b2 (.cells [.slice none 0 0,.slice none 0 0,.int .i64 0,.int .i64 0] 25)::pt b1 (.cells (Zd cv sv gv mn pn) 31)::L):=KB s6 [(code.length:Int)] 3 (by decide);obtain⟨a2,n2,c2',h8,e8,s8,_⟩:=bu (s7.f [1,0]) (j4 s7 aak) (by rw[aaq];show sts.length+1<=_;omega);rw[e8];have s8:Sat lo h8 (pt b1 (.cells (Zd cv sv gv mn pn) 31)::pt b2 (.cells [.slice none 0 0,.slice none 0 0,.int .i64 0,.int .i64 0] 25)::KG (.slice a2 n2 c2') ((sts.map λ(n:Nat)=>(n:Int))++[(code.length:Int)])::L):=(s8.f [1,3,2,0]).drop;have g1:=s8.get;have ls:=λr h'=>vq (I.rs.at s8) r h';rw[aaq]at ls;simp only[EE,nth,↓zB,zu,wi,u7,g1,sn,ls,↓zB];have ES:=λ{h':za} {M:List HP} (s':Sat lo h' (KG (.slice a2 n2 c2') ((sts.map λ(n:Nat)=>(n:Int))++[(code.length:Int)])::M))=>Go.Rtl.fT (j4 s' aak);refine kW (λm vs h'=>∃k:Nat,k<=sts.length/\m=sts.length-k/\vs=[.int .i64 0,.int .i64 k]/\h'=h8) sts.length ⟨0,aaS _,rfl,rfl,rfl⟩ ?_;rintro m vs h9 ⟨k,hk,rfl,rfl,rfl⟩;unfold sY;by_cases hlt:(k:Int)<(sts.length:Int)
 ·have hlt':k<sts.length:=by omega
  obtain⟨z,hz⟩:∃z,sts[k]? = some z:=⟨_,aag hlt'⟩;obtain⟨e,he⟩:∃e,(sts++[code.length])[k+1]? = some e:=⟨_,aag (by rw[aaB];show k+1<sts.length+1;omega)⟩;obtain⟨q1,q2,q3,_⟩:=hs k z e hz he;have ee:(sts.map λ(n:Nat)=>(n:Int))++[(code.length:Int)]=(sts++[code.length]).map λ(n:Nat)=>(n:Int):=by rw[aaY];rfl
  obtain⟨b3,o3,cc3,t3,x1,_,x2,x3⟩:=qu (I.rs.at s8) (i:=k) (z:=(z:Int)) (by rw[aay,hz];rfl);obtain⟨b4,o4,cc4,t4,y1,_,y2,y3⟩:=qu (ES (s8.f [2])) (i:=k+1) (z:=(e:Int)) (by rw[ee,aay,he];rfl);have hin:=inc (show k<4611686018427387904 by omega);have c5:¬(z:Int) ≥ (e:Int):=by omega
  by_cases k0:k=0
  ·have z0:=q1 k0;have dk:decide ((k:Int)=0)=true:=aa1 (by omega);have dz:(!decide ((z:Int)=0))=false:=by rw[aa1 (show(z:Int)=0 by omega)];rfl
   simp only[EE,nth,↓zB,zu,zg,mU,mV,mW,mX,mY,mZ,m5,hlt,x1,x2,x3,hin,y1,y2,y3,c5,dk,dz,↓zB];exact⟨sts.length-(k+1),by omega,k+1,by omega,rfl,rfl⟩
  ·have k0':¬(k:Int)=0:=by omega
   simp only[EE,nth,↓zB,zu,zg,mU,mV,mW,mX,mY,mZ,m5,hlt,x1,x2,x3,hin,y1,y2,y3,c5,k0',↓zB];exact⟨sts.length-(k+1),by omega,k+1,by omega,rfl,rfl⟩
 ·have:k=sts.length:=by omega
  subst this;simp only[EE,nth,hlt];have l1:=s8.lt;have g1:=s8.get;have s10:=KB s8 [] 2 (by decide);have gc1:∀t,(cut (h9.push (.cells [] 3)) h9.next t).get b1=some (.cells (Zd cv sv gv mn pn) 31):=λt=>by rw[qt l1,yR l1];exact g1
  unfold tn;simp only[EE,zu,wi,qK,eV,gc1];refine BF s10 (λb hb=>?_) (mB (I.rg.at s10)) (by have:=I.R9;show 0+gl.length<=_;omega) gn λa3 n3 c3 h11 s11=>?_
  ·have:b=h9.next:=aat.1 hb;omega
  have s11:Sat lo h11 (KG (.slice a3 n3 c3) gl::pt b1 (.cells (Zd cv sv gv mn pn) 31)::pt b2 (.cells [.slice none 0 0,.slice none 0 0,.int .i64 0,.int .i64 0] 25)::KG (.slice a2 n2 c2') ((sts.map λ(n:Nat)=>(n:Int))++[(code.length:Int)])::L):=s11;have g11:=(s11.p 1).get
  have gm:∀N M:Nat,h9.next<=N->(cut (cut h11 h9.next N) N M).get b1=some (.cells (Zd cv sv gv mn pn) 31):=λN M hN=>by
   rw[qt (by omega),qt l1];exact g11
  have gm1:=gm (h9.next+1) h11.next (by omega);unfold tl;simp only[EE,Value.cells,zu,zg,Ok,Ei,BQ,R7,gm1];refine vR s11 λb7 h12 s12=>?_;simp only[EE,Nat.reduceAdd,Og];refine zY s12 (by simp) rfl λh13 s13=>?_;have s13:Sat lo h13 (pt b7 (.cells [.slice a3 n3 c3,.slice none 0 0,.int .i64 mn,.int .i64 pn] 25)::KG (.slice a3 n3 c3) gl::pt b1 (.cells (Zd cv sv gv mn pn) 31)::pt b2 (.cells [.slice none 0 0,.slice none 0 0,.int .i64 0,.int .i64 0] 25)::KG (.slice a2 n2 c2') ((sts.map λ(n:Nat)=>(n:Int))++[(code.length:Int)])::L):=s13;have g1:=(s13.p 2).get;have ls:=λr h'=>vq (I.rs.at s13) r h';rw[aaq]at ls;simp only[EE,nth,↓zB,zu,wi,u7,g1,sn,ls,↓zB];have s14:=(xO 50 2 (Km s13)).f [2,3,0,1,4,5,6];refine kW (λm vs h'=>∃(k:Nat) (fv:aaa) (gs:List Go.As.Fn),k<=sts.length/\m=sts.length-k/\vs=[.int .i64 0,.int .i64 k]/\gs.map Go.As.Fn.code=(List.range k).map cs/\Sat lo h' (pt b7 (.cells [.slice a3 n3 c3,fv,.int .i64 mn,.int .i64 pn] 25)::KG (.slice a3 n3 c3) gl::j7 50 2 fv (gs.map Go.As.Fn.row)::Qt (gs.map Rx)::pt b1 (.cells (Zd cv sv gv mn pn) 31)::pt b2 (.cells [.slice none 0 0,.slice none 0 0,.int .i64 0,.int .i64 0] 25)::KG (.slice a2 n2 c2') ((sts.map λ(n:Nat)=>(n:Int))++[(code.length:Int)])::L)) sts.length ⟨0,.slice none 0 0,[],aaS _,rfl,rfl,rfl,s14⟩ ?_;rintro m vs h15 ⟨k,fv,gs,hk,rfl,rfl,hgs,s15⟩;have g7:=s15.get;have g1:=(s15.p 4).get;have fvn:=yG (s15.p 2);have fvc:=xx (s15.p 2);unfold th;by_cases hlt2:(k:Int)<(sts.length:Int)
  ·have hlt':k<sts.length:=by omega
   obtain⟨z,hz⟩:∃z,sts[k]? = some z:=⟨_,aag hlt'⟩;obtain⟨e,he⟩:∃e,(sts++[code.length])[k+1]? = some e:=⟨_,aag (by rw[aaB];show k+1<sts.length+1;omega)⟩;obtain⟨q1,q2,q3,q4⟩:=hs k z e hz he;have ee:(sts.map λ(n:Nat)=>(n:Int))++[(code.length:Int)]=(sts++[code.length]).map λ(n:Nat)=>(n:Int):=by rw[aaY];rfl
   obtain⟨b3,o3,cc3,t3,x1,_,x2,x3⟩:=qu (I.rs.at s15) (i:=k) (z:=(z:Int)) (by rw[aay,hz];rfl);obtain⟨b4,o4,cc4,t4,y1,_,y2,y3⟩:=qu (ES (s15.f [6])) (i:=k+1) (z:=(e:Int)) (by rw[ee,aay,he];rfl);have hin:=inc (show k<4611686018427387904 by omega)
   have e1:zd Tryz.prog 31 (rp b1) h15=some (sL cv sv gv mn pn):=by
    simp only[EE,Nat.reduceAdd,jY,Xk,g1]
   simp only[EE,nth,↓zB,hlt2,↓zB];unfold td;simp only[EE,nth,zu,zg,x1,x2,x3,e1,hin,y1,y2,y3];refine zdh (by simp only[yk];rfl) (za7 I bl q3 hc (by omega) s15) ?_;rintro v h16 hv;rw[q4]at hv;obtain⟨ov,rfl,s16⟩:=hv
   have osh:∃o1 o2 o3,ov=.slice o1 o2 o3:=by
    obtain⟨o1,o2,e⟩:=Go.Rm.iD s16;exact⟨_,_,_,e⟩
   obtain⟨o1,o2,o3,rfl⟩:=osh;have g7:=(s16.p 1).get;have er:xV [.slice o1 o2 o3,.bool true]=.tuple #[.slice o1 o2 o3,.bool true]:=rfl;rw[er];unfold ta;simp only[EE,nth,zu,vI,yO,g7];obtain⟨nm,nt,hdq,hcat⟩:=zce (n:=k) (by omega);refine cqq (hdq _) ?_;unfold sZ;have s17:=s16.push (.cells [.string nt,.slice o1 o2 o3] 50);have hgl:gs.length=k:=by have:=congrArg List.length hgs;simpa using this
   obtain⟨b',c',h18,a1,s18⟩:=Z4 (s17.p 4) (pD gs) [.string nt,.slice o1 o2 o3] rfl (by decide) 40 (by rw[aaq];omega);rw[aaq]at a1 s18
   have hap:∀r,zF Tryz.prog .append [23,23] r [fv,.slice (some ⟨h16.next,0,none⟩) 1 3] (h16.push (.cells [.string nt,.slice o1 o2 o3] 50))=some (.slice (some ⟨b',0,none⟩) (gs.length+1) c',h18):=λr=>by
    rw[zb1 r _ _ 1 [.string nt,.slice o1 o2 o3] _ rfl (by simp only[qp,wQ];rfl) rfl rfl];exact a1
   simp only[EE,zb5,L6,L8,yO,hcat,fvn,hap];refine zY (s18.p 3) (by simp) rfl λh19 s19=>?_;unfold tg;simp only[EE,nth,hin];refine⟨sts.length-(k+1),by omega,k+1,.slice (some ⟨b',0,none⟩) (gs.length+1) c',gs++[⟨nt,.slice o1 o2 o3,cs k⟩],by omega,rfl,rfl,?_,?_⟩
   ·rw[aaY,hgs,aca,aaY];rfl
   ·rw[aaY,aaY];have s20:=VG (A:=Rx ⟨nt,.slice o1 o2 o3,cs k⟩) (s19.f [3,5]);exact(s20.f [3]).drop.f [1,3,2,0]
  ·have:k=sts.length:=by omega
   subst this;simp only[EE,nth,Nat.reduceAdd,jY,YT,Og,tj,hlt2,g7];refine zY (s15.p 5) (by simp) (by simp[fvc];exact⟨rfl,rfl,rfl⟩) λh16 s16=>?_;have g2:=s16.get;simp only[EE,zt,Nat.reduceAdd,jY,YT,g2];refine⟨⟨.slice a3 n3 c3,gl,fv,gs,mn,pn⟩,rfl,rfl,rfl,rfl,hgs,?_⟩;exact Sat.close (M:=[_,_,_]) (s16.f [0,1,5,6]).drop.drop.drop.drop
end
open Go.Ar (yB)
def u5(m:List (Int×aaa)):List Int:=m.map Prod.fst
theorem eR:∀(m:List (Int×aaa)) (a:Int),u5 (eQ m a)=(u5 m).erase a
 |[],_=>rfl
 |(k,v)::m,a=>by
  unfold eQ;by_cases h:k=a
  ·subst h;rw[aah rfl];show u5 m=(k::u5 m).erase k;rw[List.erase_cons_head]
  ·rw[aae h];show k::u5 (eQ m a)=(k::u5 m).erase a;rw[List.erase_cons_tail (by simpa using h),eR m a]
theorem EJ:∀{m:List (Int×aaa)} {a k:Int},¬k=a->ZJ (eQ m a) k=ZJ m k
 |[],_,_,_=>rfl
 |(b,v)::m,a,k,h=>by
  unfold eQ;by_cases q:b=a
  ·rw[aah q]
   conv=>rhs;unfold ZJ
   rw[aae (λe=>h (by omega))]
  ·rw[aae q];unfold ZJ;rw[EJ h]
theorem mj{m:List (Int×aaa)}(T:cL m)(k:Int):hasB m k=true ↔ k∈u5 m:=by
 constructor
 ·intro h;have:=pG ((BW T k).2 h);exact aa0.2 ⟨_,this,rfl⟩
 ·intro h
  have:∀{m:List (Int×aaa)},cL m->k∈u5 m->hasB m k=true:=λ{m}=>by
   induction m with
   |nil=>intro _ h;cases h
   |cons p m ih=>
    obtain⟨a,v⟩:=p;intro T h;unfold hasB ZJ;by_cases q:a=k
    ·rw[aah q];have:v=.bool true:=T _ aak;rw[this]
    ·rw[aae q];refine ih (λp hp=>T p (aar _ hp)) ?_;rcases aaz.1 h with e|e
     ·exact absurd e.symm q
     ·exact e
  exact this T h
theorem rF:∀{m:List (Int×aaa)} {k:Int} {v:aaa},(∀j,j∈u5 (ZN m k v) ↔ j=k\/j∈u5 m)/\((u5 m).Nodup->(u5 (ZN m k v)).Nodup)
 |[],k,v=>⟨λj=>by simp[ZN,u5],λ_=>by simp[ZN,u5]⟩
 |(a,w)::m,k,v=>by
  obtain⟨i1,i2⟩:=rF (m:=m) (k:=k) (v:=v);unfold ZN;by_cases q:a=k
  ·rw[aah q];subst q;refine⟨λj=>?_,λh=>h⟩;show j∈a::u5 m ↔ _\/j∈a::u5 m;rw[aaz]
   constructor
   ·exact λh => .inr h
   ·rintro(h|h)
    ·exact .inl h
    ·exact h
  ·rw[aae q];refine⟨λj=>?_,λh=>?_⟩
   ·show j∈a::u5 (ZN m k v) ↔ _\/j∈a::u5 m;rw[aaz,aaz,i1]
    constructor
    ·rintro(h|h|h)
     ·exact .inr (.inl h)
     ·exact .inl h
     ·exact .inr (.inr h)
    ·rintro(h|h|h)
     ·exact .inr (.inl h)
     ·exact .inl h
     ·exact .inr (.inr h)
   ·have h:(a::u5 m).Nodup:=h;show(a::u5 (ZN m k v)).Nodup;rw[List.nodup_cons]at h ⊢;refine⟨λe=>?_,i2 h.2⟩;rcases (i1 a).1 e with e|e
    ·exact q e
    ·exact h.1 e
theorem p8(d:List (Nat×zo)):(u5 (vX d)).Nodup /\ ∀k,k∈u5 (vX d) ↔ ∃p,p∈d/\(p.2.op=18\/p.2.op=19)/\p.2.l=k:=by
 have:∀(d:List (Nat×zo)) (m:List (Int×aaa)),(u5 m).Nodup->(u5 (d.foldl KE m)).Nodup /\ ∀k,k∈u5 (d.foldl KE m) ↔ k∈u5 m \/ ∃p,p∈d/\(p.2.op=18\/p.2.op=19)/\p.2.l=k:=λd=>by
  induction d with
  |nil=>exact λm h=>⟨h,λk=>⟨.inl,λq=>q.elim id λ⟨p,hp,_⟩=>by cases hp⟩⟩
  |cons p d ih=>
   intro m h;show(u5 (d.foldl KE (KE m p))).Nodup /\ ∀k,k∈u5 (d.foldl KE (KE m p)) ↔ _;by_cases q:p.2.op=18\/p.2.op=19
   ·have e:KE m p=ZN m p.2.l (.bool true):=aah q;rw[e];obtain⟨i1,i2⟩:=ih _ (rF.2 h);refine⟨i1,λk=>?_⟩;rw[i2,rF.1]
    constructor
    ·rintro((h|h)|⟨r,hr,h⟩)
     ·exact .inr ⟨p,aak,q,h.symm⟩
     ·exact .inl h
     ·exact .inr ⟨r,aar _ hr,h⟩
    ·rintro(h|⟨r,hr,h1,h2⟩)
     ·exact .inl (.inr h)
     ·rcases aaz.1 hr with rfl|hr
      ·exact .inl (.inl h2.symm)
      ·exact .inr ⟨r,hr,h1,h2⟩
   ·have e:KE m p=m:=aae q;rw[e];obtain⟨i1,i2⟩:=ih _ h;refine⟨i1,λk=>?_⟩;rw[i2]
    constructor
    ·rintro(h|⟨r,hr,h⟩)
     ·exact .inl h
     ·exact .inr ⟨r,aar _ hr,h⟩
    ·rintro(h|⟨r,hr,h1,h2⟩)
     ·exact .inl h
     ·rcases aaz.1 hr with rfl|hr
      ·exact absurd h1 q
      ·exact .inr ⟨r,hr,h1,h2⟩
 obtain⟨a,b⟩:=this d [] List.nodup_nil;refine⟨a,λk=>?_⟩;unfold vX;rw[b];exact⟨λh=>h.elim (λe=>by cases e) id,.inr⟩
def kZ(G:Int->Bool):List (Nat×zo)->Nat->List zo
 |[],to=>if G to=true then [W0 to] else []
 |p::d,to=>(if G p.1=true then [W0 p.1] else [])++p.2::kZ G d to
def Bg:List (Nat×zo)->Nat->Nat->Prop
 |[],n,e=>n=e
 |p::d,n,e=>p.1=n /\ ¬p.2.op=20/\0<ym p.2/\Bg d (n+ym p.2) e
theorem CA:∀{d:List (Nat×zo)} {n e:Nat},Bg d n e->n<=e /\ ∀p,p∈d->n<=p.1/\p.1<e
 |[],n,e,h=>by
  have h:n=e:=h;exact⟨Nat.le_of_eq h,λp hp=>by cases hp⟩
 |p::d,n,e,⟨h1,h2,h3,h4⟩=>by
  obtain⟨a,b⟩:=CA h4;refine⟨by omega,λq hq=>?_⟩;rcases aaz.1 hq with rfl|hq
  ·omega
  ·have:=b q hq;omega
theorem rA{G G':Int->Bool}:∀{d:List (Nat×zo)} {e:Nat},(∀p,p∈d->G p.1=G' p.1)->G e=G' e->kZ G d e=kZ G' d e
 |[],e,_,h=>by unfold kZ;rw[h]
 |p::d,e,h1,h2=>by
  unfold kZ;rw[h1 p aak,rA (λq hq=>h1 q (aar _ hq)) h2]
theorem PF:∀{d:List (Nat×zo)} {n e:Nat} {m:List (Int×aaa)},Bg d n e->cL m->(u5 m).Nodup->(∀k,k∈u5 m->(∃p,p∈d/\(p.1:Int)=k)\/(e:Int)=k)->(Ke d e m).2=[]/\(Ke d e m).1=kZ (hasB m) d e
 |[],n,e,m,t,T,N,h=>by
  refine⟨?_,rfl⟩;show jH m e=[]
  have only:∀k,k∈u5 m->k=(e:Int):=λk hk=>by
   rcases h k hk with⟨p,hp,_⟩|q
   ·cases hp
   ·exact q.symm
  have nil:∀{m:List (Int×aaa)},(∀k,k∈u5 m->False)->m=[]:=λ{m} q=>by
   cases m with
   |nil=>rfl
   |cons p m=>exact(q p.1 aak).elim
  unfold jH;by_cases hh:hasB m e=true
  ·rw[aah hh];refine nil λk hk=>?_;rw[eR,N.mem_erase_iff]at hk;exact hk.1 (only k hk.2)
  ·rw[aae hh];refine nil λk hk=>hh ((mj T _).2 ?_);rw[<- only k hk];exact hk
 |p::d,n,e,m,⟨h1,h2,h3,h4⟩,T,N,h=>by
  obtain⟨g1,g2⟩:=CA h4;have T1:cL (jH m p.1):=by unfold jH;split;exact oE T;exact T
  have N1:(u5 (jH m p.1)).Nodup:=by unfold jH;split;rw[eR];exact N.erase _;exact N
  have sub:∀k,k∈u5 (jH m p.1)->k∈u5 m /\ ¬k=(p.1:Int):=λk hk=>by
   unfold jH at hk;split at hk
   ·rw[eR,N.mem_erase_iff]at hk;exact⟨hk.2,hk.1⟩
   ·rename_i q;exact⟨hk,λe=>q ((mj T _).2 (by rw[<- e];exact hk))⟩
  obtain⟨i1,i2⟩:=PF h4 T1 N1 λk hk=>by
   obtain⟨a,b⟩:=sub k hk;rcases h k a with⟨r,hr,q⟩|q
   ·rcases aaz.1 hr with rfl|hr
    ·exact absurd q.symm b
    ·exact .inl ⟨r,hr,q⟩
   ·exact .inr q
  have same:∀k:Int,¬k=(p.1:Int)->hasB (jH m p.1) k=hasB m k:=λk hk=>by
   unfold jH;split
   ·unfold hasB;rw[EJ hk]
   ·rfl
  refine⟨i1,?_⟩;show Q7 m p.1++p.2::(Ke d e (jH m p.1)).1=_;rw[i2,rA (G':=hasB m) (λr hr=>same _ (by have:=(g2 r hr).1;omega)) (same _ (by omega))];rfl
section
variable {G:Int->Bool}
theorem O3:∀{d:List (Nat×zo)} {n e:Nat} {x:zo},Bg d n e->x∈kZ G d e->x.op=20->∃a:Nat,x=W0 a/\G a=true/\n<=a/\a<=e
 |[],n,e,x,t,hx,ho=>by
  have t:n=e:=t;unfold kZ at hx;split at hx
  ·rename_i q;exact⟨e,aat.1 hx,q,by omega,aaj _⟩
  ·cases hx
 |p::d,n,e,x,⟨h1,h2,h3,h4⟩,hx,ho=>by
  obtain⟨g1,_⟩:=CA h4;unfold kZ at hx;rcases aaD.1 hx with hx|hx
  ·split at hx
   ·rename_i q;exact⟨p.1,aat.1 hx,q,by omega,by omega⟩
   ·cases hx
  ·rcases aaz.1 hx with rfl|hx
   ·exact absurd ho h2
   ·obtain⟨a,b,c,q,q2⟩:=O3 h4 hx ho;exact⟨a,b,c,by omega,q2⟩
theorem cN{x:zo}{xs:List zo}{l:Int}{k:Nat}(h:¬(x.op=20/\x.l=l)):yB (x::xs) l k=yB xs l (k+1):=by
 conv=>lhs;unfold yB
 rw[aae h]
theorem hX:∀{d:List (Nat×zo)} {n e j k0:Nat} {x:zo},Bg d n e->(kZ G d e)[j]? = some x->x.op=20->yB (kZ G d e) x.l k0=((k0+j:Nat):Int)
 |[],n,e,j,k0,x,t,hx,ho=>by
  unfold kZ at hx ⊢;split at hx
  ·rename_i q;rw[aah q]
   have:j=0:=by
    rcases j with _|j
    ·rfl
    ·simp at hx
   subst this;have:W0 e=x:=by simpa using hx
   subst this;unfold yB;rw[aah ⟨rfl,rfl⟩];rfl
  ·simp at hx
 |p::d,n,e,j,k0,x,⟨h1,h2,h3,h4⟩,hx,ho=>by
  have rest:∀j' k',(kZ G d e)[j']? = some x->yB (kZ G d e) x.l k'=((k'+j':Nat):Int):=λj' k' h=>hX h4 h ho
  have big:∀j':Nat,(kZ G d e)[j']? = some x->¬(p.1:Int)=x.l:=λj' h=>by
   obtain⟨a,b,_,c,_⟩:=O3 h4 (aax h) ho;rw[b];show ¬(p.1:Int)=(a:Int);omega
  unfold kZ at hx ⊢;by_cases q:G p.1=true
  ·rw[aah q]at hx ⊢;rcases j with _|_|j
   ·have:W0 p.1=x:=(by simpa using hx);subst this;show yB (W0 p.1::_) _ _=_;unfold yB;rw[aah ⟨rfl,rfl⟩];rfl
   ·have:p.2=x:=(by simpa using hx);subst this;exact absurd ho h2
   ·have hx:(kZ G d e)[j]? = some x:=(by simpa using hx);show yB (W0 p.1::p.2::kZ G d e) x.l k0=_;rw[cN (λc=>big j hx c.2),cN (λc=>h2 c.1),rest j _ hx]
    congr 1;omega
  ·rw[aae q]at hx ⊢;rcases j with _|j
   ·have:p.2=x:=(by simpa using hx);subst this;exact absurd ho h2
   ·have hx:(kZ G d e)[j]? = some x:=(by simpa using hx);show yB (p.2::kZ G d e) x.l k0=_;rw[cN (λc=>h2 c.1),rest j _ hx]
    congr 1;omega
theorem fR(a:Nat):ym (W0 a)=0:=Ur rfl
theorem O4:∀{d:List (Nat×zo)} {n e g:Nat},Bg d n e->G g=true->((∃p,p∈d/\p.1=g)\/e=g)->∃i,(kZ G d e)[i]? = some (W0 g)/\n+zD ((kZ G d e).take i)=g
 |[],n,e,g,t,hg,h=>by
  have t:n=e:=t;rcases h with⟨p,hp,_⟩|rfl
  ·cases hp
  ·refine⟨0,?_,t⟩;unfold kZ;rw[aah hg];rfl
 |p::d,n,e,g,⟨h1,h2,h3,h4⟩,hg,h=>by
  by_cases q:p.1=g
  ·refine⟨0,?_,by show n+0=g;omega⟩;unfold kZ;rw[q,aah hg];rfl
  ·have h':(∃p,p∈d/\p.1=g)\/e=g:=by
    rcases h with⟨r,hr,hq⟩|h
    ·rcases aaz.1 hr with rfl|hr
     ·exact absurd hq q
     ·exact .inl ⟨r,hr,hq⟩
    ·exact .inr h
   obtain⟨i,a,b⟩:=O4 h4 hg h';unfold kZ;by_cases gp:G p.1=true
   ·rw[aah gp];refine⟨i+2,by simpa using a,?_⟩;show n+(ym (W0 p.1)+(ym p.2+zD ((kZ G d e).take i)))=g;rw[fR];omega
   ·rw[aae gp];refine⟨i+1,by simpa using a,?_⟩;show n+(ym p.2+zD ((kZ G d e).take i))=g;omega
def qN(y:zo->zo):List zo->Nat->List (Nat×zo)
 |[],_=>[]
 |x::xs,n=>if x.op=20 then qN y xs n else (n,y x)::qN y xs (n+ym x)
theorem rV{y:zo->zo}:∀{xs:List zo} {n:Nat},(∀x,x∈xs->¬x.op=20->¬(y x).op=20/\ym (y x)=ym x/\0<ym x)->Bg (qN y xs n) n (n+zD xs)
 |[],n,_=>rfl
 |x::xs,n,h=>by
  have ih:=λn=>rV (n:=n) λz hz=>h z (aar _ hz);unfold qN;by_cases q:x.op=20
  ·rw[aah q];have:=ih n;have e:zD (x::xs)=zD xs:=by show ym x+zD xs=_;rw[Ur q];omega
   rw[e];exact this
  ·rw[aae q];obtain⟨a,b,c⟩:=h x aak q;refine⟨rfl,a,by show 0<ym (y x);omega,?_⟩;have:=ih (n+ym x);have e:n+zD (x::xs)=n+ym x+zD xs:=by show n+(ym x+zD xs)=_;omega
   rw[e];show Bg _ (n+ym (y x)) _;rw[b];exact this
theorem Eu{y:zo->zo}{gl:List Int}{st:List Nat}{C F:List zo}{o:Nat}:∀{xs:List zo} {n:Nat},(∀x,x∈xs->¬x.op=20->ym (y x)=ym x /\ ∀n,ze (y x) (Wv gl st C o n (y x))=ze x (Wv gl st F o n x))->uP gl st C o (kZ G (qN y xs n) (n+zD xs)) n=uP gl st F o xs n
 |[],n,_=>by
  unfold qN kZ;split
  ·show ze (W0 _) _++[]=[];rw[abm];exact aa9.1 ((fS _ _).trans (fR _))
  ·rfl
 |x::xs,n,h=>by
  have ih:=λn=>Eu (n:=n) λz hz=>h z (aar _ hz);by_cases q:x.op=20
  ·have e:n+zD (x::xs)=n+zD xs:=by show n+(ym x+zD xs)=_;rw[Ur q];omega
   unfold qN;rw[aah q,e,ih n];show _=ze x _++uP gl st F o xs (n+ym x);rw[aa9.1 ((fS x _).trans (Ur q)),Ur q];rfl
  ·obtain⟨a,b⟩:=h x aak q;have e:n+zD (x::xs)=n+ym x+zD xs:=by show n+(ym x+zD xs)=_;omega
   unfold qN;rw[aae q,e]
   have key:uP gl st C o (y x::kZ G (qN y xs (n+ym x)) (n+ym x+zD xs)) n=ze x (Wv gl st F o n x)++uP gl st F o xs (n+ym x):=by
    show ze (y x) (Wv gl st C o n (y x))++uP gl st C o _ (n+ym (y x))=_;rw[b,a,ih]
   unfold kZ;split
   ·show ze (W0 _) _++uP gl st C o _ (n+ym (W0 _))=_;rw[aa9.1 ((fS (W0 _) _).trans (fR _)),fR];exact key
   ·exact key
end
open Go.As (uH wL)
open Go.Ar (zO zM)
open Go.Ed (fp ax)
noncomputable def UH (x:zo):zo:=open Classical in if h:∃y,Shape y/\zO y=true/\y.op=x.op /\ ¬VP y/\(∀d,ze x d=ze y 0) then Classical.choose h else x
theorem fG{x:zo}(h:zO x=true)(hk:Go.Mem.qU x.k)(n6:¬VP x)(n20:¬x.op=20):Shape (UH x)/\zO (UH x)=true/\(UH x).op=x.op /\ ¬VP (UH x)/\(∀d,ze x d=ze (UH x) 0):=by
 have e:=PK h hk n6 n20;unfold UH;rw[dif_pos e];exact Classical.choose_spec e
noncomputable def vQ (gl:List Int) (st:List Nat) (F:List zo) (o:Nat) (x:zo):zo :=
 if x.op=18 then ⟨18,0,0,0,0,uG gl st F o x,0⟩
 else if x.op=19 then ⟨19,0,0,0,x.cc,uG gl st F o x,0⟩
 else if x.op=21 then ⟨21,0,0,x.sub,0,0,0⟩
 else if x.op=6 then ⟨6,x.r,0,x.sub,0,0,x.k⟩
 else UH x
section
variable {st gl:List Int}{len n:Nat}{rest:List Int}
theorem OA{y:zo}(S:Shape y)(hr:zO y=true)(nf:¬VP y)(hb:xa rest):Q1 st gl len (ze y 0++rest) n=some (y,ym y):=by
 have bg:XQ (ze y 0++rest) (ze y 0):=⟨iA S,by rw[aaB];omega,List.take_left⟩;have R:=(pJ (jf (Ie y 0) hb) S hr).1 bg
 have hi:uH gl y=true:=by
  refine((Go.Ar.pQ (gl:=gl) (x:=y)).2 ⟨hr,?_⟩).1;unfold Go.Ar.Wk;rw[aaT (λq=>nf (.inr (.inr (.inr q))))];rfl
 unfold Q1;rw[R];simp only[hi];rfl
theorem mf{y i:zo}(F:dp y){d:Int}(hd:zM d=true)(hg:Z6 st gl len {y with k:=d} (((n+(ze y d).length:Nat):Int)+d)=some i)(hi:uH gl i=true):Q1 st gl len (ze y d++rest) n=some (i,(ze y d).length):=by
 unfold Q1;rw[EF F hd rest];simp only[hg,hi];rfl
end
theorem zaR{sts:List Nat}(h:sts.Pairwise (· < ·)){j s:Nat}(hj:sts[j]? = some s):pO (sts.map λ(n:Nat)=>(n:Int)) (s:Int) 0=some j:=by
 have:=fp (st:=sts.map λ(n:Nat)=>(n:Int)) (to:=(s:Int)) (n:=0) (j:=j) (s:=(s:Int)) (λi hi z hz=>?_) (by rw[aay,hj];rfl) rfl
 ·rw[this,abf]
 ·rw[aay]at hz;cases hq:sts[i]? with
  |none=>rw[hq]at hz;cases hz
  |some w=>
   rw[hq]at hz;have:(w:Int)=z:=by simpa using hz
   have hlt:w<s:=by
    obtain⟨h1,e1⟩:=aaM.1 hq;obtain⟨h2,e2⟩:=aaM.1 hj;have:=List.pairwise_iff_getElem.1 h i j h1 h2 hi;rw[e1,e2]at this;exact this
   omega
theorem AD(ys:List Int):∀(xs:List Int) (a:Int),j3 (xs++ys) a=j3 ys (j3 xs a)
 |[],_=>rfl
 |x::xs,a=>AD ys xs _
theorem Si{gl:List Int}(gb:∀g,g∈gl->0<=g/\g<=65536){i j:Nat}{g:Int}(hij:i<j)(hj:j<=gl.length)(hg:gl[i]? = some g)(a:Int):j3 (gl.take i) a+(g+31)/16*16<=j3 (gl.take j) a:=by
 have hi:i<gl.length:=by omega
 have e:gl.take j=gl.take i++g::(gl.drop (i+1)).take (j-i-1):=by
  have h1:gl.drop i=g::gl.drop (i+1):=by
   rw[abB hi];obtain⟨h,e⟩:=aaM.1 hg;rw[e]
  have h2:gl.take j=gl.take i++(gl.drop i).take (j-i):=by rw[<- List.take_add];congr 1;omega
  rw[h2,h1,show j-i=(j-i-1)+1 by omega,ab0]
  congr 3
 rw[e,AD];show _<=j3 ((gl.drop (i+1)).take (j-i-1)) (j3 (gl.take i) a+(g+31)/16*16);exact(Qh _ _ λz hz=>gb z (ab8 (abV hz))).1
theorem SE{gl:List Int}(gb:∀g,g∈gl->0<=g/\g<=65536){i:Nat}{g k a0:Int}(hi:gl[i]? = some g)(k0:0<=k)(k1:k<=g):KD (yi gl a0) gl 0 (j3 (gl.take i) a0+k)=some (i,k):=by
 have hlt:i<gl.length:=(aaM.1 hi).1;rw[ax (az:=yi gl a0) (gl:=gl) (n:=0) (j:=i) (a:=j3 (gl.take i) a0) (g:=g) (λj hj a g' ha hg'=>?_) (Qi gl a0 i hlt) hi ⟨by omega,by omega⟩,abf]
 ·congr 2;omega
 ·have hjl:j<gl.length:=by omega
  rw[Qi gl a0 j hjl]at ha;have ha:=abg ha;have:=Si gb hj (by omega) hg' a0;rw[ha]at this;have:=(gb g' (aax hg'));omega
open Go.Ar (uZ uS)
open Go.Eb (Wy Nn InX qz)
theorem j5{p:Pg}(G:wL p=true){f:Go.As.Fn}(fm:f∈p.funcs){x:zo}(hx:x∈f.code):zO x=true:=by
 have hd:uZ p=true:=by rw[uS];exact G
 unfold uZ at hd;simp only[aac,aav]at hd;obtain⟨h1,h2,h3⟩:=hd;have a:=h3 _ fm;unfold Go.Ar.Qc at a;simp only[aac]at a;have a1:=a.1;unfold Go.Ar.Qb at a1;rw[aav]at a1;obtain⟨n,hn⟩:=abW hx;have hn':=(aaM.1 hn).1;have b:=a1 n (by simpa using hn');unfold Go.Ar.EU at b;rw[hn]at b;have b:Go.Ar.wK p f.code n x=true:=b;unfold Go.Ar.wK at b;simp only[aac]at b;exact b.1
theorem zaS{p:Pg}(G:wL p=true){f:Go.As.Fn}(fm:f∈p.funcs){x:zo}(hx:x∈f.code):uH p.globals x=true:=by
 unfold wL at G;simp only[aac,aav]at G;have a:=G.2.2 f fm;unfold Go.As.sG at a;rw[Go.Ar.mD]at a;by_cases h:(f.code.all (uH p.globals)&&Go.Ar.Zi f.code [])=true
 ·rw[aac,aav]at h;exact h.1 x hx
 ·rw[aae h]at a;simp[Go.As.lB]at a
theorem size_take(xs:List zo)(i:Nat):zD (xs.take i)<=zD xs:=by
 have:=Qs (xs.take i) (xs.drop i);rw[abl]at this;omega
theorem fU{z:Int}(h0 : -2147483648<=z)(h1:z<=2147483647):zM z=true:=by
 unfold zM;rw[aac,aaG,aaG];exact⟨h0,h1⟩
section
variable {p:Pg}{f:Go.As.Fn}{o n:Nat}{rest:List Int}{x:zo}{sts:List Nat}{len:Nat}
theorem Qj(o:Nat)(gl:List Int)(st:List Nat)(F:List zo)(h:x.op=18\/x.op=19):(o:Int)<=uG gl st F o x/\uG gl st F o x<=((o+zD F:Nat):Int):=by
 unfold uG;rw[aah h];have:=size_take F (yB F x.l 0).toNat;omega
theorem O6(G:wL p=true)(fm:f∈p.funcs)(hx:x∈f.code)(k64:Go.Mem.qU x.k)(n20:¬x.op=20)(hn:n+ym x<=len)(hl:len<=1000000)(ho:o+zD f.code<=len)(inc:sts.Pairwise (· < ·))(hs:sts.length=p.funcs.length)(Mq:∀s,s∈sts->s<=len)(hb:xa rest) :
  Q1 (sts.map λ(n:Nat)=>(n:Int)) p.globals len (ze x (Wv (yi p.globals 16777216) sts f.code o n x)++rest) n=some (vQ (yi p.globals 16777216) sts f.code o x,ym x):=by
 have X:=(Wy G).ins f fm x hx;have gb:=(Wy G).gr;have glen:=(Wy G).gl;have hr:=j5 G fm hx;have sz:ym x<=10:=size_le x;by_cases h18:x.op=18
 ·have gj:=Qj o (yi p.globals 16777216) sts f.code (.inl h18);have ed:Wv (yi p.globals 16777216) sts f.code o n x=uG (yi p.globals 16777216) sts f.code o x-((n+ym x:Nat):Int):=by unfold Wv;rw[aah (.inl h18)]
  have el:vQ (yi p.globals 16777216) sts f.code o x=⟨18,0,0,0,0,uG (yi p.globals 16777216) sts f.code o x,0⟩:=by unfold vQ;rw[aah h18]
  rw[ed,el];generalize uG (yi p.globals 16777216) sts f.code o x=g at gj;obtain⟨op,r,m,sub,cc,l,k⟩:=x;have h18:op=18:=h18;subst h18;have es:ym ⟨18,r,m,sub,cc,l,k⟩=5:=rfl;rw[es]at hn ⊢
  have:=mf (st:=sts.map λ(n:Nat)=>(n:Int)) (gl:=p.globals) (len:=len) (n:=n) (rest:=rest) (i:=⟨18,0,0,0,0,g,0⟩) .jmp (d:=g-((n+5:Nat):Int)) (fU (by omega) (by omega)) (by
   have e5:(ze ⟨18,0,0,0,0,0,0⟩ (g-((n+5:Nat):Int))).length=5:=rfl;rw[e5];have e:((n+5:Nat):Int)+(g-((n+5:Nat):Int))=g:=by omega
   rw[e];unfold Z6;rw[aah (.inl rfl),aah ⟨by omega,by omega⟩]) rfl
  exact this
 by_cases h19:x.op=19
 ·have gj:=Qj o (yi p.globals 16777216) sts f.code (.inr h19);have ed:Wv (yi p.globals 16777216) sts f.code o n x=uG (yi p.globals 16777216) sts f.code o x-((n+ym x:Nat):Int):=by unfold Wv;rw[aah (.inr (.inl h19))]
  have el:vQ (yi p.globals 16777216) sts f.code o x=⟨19,0,0,0,x.cc,uG (yi p.globals 16777216) sts f.code o x,0⟩:=by unfold vQ;rw[aae h18,aah h19]
  rw[ed,el];generalize uG (yi p.globals 16777216) sts f.code o x=g at gj;obtain⟨op,r,m,sub,cc,l,k⟩:=x;have h19:op=19:=h19;subst h19
  have hcc:21<=cc/\cc<=26:=by
   unfold Go.Ar.zO Go.Ar.tailD at hr;simp[Go.As.ZI]at hr;omega
  have es:ym ⟨19,r,m,sub,cc,l,k⟩=6:=rfl;rw[es]at hn ⊢
  have:=mf (st:=sts.map λ(n:Nat)=>(n:Int)) (gl:=p.globals) (len:=len) (n:=n) (rest:=rest) (i:=⟨19,0,0,0,cc,g,0⟩) (.jcc cc hcc.1 hcc.2) (d:=g-((n+6:Nat):Int)) (fU (by omega) (by omega)) (by
   have e5:(ze ⟨19,0,0,0,cc,0,0⟩ (g-((n+6:Nat):Int))).length=6:=rfl;rw[e5];have e:((n+6:Nat):Int)+(g-((n+6:Nat):Int))=g:=by omega
   rw[e];unfold Z6;rw[aah (.inr rfl),aah ⟨by omega,by omega⟩]) (by
   unfold Go.As.uH;simp[Go.As.ZO,Go.As.fW,Go.As.KF,Go.As.yn,Go.As.ZI,hcc.1,hcc.2])
  exact this
 by_cases h21:x.op=21
 ·obtain⟨c0,c1⟩:=X.call h21;have ed:Wv (yi p.globals 16777216) sts f.code o n x=uG (yi p.globals 16777216) sts f.code o x-((n+ym x:Nat):Int):=by unfold Wv;rw[aah (.inr (.inr (.inl h21)))]
  have el:vQ (yi p.globals 16777216) sts f.code o x=⟨21,0,0,x.sub,0,0,0⟩:=by unfold vQ;rw[aae h18,aae h19,aah h21]
  obtain⟨s,hs1⟩:∃s,sts[x.sub.toNat]? = some s:=⟨_,aag (by omega)⟩;have sl:=Mq s (aax hs1)
  have eg:uG (yi p.globals 16777216) sts f.code o x=(s:Int):=by
   unfold uG;rw[aae (by rintro(q|q);exact h18 q;exact h19 q),aah h21,hs1];rfl
  have ix:=zaR inc hs1;rw[ed,el,eg];obtain⟨op,r,m,sub,cc,l,k⟩:=x;have h21:op=21:=h21;subst h21;have c0:0<=sub:=c0;have es:ym ⟨21,r,m,sub,cc,l,k⟩=5:=rfl;rw[es]at hn ⊢
  have:=mf (st:=sts.map λ(n:Nat)=>(n:Int)) (gl:=p.globals) (len:=len) (n:=n) (rest:=rest) (i:=⟨21,0,0,sub,0,0,0⟩) .call (d:=(s:Int)-((n+5:Nat):Int)) (fU (by omega) (by omega)) (by
   have e5:(ze ⟨21,0,0,0,0,0,0⟩ ((s:Int)-((n+5:Nat):Int))).length=5:=rfl;rw[e5];have e:((n+5:Nat):Int)+((s:Int)-((n+5:Nat):Int))=(s:Int):=by omega
   rw[e];unfold Z6;rw[aae (by simp),aah rfl,ix];show some _=some _;have:((sub.toNat:Nat):Int)=sub:=by omega
   show some (⟨21,0,0,((sub.toNat:Nat):Int),0,0,0⟩:zo)=_;rw[this]) (by
   unfold Go.As.uH;simp[Go.As.ZO,Go.As.fW,Go.As.KF,Go.As.yn])
  exact this
 by_cases h6:x.op=6
 ·have hi:=zaS G fm hx;have ed:Wv (yi p.globals 16777216) sts f.code o n x=uG (yi p.globals 16777216) sts f.code o x-((n+ym x:Nat):Int):=by unfold Wv;rw[aah (.inr (.inr (.inr h6)))]
  have el:vQ (yi p.globals 16777216) sts f.code o x=⟨6,x.r,0,x.sub,0,0,x.k⟩:=by unfold vQ;rw[aae h18,aae h19,aae h21,aah h6]
  have eg:uG (yi p.globals 16777216) sts f.code o x=(yi p.globals 16777216)[x.sub.toNat]?.getD 0+x.k:=by
   unfold uG;rw[aae (by rintro(q|q);exact h18 q;exact h19 q),aae h21,aah h6]
  rw[ed,el,eg];obtain⟨op,r,m,sub,cc,l,k⟩:=x;have h6:op=6:=h6;subst h6;have hi':uH p.globals ⟨6,r,0,sub,0,0,k⟩=true:=hi;have hp:=hi;unfold Go.As.uH at hp;simp[Go.As.ZO,Go.As.fW,Go.As.KF,Go.As.VA,Go.As.yn]at hp;obtain⟨⟨r0,r1,r4⟩,c0,c1,k0,k1⟩:=hp;have hlt:sub.toNat<p.globals.length:=by omega
  have hg:p.globals[sub.toNat]? = some p.globals[sub.toNat]:=aag hlt;rw[hg,abC]at k1;have na:=SE gb (a0:=16777216) hg k0 k1;have bd:=Qh (p.globals.take sub.toNat) 16777216 (λz hz=>gb z (abV hz));have gk:=gb _ (abU hlt);have gtl:((p.globals.take sub.toNat).length:Int)<=200:=by rw[aa3];omega
  have eE:(yi p.globals 16777216)[sub.toNat]?.getD 0=j3 (p.globals.take sub.toNat) 16777216:=by rw[Qi _ _ _ hlt];rfl
  show Q1 _ _ _ (ze _ ((yi p.globals 16777216)[sub.toNat]?.getD 0+k-_)++rest) n=_;rw[eE];generalize j3 (p.globals.take sub.toNat) 16777216=a at na bd;have es:ym ⟨6,r,m,sub,cc,l,k⟩=7:=rfl;rw[es]at hn ⊢
  have:=mf (st:=sts.map λ(n:Nat)=>(n:Int)) (gl:=p.globals) (len:=len) (n:=n) (rest:=rest) (i:=⟨6,r,0,sub,0,0,k⟩) (.pW r ⟨r0,r1⟩) (d:=a+k-((n+7:Nat):Int)) (fU (by omega) (by omega)) (by
   have e5:(ze ⟨6,r,0,0,0,0,0⟩ (a+k-((n+7:Nat):Int))).length=7:=rfl;rw[e5];have e:((n+7:Nat):Int)+(a+k-((n+7:Nat):Int))=a+k:=by omega
   rw[e];unfold Z6;rw[aae (by simp),aae (by simp),na];have:((sub.toNat:Nat):Int)=sub:=by omega
   show some (⟨6,r,0,((sub.toNat:Nat):Int),0,0,k⟩:zo)=_;rw[this]) hi'
  exact this
 ·have nf:¬VP x:=by
   rintro(q|q|q|q)
   ·exact h18 q
   ·exact h19 q
   ·exact h21 q
   ·exact h6 q
  obtain⟨S,r1,eo,nf2,eb⟩:=fG hr k64 nf n20;have el:vQ (yi p.globals 16777216) sts f.code o x=UH x:=by unfold vQ;rw[aae h18,aae h19,aae h21,aae h6]
  rw[el,eb];have es:ym x=ym (UH x):=by unfold ym;rw[eb 0]
  rw[es];exact OA S r1 nf2 hb
end
theorem au{y:zo->zo}:∀{xs:List zo} {n:Nat} {q:Nat×zo},q∈qN y xs n->∃x,x∈xs /\ ¬x.op=20/\q.2=y x
 |[],_,_,h=>by cases h
 |x::xs,n,q,h=>by
  unfold qN at h;split at h
  ·obtain⟨z,h1,h2⟩:=au h;exact⟨z,aar _ h1,h2⟩
  ·rename_i ho;rcases aaz.1 h with rfl|h
   ·exact⟨x,aak,ho,rfl⟩
   ·obtain⟨z,h1,h2⟩:=au h;exact⟨z,aar _ h1,h2⟩
theorem aD{y:zo->zo}:∀{xs:List zo} {n:Nat} {x:zo},x∈xs->¬x.op=20->∃a,(a,y x)∈qN y xs n
 |z::xs,n,x,h,ho=>by
  unfold qN;rcases aaz.1 h with rfl|h
  ·rw[aae ho];exact⟨n,aak⟩
  ·split
   ·exact aD h ho
   ·obtain⟨a,q⟩:=aD (y:=y) (n:=n+ym z) h ho;exact⟨a,aar _ q⟩
theorem aE{y:zo->zo}:∀{xs:List zo} {n:Nat} (i:Nat),(∃q,q∈qN y xs n/\q.1=n+zD (xs.take i))\/n+zD xs=n+zD (xs.take i)
 |[],n,i => .inr (by rw[List.take_nil])
 |x::xs,n,0=>by
  by_cases ho:x.op=20
  ·have e:zD (x::xs)=zD xs:=by show ym x+zD xs=_;rw[Ur ho];omega
   unfold qN;rw[aah ho,e];have:=aE (y:=y) (xs:=xs) (n:=n) 0
   rwa [acu]at this ⊢
  ·refine .inl ⟨(n,y x),?_,rfl⟩;unfold qN;rw[aae ho];exact aak
 |x::xs,n,i+1=>by
  have e2:zD ((x::xs).take (i+1))=ym x+zD (xs.take i):=rfl;have e1:zD (x::xs)=ym x+zD xs:=rfl;rw[e1,e2];unfold qN;by_cases ho:x.op=20
  ·rw[aah ho,Ur ho,abf,abf];exact aE i
  ·rw[aae ho,<- abq,<- abq];rcases aE (y:=y) (xs:=xs) (n:=n+ym x) i with⟨q,h1,h2⟩|h
   ·exact .inl ⟨q,aar _ h1,h2⟩
   ·exact .inr h
theorem aC{y:zo->zo}:∀(xs:List zo) (n:Nat),(qN y xs n).length<=xs.length
 |[],_=>aaj _
 |x::xs,n=>by
  unfold qN;split
  ·exact abN (aC xs n)
  ·exact Nat.succ_le_succ (aC xs _)
theorem Ci{G:Int->Bool}:∀(d:List (Nat×zo)) (e:Nat),(kZ G d e).length<=2*d.length+1
 |[],e=>by unfold kZ;split <;> simp
 |p::d,e=>by
  have:=Ci (G:=G) d e;unfold kZ;rw[aaB,abc,abc];have:(if G p.1=true then [W0 p.1] else []).length<=1:=by split <;> simp
  omega
theorem IP{G:Int->Bool}:∀{d:List (Nat×zo)} {e:Nat} {x:zo},x∈kZ G d e->(∃a:Nat,x=W0 a/\G a=true) \/ ∃q,q∈d/\q.2=x
 |[],e,x,h=>by
  unfold kZ at h;split at h
  ·rename_i g;exact .inl ⟨e,aat.1 h,g⟩
  ·cases h
 |p::d,e,x,h=>by
  unfold kZ at h;rcases aaD.1 h with h|h
  ·split at h
   ·rename_i g;exact .inl ⟨p.1,aat.1 h,g⟩
   ·cases h
  ·rcases aaz.1 h with rfl|h
   ·exact .inr ⟨p,aak,rfl⟩
   ·rcases IP h with h|⟨q,h1,h2⟩
    ·exact .inl h
    ·exact .inr ⟨q,aar _ h1,h2⟩
theorem I4{G:Int->Bool}:∀{d:List (Nat×zo)} {e:Nat} {q:Nat×zo},q∈d->q.2∈kZ G d e
 |p::d,e,q,h=>by
  unfold kZ;refine aaX _ ?_;rcases aaz.1 h with rfl|h
  ·exact aak
  ·exact aar _ (I4 h)
section
variable {gl:List Int}{st:List Nat}{F:List zo}{o:Nat}{x:zo}
theorem XH(hr:zO x=true)(k64:Go.Mem.qU x.k)(n20:¬x.op=20):¬(vQ gl st F o x).op=20/\0<ym x /\ ∀d,ze (vQ gl st F o x) d=ze x d:=by
 unfold vQ;by_cases h18:x.op=18
 ·rw[aah h18];obtain⟨op,r,m,sub,cc,l,k⟩:=x;have h18:op=18:=h18;subst h18;refine⟨by show ¬(18:Int)=20;decide,by show 0<5;decide,λd=>rfl⟩
 rw[aae h18];by_cases h19:x.op=19
 ·rw[aah h19];obtain⟨op,r,m,sub,cc,l,k⟩:=x;have h19:op=19:=h19;subst h19;refine⟨by show ¬(19:Int)=20;decide,by show 0<6;decide,λd=>rfl⟩
 rw[aae h19];by_cases h21:x.op=21
 ·rw[aah h21];obtain⟨op,r,m,sub,cc,l,k⟩:=x;have h21:op=21:=h21;subst h21;refine⟨by show ¬(21:Int)=20;decide,by show 0<5;decide,λd=>rfl⟩
 rw[aae h21];by_cases h6:x.op=6
 ·rw[aah h6];obtain⟨op,r,m,sub,cc,l,k⟩:=x;have h6:op=6:=h6;subst h6;refine⟨by show ¬(6:Int)=20;decide,by show 0<7;decide,λd=>rfl⟩
 rw[aae h6]
 have nf:¬VP x:=by
  rintro(q|q|q|q)
  ·exact h18 q
  ·exact h19 q
  ·exact h21 q
  ·exact h6 q
 obtain⟨S,r1,eo,nf2,eb⟩:=fG hr k64 nf n20;refine⟨by rw[eo];exact n20,by unfold ym;rw[eb 0];exact iA S,λd=>by rw[QY nf2,eb]⟩
theorem fw(hr:zO x=true)(k64:Go.Mem.qU x.k)(n20:¬x.op=20):(vQ gl st F o x).op=x.op:=by
 unfold vQ;by_cases h18:x.op=18
 ·rw[aah h18,h18]
 rw[aae h18];by_cases h19:x.op=19
 ·rw[aah h19,h19]
 rw[aae h19];by_cases h21:x.op=21
 ·rw[aah h21,h21]
 rw[aae h21];by_cases h6:x.op=6
 ·rw[aah h6,h6]
 rw[aae h6]
 have nf:¬VP x:=by
  rintro(q|q|q|q)
  ·exact h18 q
  ·exact h19 q
  ·exact h21 q
  ·exact h6 q
 exact(fG hr k64 nf n20).2.2.1
theorem B9(h:x.op=18\/x.op=19):(vQ gl st F o x).l=uG gl st F o x:=by
 unfold vQ;rcases h with h|h
 ·rw[aah h]
 ·rw[aae (by omega),aah h]
theorem My(h18:¬x.op=18)(h19:¬x.op=19)(h21:¬x.op=21)(h6:¬x.op=6):vQ gl st F o x=UH x:=by
 unfold vQ;rw[aae h18,aae h19,aae h21,aae h6]
end
noncomputable def dC (gl:List Int) (st:List Nat) (F:List zo) (o:Nat):List (Nat×zo):=qN (vQ gl st F o) F o
noncomputable def Cf (gl:List Int) (st:List Nat) (F:List zo) (o:Nat):List zo:=kZ (hasB (vX (dC gl st F o))) (dC gl st F o) (o+zD F)
section
variable {p:Pg}{f:Go.As.Fn}{o:Nat}{gl:List Int}{st:List Nat}
theorem me(G:wL p=true)(fm:f∈p.funcs)(k64:∀x,x∈f.code->Go.Mem.qU x.k):Bg (dC gl st f.code o) o (o+zD f.code):=by
 refine rV λx hx ho=>?_;obtain⟨a,b,c⟩:=XH (gl:=gl) (st:=st) (F:=f.code) (o:=o) (j5 G fm hx) (k64 x hx) ho;exact⟨a,by unfold ym;rw[c],b⟩
theorem OU{x:zo}(F:List zo)(h:x.op=18\/x.op=19):∃i:Nat,uG gl st F o x=((o+zD (F.take i):Nat):Int):=⟨_,by unfold uG;rw[aah h]⟩
theorem BO(G:wL p=true)(fm:f∈p.funcs)(k64:∀x,x∈f.code->Go.Mem.qU x.k)(k:Int):k∈u5 (vX (dC gl st f.code o)) ↔ ∃x,x∈f.code/\(x.op=18\/x.op=19)/\uG gl st f.code o x=k:=by
 rw[(p8 _).2]
 constructor
 ·rintro⟨q,h1,h2,h3⟩;obtain⟨x,hx,ho,e⟩:=au h1;rw[e,fw (j5 G fm hx) (k64 x hx) ho]at h2;rw[e,B9 h2]at h3;exact⟨x,hx,h2,h3⟩
 ·rintro⟨x,hx,h2,h3⟩;have ho:¬x.op=20:=by omega
  obtain⟨a,ha⟩:=aD (y:=vQ gl st f.code o) (n:=o) hx ho;exact⟨(a,vQ gl st f.code o x),ha,by show _\/_;rw[fw (j5 G fm hx) (k64 x hx) ho];exact h2,by show(vQ gl st f.code o x).l=k;rw[B9 h2];exact h3⟩
theorem Oz(G:wL p=true)(fm:f∈p.funcs)(k64:∀x,x∈f.code->Go.Mem.qU x.k){x:zo}(h:x.op=18\/x.op=19):∃g:Nat,uG gl st f.code o x=(g:Int)/\((∃q,q∈dC gl st f.code o/\q.1=g)\/o+zD f.code=g):=by
 obtain⟨i,e⟩:=OU (gl:=gl) (st:=st) (o:=o) f.code h;exact⟨_,e,aE i⟩
theorem zbj(G:wL p=true)(fm:f∈p.funcs)(k64:∀x,x∈f.code->Go.Mem.qU x.k):(Ke (dC gl st f.code o) (o+zD f.code) (vX (dC gl st f.code o))).2=[]/\(Ke (dC gl st f.code o) (o+zD f.code) (vX (dC gl st f.code o))).1=Cf gl st f.code o:=by
 refine PF (me G fm k64) (QQ _) (p8 _).1 λk hk=>?_;obtain⟨x,hx,h2,h3⟩:=(BO G fm k64 k).1 hk;obtain⟨g,e,h⟩:=Oz (gl:=gl) (st:=st) (o:=o) G fm k64 h2;rw[<- h3,e];rcases h with⟨q,h4,h5⟩|h
 ·exact .inl ⟨q,h4,by rw[h5]⟩
 ·exact .inr (by rw[h])
theorem EY(G:wL p=true)(fm:f∈p.funcs)(k64:∀x,x∈f.code->Go.Mem.qU x.k){x:zo}(hx:x∈f.code)(h:x.op=18\/x.op=19):∃i:Nat,yB (Cf gl st f.code o) (uG gl st f.code o x) 0=(i:Int)/\((o+zD ((Cf gl st f.code o).take i):Nat):Int)=uG gl st f.code o x:=by
 obtain⟨g,e,hp⟩:=Oz (gl:=gl) (st:=st) (o:=o) G fm k64 h;have hk:hasB (vX (dC gl st f.code o)) (g:Int)=true:=(mj (QQ _) _).2 ((BO G fm k64 _).2 ⟨x,hx,h,e⟩);obtain⟨i,h1,h2⟩:=O4 (me (gl:=gl) (st:=st) (o:=o) G fm k64) hk hp;have:=hX (k0:=0) (me (gl:=gl) (st:=st) (o:=o) G fm k64) h1 rfl;rw[abf]at this;rw[e];exact⟨i,this,by rw[<- h2];rfl⟩
theorem OL(G:wL p=true)(fm:f∈p.funcs)(k64:∀x,x∈f.code->Go.Mem.qU x.k){x:zo}(hx:x∈f.code)(n20:¬x.op=20)(n:Nat):ze (vQ gl st f.code o x) (Wv gl st (Cf gl st f.code o) o n (vQ gl st f.code o x))=ze x (Wv gl st f.code o n x):=by
 have hr:=j5 G fm hx;obtain⟨a,b,c⟩:=XH (gl:=gl) (st:=st) (F:=f.code) (o:=o) hr (k64 x hx) n20;have eo:=fw (gl:=gl) (st:=st) (F:=f.code) (o:=o) hr (k64 x hx) n20;have es:ym (vQ gl st f.code o x)=ym x:=by unfold ym;rw[c]
 rw[c];by_cases hf:VP x
 ·have:uG gl st (Cf gl st f.code o) o (vQ gl st f.code o x)=uG gl st f.code o x:=by
   by_cases hj:x.op=18\/x.op=19
   ·obtain⟨i,h1,h2⟩:=EY (gl:=gl) (st:=st) (o:=o) G fm k64 hx hj;rw[<- h2];have el:=B9 (gl:=gl) (st:=st) (F:=f.code) (o:=o) hj;unfold uG;rw[eo,aah hj,el,h1];rfl
   ·have h18:¬x.op=18:=λq=>hj (.inl q);have h19:¬x.op=19:=λq=>hj (.inr q);by_cases h21:x.op=21
    ·unfold uG;rw[eo,aae hj,aah h21,aae hj,aah h21];unfold vQ;rw[aae h18,aae h19,aah h21]
    ·by_cases h6:x.op=6
     ·unfold uG;rw[eo,aae hj,aae h21,aah h6,aae hj,aae h21,aah h6];unfold vQ;rw[aae h18,aae h19,aae h21,aah h6]
     ·rcases hf with q|q|q|q
      ·exact absurd q h18
      ·exact absurd q h19
      ·exact absurd q h21
      ·exact absurd q h6
  unfold Wv;rw[eo,es,this]
 ·rw[QY hf,QY hf (Wv gl st f.code o n x)]
theorem Hs(G:wL p=true)(fm:f∈p.funcs)(k64:∀x,x∈f.code->Go.Mem.qU x.k):uP gl st (Cf gl st f.code o) o (Cf gl st f.code o) o=uP gl st f.code o f.code o:=by
 refine Eu (G:=hasB (vX (dC gl st f.code o))) λx hx ho=>?_;obtain⟨a,b,c⟩:=XH (gl:=gl) (st:=st) (F:=f.code) (o:=o) (j5 G fm hx) (k64 x hx) ho;exact⟨by unfold ym;rw[c],λn=>OL G fm k64 hx ho n⟩
theorem RC(G:wL p=true)(fm:f∈p.funcs)(k64:∀x,x∈f.code->Go.Mem.qU x.k):zD (Cf gl st f.code o)=zD f.code:=by
 have:=congrArg List.length (Hs (gl:=gl) (st:=st) (o:=o) G fm k64)
 rwa [W6,W6]at this
end
theorem FG{x:zo}:∀{xs:List zo},x∈xs->ym x<=zD xs
 |y::ys,h=>by
  show _<=ym y+zD ys;rcases aaz.1 h with rfl|h
  ·omega
  ·have:=FG h;omega
theorem Mh{code xs rest:List Int}{n:Nat}(h:code.drop n=xs++rest):code.drop (n+xs.length)=rest:=by
 rw[<- List.drop_drop,h,List.drop_left]
section
variable {p:Pg}{f:Go.As.Fn}{o:Nat}{sts:List Nat}{code:List Int}
theorem rY(G:wL p=true)(fm:f∈p.funcs)(k64:∀x,x∈f.code->Go.Mem.qU x.k)(hl:code.length<=1000000)(ho:o+zD f.code<=code.length)(inc:sts.Pairwise (· < ·))(hs:sts.length=p.funcs.length)(Mq:∀s,s∈sts->s<=code.length)(hb:xa code){rest:List Int} :
  ∀(xs:List zo) (n fuel:Nat),(∀x,x∈xs->x∈f.code)->code.drop n=uP (yi p.globals 16777216) sts f.code o xs n++rest->n+zD xs=o+zD f.code->zD xs<=fuel ->
   qh (sts.map λ(n:Nat)=>(n:Int)) p.globals code (o+zD f.code) fuel n=(qN (vQ (yi p.globals 16777216) sts f.code o) xs n,o+zD f.code)
 |[],n,fuel,_,_,hn,_=>by
  have hn:n+0=o+zD f.code:=hn;rw[FN (by omega)];show([],n)=([],_);rw[<- hn];rfl
 |x::xs,n,fuel,hm,hd,hn,hf=>by
  have e1:zD (x::xs)=ym x+zD xs:=rfl;rw[e1]at hn hf;have hx:=hm x aak;have hm':∀z,z∈xs->z∈f.code:=λz hz=>hm z (aar _ hz);have hd:code.drop n=ze x (Wv (yi p.globals 16777216) sts f.code o n x)++(uP (yi p.globals 16777216) sts f.code o xs (n+ym x)++rest):=by rw[hd,<- aa4];rfl
  have hd2:=Mh hd;rw[fS]at hd2;by_cases h20:x.op=20
  ·have z:=Ur h20;rw[z]at hd2 hn hf;unfold qN;rw[aah h20];exact rY G fm k64 hl ho inc hs Mq hb xs n fuel hm' hd2 (by omega) (by omega)
  ·obtain⟨a,b,c⟩:=XH (gl:=yi p.globals 16777216) (st:=sts) (F:=f.code) (o:=o) (j5 G fm hx) (k64 x hx) h20;obtain⟨f2,rfl⟩:∃f2,fuel=f2+1:=⟨fuel-1,by omega⟩;have rd:=O6 (n:=n) (rest:=uP (yi p.globals 16777216) sts f.code o xs (n+ym x)++rest) (len:=code.length) G fm hx (k64 x hx) h20 (by omega) hl ho inc hs Mq (λz hz=>hb z (ab8 (i:=n) (by rw[hd];exact aaX _ hz)));rw[<- hd]at rd;rw[Lo (show n<o+zD f.code by omega) rd (by omega)];rw[rY G fm k64 hl ho inc hs Mq hb xs (n+ym x) f2 hm' hd2 (by omega) (by omega)]
   conv=>rhs;unfold qN
   rw[aae h20]
theorem SA(G:wL p=true)(fm:f∈p.funcs)(k64:∀x,x∈f.code->Go.Mem.qU x.k)(hl:code.length<=1000000)(ho:o+zD f.code<=code.length)(inc:sts.Pairwise (· < ·))(hs:sts.length=p.funcs.length)(Mq:∀s,s∈sts->s<=code.length)(hb:xa code){rest:List Int}(hd:code.drop o=uP (yi p.globals 16777216) sts f.code o f.code o++rest) :
  AM (sts.map λ(n:Nat)=>(n:Int)) p.globals code o (o+zD f.code)=some (Cf (yi p.globals 16777216) sts f.code o):=by
 have w:=rY (rest:=rest) G fm k64 hl ho inc hs Mq hb f.code o (o+zD f.code-o) (λx h=>h) hd rfl (by omega);obtain⟨o1,o2⟩:=zbj (gl:=yi p.globals 16777216) (st:=sts) (o:=o) G fm k64;unfold AM;rw[w];show(if o+zD f.code=o+zD f.code then _ else none)=_;rw[aah rfl];show(if (Ke (dC _ _ _ _) _ (vX (dC _ _ _ _))).2.length=0 then some (Ke (dC _ _ _ _) _ (vX (dC _ _ _ _))).1 else none)=_;rw[o1,o2];rfl
end
noncomputable def Ql (gl:List Int) (st:List Nat):List Go.As.Fn->Nat->List (List zo)
 |[],_=>[]
 |f::fs,n=>Cf gl st f.code n::Ql gl st fs (n+zD f.code)
theorem W8(gl:List Int)(st:List Nat):∀(fs:List Go.As.Fn) (n:Nat),(Ql gl st fs n).length=fs.length
 |[],_=>rfl
 |f::fs,n=>by show(Ql gl st fs _).length+1=fs.length+1;rw[W8]
theorem fu(gl:List Int)(st:List Nat):∀{fs:List Go.As.Fn} {n k:Nat} {f:Go.As.Fn},fs[k]? = some f->(Ql gl st fs n)[k]? = some (Cf gl st f.code (n+yg (fs.take k)))
 |g::fs,n,0,f,h=>by
  have:g=f:=by simpa using h
  subst this;rfl
 |g::fs,n,k+1,f,h=>by
  have:=fu gl st (fs:=fs) (n:=n+zD g.code) (k:=k) (by simpa using h);show(Ql gl st fs _)[k]? = some (Cf gl st f.code (n+(zD g.code+yg (fs.take k))));rw[this,abq]
theorem Es(gl:List Int)(st:List Nat):∀{fs:List Go.As.Fn} {n k:Nat} {f:Go.As.Fn},fs[k]? = some f->∃rest,(Yf gl st fs n).drop (yg (fs.take k))=uP gl st f.code (n+yg (fs.take k)) f.code (n+yg (fs.take k))++rest
 |g::fs,n,0,f,h=>by
  have:g=f:=by simpa using h
  subst this;exact⟨Yf gl st fs (n+zD g.code),rfl⟩
 |g::fs,n,k+1,f,h=>by
  obtain⟨rest,e⟩:=Es gl st (fs:=fs) (n:=n+zD g.code) (k:=k) (f:=f) (by simpa using h);refine⟨rest,?_⟩;show(uP gl st g.code n g.code n++Yf gl st fs (n+zD g.code)).drop (zD g.code+yg (fs.take k))=uP gl st f.code (n+(zD g.code+yg (fs.take k))) f.code (n+(zD g.code+yg (fs.take k)))++rest;rw[<- List.drop_drop]
  have:(uP gl st g.code n g.code n++Yf gl st fs (n+zD g.code)).drop (zD g.code)=Yf gl st fs (n+zD g.code):=by
   have:=List.drop_left (l₁:=uP gl st g.code n g.code n) (l₂:=Yf gl st fs (n+zD g.code))
   rwa [W6]at this
  rw[this,e,abq]
theorem FJ:∀{fs:List Go.As.Fn} {n s:Nat},s∈xq fs n->n<=s
 |f::fs,n,s,h=>by
  rcases aaz.1 h with rfl|h
  ·exact aaj _
  ·have:=FJ h;omega
theorem Ba:∀{fs:List Go.As.Fn} {n:Nat},(∀f,f∈fs->0<zD f.code)->(xq fs n).Pairwise (· < ·)
 |[],_,_=>List.Pairwise.nil
 |f::fs,n,h=>by
  refine List.Pairwise.cons (λs hs=>?_) (Ba λg hg=>h g (aar _ hg));have:=FJ hs;have:=h f aak;omega
theorem kV:∀(fs:List Go.As.Fn) (k:Nat),yg (fs.take k)<=yg fs
 |[],k=>by rw[List.take_nil];exact aaj _
 |f::fs,0=>aaS _
 |f::fs,k+1=>by
  have:=kV fs k;show zD f.code+yg (fs.take k)<=zD f.code+yg fs;omega
theorem cZ:∀{fs:List Go.As.Fn} {k:Nat} {f:Go.As.Fn},fs[k]? = some f->yg (fs.take (k+1))=yg (fs.take k)+zD f.code
 |g::fs,0,f,h=>by
  have:g=f:=by simpa using h
  subst this;show zD g.code+0=0+zD g.code;omega
 |g::fs,k+1,f,h=>by
  have:=cZ (fs:=fs) (k:=k) (f:=f) (by simpa using h);show zD g.code+yg (fs.take (k+1))=zD g.code+yg (fs.take k)+zD f.code;omega
section
variable {p:Pg}
theorem ID(G:wL p=true){f:Go.As.Fn}(fm:f∈p.funcs):(∃x,x∈f.code /\ ¬x.op=20)/\f.code.length<=100000:=by
 have hd:uZ p=true:=by rw[uS];exact G
 unfold uZ at hd;simp only[aac,aav]at hd;have a:=hd.2.2 f fm;unfold Go.Ar.Qc at a;simp only[aac,aao,aam]at a;obtain⟨_,a2,a3⟩:=a;unfold Go.Ar.Wq at a2;rw[List.any_eq_true]at a2;obtain⟨x,hx,h⟩:=a2;exact⟨⟨x,hx,by simpa using h⟩,by omega⟩
theorem OP(G:wL p=true)(k64:∀f,f∈p.funcs->∀x,x∈f.code->Go.Mem.qU x.k){f:Go.As.Fn}(fm:f∈p.funcs):0<zD f.code:=by
 obtain⟨⟨x,hx,h⟩,_⟩:=ID G fm;have:=(XH (gl:=[]) (st:=[]) (F:=f.code) (o:=0) (j5 G fm hx) (k64 f fm x hx) h).2.1;have:=FG hx;omega
theorem Pb(G:wL p=true)(k64:∀f,f∈p.funcs->∀x,x∈f.code->Go.Mem.qU x.k)(hsz:yg p.funcs<=1000000)(hb:xa (jW p)){k s e:Nat}(h1:(xq p.funcs 0)[k]? = some s)(h2:(xq p.funcs 0++[(jW p).length])[k+1]? = some e) :
  (k=0->s=0)/\s<e/\e<=(jW p).length/\AM ((xq p.funcs 0).map λ(n:Nat)=>(n:Int)) p.globals (jW p) s e=some ((Ql (yi p.globals 16777216) (xq p.funcs 0) p.funcs 0)[k]?.getD []):=by
 have hlen:(jW p).length=yg p.funcs:=W7 _ _ _ _
 have hk:k<p.funcs.length:=by
  have:=(aaM.1 h1).1
  rwa [u3]at this
 obtain⟨f,hf⟩:∃f,p.funcs[k]? = some f:=⟨_,aag hk⟩;have fm:=aax hf;rw[Qu _ _ _ hk]at h1;have h1:=abg h1;rw[abf]at h1;have nx:=cZ hf
 have he:e=s+zD f.code:=by
  rcases aaI (k+1) p.funcs.length with q|q
  ·rw[aa2 (by rw[u3];exact q),Qu _ _ _ q]at h2;have:=abg h2;omega
  ·have hq:k+1=p.funcs.length:=by omega
   rw[aaZ (by rw[u3];omega),u3,show k+1-p.funcs.length=0 by omega]at h2;have h2:(jW p).length=e:=by simpa using h2
   rw[hq,abD]at nx;omega
 have pos:=OP G k64 fm
 have le:s+zD f.code<=(jW p).length:=by
  have:=kV p.funcs (k+1);omega
 obtain⟨rest,hd⟩:=Es (yi p.globals 16777216) (xq p.funcs 0) (n:=0) hf;rw[abf,h1]at hd;refine⟨λk0=>?_,by omega,by omega,?_⟩
 ·subst k0;rw[<- h1];rfl
 ·rw[fu _ _ hf,abC,abf,h1,he];refine SA (rest:=rest) G fm (k64 f fm) (by omega) le (Ba λg gm=>OP G k64 gm) (u3 _ _) (λz hz=>?_) hb hd;obtain⟨i,hi,rfl⟩:=abO hz;have hi':i<p.funcs.length:=by rwa [u3]at hi
  have:=Qu p.funcs 0 i hi';rw[aag hi]at this;have:=abg this;have:=kV p.funcs i;omega
end
section
variable {p q:Pg}{f:Go.As.Fn}{o:Nat}{gl:List Int}{st:List Nat}
theorem zbv(G:wL p=true)(fm:f∈p.funcs){x:zo}(hx:x∈f.code):Go.Ar.jk p x=true:=by
 have hd:uZ p=true:=by rw[uS];exact G
 unfold uZ at hd;simp only[aac,aav]at hd;have a:=hd.2.2 _ fm;unfold Go.Ar.Qc at a;simp only[aac]at a;have a1:=a.1;unfold Go.Ar.Qb at a1;rw[aav]at a1;obtain⟨n,hn⟩:=abW hx;have hn':=(aaM.1 hn).1;have b:=a1 n (by simpa using hn');unfold Go.Ar.EU at b;rw[hn]at b;have b:Go.Ar.wK p f.code n x=true:=b;unfold Go.Ar.wK at b;simp only[aac]at b;exact b.2.2
theorem GV(G:wL p=true)(fm:f∈p.funcs)(k64:∀x,x∈f.code->Go.Mem.qU x.k)(hl:o+zD f.code<=1000000){x:zo}(hx:x∈f.code)(n20:¬x.op=20):zO (vQ gl st f.code o x)=true:=by
 have hr:=j5 G fm hx;by_cases h18:x.op=18
 ·have gj:=Qj o gl st f.code (.inl h18);unfold vQ;rw[aah h18];generalize uG gl st f.code o x=g at gj;unfold zO Go.Ar.tailD;simp[Go.Ar.Xh,Go.Ar.Wl,Go.Ar.UK,Go.Ar.aP,Go.As.fW,Go.As.KF,Go.As.VA];omega
 by_cases h19:x.op=19
 ·have gj:=Qj o gl st f.code (.inr h19);unfold vQ;rw[aae h18,aah h19];generalize uG gl st f.code o x=g at gj;obtain⟨op,r,m,sub,cc,l,k⟩:=x;have h19:op=19:=h19;subst h19
  have hcc:21<=cc/\cc<=26:=by
   unfold Go.Ar.zO Go.Ar.tailD at hr;simp[Go.As.ZI]at hr;omega
  unfold zO Go.Ar.tailD;simp[Go.Ar.Xh,Go.Ar.Wl,Go.Ar.UK,Go.Ar.aP,Go.As.fW,Go.As.KF,Go.As.VA,Go.As.ZI,hcc.1,hcc.2];omega
 by_cases h21:x.op=21
 ·unfold vQ;rw[aae h18,aae h19,aah h21];unfold zO Go.Ar.tailD;simp[Go.Ar.Xh,Go.Ar.Wl,Go.Ar.UK,Go.Ar.aP,Go.As.fW,Go.As.KF,Go.As.VA]
 by_cases h6:x.op=6
 ·unfold vQ;rw[aae h18,aae h19,aae h21,aah h6];obtain⟨op,r,m,sub,cc,l,k⟩:=x;have h6:op=6:=h6;subst h6;exact hr
 rw[My h18 h19 h21 h6]
 have nf:¬VP x:=by
  rintro(q|q|q|q)
  ·exact h18 q
  ·exact h19 q
  ·exact h21 q
  ·exact h6 q
 exact(fG hr (k64 x hx) nf n20).2.1
theorem Pc(G:wL p=true)(fm:f∈p.funcs)(k64:∀x,x∈f.code->Go.Mem.qU x.k)(eg:q.globals=p.globals)(el:q.funcs.length=p.funcs.length){x:zo}(hx:x∈f.code)(n20:¬x.op=20):Go.Ar.jk q (vQ gl st f.code o x)=true:=by
 have hr:=zbv G fm hx;have eo:=fw (gl:=gl) (st:=st) (F:=f.code) (o:=o) (j5 G fm hx) (k64 x hx) n20
 have none:¬x.op=21->¬x.op=6->Go.Ar.jk q (vQ gl st f.code o x)=true:=λa b=>by
  unfold Go.Ar.jk;rw[eo,aaT a,aaT b];rfl
 by_cases h21:x.op=21
 ·unfold vQ;rw[aae (by omega),aae (by omega),aah h21];unfold Go.Ar.jk at hr ⊢;rw[el];rw[aa1 h21,aaT (show ¬x.op=6 by omega)]at hr;exact hr
 by_cases h6:x.op=6
 ·unfold vQ;rw[aae (by omega),aae (by omega),aae h21,aah h6];unfold Go.Ar.jk at hr ⊢;rw[eg];rw[aa1 h6,aaT h21]at hr;exact hr
 exact none h21 h6
theorem Mx(G:wL p=true)(fm:f∈p.funcs)(k64:∀x,x∈f.code->Go.Mem.qU x.k)(hl:o+zD f.code<=1000000)(hc:f.code.length<=1000)(eg:q.globals=p.globals)(el:q.funcs.length=p.funcs.length){g:Go.As.Fn}(ec:g.code=Cf gl st f.code o):Go.Ar.Qc q g=true:=by
 have T:=me (gl:=gl) (st:=st) (o:=o) G fm k64;have D:=aC (y:=vQ gl st f.code o) f.code o;have D2:=Ci (G:=hasB (vX (dC gl st f.code o))) (dC gl st f.code o) (o+zD f.code);unfold Go.Ar.Qc;rw[ec];rw[aac,aac];refine⟨?_,?_,?_⟩
 ·unfold Go.Ar.Qb;rw[aav];intro n hn;unfold Go.Ar.EU;cases hx:(Cf gl st f.code o)[n]? with
  |none=>rfl
  |some x=>
   show Go.Ar.wK q _ n x=true;unfold Go.Ar.wK;rw[aac,aac];rcases IP (aax hx) with⟨a,rfl,ga⟩|⟨r,hr,rfl⟩
   ·
    obtain⟨z,hz,h2,h3⟩:=(BO G fm k64 (a:Int)).1 ((mj (QQ _) _).1 ga);have gj:=Qj o gl st f.code h2;rw[h3]at gj;have ff:=hX (k0:=0) T hx rfl;refine⟨?_,?_,?_⟩
    ·unfold zO Go.Ar.tailD W0;simp[Go.Ar.Xh,Go.Ar.Wl,Go.Ar.UK,Go.Ar.aP,Go.As.fW,Go.As.KF,Go.As.VA];omega
    ·unfold Go.Ar.jj;rw[abf]at ff;have ff:yB (Cf gl st f.code o) (W0 a).l 0=(n:Int):=ff;rw[ff];simp[W0]
    ·unfold Go.Ar.jk W0;simp
   ·obtain⟨z,hz,hz20,e⟩:=au hr;rw[e];have eo:=fw (gl:=gl) (st:=st) (F:=f.code) (o:=o) (j5 G fm hz) (k64 z hz) hz20;refine⟨GV G fm k64 hl hz hz20,?_,Pc G fm k64 eg el hz hz20⟩;unfold Go.Ar.jj;rw[eo,aaT hz20];by_cases hj:z.op=18\/z.op=19
    ·obtain⟨i,h1,_⟩:=EY (gl:=gl) (st:=st) (o:=o) G fm k64 hz hj;rw[B9 hj,h1,aa1 hj];have:decide ((i:Int)<0)=false:=aaT (by omega);rw[this];rfl
    ·rw[aaT hj];rfl
 ·unfold Go.Ar.Wq;rw[List.any_eq_true];obtain⟨⟨x,hx,h⟩,_⟩:=ID G fm;obtain⟨a,ha⟩:=aD (y:=vQ gl st f.code o) (n:=o) hx h;refine⟨_,I4 ha,?_⟩;have:=(XH (gl:=gl) (st:=st) (F:=f.code) (o:=o) (j5 G fm hx) (k64 x hx) h).1;show(!decide ((vQ gl st f.code o x).op=20))=true;rw[aaT this];rfl
 ·have:(Cf gl st f.code o).length<=100000:=by
   have D:(dC gl st f.code o).length<=f.code.length:=D;show(kZ _ (dC gl st f.code o) _).length<=_;omega
  rw[aaT (by omega)];rfl
theorem rS(G:wL p=true)(k64:∀f,f∈p.funcs->∀x,x∈f.code->Go.Mem.qU x.k):∀{fs gs:List Go.As.Fn} {n:Nat},(∀f,f∈fs->f∈p.funcs)->gs.map Go.As.Fn.code=Ql gl st fs n->xq gs n=xq fs n/\Yf gl st gs n=Yf gl st fs n
 |[],[],n,_,_=>⟨rfl,rfl⟩
 |[],_::_,n,_,e=>by cases e
 |_::_,[],n,_,e=>by cases e
 |f::fs,g::gs,n,h,e=>by
  have fm:=h f aak;have e:g.code::gs.map Go.As.Fn.code=Cf gl st f.code n::Ql gl st fs (n+zD f.code):=e;injection e with e1 e2;have sz:=RC (gl:=gl) (st:=st) (o:=n) G fm (k64 f fm);have cd:=Hs (gl:=gl) (st:=st) (o:=n) G fm (k64 f fm);obtain⟨i1,i2⟩:=rS G k64 (λf hf=>h f (aar _ hf)) e2
  constructor
  ·show n::xq gs (n+zD g.code)=n::xq fs (n+zD f.code);rw[e1,sz,i1]
  ·show uP gl st g.code n g.code n++Yf gl st gs (n+zD g.code)=uP gl st f.code n f.code n++Yf gl st fs (n+zD f.code);rw[e1,sz,i2,cd]
theorem zc5(G:wL p=true)(k64:∀f,f∈p.funcs->∀x,x∈f.code->Go.Mem.qU x.k)(hsz:yg p.funcs<=1000000)(hc:∀f,f∈p.funcs->f.code.length<=1000)(eg:q.globals=p.globals)(em:q.main=p.main)(ep:q.params=p.params)(ec:q.funcs.map Go.As.Fn.code=Ql (yi p.globals 16777216) (xq p.funcs 0) p.funcs 0) :
  wL q=true/\jW q=jW p/\qz q.funcs=qz p.funcs/\yg q.funcs=yg p.funcs:=by
 have el:q.funcs.length=p.funcs.length:=by
  have:=congrArg List.length ec
  rwa [aaq,W8]at this
 obtain⟨s1,s2⟩:=rS (gl:=yi p.globals 16777216) (st:=xq p.funcs 0) G k64 (fs:=p.funcs) (gs:=q.funcs) (n:=0) (λf h=>h) ec
 have eb:jW q=jW p:=by
  unfold jW;rw[eg,s1];exact s2
 refine⟨?_,eb,?_,?_⟩
 ·rw[<- uS];have hd:uZ p=true:=by rw[uS];exact G
  unfold uZ at hd ⊢;rw[aac,aac]at hd ⊢;refine⟨?_,by rw[eg];exact hd.2.1,?_⟩
  ·have:=hd.1;unfold Go.As.uR at this ⊢;rw[em,ep,eg,el];exact this
  ·rw[aav];intro g hg;obtain⟨k,hk,rfl⟩:=abO hg;have hk':k<p.funcs.length:=by omega
   have hf:p.funcs[k]? = some p.funcs[k]:=aag hk'
   have hc2:q.funcs[k].code=Cf (yi p.globals 16777216) (xq p.funcs 0) p.funcs[k].code (0+yg (p.funcs.take k)):=by
    have a:=fu (yi p.globals 16777216) (xq p.funcs 0) (n:=0) hf;rw[<- ec,aay,aag hk]at a;simpa using a
   have nx:=cZ hf;have tk:=kV p.funcs (k+1);exact Mx G (abU hk') (k64 _ (abU hk')) (by omega) (hc _ (abU hk')) eg el hc2
 ·unfold qz;rw[s1]
 ·have a:=W7 (yi p.globals 16777216) (xq p.funcs 0) q.funcs 0;rw[s2,W7]at a;exact a.symm
end
open Go.Ar (fF eS)
open Go.Eb (CI Jl VJ)
open Go.Ec (Small OM df OY rU)
open Go.Ee (yes BM)
theorem Hl{p:Pg}(S:Small p):yg p.funcs<=3600:=by
 have:∀fs:List Go.As.Fn,(∀f,f∈fs->f.code.length<=60)->yg fs<=600*fs.length:=λfs=>by
  induction fs with
  |nil=>intro _;exact aaj _
  |cons f fs ih=>
   intro h;have a:=ih λg hg=>h g (aar _ hg);have b:=h f aak;have c:=rP f.code;show zD f.code+yg fs<=600*(fs.length+1);omega
 have a:=this p.funcs S.cf;have:=S.fl;omega
section
variable {h:za}{p:Pg}
theorem Ro(P:uQ h p)(N:∀f,f∈p.funcs->∀x,x∈f.code->Go.Mem.qU x.k)(aw:∀h',Old h h'->vw Tryz.prog 7 [] h' (.bool true)):DC Tryz.prog 6 [p.val] h yes:=by
 apply UP;intro wf;apply sd;unfold mM;have s0:Sat (.of h) h []:=Sat.self wf.2;have RP:Rd (.of h) (uQ · p):=Rd.of (yH.Wx h) P λh' o=>P.old o;have RQ:Rd (.of h) (λh'=>vw Tryz.prog 7 [] h' (.bool true)):=λh' b=>aw h' (by obtain⟨a,c,d⟩:=(yH.Wx h).old b;exact⟨a,c,d⟩);have gvn:=P.globals.Kc;have gvc:=P.globals.Au;have fvn:=P.funcs.Kc;have fvc:=P.funcs.Au;simp only[EE,Value.cells];refine vR s0 λb1 h2 s2=>?_;have g1:=s2.get;refine VM (RQ.at s2) ?_;simp only[EE,Nat.reduceAdd,jY,YT,aU,g1];refine sE (by simp only[yk];rfl) (OM (RP.at s2)) ?_;rintro v h3 ⟨B,rfl,hB,s3⟩;have s4:=s2.join s3;have g1:=s4.get;cases B with
 |false=>
  simp only[EE,XN,Uw];rfl
 |true=>
 have SM:=hB rfl;simp only[EE,Nat.reduceAdd,jY,YT,g1];unfold Uw;simp only[EE];refine gZ (by simp only[yk];rfl) (eS (RP.at s4)) ?_;rw[uS];cases hg:wL p with
 |false=>
  simp only[EE,XN];rfl
 |true=>
 simp only[EE,Nat.reduceAdd,jY,YT,XN,g1];refine sE (by simp only[yk];rfl) (Xm (Jl (RP.at s4) (λ_=>df SM))) ?_;rintro v h7 ⟨hv,w7⟩;unfold CI at hv;rw[aah hg]at hv;obtain⟨cv,sv,gv,rfl,s7⟩:=hv;have s8:=s4.join s7;have cn:=xt s8;have cc:=k8 s8;have sn:=yG (s8.p 1);have sc:=xx (s8.p 1);have gn:=yG (s8.p 2);have gc:=xx (s8.p 2);have hsz:=Hl SM;have hlen:(jW p).length=yg p.funcs:=W7 _ _ _ _;have hbb:xa (jW p):=BM _ _ _ _;have gl7:=SM.gl;have fl7:=SM.fl;have s7':Sat (.of h7) h7 []:=Sat.self w7.2;have B7:xb h7 cv (jW p):=yD s8 aak;have N7:zv h7 sv ((xq p.funcs 0).map λ(n:Nat)=>(n:Int)):=JI s8 (aar _ aak);have G7:zv h7 gv p.globals:=JI s8 (aar _ (aar _ aak));have I:Be (.of h7) cv sv gv (jW p) ((xq p.funcs 0).map λ(n:Nat)=>(n:Int)) p.globals:=⟨Rd.of (yH.Wx h7) B7 λh' o=>zE.old B7 o,Rd.of (yH.Wx h7) N7 λh' o=>N7.old o,Rd.of (yH.Wx h7) G7 λh' o=>G7.old o,cn,sn,gn,cc,sc,gc,by omega,by rw[aaq,u3];omega,by omega,(Wy hg).gr⟩;unfold aT;simp only[EE,Value.cells,Vo];refine vR s7' λb3 h9 s9=>?_;simp only[EE,Nat.reduceAdd,Vm];refine zY s9 (by simp) (by simp[cc,sc,gc];exact⟨rfl,rfl⟩) λh10 s10=>?_;have s10:Sat (.of h7) h10 [pt b3 (.cells (Zd cv sv gv p.main p.params) 31)]:=s10;have g3:=s10.get
 have e3:zd Tryz.prog 31 (rp b3) h10=some (sL cv sv gv p.main p.params):=by
  simp only[EE,Nat.reduceAdd,jY,Xk,g3]
 simp only[EE,e3];refine sE (by simp only[yk];rfl) (zam (cs:=λk=>(Ql (yi p.globals 16777216) (xq p.funcs 0) p.funcs 0)[k]?.getD []) I hbb (by omega) (by rw[u3];omega) (by have:=P;have h2:=hg;unfold Go.As.wL Go.As.uR at h2;simp only[aac,aao,aam]at h2;omega) (by rw[u3];have h2:=hg;unfold Go.As.wL Go.As.uR at h2;simp only[aac,aao,aam]at h2;omega) (λk s e h1 h2=>Pb hg N (by omega) hbb h1 h2) s10) ?_;rintro v h11 ⟨q,rfl,eg,em,ep,ec,s11⟩
 have ec:q.funcs.map Go.As.Fn.code=Ql (yi p.globals 16777216) (xq p.funcs 0) p.funcs 0:=by
  rw[ec];refine abz λk=>?_;rw[aay];rcases aaI k (xq p.funcs 0).length with q1|q1
  ·rw[List.getElem?_range q1];obtain⟨z,hz⟩:∃z,(Ql (yi p.globals 16777216) (xq p.funcs 0) p.funcs 0)[k]? = some z:=⟨_,aag (by rw[W8];rwa [u3]at q1)⟩;show some ((Ql (yi p.globals 16777216) (xq p.funcs 0) p.funcs 0)[k]?.getD [])=_;rw[hz];rfl
  ·rw[aas (by rw[List.length_range];exact q1),aas (by rw[W8];rwa [u3]at q1)];rfl
 obtain⟨t1,t2,t3,t4⟩:=zc5 hg N (by omega) (λf fm=>by have:=SM.cf f fm;omega) eg em ep ec
 have hq:∀f,f∈q.funcs->f.code.length<=1000:=λf fm=>by
  have hm:f.code∈q.funcs.map Go.As.Fn.code:=abY fm;rw[ec]at hm;obtain⟨k,hk,e⟩:=abO hm;have hk':k<p.funcs.length:=by rwa [W8]at hk
  have a:=fu (yi p.globals 16777216) (xq p.funcs 0) (n:=0) (aag hk');rw[aag hk,aab]at a;rw[<- e,a];have c:=SM.cf _ (abU hk');have D:=aC (y:=vQ (yi p.globals 16777216) (xq p.funcs 0) p.funcs[k].code (0+yg (p.funcs.take k))) p.funcs[k].code (0+yg (p.funcs.take k));have D2:=Ci (G:=Go.As.hasB (vX (dC (yi p.globals 16777216) (xq p.funcs 0) p.funcs[k].code (0+yg (p.funcs.take k))))) (dC (yi p.globals 16777216) (xq p.funcs 0) p.funcs[k].code (0+yg (p.funcs.take k))) (0+yg (p.funcs.take k)+zD p.funcs[k].code);have D:(dC (yi p.globals 16777216) (xq p.funcs 0) p.funcs[k].code (0+yg (p.funcs.take k))).length<=p.funcs[k].code.length:=D;show(kZ _ (dC _ _ _ _) _).length<=_;exact aaU D2 (by omega)
 have elq:q.funcs.length=p.funcs.length:=by
  have:=congrArg List.length ec
  rwa [aaq,W8]at this
 have RDQ:∀{h'} {L:List HP},Sat (.of h7) h' (SU q::L)->uQ h' q:=λt=>fF t (by rw[eg];omega) (by rw[elq];omega) λf fm=>by have:=hq f fm;omega
 have Q11:=RDQ s11;have qgn:=Q11.globals.Kc;have qgc:=Q11.globals.Au;have qfn:=Q11.funcs.Kc;have qfc:=Q11.funcs.Au;unfold aS;simp only[EE,Value.cells,Ok];refine vR s11 λb5 h12 s12=>?_;simp only[EE,Nat.reduceAdd,Og];refine zY s12 (by simp) (by simp[qgc,qfc];exact⟨rfl,rfl⟩) λh13 s13=>?_;have g5:=s13.get;simp only[EE,zt,Nat.reduceAdd,jY,YT,g5];refine sE (by simp only[yk];rfl) (Jl (RDQ (s13.p 1)) (λ_=>by omega)) ?_;rintro v h14 hv;unfold CI at hv;rw[aah t1]at hv;obtain⟨cv2,sv2,gv2,rfl,s14⟩:=hv;rw[t2,t3]at s14;have s15:=s13.join s14;have cn2:=xt s15;have cc2:=k8 s15;have sn2:=yG (s15.p 1);have sc2:=xx (s15.p 1);have gn2:=yG (s15.p 2);have gc2:=xx (s15.p 2);unfold dy;simp only[EE,Value.cells,Vo];refine vR s15 λb7 h16 s16=>?_;simp only[EE,Nat.reduceAdd,Vm];refine zY s16 (by simp) (by simp[cc2,sc2,gc2];exact⟨rfl,rfl⟩) λh17 s17=>?_;have g7:=s17.get;have g3:=(s17.p 6).get;have tx1:=rU (I.rc.at s17);have tx2:=rU (yD s17 (by simp):xb h17 cv2 (jW p));simp only[EE,zt,Nat.reduceAdd,zu,abk,wi,jE,zcp,uF,u7,dt,du,dv,dw,dx,g7,g3,cn,cn2,tx1,tx2,abk];unfold dr;simp only[EE];refine gZ (by simp only[yk,sn,sn2,aaH]) (OY (zs:=qz p.funcs) (JI s17 (by simp)) (I.rs.at s17) (by rw[VJ];omega)) ?_;simp only[EE];rfl
end
end Go.Eg
namespace Go.Ef
open Go.Ai Go.Proofs
open Go.Rtl (zv zE Old inc z8 yS x9 Jv wm xU JI Km VG)
open Go.Rm (j7 yx yG xx yU xO vY zS qy zQ yJ Rd Rd.of Rd.at Rd.mono)
open Go.As (zo Pg uQ qu vq vp x8 wL uH)
open Go.Ar (Rx SU fF eS uZ uS)
open Go.Eb (KH xb yI wO ye uO yD xt k8 wM Xl Xm CI Jl qz VJ Wy)
open Go.En
open Go.Ed
open Go.Ee (yes oN oO oP)
section
variable {lo:yH}{h:za}{L:List HP}{x:zo}{av:aaa}{ahead:List zo}
end
end Go.Ef
