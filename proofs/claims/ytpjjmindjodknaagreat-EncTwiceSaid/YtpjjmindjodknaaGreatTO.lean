import Derived.Test.YtpjjmindjodknaaGreatTN
set_option linter.unusedVariables false
set_option linter.unusedSimpArgs false
set_option maxRecDepth 100000
namespace Go.As
open Go.Ai Go.Proofs
open Go.Rtl (zv zE Old)
theorem absH_lt(w:World)(b:Nat)(o:wS)(h:(absH pu w).get b=some o):b<(absH pu w).next:=(Fs pu w).KJ b o h
theorem c2:Tryz.prog.cellsOf 2=1:=by kernel_rfl
theorem c3:Tryz.prog.cellsOf 3=1:=by kernel_rfl
theorem c9:Tryz.prog.cellsOf 9=1:=by kernel_rfl
theorem c22:Tryz.prog.cellsOf 22=1:=by kernel_rfl
theorem c23:Tryz.prog.cellsOf 23=1:=by kernel_rfl
theorem c25:Tryz.prog.cellsOf 25=4:=by kernel_rfl
theorem c43:Tryz.prog.cellsOf 48=1:=by kernel_rfl
theorem c45:Tryz.prog.cellsOf 50=2:=by kernel_rfl
theorem c50:Tryz.prog.cellsOf 42=7:=by kernel_rfl
theorem y2:Tryz.prog.bytesOf 2=8:=by kernel_rfl
theorem y3:Tryz.prog.bytesOf 3=8:=by kernel_rfl
theorem y45:Tryz.prog.bytesOf 50=40:=by kernel_rfl
theorem y50:Tryz.prog.bytesOf 42=56:=by kernel_rfl
theorem rI:reachBytes=140737488351232:=rfl
theorem Ca{α:Type}{n:Nat}{Q:Nat->α->Prop}(h:∀i,i<n->∃z,Q i z):∃l:List α,l.length=n /\ ∀i z,l[i]? = some z->Q i z:=by
 obtain⟨f,hf⟩:=Classical.axiomOfChoice (r:=λ(i:Fin n) z=>Q i.1 z) λi=>h i.1 i.2;refine⟨List.ofFn f,by simp,λi z hz=>?_⟩;rw[List.getElem?_ofFn]at hz;split at hz
 ·rename_i hi;simp only[aab]at hz;subst hz;exact hf ⟨i,hi⟩
 ·cases hz
theorem Fk{c:List aaa}{n:Nat}{v:aaa}(h:(c.drop n).take 1=[v]):c[n]? = some v:=by
 have:=congrArg (λl=>l[0]?) h;simpa [List.getElem?_take,aaQ] using this
section
variable {h:za}(hw:∀b o,h.get b=some o->b<h.next)
include hw
theorem SY{a:aaa}(r:fV pu h 22 [a]):∃zs,zv h a zs/\zs.length<=17592186043904:=by
 rcases FB Tryz.underlying22 c3 y3 (by decide) r with e|⟨b,off,len,e,hl,hc⟩
 ·simp only[abe,acB]at e;exact⟨[],.inl ⟨e,rfl⟩,aaS _⟩
 ·simp only[abe,acB]at e;subst e;rw[rI]at hl;by_cases h0:0<len
  ·obtain⟨c,t,hg,hat⟩:=hc h0
   obtain⟨l,e1,e2⟩:=Ca (n:=len) (Q:=λi (z:Int)=>c[off+i]? = some (pm z)) λi hi=>by
    obtain⟨h1,h2⟩:=hat i hi;obtain⟨z,hz,_⟩:=VE Tryz.underlying3 h2;rw[abI]at hz;exact⟨z,Fk hz⟩
   refine⟨l,.inr ⟨b,off,0,by rw[e1],λ_=>⟨c,t,hw b _ hg,hg,e2⟩⟩,by omega⟩
  ·have:len=0:=by omega
   subst this;exact⟨[],.inr ⟨b,off,0,rfl,λq=>absurd rfl q⟩,aaS _⟩
omit hw in
theorem PM{cs:List aaa}(r:fV pu h 42 cs):∃x:zo,cs=x.row/\True:=by
 obtain⟨hl,hf⟩:=aI Tryz.underlying42 r;rw[c50]at hl
 match cs,hl with
 |[a0,a1,a2,a3,a4,a5,a6],_=>
  have f0:fV pu h 3 (([a0,a1,a2,a3,a4,a5,a6].drop 0).take (Tryz.prog.cellsOf 3)):=hf _ (aa8 (i:=0) rfl);have f1:fV pu h 3 (([a0,a1,a2,a3,a4,a5,a6].drop 1).take (Tryz.prog.cellsOf 3)):=hf _ (aa8 (i:=1) rfl);have f2:fV pu h 3 (([a0,a1,a2,a3,a4,a5,a6].drop 2).take (Tryz.prog.cellsOf 3)):=hf _ (aa8 (i:=2) rfl);have f3:fV pu h 3 (([a0,a1,a2,a3,a4,a5,a6].drop 3).take (Tryz.prog.cellsOf 3)):=hf _ (aa8 (i:=3) rfl);have f4:fV pu h 3 (([a0,a1,a2,a3,a4,a5,a6].drop 4).take (Tryz.prog.cellsOf 3)):=hf _ (aa8 (i:=4) rfl);have f5:fV pu h 3 (([a0,a1,a2,a3,a4,a5,a6].drop 5).take (Tryz.prog.cellsOf 3)):=hf _ (aa8 (i:=5) rfl);have f6:fV pu h 2 (([a0,a1,a2,a3,a4,a5,a6].drop 6).take (Tryz.prog.cellsOf 2)):=hf _ (aa8 (i:=6) rfl);simp only[c2,c3,abG,ace,ab0,acu]at f0 f1 f2 f3 f4 f5 f6;obtain⟨z0,e0,_⟩:=VE Tryz.underlying3 f0;obtain⟨z1,e1,_⟩:=VE Tryz.underlying3 f1;obtain⟨z2,e2,_⟩:=VE Tryz.underlying3 f2;obtain⟨z3,e3,_⟩:=VE Tryz.underlying3 f3;obtain⟨z4,e4,_⟩:=VE Tryz.underlying3 f4;obtain⟨z5,e5,_⟩:=VE Tryz.underlying3 f5;obtain⟨z6,e6,_⟩:=VE Tryz.underlying2 f6;simp only[abe,acB]at e0 e1 e2 e3 e4 e5 e6;subst e0 e1 e2 e3 e4 e5 e6;exact⟨⟨z0,z1,z2,z3,z4,z5,z6⟩,rfl,trivial⟩
theorem Cp{α:Type}{row:α->List aaa}{ok:α->Prop}{ts te:TypeId}{n bz:Nat}(hu:Tryz.prog.underlying ts=some (.slice te))(hs:Tryz.prog.cellsOf te=n)(hb:Tryz.prog.bytesOf te=bz)(h0n:0<n)(h8:8<=bz)
  (hrow:∀cs,fV pu h te cs->∃x,cs=row x/\ok x) {a:aaa} (r:fV pu h ts [a]):∃l:List α,zE h a n (l.map row)/\l.length*bz<=140737488351232 /\ ∀x,x∈l->ok x:=by
 rcases FB hu hs hb h0n r with e|⟨b,off,len,e,hl,hc⟩
 ·simp only[abe,acB]at e;exact⟨[],.inl ⟨e,rfl⟩,by simp,λx hx=>by cases hx⟩
 ·simp only[abe,acB]at e;subst e;rw[rI]at hl;by_cases h0:0<len
  ·obtain⟨c,t,hg,hat⟩:=hc h0
   obtain⟨l,e1,e2⟩:=Ca (n:=len) (Q:=λi x=>off+i*n+n<=c.length/\(c.drop (off+i*n)).take n=row x/\ok x) λi hi=>by
    obtain⟨h1,h2⟩:=hat i hi;obtain⟨x,hx,hok⟩:=hrow _ h2;exact⟨x,h1,hx,hok⟩
   refine⟨l,.inr ⟨b,off,0,by rw[aaq,e1],λ_=>⟨c,t,hw b _ hg,hg,λi r hr=>?_⟩⟩,?_,λx hx=>?_⟩
   ·rw[aay]at hr;cases hx:l[i]? with
    |none=>rw[hx]at hr;cases hr
    |some x=>
     rw[hx]at hr;simp only[abn,aab]at hr;subst hr;exact⟨(e2 i x hx).1,(e2 i x hx).2.1⟩
   ·rw[e1];exact hl
   ·obtain⟨k,hk,rfl⟩:=abO hx;exact(e2 k _ (aag hk)).2.2
  ·have:len=0:=by omega
   subst this;exact⟨[],.inr ⟨b,off,0,rfl,λq=>absurd rfl q⟩,by simp,λx hx=>by cases hx⟩
end
end Go.As
namespace Go.Ef
open Go.Ai Go.Proofs
open Go.Rtl (zv zE Old)
open Go.As (zo Pg uQ absH_lt Ca Fk rI c2 c43 c50 y50 PM Cp)
open Go.Ee (yes)
open Go.En
theorem zcL{z:Int}(h:(Lit.int .i64 z).wf=true):Go.Mem.qU z:=by
 have : -9223372036854775808<=z/\z<=9223372036854775807:=by simpa [Lit.wf,IntKind.min,IntKind.max,IntKind.signed,IntKind.bits] using h
 unfold Go.Mem.qU;omega
theorem PN{h:za}{cs:List aaa}(r:fV Tryz.prog h 42 cs):∃x:zo,cs=x.row/\Go.Mem.qU x.k:=by
 obtain⟨x,e,_⟩:=PM r;refine⟨x,e,?_⟩;obtain⟨hl,hf⟩:=aI Tryz.underlying42 r;have f6:=hf _ (aa8 (i:=6) rfl);rw[e]at f6;have f6:fV Tryz.prog h 2 ((x.row.drop 6).take (Tryz.prog.cellsOf 2)):=f6;rw[c2]at f6;obtain⟨z,ez,kz⟩:=VE Tryz.underlying2 f6
 have:x.k=z:=by
  have ez:[Value.int .i64 x.k]=[.int .i64 z]:=ez;simpa using ez
 rw[this];exact zcL kz
end Go.Ef
namespace Go.Eg
open Go.Ai Go.Proofs
open Go.Rtl (zv zE Old)
open Go.As
open Go.Ee (yes)
section
variable {h:za}(hw:∀b o,h.get b=some o->b<h.next)
include hw
theorem SX{cs:List aaa}(r:fV Tryz.prog h 50 cs):∃f:Go.As.Fn,cs=f.row/\Xn h f /\ ∀x,x∈f.code->Go.Mem.qU x.k:=by
 obtain⟨hl,hf⟩:=aI Tryz.underlying50 r;rw[c45]at hl
 match cs,hl with
 |[a0,a1],_=>
  have f0:fV Tryz.prog h 9 (([a0,a1].drop 0).take (Tryz.prog.cellsOf 9)):=hf _ (aa8 (i:=0) rfl);have f1:fV Tryz.prog h 48 (([a0,a1].drop 1).take (Tryz.prog.cellsOf 48)):=hf _ (aa8 (i:=1) rfl);simp only[c9,c43,abG,ace,ab0,acu]at f0 f1;obtain⟨s,e0,_⟩:=MX Tryz.underlying9 f0;obtain⟨code,C,hc,hi⟩:=Cp hw Tryz.underlying48 c50 y50 (by decide) (by decide) (λcs r=>Go.Ef.PN r) f1;simp only[abe,acB]at e0;subst e0;exact⟨⟨s,a1,code⟩,rfl,⟨C,hc⟩,hi⟩
theorem rd_pg64{cs:List aaa}(r:fV Tryz.prog h 25 cs):∃p:Pg,cs=p.row/\uQ h p /\ ∀f,f∈p.funcs->∀x,x∈f.code->Go.Mem.qU x.k:=by
 obtain⟨hl,hf⟩:=aI Tryz.underlying25 r;rw[c25]at hl
 match cs,hl with
 |[a0,a1,a2,a3],_=>
  have f0:fV Tryz.prog h 22 (([a0,a1,a2,a3].drop 0).take (Tryz.prog.cellsOf 22)):=hf _ (aa8 (i:=0) rfl);have f1:fV Tryz.prog h 23 (([a0,a1,a2,a3].drop 1).take (Tryz.prog.cellsOf 23)):=hf _ (aa8 (i:=1) rfl);have f2:fV Tryz.prog h 3 (([a0,a1,a2,a3].drop 2).take (Tryz.prog.cellsOf 3)):=hf _ (aa8 (i:=2) rfl);have f3:fV Tryz.prog h 3 (([a0,a1,a2,a3].drop 3).take (Tryz.prog.cellsOf 3)):=hf _ (aa8 (i:=3) rfl);simp only[c3,c22,c23,abG,ace,ab0,acu]at f0 f1 f2 f3;obtain⟨l,S,hl⟩:=SY hw f0;obtain⟨fs,C,hc,hi⟩:=Cp hw Tryz.underlying23 c45 y45 (by decide) (by decide) (λcs r=>SX hw r) f1;obtain⟨z2,e2,_⟩:=VE Tryz.underlying3 f2;obtain⟨z3,e3,_⟩:=VE Tryz.underlying3 f3;simp only[abe,acB]at e2 e3;subst e2 e3;exact⟨⟨a0,l,a1,fs,z2,z3⟩,rfl,⟨S,hl,C,by show fs.length*24<=140737488351232;omega,λf hf=>(hi f hf).1⟩,λf hf=>(hi f hf).2⟩
end
theorem twice_law{h:za}{p:Pg}(P:uQ h p)(N:∀f,f∈p.funcs->∀x,x∈f.code->Go.Mem.qU x.k):DC Tryz.prog 6 [p.val] h yes:=Ro P N λh' e=>Go.Ec.RO h'
end Go.Eg
