/- A part of the proof. -/
import Derived.Test.YtfhacoddmpbgnaaGreatDoorTK
set_option linter.unusedVariables false
set_option linter.unusedSimpArgs false
set_option maxRecDepth 100000
namespace Go.Rtl
open Go.Ai Go.Proofs
def jZ (n:Int):Prop := -9223372036854775808<=n/\n < 9223372036854775808
structure yM where
 op:Int
 sub:Int
 a:Int
 b:Int
 d:Int
 k:Int
 av:Value
 args:List Int
 s:Int
 t:Int
def zN (h:za) (sv:Value) (zs:List Int):Prop:=(sv = .slice none 0 0/\zs = []) \/ ∃ b off cp,sv = .slice (some ⟨b,off,none⟩) zs.length cp/\(zs ≠ []->∃ c t,b < h.next/\h.get b=some (.cells c t) /\ ∀ (i:Nat) z,zs[i]? = some z->c[off + i]? = some (.int .i64 z))
section
variable {h h':za} {sv:Value} {zs:List Int}
theorem zN.vk (S:zN h sv zs):zP sv=false:=by
 rcases S with ⟨rfl,_⟩ | ⟨b,off,cp,rfl,_⟩ <;> rfl
theorem zN.gO (S:zN h sv zs):cellOk sv=true:=by
 rcases S with ⟨rfl,_⟩ | ⟨b,off,cp,rfl,_⟩ <;> rfl
theorem zN.old (S:zN h sv zs) (e:Old h h'):zN h' sv zs:=by
 rcases S with a | ⟨b,off,cp,rfl,hc⟩
 ·exact .inl a
 ·refine .inr ⟨b,off,cp,rfl,fun hz => ?_⟩
  obtain ⟨c,t,hb,hg,hat⟩:=hc hz
  exact ⟨c,t,aai hb e.next,by rw [e.get b hb];exact hg,hat⟩
theorem zN.lock (S:zN h sv zs):zN h.lock sv zs:=by
 rcases S with a | ⟨b,off,cp,rfl,hc⟩
 ·exact .inl a
 ·refine .inr ⟨b,off,cp,rfl,fun hz => ?_⟩
  obtain ⟨c,t,hb,hg,hat⟩:=hc hz
  exact ⟨c,t,hb,by rw [Km];exact hg,hat⟩
theorem zN.len (S:zN h sv zs) (h':za):zg Tryz.prog .len [22] 3 [sv] h'=some (.int .i64 zs.length,h'):=by
 rcases S with ⟨rfl,rfl⟩ | ⟨b,off,cp,rfl,_⟩
 ·simp only [Kr,aaw]
 ·simp only [Kr]
theorem zN.at (S:zN h sv zs) {i:Nat} {z:Int} (hz:zs[i]? = some z):∃ b o c t,zw Tryz.prog 22 sv (.int .i64 i)=some (.pointer (some ⟨b,o,none⟩))/\b < h.next/\h.get b=some (.cells c t)/\c[o]? = some (.int .i64 z):=by
 rcases S with ⟨rfl,rfl⟩ | ⟨b,off,cp,rfl,hc⟩
 ·cases hz
 ·have hlt:i < zs.length:=by
   rcases aar i zs.length with a | a
   ·exact a
   ·rw [aaj a] at hz;cases hz
  obtain ⟨c,t,hb,hg,hat⟩:=hc (by intro e;subst e;cases hz)
  have h1:0<=(i:Int)/\(i:Int) < (zs.length:Int):=by omega
  exact ⟨b,off + i,c,t,by simp -implicitDefEqProofs only [EE,if_true,mP,h1,aau,aa6],hb,hg,hat i z hz⟩
end
abbrev yM.val (x:yM):Value := .agg #[.int .i64 x.op,.int .i64 x.sub,.int .i64 x.a,.int .i64 x.b,.int .i64 x.d,.int .i64 x.k,x.av,.int .i64 x.s,.int .i64 x.t]
def wr (op:Int):Bool:=decide (op=2) || (decide (op=3) || (decide (op=4) || (decide (op=5) || (decide (op=6) || (decide (op=8) || (decide (op=9) || (decide (op=10) || decide (op=13))))))))
def zA (x:yM):Int:=if wr x.op=true then x.d else -1
theorem OG {op:Int} (h2:¬ op=2) (h3:¬ op=3) (h4:¬ op=4) (h5:¬ op=5) (h6:¬ op=6) (h8:¬ op=8) (h9:¬ op=9) (h10:¬ op=10) (h13:¬ op=13):wr op=false:=by
 simp [wr,h2,h3,h4,h5,h6,h8,h9,h10,h13]
theorem nq (x:yM) (hn:zP x.av=false) (h:za):xx Tryz.prog 54 [x.val] h (.int .i64 (zA x)):=by
 apply FC
 apply AI
 unfold AH zA
 obtain ⟨op,sub,a,b,d,k,av,args,s,t⟩:=x
 simp only at hn
 by_cases h2:op=2
 ·subst h2;simp -implicitDefEqProofs only [EE,nth,↓nw,Value.cells,↓BK,Int.reduceNeg,zC,zj,zq,xj,um,uo];rfl
 by_cases h3:op=3
 ·subst h3;simp -implicitDefEqProofs only [EE,nth,↓nw,Value.cells,↓BK,Int.reduceEq,Int.reduceNeg,zC,zj,zq,xj,qu,um,uo];rfl
 by_cases h4:op=4
 ·subst h4;simp -implicitDefEqProofs only [EE,nth,↓nw,Value.cells,↓BK,Int.reduceEq,Int.reduceNeg,zC,zj,zq,xj,kd,qu,um,uo];rfl
 by_cases h5:op=5
 ·subst h5;simp -implicitDefEqProofs only [EE,nth,↓nw,Value.cells,↓BK,Int.reduceEq,Int.reduceNeg,zC,zj,zq,xj,kT,kd,qu,um,uo];rfl
 by_cases h6:op=6
 ·subst h6;simp -implicitDefEqProofs only [EE,nth,↓nw,Value.cells,↓BK,Int.reduceEq,Int.reduceNeg,zC,zj,zq,xj,j7,kT,kd,qu,um,uo];rfl
 by_cases h8:op=8
 ·subst h8;simp -implicitDefEqProofs only [EE,nth,↓nw,Value.cells,↓BK,Int.reduceEq,Int.reduceNeg,zC,zj,zq,xj,Z3,j7,kT,kd,qu,um,uo];rfl
 by_cases h9:op=9
 ·subst h9;simp -implicitDefEqProofs only [EE,nth,↓nw,Value.cells,↓BK,Int.reduceEq,Int.reduceNeg,zC,zj,zq,xj,X3,Z3,j7,kT,kd,qu,um,uo];rfl
 by_cases h10:op=10
 ·subst h10;simp -implicitDefEqProofs only [EE,nth,↓nw,Value.cells,↓BK,Int.reduceEq,Int.reduceNeg,zC,zj,zq,xj,Ux,X3,Z3,j7,kT,kd,qu,um,uo];rfl
 by_cases h13:op=13
 ·subst h13;simp -implicitDefEqProofs only [EE,nth,↓nw,Value.cells,↓BK,Int.reduceEq,Int.reduceNeg,zC,zj,zq,xj,Ux,X3,Z3,j7,kT,kd,qu,um,uo];rfl
 have e:=OG h2 h3 h4 h5 h6 h8 h9 h10 h13
 simp -implicitDefEqProofs only [EE,nth,↓nw,Value.cells,↓BK,Int.reduceNeg,zC,zj,zq,xj,Ux,X3,Z3,j7,kT,kd,qu,um,uo,h2,h3,h4,h5,h6,h8,h9,h10,h13]
 simp [SQ,e]
theorem G4 (x:yM) (hn:zP x.av=false) (h:za):xx Tryz.prog 91 [x.val] h (.int .i64 (zA x)):=by
 apply FC
 apply sy
 unfold od zA
 obtain ⟨op,sub,a,b,d,k,av,args,s,t⟩:=x
 simp only at hn
 by_cases h2:op=2
 ·subst h2;simp -implicitDefEqProofs only [EE,nth,↓nw,Value.cells,↓BK,Int.reduceNeg,zC,zj,zq,xj,vF,vG];rfl
 by_cases h3:op=3
 ·subst h3;simp -implicitDefEqProofs only [EE,nth,↓nw,Value.cells,↓BK,Int.reduceEq,Int.reduceNeg,zC,zj,zq,xj,uc,vF,vG];rfl
 by_cases h4:op=4
 ·subst h4;simp -implicitDefEqProofs only [EE,nth,↓nw,Value.cells,↓BK,Int.reduceEq,Int.reduceNeg,zC,zj,zq,xj,u3,uc,vF,vG];rfl
 by_cases h5:op=5
 ·subst h5;simp -implicitDefEqProofs only [EE,nth,↓nw,Value.cells,↓BK,Int.reduceEq,Int.reduceNeg,zC,zj,zq,xj,qZ,u3,uc,vF,vG];rfl
 by_cases h6:op=6
 ·subst h6;simp -implicitDefEqProofs only [EE,nth,↓nw,Value.cells,↓BK,Int.reduceEq,Int.reduceNeg,zC,zj,zq,xj,kP,qZ,u3,uc,vF,vG];rfl
 by_cases h8:op=8
 ·subst h8;simp -implicitDefEqProofs only [EE,nth,↓nw,Value.cells,↓BK,Int.reduceEq,Int.reduceNeg,zC,zj,zq,xj,Zk,kP,qZ,u3,uc,vF,vG];rfl
 by_cases h9:op=9
 ·subst h9;simp -implicitDefEqProofs only [EE,nth,↓nw,Value.cells,↓BK,Int.reduceEq,Int.reduceNeg,zC,zj,zq,xj,YU,Zk,kP,qZ,u3,uc,vF,vG];rfl
 by_cases h10:op=10
 ·subst h10;simp -implicitDefEqProofs only [EE,nth,↓nw,Value.cells,↓BK,Int.reduceEq,Int.reduceNeg,zC,zj,zq,xj,WC,YU,Zk,kP,qZ,u3,uc,vF,vG];rfl
 by_cases h13:op=13
 ·subst h13;simp -implicitDefEqProofs only [EE,nth,↓nw,Value.cells,↓BK,Int.reduceEq,Int.reduceNeg,zC,zj,zq,xj,WC,YU,Zk,kP,qZ,u3,uc,vF,vG];rfl
 have e:=OG h2 h3 h4 h5 h6 h8 h9 h10 h13
 simp -implicitDefEqProofs only [EE,nth,↓nw,Value.cells,↓BK,Int.reduceNeg,zC,zj,zq,xj,WC,YU,Zk,kP,qZ,u3,uc,vF,vG,h2,h3,h4,h5,h6,h8,h9,h10,h13]
 simp [SQ,e]
def Xb (op:Int):Bool:=decide (op=3) || (decide (op=4) || (decide (op=5) || (decide (op=6) || (decide (op=7) || (decide (op=11) || decide (op=14))))))
def Ku (op:Int):Bool:=decide (op=7)
def Kv (op:Int):Bool:=decide (op=2) || (decide (op=3) || (decide (op=4) || (decide (op=5) || (decide (op=6) || (decide (op=8) || (decide (op=9) || decide (op=13)))))))
theorem kt {u v w:Value} {h:za} {R:Value->za->Prop} (ha:zP u=false) (hb:zP v=false) (hc:zP w=false):rv [u,v,w] h R=R (.tuple #[u,v,w]) h:=by
 apply propext;simp only [rv,yC,ha,hb,hc,cond_false,jF,true_and]
theorem Mb (x:yM) (hn:zP x.av=false) (h:za):DC Tryz.prog 112 [x.val] h (fun v h1=>v = .tuple #[.bool (Xb x.op),.bool (Ku x.op),.bool (Kv x.op)]/\Old h h1):=by
 apply C8
 unfold ET
 obtain ⟨op,sub,a,b,d,k,av,args,s,t⟩:=x
 simp only at hn ⊢
 have old:∀ o,Old h (h.push o):=fun o=>Old.push h o
 by_cases h2:op=2
 ·subst h2;simp -implicitDefEqProofs only [EE,nth,↓nw,Value.cells,↓BK,Int.reduceEq,zC,zj,zq,qT,uW,XF,XG,Zu,Zv,jD,vt,vu,kt];exact ⟨rfl,old _⟩
 by_cases h3:op=3
 ·subst h3;simp -implicitDefEqProofs only [EE,nth,↓nw,Value.cells,↓BK,zC,zj,zq,vt,vu,kt];exact ⟨rfl,old _⟩
 by_cases h4:op=4
 ·subst h4;simp -implicitDefEqProofs only [EE,nth,↓nw,Value.cells,↓BK,Int.reduceEq,zC,zj,zq,uW,vt,vu,kt];exact ⟨rfl,old _⟩
 by_cases h5:op=5
 ·subst h5;simp -implicitDefEqProofs only [EE,nth,↓nw,Value.cells,↓BK,Int.reduceEq,zC,zj,zq,qT,uW,vt,vu,kt];exact ⟨rfl,old _⟩
 by_cases h6:op=6
 ·subst h6;simp -implicitDefEqProofs only [EE,nth,↓nw,Value.cells,↓BK,Int.reduceEq,zC,zj,zq,qT,uW,vt,vu,kt];exact ⟨rfl,old _⟩
 by_cases h7:op=7
 ·subst h7;simp -implicitDefEqProofs only [EE,nth,↓nw,Value.cells,↓BK,Int.reduceEq,zC,zj,zq,qT,uW,jD,vt,vu,kt];exact ⟨rfl,old _⟩
 by_cases h8:op=8
 ·subst h8;simp -implicitDefEqProofs only [EE,nth,↓nw,Value.cells,↓BK,Int.reduceEq,zC,zj,zq,qT,uW,VZ,XF,XG,Zu,Zv,jD,vt,vu,kt];exact ⟨rfl,old _⟩
 by_cases h9:op=9
 ·subst h9;simp -implicitDefEqProofs only [EE,nth,↓nw,Value.cells,↓BK,Int.reduceEq,zC,zj,zq,qT,uW,KZ,VZ,XF,XG,Zu,Zv,jD,vt,vu,kt];exact ⟨rfl,old _⟩
 by_cases h11:op=11
 ·subst h11;simp -implicitDefEqProofs only [EE,nth,↓nw,Value.cells,↓BK,Int.reduceEq,zC,zj,zq,qT,uW,Zu,Zv,jD,vt,vu,kt];exact ⟨rfl,old _⟩
 by_cases h13:op=13
 ·subst h13;simp -implicitDefEqProofs only [EE,nth,↓nw,Value.cells,↓BK,Int.reduceEq,zC,zj,zq,qT,uW,KZ,VZ,XF,XG,Zu,Zv,jD,vt,vu,kt];exact ⟨rfl,old _⟩
 by_cases h14:op=14
 ·subst h14;simp -implicitDefEqProofs only [EE,nth,↓nw,Value.cells,↓BK,Int.reduceEq,zC,zj,zq,qT,uW,Zu,Zv,jD,vt,vu,kt];exact ⟨rfl,old _⟩
 have e1:Xb op=false:=by simp [Xb,h3,h4,h5,h6,h7,h11,h14]
 have e2:Ku op=false:=by simp [Ku,h7]
 have e3:Kv op=false:=by simp [Kv,h2,h3,h4,h5,h6,h8,h9,h13]
 simp -implicitDefEqProofs only [EE,nth,↓nw,Value.cells,↓BK,zC,zj,zq,qT,uW,KZ,VZ,XF,XG,Zu,Zv,jD,vt,vu,kt,h2,h3,h4,h5,h6,h7,h8,h9,h11,h13,h14]
 rw [e1,e2,e3]
 exact ⟨rfl,old _⟩
theorem dz {h:za} (w:VJ h) (o:xE):VJ (h.push o):=⟨fun b x hb=>by
 rw [za.wm] at hb
 show b < h.next + 1
 split at hb
 ·rename_i e;omega
 ·have:=w.1 b x hb;omega,abd w.2⟩
theorem wf_set {h:za} (w:VJ h) {b:Nat} (hb:b < h.next) (o:Option xE):VJ (h.set b o):=⟨fun c x hc=>by
 rw [za.yb] at hc
 split at hc
 ·rename_i e;subst e;exact hb
 ·exact w.1 c x hc,w.2⟩
def ints (zs:List Int):List Value:=zs.map fun z => .int .i64 z
theorem LV (zs:List Int):(ints zs).all cellOk=true:=by
 rw [aas]
 intro v hv
 simp only [ints,aba] at hv
 obtain ⟨z,_,rfl⟩:=hv
 rfl
theorem eR (c n:Nat):w8 c n ≠ 0:=by
 unfold w8
 split
 ·cases Nat.ble n _ <;> simp
 ·simp
def uO (lo h:za) (l:Value) (zs:List Int):Prop:=(l = .slice none 0 0/\zs = []) \/ ∃ b c,l = .slice (some ⟨b,0,none⟩) zs.length c/\c ≠ 0/\lo.next<=b/\b < h.next/\h.ro<=b/\h.get b=some (.cells (ints zs) 3)
section
variable {lo h:za} {l:Value} {zs:List Int}
theorem uO.vk (S:uO lo h l zs):zP l=false:=by
 rcases S with ⟨rfl,_⟩ | ⟨_,_,rfl,_⟩ <;> rfl
theorem cB (S:uO lo h l zs) (e:Old lo h) (hro:h.ro<=h.next) {x:Value} {n:Nat} {ys:List Int} (hn:Zy x=some n) (hy:ys.length=n) (hf:xA h n 1 x=some (ints ys)) (hb:zs.length + n<=17592186044416) :
  ∃ l' h',zg Tryz.prog .append [22,22] 22 [l,x] h=some (l',h')/\uO lo h' l' (zs ++ ys)/\Old lo h'/\h'.ro<=h'.next/\h.next<=h'.next/\(VJ h->VJ h') /\ ∀ b,b < lo.next->h'.get b=h.get b:=by
 have hap:=IV 22 l x n (ints ys) h hn hf (LV ys) (by simp [ints,hy])
 rw [hap]
 have n0:=e.next
 rcases S with ⟨rfl,rfl⟩ | ⟨b,c,rfl,hc,hb1,hb2,hb3,hg⟩
 ·by_cases h0:n=0
  ·have:ys = []:=abp.1 (by omega)
   subst this
   exact ⟨_,_,by simp only [Ze,h0,if_true],.inl ⟨rfl,rfl⟩,e,hro,aah _,id,fun _ _=>rfl⟩
  ·refine ⟨.slice (some ⟨h.next,0,none⟩) n 1,h.push (.cells (ints ys) 3),?_,.inr ⟨h.next,1,by simp [hy],by decide,by omega,aaD _,hro,by rw [zo];rfl⟩,e.trans (Old.push _ _),abd hro,abn _,fun w=>dz w _,fun b hb=>zt (by omega)⟩
   simp only [Ze,h0,if_false]
   rw [if_pos (by omega)]
 ·by_cases h0:n=0
  ·have:ys = []:=abp.1 (by omega)
   subst this
   exact ⟨.slice (some ⟨b,0,none⟩) zs.length c,h,by simp only [Ze,h0,if_true],.inr ⟨b,c,by simp,hc,hb1,hb2,hb3,by simpa using hg⟩,e,hro,aah _,id,fun _ _=>rfl⟩
  ·have hroom:roomFor c (zs.length + n) 8=true:=by
    unfold roomFor
    cases Nat.beq c 2 <;> simp only [cond_true,cond_false,abY] <;> omega
   have hl:(ints zs).length=zs.length:=by simp [ints]
   refine ⟨.slice (some ⟨h.next,0,none⟩) (zs.length + n) (w8 c (zs.length + n)),(h.set b none).push (.cells (ints (zs ++ ys)) 3),?_,.inr ⟨h.next,w8 c (zs.length + n),by simp [hy],eR _ _,by omega,aaD _,hro,zo⟩,?_,abd hro,abn _,fun w=>dz (wf_set w hb2 _) _,fun b' hb' => ?_⟩
   ·simp only [Ze,h0,if_false,hg]
    rw [if_pos ⟨hc,trivial,hb3,by rw [hl];omega,hroom,by decide⟩]
    congr 3
    rw [abh,abB (by rw [hl];omega)]
    simp [ints]
   ·refine ⟨by show lo.next<=h.next + 1;omega,e.ro,fun b' hb' => ?_⟩
    rw [zt (by show b' < h.next;omega),zE (by omega)]
    exact e.get b' hb'
   ·rw [zt (by show b' < h.next;omega),zE (by omega)]
theorem E5 (S:uO lo h l zs) (e:Old lo h) (hro:h.ro<=h.next) (z:Int) (hb:zs.length<=17592186044415) :
  ∃ l' h',zg Tryz.prog .append [22,22] 22 [l,.slice (some ⟨h.next,0,none⟩) 1 3] (h.push (.cells [.int .i64 z] 3))=some (l',h')/\uO lo h' l' (zs ++ [z])/\Old lo h'/\h'.ro<=h'.next/\(VJ h->VJ h') /\ ∀ b,b < lo.next->h'.get b=h.get b:=by
 have S':uO lo (h.push (.cells [.int .i64 z] 3)) l zs:=by
  rcases S with a | ⟨b,c,a1,a2,a3,a4,a5,a6⟩
  ·exact .inl a
  ·exact .inr ⟨b,c,a1,a2,a3,acd a4,a5,by rw [zt a4];exact a6⟩
 have hf:xA (h.push (.cells [.int .i64 z] 3)) 1 1 (.slice (some ⟨h.next,0,none⟩) 1 3)=some (ints [z]):=by
  simp only [xA,zo]
  rfl
 obtain ⟨l',h',a1,a2,a3,a4,a5,a7,a6⟩:=cB S' (e.trans (Old.push _ _)) (abd hro) (x := .slice (some ⟨h.next,0,none⟩) 1 3) rfl rfl hf (by omega)
 exact ⟨l',h',a1,a2,a3,a4,fun w=>a7 (dz w _),fun b hb=>by rw [a6 b hb,zt (by have:=e.next;omega)]⟩
theorem zN.first (S:zN h l zs):Zy l=some zs.length/\xA h zs.length 1 l=some (ints zs):=by
 rcases S with ⟨rfl,rfl⟩ | ⟨b,off,cp,rfl,hc⟩
 ·exact ⟨rfl,rfl⟩
 ·refine ⟨rfl,?_⟩
  by_cases h0:zs = []
  ·subst h0;rfl
  ·obtain ⟨c,t,hb,hg,hat⟩:=hc h0
   have hne:0 < zs.length:=List.length_pos_iff.2 h0
   have hlen:off + zs.length<=c.length:=by
    have:=hat (zs.length - 1) _ (aab (by omega))
    rcases aar (off + (zs.length - 1)) c.length with q | q
    ·omega
    ·rw [aaj q] at this;cases this
   simp only [xA,hg]
   rw [show Nat.beq (zs.length * 1) 0=false by cases hz:Nat.beq (zs.length * 1) 0 with | false=>rfl | true=>have:=aam hz;omega]
   rw [show Nat.ble (off + zs.length * 1) c.length=true by simpa using hlen]
   simp only [cond_false,cond_true,aaa,aa6]
   apply abe
   intro i
   by_cases hi:i < zs.length
   ·rw [aaL hi,aaN,hat i _ (aab hi)]
    simp [ints,hi]
   ·rw [aaj (by simp;omega),aaj (by simp [ints];omega)]
theorem uO.read (S:uO lo h l zs):zN h l zs:=by
 rcases S with a | ⟨b,c,rfl,hc,h1,h2,h3,h4⟩
 ·exact .inl a
 ·refine .inr ⟨b,0,c,rfl,fun _=>⟨_,3,h2,h4,fun i z hz => ?_⟩⟩
  simp [ints,hz]
def fF (l0 h:za) (v:Value) (zs:List Int):Prop := ∃ lo,Old l0 lo/\Old lo h/\uO lo h v zs/\h.ro<=h.next
end
theorem fF.read {l0 h:za} {v:Value} {zs:List Int} (F:fF l0 h v zs):zN h v zs/\Old l0 h:=by
 obtain ⟨lo,e0,e,W,_⟩:=F
 exact ⟨W.read,e0.trans e⟩
theorem fF.wY {h h1:za} {v:Value} {zs:List Int} (F:fF h.lock h1 v zs) (wf:VJ h):uO h (wY h h1) v zs:=by
 obtain ⟨lo,e0,e,W,_⟩:=F
 rcases W with a | ⟨b,c,rfl,hc,h2,h3,h4,h5⟩
 ·exact .inl a
 ·have n0:h.next<=lo.next:=e0.next
  refine .inr ⟨b,c,rfl,hc,by omega,h3,?_,?_⟩
  ·have:=wf.2
   show h.ro<=b
   omega
  ·rw [vx,if_pos ⟨by omega,h3⟩];exact h5
def j2 (op:Int):Bool:=decide (op=3) || (decide (op=4) || (decide (op=5) || (decide (op=6) || (decide (op=7) || (decide (op=11) || (decide (op=12) || decide (op=14)))))))
def VH (op:Int):Bool:=decide (op=5) || (decide (op=7) || decide (op=11))
def lA (x:yM):List Int:=if j2 x.op=true /\ ¬ x.a = -1 then [x.a] else []
def lB (x:yM):List Int:=if VH x.op=true /\ ¬ x.b = -1 then [x.b] else []
def lC (x:yM):List Int:=if x.op=10 then x.args else []
def wP (x:yM):List Int:=lA x ++ lB x ++ lC x
def wu (x:yM):List Int:=if x.op=12 then [] else if x.op=11 then [x.s,x.t] else [x.s]
theorem Cf (h:za) (zs:List Int) (c:Nat):zN (h.push (.cells (ints zs) 3)) (.slice (some ⟨h.next,0,none⟩) zs.length c) zs :=
 .inr ⟨h.next,0,c,rfl,fun _=>⟨_,3,aaD _,zo,fun i z hz=>by simp [ints,hz]⟩⟩
theorem G3 (x:yM) (hn:zP x.av=false) (h:za):DC Tryz.prog 113 [x.val] h (fun v h1=>zN h1 v (wu x)/\Old h h1):=by
 apply AR
 unfold AQ wu
 obtain ⟨op,sub,a,b,d,k,av,args,s,t⟩:=x
 simp only at hn ⊢
 by_cases h12:op=12
 ·subst h12;simp -implicitDefEqProofs only [EE,↓nw,Value.cells,↓BK,if_true,if_false,Int.reduceEq,zC,zj,zq,UN];exact ⟨.inl ⟨rfl,rfl⟩,Old.push _ _⟩
 by_cases h11:op=11
 ·subst h11;simp -implicitDefEqProofs only [EE,↓nw,Value.cells,↓BK,if_true,if_false,Int.reduceEq,zC,zj,Bw,zq,kI,YM,ld,JP,UN];exact ⟨Cf _ [s,t] 4,(Old.push _ _).trans (Old.push _ _)⟩
 simp -implicitDefEqProofs only [EE,↓nw,Value.cells,↓BK,if_false,zC,zj,V8,zq,kI,JP,UN,lf,h11,h12]
 exact ⟨Cf _ [s] 3,(Old.push _ _).trans (Old.push _ _)⟩
section
variable {l0 lo h:za} {b1:Nat} {x:yM} {l:Value} {zs:List Int}
theorem SI (e0:Old l0 lo) (S:zN lo x.av x.args) (hl:x.args.length<=17592186043904) (W:uO lo h l zs) (hz:zs.length<=10) (e:Old lo h) (hro:h.ro<=h.next) (h1:b1 < lo.next) (hb:lo.get b1=some (.cells x.val.cells.toList 53)) :
  KW (.pointer (some ⟨b1,0,none⟩)) (fun v h1=>fF l0 h1 v (zs ++ lC x)) [l] h:=by
 have hn:=S.vk
 have hnl:=W.vk
 have Sh:=S.old e
 obtain ⟨a1,a2⟩:=Sh.first
 rw [<- e.get b1 h1] at hb
 obtain ⟨op,sub,a,b,d,k,av,args,s,t⟩:=x
 simp only [Value.cells,aax] at hn hb a1 a2 hl
 unfold lC
 by_cases h10:op=10
 ·subst h10
  obtain ⟨l',h',q1,q2,q3,q4,q5,q7,q6⟩:=cB W e hro a1 rfl a2 (by omega)
  have nl:=q2.vk
  simp -implicitDefEqProofs only [EE,nth,if_true,zC,xr,zj,zq,uL,oM,KW,hb,hn,hnl,q1,nl]
  exact ⟨lo,e0,q3,q2,q4⟩
 ·simp -implicitDefEqProofs only [EE,nth,if_false,zC,zj,zq,KW,hb,hnl,h10,abD]
  exact ⟨lo,e0,e,W,hro⟩
theorem SJ (e0:Old l0 lo) (S:zN lo x.av x.args) (hl:x.args.length<=17592186043904) (W:uO lo h l zs) (hz:zs.length<=9) (e:Old lo h) (hro:h.ro<=h.next) (h1:b1 < lo.next) (hb:lo.get b1=some (.cells x.val.cells.toList 53)) :
  VW (.bool (VH x.op)) (.pointer (some ⟨b1,0,none⟩)) (fun v h1=>fF l0 h1 v (zs ++ lB x ++ lC x)) [l] h:=by
 have go:=SI e0 (zs:=zs) S hl W (by omega) e hro h1 hb
 have hbh:=hb
 rw [<- e.get b1 h1] at hbh
 have hnl:=W.vk
 obtain ⟨op,sub,a,b,d,k,av,args,s,t⟩:=x
 simp only [Value.cells,aax] at hbh
 unfold lB
 simp only
 cases hB:VH op with
 | false=>
   simp -implicitDefEqProofs only [EE,nth,if_false,Int.reduceNeg,KX,VW,aa8,false_and,abD]
   exact go
 | true=>
   by_cases hb1:b = -1
   ·simp -implicitDefEqProofs only [EE,nth,if_false,Int.reduceNeg,zC,zj,vC,KX,VW,hbh,hb1,abD]
    exact go
   ·obtain ⟨l',h',q1,q2,q3,q4,q7,q5⟩:=E5 W e hro b (by omega)
    have nl:=q2.vk
    simp -implicitDefEqProofs only [EE,nth,if_true,Int.reduceNeg,zC,zj,V8,vC,oL,KX,VW,hnl,hbh,hb1,q1]
    exact SI e0 (x:=⟨op,sub,a,b,d,k,av,args,s,t⟩) S hl q2 (by simp;omega) q3 q4 h1 hb
theorem TB (e0:Old l0 lo) (S:zN lo x.av x.args) (hl:x.args.length<=17592186043904) (hro:lo.ro<=lo.next) (h1:b1 < lo.next) (hb:lo.get b1=some (.cells x.val.cells.toList 53)) {t60:Value} (ht:j2 x.op=true->t60 = .int .i64 x.a) :
  VX (.bool (j2 x.op)) (.pointer (some ⟨b1,0,none⟩)) (.bool (VH x.op)) (fun v h1=>fF l0 h1 v (wP x)) t60 lo:=by
 have go:=SJ e0 (zs:=[]) S hl (.inl ⟨rfl,rfl⟩) (by simp) (.refl lo) hro h1 hb
 have hbh:=hb
 unfold wP lA
 obtain ⟨op,sub,a,b,d,k,av,args,s,t⟩:=x
 simp only [Value.cells,aax] at hbh ht
 simp only
 cases hA:j2 op with
 | false=>
   simp -implicitDefEqProofs only [EE,if_false,Int.reduceNeg,VX,aa8,false_and]
   exact go
 | true=>
   obtain rfl:=ht hA
   by_cases ha:a = -1
   ·simp -implicitDefEqProofs only [EE,if_false,Int.reduceNeg,VX,ha]
    exact go
   ·obtain ⟨l',h',q1,q2,q3,q4,q7,q5⟩:=E5 (l := .slice none 0 0) (zs:=[]) (lo:=lo) (.inl ⟨rfl,rfl⟩) (.refl lo) hro a (by simp)
    have nl:=q2.vk
    simp -implicitDefEqProofs only [EE,if_true,Int.reduceNeg,zC,zj,V8,xe,oK,VX,hbh,ha,q1]
    exact SJ e0 (x:=⟨op,sub,a,b,d,k,av,args,s,t⟩) S hl q2 (by simp) q3 q4 h1 hb
end
theorem Lr (x:yM) (h:za) (S:zN h x.av x.args) (hl:x.args.length<=17592186043904):DC Tryz.prog 53 [x.val] h (fun v h1=>fF h h1 v (wP x)):=by
 apply jO;intro hwf;have hro:=hwf.2
 apply C3
 unfold EL
 have hn:=S.vk
 have o:=Old.push h (.cells x.val.cells.toList 53)
 have go:=fun (t60:Value) (ht:j2 x.op=true->t60 = .int .i64 x.a)=>TB o (x:=x) (b1:=h.next) (S.old o) hl (by show h.ro<=h.next + 1;omega) (aaD _) zo ht
 obtain ⟨op,sub,a,b,d,k,av,args,s,t⟩:=x
 simp only [Value.cells,aax] at hn hl S o go
 by_cases h3:op=3
 ·subst h3
  simp -implicitDefEqProofs only [EE,↓nw,Value.cells,Int.reduceEq,zC,zj,zq,xe,ku,kx,qw,qx,qy,qz,qA,qB,qC,qD,qE,qF,qG,qH,qI,qJ,qK,qL]
  exact go _ (fun _=>rfl)
 by_cases h4:op=4
 ·subst h4
  simp -implicitDefEqProofs only [EE,↓nw,Value.cells,Int.reduceEq,zC,zj,zq,xe,ku,kx,qw,qx,qy,qz,qA,qB,qC,qD,qE,qF,qG,qH,qI,qJ,qK,qL]
  exact go _ (fun _=>rfl)
 by_cases h5:op=5
 ·subst h5
  simp -implicitDefEqProofs only [EE,↓nw,Value.cells,Int.reduceEq,zC,zj,zq,xe,ku,kx,qw,qx,qy,qz,qA,qB,qC,qD,qE,qF,qG,qH,qI,qJ,qK,qL]
  exact go _ (fun _=>rfl)
 by_cases h6:op=6
 ·subst h6
  simp -implicitDefEqProofs only [EE,↓nw,Value.cells,Int.reduceEq,zC,zj,zq,xe,ku,kx,qw,qx,qy,qz,qA,qB,qC,qD,qE,qF,qG,qH,qI,qJ,qK,qL]
  exact go _ (fun _=>rfl)
 by_cases h7:op=7
 ·subst h7
  simp -implicitDefEqProofs only [EE,↓nw,Value.cells,Int.reduceEq,zC,zj,zq,xe,ku,kx,qw,qx,qy,qz,qA,qB,qC,qD,qE,qF,qG,qH,qI,qJ,qK,qL]
  exact go _ (fun _=>rfl)
 by_cases h11:op=11
 ·subst h11
  simp -implicitDefEqProofs only [EE,↓nw,Value.cells,Int.reduceEq,zC,zj,zq,xe,ku,kx,qw,qx,qy,qz,qA,qB,qC,qD,qE,qF,qG,qH,qI,qJ,qK,qL]
  exact go _ (fun _=>rfl)
 by_cases h12:op=12
 ·subst h12
  simp -implicitDefEqProofs only [EE,↓nw,Value.cells,Int.reduceEq,zC,zj,zq,xe,ku,kx,qw,qx,qy,qz,qA,qB,qC,qD,qE,qF,qG,qH,qI,qJ,qK,qL]
  exact go _ (fun _=>rfl)
 by_cases h14:op=14
 ·subst h14
  simp -implicitDefEqProofs only [EE,↓nw,Value.cells,Int.reduceEq,zC,zj,zq,xe,ku,kx,qw,qx,qy,qz,qA,qB,qC,qD,qE,qF,qG,qH,qI,qJ,qK,qL]
  exact go _ (fun _=>rfl)
 have eA:j2 op=false:=by simp [j2,h3,h4,h5,h6,h7,h11,h12,h14]
 have eB:VH op=false:=by simp [VH,h5,h7,h11]
 rw [eA,eB] at go
 simp -implicitDefEqProofs only [EE,↓nw,Value.cells,zC,zj,zq,ku,kx,qw,qx,qy,qz,qA,qB,qC,qD,qE,qF,qG,qH,qI,qJ,qK,qL,h3,h4,h5,h6,h7,h11,h12,h14]
 exact go _ (fun q=>by cases q)
theorem inc {i:Nat} (h:i < 4611686018427387904):IntKind.wrap .i64 ((i:Int) + 1)=((i + 1:Nat):Int):=by
 simp only [IntKind.wrap,IntKind.bits,IntKind.signed];simp;omega
structure Fn where
 nm:ByteArray
 pv:Value
 params:List Int
 regs:Int
 frame:Int
 entry:Int
 cv:Value
 code:List yM
structure Pg where
 gv:Value
 globals:List Int
 fv:Value
 funcs:List Fn
 main:Int
abbrev yM.row (x:yM):List Value:=[.int .i64 x.op,.int .i64 x.sub,.int .i64 x.a,.int .i64 x.b,.int .i64 x.d,.int .i64 x.k,x.av,.int .i64 x.s,.int .i64 x.t]
abbrev Fn.row (f:Fn):List Value:=[.string f.nm,f.pv,.int .i64 f.regs,.int .i64 f.frame,.int .i64 f.entry,f.cv]
abbrev Fn.val (f:Fn):Value := .agg #[.string f.nm,f.pv,.int .i64 f.regs,.int .i64 f.frame,.int .i64 f.entry,f.cv]
abbrev Pg.row (p:Pg):List Value:=[p.gv,p.fv,.int .i64 p.main]
abbrev Pg.val (p:Pg):Value := .agg #[p.gv,p.fv,.int .i64 p.main]
def zJ (h:za) (sv:Value) (n:Nat) (rows:List (List Value)):Prop:=(sv = .slice none 0 0/\rows = []) \/ ∃ b off cp,sv = .slice (some ⟨b,off,none⟩) rows.length cp /\
 (rows ≠ []->∃ c t,b < h.next/\h.get b=some (.cells c t) /\ ∀ (i:Nat) r,rows[i]? = some r->off + i * n + n<=c.length/\(c.drop (off + i * n)).take n=r)
section
variable {h h':za} {sv:Value} {n:Nat} {rows:List (List Value)}
theorem zJ.vk (S:zJ h sv n rows):zP sv=false:=by
 rcases S with ⟨rfl,_⟩ | ⟨b,off,cp,rfl,_⟩ <;> rfl
theorem zJ.gO (S:zJ h sv n rows):cellOk sv=true:=by
 rcases S with ⟨rfl,_⟩ | ⟨b,off,cp,rfl,_⟩ <;> rfl
theorem zJ.old (S:zJ h sv n rows) (e:Old h h'):zJ h' sv n rows:=by
 rcases S with a | ⟨b,off,cp,rfl,hc⟩
 ·exact .inl a
 ·refine .inr ⟨b,off,cp,rfl,fun hz => ?_⟩
  obtain ⟨c,t,hb,hg,hat⟩:=hc hz
  exact ⟨c,t,aai hb e.next,by rw [e.get b hb];exact hg,hat⟩
theorem zJ.lock (S:zJ h sv n rows):zJ h.lock sv n rows:=by
 rcases S with a | ⟨b,off,cp,rfl,hc⟩
 ·exact .inl a
 ·refine .inr ⟨b,off,cp,rfl,fun hz => ?_⟩
  obtain ⟨c,t,hb,hg,hat⟩:=hc hz
  exact ⟨c,t,hb,by rw [Km];exact hg,hat⟩
theorem zJ.Qu (S:zJ h sv n rows) (r:TypeId) (h':za):zg Tryz.prog .len [43] r [sv] h'=some (.int .i64 rows.length,h'):=by
 rcases S with ⟨rfl,rfl⟩ | ⟨b,off,cp,rfl,_⟩
 ·simp only [tJ,aaw]
 ·simp only [tJ]
theorem zJ.Jy (S:zJ h sv n rows) (r:TypeId) (h':za):zg Tryz.prog .len [23] r [sv] h'=some (.int .i64 rows.length,h'):=by
 rcases S with ⟨rfl,rfl⟩ | ⟨b,off,cp,rfl,_⟩
 ·simp only [DS,aaw]
 ·simp only [DS]
theorem zN.jM {zs:List Int} (S:zN h sv zs) (r:TypeId) (h':za):zg Tryz.prog .len [22] r [sv] h'=some (.int .i64 zs.length,h'):=by
 rcases S with ⟨rfl,rfl⟩ | ⟨b,off,cp,rfl,_⟩
 ·simp only [Kr,aaw]
 ·simp only [Kr]
theorem zJ.spot (S:zJ h sv n rows) {i:Nat} {r:List Value} (hr:rows[i]? = some r) (hn:r.length=n):∃ b o c t,(∃ off cp,sv = .slice (some ⟨b,off,none⟩) rows.length cp/\o=off + i * n)/\i < rows.length/\b < h.next/\h.get b=some (.cells c t)/\o + n<=c.length/\(c.drop o).take n=r /\ ∀ k,k < n->c[o + k]? = r[k]?:=by
 rcases S with ⟨rfl,rfl⟩ | ⟨b,off,cp,rfl,hc⟩
 ·cases hr
 ·have hlt:i < rows.length:=by
   rcases aar i rows.length with a | a
   ·exact a
   ·rw [aaj a] at hr;cases hr
  obtain ⟨c,t,hb,hg,hat⟩:=hc (by intro e;subst e;cases hr)
  obtain ⟨h1,h2⟩:=hat i r hr
  refine ⟨b,off + i * n,c,t,⟨off,cp,rfl,rfl⟩,hlt,hb,hg,h1,h2,fun k hk => ?_⟩
  ·rw [<- h2,aaL hk,aaN]
theorem zJ.th (S:zJ h sv 9 rows) {i:Nat} {r:List Value} (hr:rows[i]? = some r) (hn:r.length=9):∃ b o c t,zw Tryz.prog 43 sv (.int .i64 i)=some (.pointer (some ⟨b,o,none⟩))/\b < h.next/\h.get b=some (.cells c t)/\o + 9<=c.length/\(c.drop o).take 9=r /\ ∀ k,k < 9->c[o + k]? = r[k]?:=by
 obtain ⟨b,o,c,t,⟨off,cp,rfl,rfl⟩,hi,hb,hg,hl,ht,hk⟩:=S.spot hr hn
 have h1:0<=(i:Int)/\(i:Int) < (rows.length:Int):=by omega
 exact ⟨b,off + i * 9,c,t,by simp only [rM,h1,aau,and_self,if_true],hb,hg,hl,ht,hk⟩
theorem zJ.cC (S:zJ h sv 6 rows) {i:Nat} {r:List Value} (hr:rows[i]? = some r) (hn:r.length=6):∃ b o c t,zw Tryz.prog 23 sv (.int .i64 i)=some (.pointer (some ⟨b,o,none⟩))/\b < h.next/\h.get b=some (.cells c t)/\o + 6<=c.length/\(c.drop o).take 6=r /\ ∀ k,k < 6->c[o + k]? = r[k]?:=by
 obtain ⟨b,o,c,t,⟨off,cp,rfl,rfl⟩,hi,hb,hg,hl,ht,hk⟩:=S.spot hr hn
 have h1:0<=(i:Int)/\(i:Int) < (rows.length:Int):=by omega
 exact ⟨b,off + i * 6,c,t,by simp only [Fs,h1,aau,and_self,if_true],hb,hg,hl,ht,hk⟩
end
structure xK (h:za) (x:yM):Prop where
 args:zN h x.av x.args
 J9:x.args.length<=17592186043904
structure v8 (h:za) (f:Fn):Prop where
 params:zN h f.pv f.params
 tP:f.params.length<=17592186043904
 code:zJ h f.cv 9 (f.code.map yM.row)
 nO:f.code.length * 88<=140737488351232
 ins:∀ x,x ∈ f.code->xK h x
structure wQ (h:za) (p:Pg):Prop where
 globals:zN h p.gv p.globals
 tB:p.globals.length<=17592186043904
 funcs:zJ h p.fv 6 (p.funcs.map Fn.row)
 BQ:p.funcs.length * 88<=140737488351232
 fns:∀ f,f ∈ p.funcs->v8 h f
section
variable {h h':za} {x:yM} {f:Fn} {p:Pg}
theorem xK.old (S:xK h x) (e:Old h h'):xK h' x:=⟨S.args.old e,S.J9⟩
theorem xK.lock (S:xK h x):xK h.lock x:=⟨S.args.lock,S.J9⟩
theorem v8.old (S:v8 h f) (e:Old h h'):v8 h' f:=⟨S.params.old e,S.tP,S.code.old e,S.nO,fun x hx=>(S.ins x hx).old e⟩
theorem v8.lock (S:v8 h f):v8 h.lock f:=⟨S.params.lock,S.tP,S.code.lock,S.nO,fun x hx=>(S.ins x hx).lock⟩
theorem wQ.old (S:wQ h p) (e:Old h h'):wQ h' p:=⟨S.globals.old e,S.tB,S.funcs.old e,S.BQ,fun f hf=>(S.fns f hf).old e⟩
theorem wQ.lock (S:wQ h p):wQ h.lock p:=⟨S.globals.lock,S.tB,S.funcs.lock,S.BQ,fun f hf=>(S.fns f hf).lock⟩
end
theorem CP {step:List Value->za->(List Value->za->Prop)->Prop} (Q:za->Prop) {v:Value} (n:Nat) (G:Nat->Bool) {h:za} (h0:Q h)
  (hs:∀ i h J,i<=n->Q h->(∀ k,k < i->G k=true)->(∀ h',i < n->G i=true->Q h'->J [v,.int .i64 ((i + 1:Nat):Int)] h')->step [v,.int .i64 (i:Nat)] h J):LP step [v,.int .i64 0] h:=by
 refine kj (fun m vs h => ∃ i,i<=n/\m=n - i/\vs = [v,.int .i64 (i:Nat)]/\Q h /\ ∀ k,k < i->G k=true) n ⟨0,aa0 _,rfl,rfl,h0,fun k hk=>absurd hk (acu _)⟩ ?_
 rintro m vs h ⟨i,hi,rfl,rfl,e,g⟩
 refine hs i h _ hi e g fun h' hlt hg e'=>⟨n - (i + 1),by omega,i + 1,hlt,rfl,rfl,e',fun k hk => ?_⟩
 rcases aar k i with q | q
 ·exact g k q
 ·have:k=i:=by omega
  subst this;exact hg
theorem M5 {step:List Value->za->(List Value->za->Prop)->Prop} (Q:za->Prop) (n:Nat) (G:Nat->Bool) {h:za} (h0:Q h)
  (hs:∀ i h J,i<=n->Q h->(∀ k,k < i->G k=true)->(∀ h',i < n->G i=true->Q h'->J [.int .i64 ((i + 1:Nat):Int)] h')->step [.int .i64 (i:Nat)] h J):LP step [.int .i64 0] h:=by
 refine kj (fun m vs h => ∃ i,i<=n/\m=n - i/\vs = [.int .i64 (i:Nat)]/\Q h /\ ∀ k,k < i->G k=true) n ⟨0,aa0 _,rfl,rfl,h0,fun k hk=>absurd hk (acu _)⟩ ?_
 rintro m vs h ⟨i,hi,rfl,rfl,e,g⟩
 refine hs i h _ hi e g fun h' hlt hg e'=>⟨n - (i + 1),by omega,i + 1,hlt,rfl,rfl,e',fun k hk => ?_⟩
 rcases aar k i with q | q
 ·exact g k q
 ·have:k=i:=by omega
  subst this;exact hg
theorem XM {step:List Value->za->(List Value->za->Prop)->Prop} {lo:za} {v:Value} (n:Nat) (G:Nat->Bool) {h:za} (h0:Old lo h)
  (hs:∀ i h J,i<=n->Old lo h->(∀ k,k < i->G k=true)->(∀ h',i < n->G i=true->Old lo h'->J [v,.int .i64 ((i + 1:Nat):Int)] h')->step [v,.int .i64 (i:Nat)] h J):LP step [v,.int .i64 0] h:=by
 refine kj (fun m vs h => ∃ i,i<=n/\m=n - i/\vs = [v,.int .i64 (i:Nat)]/\Old lo h /\ ∀ k,k < i->G k=true) n ⟨0,aa0 _,rfl,rfl,h0,fun k hk=>absurd hk (acu _)⟩ ?_
 rintro m vs h ⟨i,hi,rfl,rfl,e,g⟩
 refine hs i h _ hi e g fun h' hlt hg e'=>⟨n - (i + 1),by omega,i + 1,hlt,rfl,rfl,e',fun k hk => ?_⟩
 rcases aar k i with q | q
 ·exact g k q
 ·have:k=i:=by omega
  subst this;exact hg
def Dp {α:Type} (l:List α) (B:α->Bool) (k:Nat):Bool:=match l[k]? with
 | some x=>B x
 | none=>true
theorem qV {α:Type} {l:List α} {B:α->Bool} (h:∀ k,k < l.length->Dp l B k=true):l.all B=true:=by
 rw [aas]
 intro x hx
 obtain ⟨k,hk,rfl⟩:=abO hx
 have:=h k hk
 simpa only [Dp,aab hk] using this
theorem qR {α:Type} {l:List α} {B:α->Bool} {k:Nat} {x:α} (hx:l[k]? = some x) (hb:B x=false):l.all B=false:=by
 rw [List.all_eq_false]
 exact ⟨x,aaq hx,by simp [hb]⟩
theorem Wd {α:Type} {l:List α} {B:α->Bool} {k:Nat} {x:α} (hx:l[k]? = some x):Dp l B k=B x:=by simp only [Dp,hx]
theorem get_some {α:Type} {l:List α} {k:Nat} (h:k < l.length):∃ x,l[k]? = some x/\x ∈ l:=⟨l[k],aab h,abN h⟩
def Zi (f:Fn) (x:yM):Bool :=
 if x.op=1\/x.op=2\/x.op=3\/x.op=12\/x.op=13\/x.op=14\/x.op=8\/x.op=10 then true
 else if x.op=4 then decide (1<=x.sub) && decide (x.sub<=4)
 else if x.op=5 then rY x.sub
 else if x.op=11 then mC x.sub
 else if x.op=6\/x.op=7 then Kf x.sub
 else if x.op=9 then decide (0<=x.k) && decide (x.k<=f.frame)
 else false
structure Bx (h:za) (b1 b2:Nat) (f:Fn) (x:yM):Prop where
 l1:b1 < h.next
 l2:b2 < h.next
 g1:h.get b1=some (.cells [.string f.nm,f.pv,.int .i64 f.regs,.int .i64 f.frame,.int .i64 f.entry,f.cv] 45)
 g2:h.get b2=some (.cells [.int .i64 x.op,.int .i64 x.sub,.int .i64 x.a,.int .i64 x.b,.int .i64 x.d,.int .i64 x.k,x.av,.int .i64 x.s,.int .i64 x.t] 53)
theorem Bx.old {h h':za} {b1 b2:Nat} {f:Fn} {x:yM} (B:Bx h b1 b2 f x) (e:Old h h'):Bx h' b1 b2 f x :=
 ⟨aai B.l1 e.next,aai B.l2 e.next,by rw [e.get _ B.l1];exact B.g1,by rw [e.get _ B.l2];exact B.g2⟩
section
variable {h:za} {b1 b2:Nat} {f:Fn} {x:yM} {vs:List Value} {B:Bool}
theorem TZ (W:Bx h b1 b2 f x) (hB:B=Zi f x):x8 (.pointer (some ⟨b2,0,none⟩)) (qO B) (.pointer (some ⟨b1,0,none⟩)) vs h:=by
 have g1:=W.g1
 have g2:=W.g2
 clear W
 obtain ⟨op,sub,a,b,d,k,av,args,s,t⟩:=x
 unfold Zi at hB
 simp only at hB g2
 by_cases p:op=1\/op=2\/op=3\/op=12\/op=13\/op=14\/op=8\/op=10
 ·rw [if_pos p] at hB
  rcases p with rfl | rfl | rfl | rfl | rfl | rfl | rfl | rfl
  all_goals
   simp -implicitDefEqProofs only [EE,nth,↓BK,Int.reduceEq,zC,zj,zq,wx,wy,wz,wA,wB,wC,wD,x8,g2]
   rw [hB];rfl
 rw [if_neg p] at hB
 have p1:¬ op=1:=fun q=>p (.inl q)
 have p2:¬ op=2:=fun q=>p (.inr (.inl q))
 have p3:¬ op=3:=fun q=>p (.inr (.inr (.inl q)))
 have p12:¬ op=12:=fun q=>p (.inr (.inr (.inr (.inl q))))
 have p13:¬ op=13:=fun q=>p (.inr (.inr (.inr (.inr (.inl q)))))
 have p14:¬ op=14:=fun q=>p (.inr (.inr (.inr (.inr (.inr (.inl q))))))
 have p8:¬ op=8:=fun q=>p (.inr (.inr (.inr (.inr (.inr (.inr (.inl q)))))))
 have p10:¬ op=10:=fun q=>p (.inr (.inr (.inr (.inr (.inr (.inr (.inr q)))))))
 clear p
 by_cases h4:op=4
 ·subst h4
  rw [if_pos rfl] at hB
  by_cases c:1<=sub
  ·simp -implicitDefEqProofs only [EE,nth,↓BK,Int.reduceEq,zC,zj,zq,zW,wx,wy,wz,wA,wB,wC,QH,QP,wS,wD,x8,g2,c]
   simp [qO,hB,c]
  ·simp -implicitDefEqProofs only [EE,nth,↓BK,Int.reduceEq,zC,zj,zq,zW,wx,wy,wz,wA,wB,wC,QH,QP,wS,wD,x8,g2,c]
   simp [qO,hB,c]
 rw [if_neg h4] at hB
 by_cases h5:op=5
 ·subst h5
  rw [if_pos rfl] at hB
  unfold rY at hB
  by_cases c:11<=sub
  ·simp -implicitDefEqProofs only [EE,nth,↓BK,Int.reduceEq,zC,zj,zq,zW,wx,wy,wz,wA,wB,wC,QI,QO,vH,wS,wD,x8,g2,c]
   simp [qO,hB,c]
  ·simp -implicitDefEqProofs only [EE,nth,↓BK,Int.reduceEq,zC,zj,zq,zW,wx,wy,wz,wA,wB,wC,QI,QO,vH,wS,wD,x8,g2,c]
   simp [qO,hB,c]
 rw [if_neg h5] at hB
 by_cases h11:op=11
 ·subst h11
  rw [if_pos rfl] at hB
  unfold mC at hB
  by_cases c:21<=sub
  ·simp -implicitDefEqProofs only [EE,nth,↓BK,Int.reduceEq,zC,zj,zq,zW,wx,wy,wz,wA,wB,wC,QJ,QN,u4,vH,wS,wD,x8,g2,c]
   simp [qO,hB,c]
  ·simp -implicitDefEqProofs only [EE,nth,↓BK,Int.reduceEq,zC,zj,zq,zW,wx,wy,wz,wA,wB,wC,QJ,QN,u4,vH,wS,wD,x8,g2,c]
   simp [qO,hB,c]
 rw [if_neg h11] at hB
 by_cases h67:op=6\/op=7
 ·rw [if_pos h67] at hB
  unfold Kf at hB
  by_cases c1:sub=1
  ·rcases h67 with rfl | rfl
   all_goals
    simp -implicitDefEqProofs only [EE,nth,↓BK,Int.reduceEq,zC,zj,zq,zW,wx,wy,wz,wA,wB,wC,WI,WJ,WK,WL,jh,u4,vH,wS,wD,x8,g2,c1]
    simp [qO,hB,c1]
  by_cases c4:sub=4
  ·rcases h67 with rfl | rfl
   all_goals
    simp -implicitDefEqProofs only [EE,nth,↓BK,Int.reduceEq,zC,zj,zq,zW,wx,wy,wz,wA,wB,wC,WI,WJ,WK,WL,jh,u4,vH,wS,wD,x8,g2,c4]
    simp [qO,hB,c4]
  rcases h67 with rfl | rfl
  all_goals
   simp -implicitDefEqProofs only [EE,nth,↓BK,Int.reduceEq,zC,zj,zq,zW,wx,wy,wz,wA,wB,wC,WI,WJ,WK,WL,jh,u4,vH,wS,wD,x8,g2,c1,c4]
   simp [qO,hB,c1,c4]
 rw [if_neg h67] at hB
 have p6:¬ op=6:=fun q=>h67 (.inl q)
 have p7:¬ op=7:=fun q=>h67 (.inr q)
 by_cases h9:op=9
 ·subst h9
  rw [if_pos rfl] at hB
  by_cases c:0<=k
  ·simp -implicitDefEqProofs only [EE,nth,↓BK,Int.reduceEq,zC,wj,zj,kH,zq,vo,wx,wy,wz,wA,wB,wC,QK,QL,QM,WM,jh,u4,vH,wS,wD,x8,g1,g2,c]
   simp [qO,hB,c]
  ·simp -implicitDefEqProofs only [EE,nth,↓BK,Int.reduceEq,zC,wj,zj,zq,vo,wx,wy,wz,wA,wB,wC,QK,QL,QM,WM,jh,u4,vH,wS,wD,x8,g2,c]
   simp [qO,hB,c]
 rw [if_neg h9] at hB
 simp -implicitDefEqProofs only [EE,nth,↓BK,zC,zj,zq,wx,wy,wz,wA,wB,wC,WM,jh,u4,vH,wS,wD,x8,g2,p1,p2,p3,p12,p13,p14,p8,p10,h4,h5,h11,p6,p7,h9]
 rw [hB];rfl
end
theorem wH {n m:Int} (h:n < 0\/m<=n):yp n m=false:=by
 unfold yp
 by_cases a:0<=n
 ·have:¬ n < m:=by omega
  simp [this]
 ·simp [a]
theorem xD {n m:Int} (h:¬ n < 0) (h2:¬ m<=n):yp n m=true:=by
 have a:0<=n:=by omega
 have b:n < m:=by omega
 simp [yp,a,b]
theorem HM (x:yM):(wu x).length<=2:=by
 unfold wu
 split
 ·exact aa0 _
 ·split
  ·exact aah _
  ·exact abn _
section
variable {h:za} {b1 b2:Nat} {f:Fn} {x:yM} {vs:List Value} {B:Bool}
theorem T0 (W:Bx h b1 b2 f x) (hn:zP x.av=false) (hc:zJ h f.cv 9 (f.code.map yM.row)) (hB:B=((wu x).all (fun s=>yp s f.code.length) && Zi f x)) :
  QQ (.pointer (some ⟨b2,0,none⟩)) (.pointer (some ⟨b1,0,none⟩)) (qO B) vs h:=by
 have g2:=W.g2
 simp -implicitDefEqProofs only [EE,if_true,Nat.reduceAdd,zZ,ka,QQ,g2]
 refine zT (by kernel_rfl) (by simp -implicitDefEqProofs only [EE]) (G3 x hn h) ?_
 rintro v h1 ⟨S,e⟩
 simp -implicitDefEqProofs only [↓BK]
 have hcode:(f.code.map yM.row).length=f.code.length:=aak _
 refine XM (lo:=h1) (wu x).length (Dp (wu x) fun s=>yp s f.code.length) (.refl h1) ?_
 intro i h2 J hi e2 hg hJ
 have W2:=W.old (e.trans e2)
 have S2:=S.old e2
 have c2:=hc.old (e.trans e2)
 have nl:=S2.vk
 have hl:=S2.jM 3 h2
 rcases aar i (wu x).length with hlt | hge
 ·obtain ⟨z,hz,_⟩:=get_some hlt
  obtain ⟨b,o,c,t,ha,hb,hgt,hco⟩:=S2.at hz
  have hlt':(i:Int) < ((wu x).length:Int):=by omega
  have g1':=W2.g1
  have cn:=c2.vk
  have cl:=c2.Qu 3 h2
  rw [hcode] at cl
  have hinc:IntKind.wrap .i64 ((i:Int) + 1)=((i + 1:Nat):Int):=inc (by have:=HM x;omega)
  by_cases z0:z < 0
  ·simp -implicitDefEqProofs only [EE,nth,↓BK,zC,zj,UF,UG,WD,WE,WG,WH,YW,hl,hlt',nl,ha,hgt,hco,z0]
   rw [hB,qR (B:=fun s=>yp s f.code.length) hz (wH (.inl z0))];rfl
  by_cases z1:(f.code.length:Int)<=z
  ·simp -implicitDefEqProofs only [EE,nth,↓BK,zC,zj,vK,y9,UF,UG,WD,WE,WG,WH,YW,hl,hlt',nl,ha,hgt,hco,z0,g1',cn,cl,z1]
   rw [hB,qR (B:=fun s=>yp s f.code.length) hz (wH (.inr z1))];rfl
  ·simp -implicitDefEqProofs only [EE,nth,↓BK,zC,zj,vK,y9,UF,UG,WD,WE,WG,WH,fO,YW,hl,hlt',nl,ha,hgt,hco,z0,g1',cn,cl,z1,hinc]
   exact hJ _ hlt (by rw [Wd hz];exact xD z0 z1) e2
 ·have hlt':¬ (i:Int) < ((wu x).length:Int):=by omega
  simp -implicitDefEqProofs only [EE,nth,YW,hl,hlt',nl]
  refine TZ W2 ?_
  rw [hB,qV fun k hk=>hg k (by omega),aa5]
theorem T2 (W:Bx h b1 b2 f x) (hn:zP x.av=false) (hc:zJ h f.cv 9 (f.code.map yM.row)) (hB:B=(!(decide (f.regs<=zA x)) && (!decide (zA x < -1) && ((wu x).all (fun s=>yp s f.code.length) && Zi f x)))) :
  qN Tryz.prog 54 [x.val] h (WO (.pointer (some ⟨b1,0,none⟩)) h (.pointer (some ⟨b2,0,none⟩)) (qO B) vs):=by
 refine vn (by kernel_rfl) (by simp -implicitDefEqProofs only [EE]) (nq x hn h) ?_
 have g1:=W.g1
 have g2:=W.g2
 by_cases c1:f.regs<=zA x
 ·simp -implicitDefEqProofs only [EE,zC,zj,wF,WN,WO,g1,c1]
  rw [hB];simp [qO,c1]
 ·simp -implicitDefEqProofs only [EE,if_true,Nat.reduceAdd,zZ,zC,zj,ka,wF,WO,g1,g2,c1]
  refine vn (by kernel_rfl) (by simp -implicitDefEqProofs only [EE]) (nq x hn h) ?_
  by_cases c2:zA x < -1
  ·simp -implicitDefEqProofs only [EE,Int.reduceNeg,WN,c2]
   rw [hB];simp [qO,c2]
  ·simp -implicitDefEqProofs only [EE,Int.reduceNeg,WN,c2]
   refine T0 W hn hc ?_
   rw [hB];simp [c1,c2]
theorem T3 (W:Bx h b1 b2 f x) (I:xK h x) (hc:zJ h f.cv 9 (f.code.map yM.row)) {v:Value} (S:zN h v (wP x)) (hB:B=((wP x).all (fun u=>yp u f.regs) && (!(decide (f.regs<=zA x)) && (!decide (zA x < -1) && ((wu x).all (fun s=>yp s f.code.length) && Zi f x))))) :
  QR (.pointer (some ⟨b1,0,none⟩)) (qO B) vs (.pointer (some ⟨b2,0,none⟩)) v h:=by
 have hn:=I.args.vk
 simp -implicitDefEqProofs only [↓BK,QR]
 have J9:(wP x).length<=17592186043906:=by
  have:=I.J9
  unfold wP lA lB lC
  simp only [abT]
  split <;> split <;> split <;> simp <;> omega
 refine XM (lo:=h) (wP x).length (Dp (wP x) fun s=>yp s f.regs) (.refl h) ?_
 intro i h2 J hi e2 hg hJ
 have W2:=W.old e2
 have S2:=S.old e2
 have nl:=S2.vk
 have hl:=S2.jM 3 h2
 rcases aar i (wP x).length with hlt | hge
 ·obtain ⟨z,hz,_⟩:=get_some hlt
  obtain ⟨b,o,c,t,ha,hb,hgt,hco⟩:=S2.at hz
  have hlt':(i:Int) < ((wP x).length:Int):=by omega
  have g1':=W2.g1
  have hinc:IntKind.wrap .i64 ((i:Int) + 1)=((i + 1:Nat):Int):=inc (by omega)
  by_cases z0:z < 0
  ·simp -implicitDefEqProofs only [EE,nth,↓BK,zC,zj,UA,UB,UC,UD,UE,X4,hl,hlt',nl,ha,hgt,hco,z0]
   rw [hB,qR (B:=fun s=>yp s f.regs) hz (wH (.inl z0))];rfl
  by_cases z1:f.regs<=z
  ·simp -implicitDefEqProofs only [EE,nth,↓BK,zC,zj,wF,UA,UB,UC,UD,UE,X4,hl,hlt',nl,ha,hgt,hco,z0,g1',z1]
   rw [hB,qR (B:=fun s=>yp s f.regs) hz (wH (.inr z1))];rfl
  ·simp -implicitDefEqProofs only [EE,nth,↓BK,zC,zj,wF,UA,UB,UC,UD,UE,i7,X4,hl,hlt',nl,ha,hgt,hco,z0,g1',z1,hinc]
   exact hJ _ hlt (by rw [Wd hz];exact xD z0 z1) e2
 ·have hlt':¬ (i:Int) < ((wP x).length:Int):=by omega
  have g2':=W2.g2
  simp -implicitDefEqProofs only [EE,nth,if_true,Nat.reduceAdd,zZ,ka,X4,hl,hlt',nl,g2']
  refine T2 W2 hn (hc.old e2) ?_
  rw [hB,qV fun k hk=>hg k (by omega),aa5]
end
def sa (f:Fn) (x:yM):Bool:=(wP x).all (fun u=>yp u f.regs) && (!(decide (f.regs<=zA x)) && (!decide (zA x < -1) && ((wu x).all (fun s=>yp s f.code.length) && Zi f x)))
def Jk (x:yM):Bool:=Xb x.op && decide (x.a = -1)
def J5 (x:yM):Bool:=Ku x.op && decide (x.b = -1)
def GV (x:yM):Bool:=Kv x.op && decide (zA x = -1)
def Dr (x:yM):Bool:=decide (x.op=10) && decide (x.d < -1)
def Ua (f:Fn) (x:yM):Bool := !Jk x && (!J5 x && (!GV x && (!Dr x && sa f x)))
section
variable {h:za} {b1 b2:Nat} {f:Fn} {x:yM} {vs:List Value} {B:Bool}
theorem TK (W:Bx h b1 b2 f x) (I:xK h x) (hc:zJ h f.cv 9 (f.code.map yM.row)) (c:Bool) (hB:B=(!c && sa f x)) :
  ji (.bool false) (qO B) (.pointer (some ⟨b2,0,none⟩)) (.pointer (some ⟨b1,0,none⟩)) (.bool c) h:=by
 have g2:=W.g2
 cases c with
 | true=>
   simp -implicitDefEqProofs only [EE,ji]
   rw [hB];rfl
 | false=>
   simp -implicitDefEqProofs only [EE,if_true,Nat.reduceAdd,zZ,ka,ji,g2]
   refine zT (by kernel_rfl) (by simp -implicitDefEqProofs only [EE]) (Lr x h I.args I.J9) ?_
   intro v h1 hF
   obtain ⟨S,e⟩:=hF.read
   refine T3 (W.old e) (I.old e) (hc.old e) S ?_
   rw [hB];rfl
theorem TL (W:Bx h b1 b2 f x) (I:xK h x) (hc:zJ h f.cv 9 (f.code.map yM.row)) (c:Bool) (hB:B=(!c && (!Dr x && sa f x))) :
  jj (.bool false) (.pointer (some ⟨b2,0,none⟩)) (qO B) (.pointer (some ⟨b1,0,none⟩)) (.bool c) h:=by
 have g2:=W.g2
 cases c with
 | true=>
   simp -implicitDefEqProofs only [EE,ji,Zp,Zq,Zr,jj]
   rw [hB];rfl
 | false=>
   by_cases h10:x.op=10
   ·simp -implicitDefEqProofs only [EE,Int.reduceNeg,zC,zj,zq,xj,Zp,Zq,Zr,jj,g2,h10]
    refine TK W I hc (decide (x.d < -1)) ?_
    rw [hB];simp [Dr,h10]
   ·simp -implicitDefEqProofs only [EE,zC,zj,zq,Zp,Zq,Zr,jj,g2,h10]
    refine TK W I hc false ?_
    rw [hB];simp [Dr,h10]
theorem TM (W:Bx h b1 b2 f x) (I:xK h x) (hc:zJ h f.cv 9 (f.code.map yM.row)) (c:Bool) (hB:B=(!c && (!GV x && (!Dr x && sa f x)))) :
  Zs (.bool false) (.bool (Kv x.op)) (.pointer (some ⟨b2,0,none⟩)) (qO B) (.pointer (some ⟨b1,0,none⟩)) (.bool c) h:=by
 have g2:=W.g2
 have hn:=I.args.vk
 cases c with
 | true=>
   simp -implicitDefEqProofs only [EE,ji,Zp,Zq,Zr,jj,YX,YY,Zs]
   rw [hB];rfl
 | false=>
   cases hD:Kv x.op with
   | true=>
     simp -implicitDefEqProofs only [EE,if_true,Nat.reduceAdd,zZ,ka,YY,Zs,g2]
     refine zi (by kernel_rfl) (by simp -implicitDefEqProofs only [EE]) (nq x hn h) ?_
     simp -implicitDefEqProofs only [EE,Int.reduceNeg,YX]
     refine TL W I hc (decide (zA x = -1)) ?_
     rw [hB];simp [GV,hD]
   | false=>
     simp -implicitDefEqProofs only [EE,YX,YY,Zs]
     refine TL W I hc false ?_
     rw [hB];simp [GV,hD]
theorem TN (W:Bx h b1 b2 f x) (I:xK h x) (hc:zJ h f.cv 9 (f.code.map yM.row)) (c:Bool) {t15 t22:Value} (hp:pk t15 t22 (.bool false)=some (.bool c)) (hB:B=(!c && (!J5 x && (!GV x && (!Dr x && sa f x))))) :
  YZ t15 (.bool (Ku x.op)) (.pointer (some ⟨b2,0,none⟩)) (.bool (Kv x.op)) (qO B) (.pointer (some ⟨b1,0,none⟩)) t22 h:=by
 have g2:=W.g2
 cases c with
 | true=>
   simp -implicitDefEqProofs only [EE,ji,Zp,Zq,Zr,jj,YX,YY,Zs,WQ,WR,YZ,hp]
   rw [hB];rfl
 | false=>
   cases hD:Ku x.op with
   | true=>
     simp -implicitDefEqProofs only [EE,Int.reduceNeg,zC,zj,vC,WQ,WR,YZ,g2,hp]
     refine TM W I hc (decide (x.b = -1)) ?_
     rw [hB];simp [J5,hD]
   | false=>
     simp -implicitDefEqProofs only [EE,WQ,WR,YZ,hp]
     refine TM W I hc false ?_
     rw [hB];simp [J5,hD]
end
theorem R1 (a b c:Bool):Wf (.tuple #[.bool a,.bool b,.bool c]) 0=some (.bool a):=by rw [l8 rfl];rfl
theorem R2 (a b c:Bool):Wf (.tuple #[.bool a,.bool b,.bool c]) 1=some (.bool b):=by rw [l8 rfl];rfl
theorem R3 (a b c:Bool):Wf (.tuple #[.bool a,.bool b,.bool c]) 2=some (.bool c):=by rw [l8 rfl];rfl
theorem Lp (f:Fn) (x:yM) (h:za) (hpv:cellOk f.pv=true/\zP f.pv=false) (I:xK h x) (hc:zJ h f.cv 9 (f.code.map yM.row)):xx Tryz.prog 73 [f.val,x.val] h (.bool (Ua f x)):=by
 apply ki
 replace I:=I.lock
 replace hc:=hc.lock
 generalize hL:h.lock=L at I hc
 clear hL h
 apply AN
 unfold AM
 have hn:=I.args.vk
 have hcn:=hc.vk
 obtain ⟨hpc,hpn⟩:=hpv
 simp -implicitDefEqProofs only [EE,↓nw,Value.cells,if_true,Nat.reduceAdd,zZ,ka]
 have o1:=Old.push L (.cells f.row 45)
 have o2:=Old.push (L.push (.cells f.row 45)) (.cells x.row 53)
 refine zT (by kernel_rfl) (by simp -implicitDefEqProofs only [EE]) (Mb x hn _) ?_
 rintro v h1 ⟨rfl,e⟩
 have W:Bx h1 L.next (L.next + 1) f x:=by
  refine Bx.old (h:=(L.push (.cells f.row 45)).push (.cells x.row 53)) ⟨?_,?_,?_,?_⟩ e
  ·show L.next < L.next + 1 + 1;omega
  ·show L.next + 1 < L.next + 1 + 1;omega
  ·rw [zt (by show L.next < L.next + 1;omega),zo]
  ·exact zD rfl
 have oe:=(o1.trans o2).trans e
 replace I:=I.old oe
 replace hc:=hc.old oe
 have g2:=W.g2
 cases hA:Xb x.op with
 | true=>
   simp -implicitDefEqProofs only [EE,Int.reduceNeg,zC,zj,xe,QS,QT,g2,R1,R2,R3]
   refine TN W I hc (decide (x.a = -1)) (yT rfl) ?_
   simp [Ua,Jk,hA]
 | false=>
   simp -implicitDefEqProofs only [EE,QS,QT,R1,R2,R3]
   refine TN W I hc false (yf rfl) ?_
   simp [Ua,Jk,hA]
theorem Uj {n:Nat} {G:Nat->Bool} (h:∀ k,k < n->G k=true):(List.range n).all G=true:=by
 rw [aas]
 intro k hk
 exact h k (aa7.1 hk)
theorem YJ {n k:Nat} {G:Nat->Bool} (hk:k < n) (h:G k=false):(List.range n).all G=false:=by
 rw [List.all_eq_false]
 exact ⟨k,aa7.2 hk,by simp [h]⟩
theorem cS {l:List Int} {i:Nat} {z:Int} (h:l[i]? = some z):l.getD i 0=z:=by
 rw [aaB,h];rfl
def Ui (l:List Int) (regs:Int) (i:Nat):Bool:=yp (l.getD i 0) regs && (List.range i).all fun k => !decide (l.getD k 0=l.getD i 0)
def Qw (l:List Int) (regs:Int):Bool:=(List.range l.length).all (Ui l regs)
def Wv (f:Fn):Bool := !decide (f.regs < 0) && (!decide (5000 < f.regs) && (!decide ((5000:Int) < f.code.length) && (!decide (f.entry < 0) && (!decide ((f.code.length:Int)<=f.entry) && (!decide (f.frame < 0) && !decide (65536 < f.frame))))))
def kG (f:Fn):Bool:=Wv f && (Qw f.params f.regs && f.code.all (Ua f))
theorem Old.Jl {h h':za} (e:Old h h') {b:Nat} {o:xE} (hb:b < h.next) (hg:h.get b=some o):h'.get b=some o:=by rw [e.get b hb];exact hg
section
variable {L h:za} {b1:Nat} {f:Fn} {vs:List Value} {B:Bool}
theorem S9 (F:v8 h f) (hb:b1 < h.next) (hg:h.get b1=some (.cells [.string f.nm,f.pv,.int .i64 f.regs,.int .i64 f.frame,.int .i64 f.entry,f.cv] 45)) (hB:B=f.code.all (Ua f)) :
  LP (WS (.pointer (some ⟨b1,0,none⟩)) (fun _ h101=>qO B (.bool true) h101) (qO B)) [(nth vs 0),(.int .i64 0)] h:=by
 refine XM (lo:=h) f.code.length (Dp f.code (Ua f)) (.refl h) ?_
 intro i h2 J hi e2 hq hJ
 have g2:=e2.Jl hb hg
 have F2:=F.old e2
 have cn:=F2.code.vk
 have pn:=F2.params.vk
 have cl:=F2.code.Qu 3 h2
 rw [aak] at cl
 rcases aar i f.code.length with hlt | hge
 ·obtain ⟨x,hx,hm⟩:=get_some hlt
  obtain ⟨b,o,c,t,ha,hbb,hgt,hle,htk,_⟩:=F2.code.th (i:=i) (r:=x.row) (by rw [aap,hx];rfl) rfl
  have hlt':(i:Int) < (f.code.length:Int):=by omega
  have hinc:IntKind.wrap .i64 ((i:Int) + 1)=((i + 1:Nat):Int):=inc (by have:=F.nO;omega)
  simp -implicitDefEqProofs only [EE,nth,↓BK,if_true,Nat.reduceAdd,zZ,zC,vK,Qq,ka,y9,fP,WS,g2,cn,cl,hlt',ha,hgt,hle,htk]
  refine qm (by kernel_rfl) (by simp -implicitDefEqProofs only [EE]) (Lp f x h2 ⟨F2.params.gO,pn⟩ (F2.ins x hm) F2.code).dc ?_
  rintro v h3 ⟨rfl,rfl⟩
  cases hI:Ua f x with
  | true=>
    simp -implicitDefEqProofs only [EE,nth,QU,fQ,hinc]
    exact hJ _ hlt (by rw [Wd hx];exact hI) e2
  | false=>
    simp -implicitDefEqProofs only [EE,QU]
    rw [hB,qR hx hI];rfl
 ·have hlt':¬ (i:Int) < (f.code.length:Int):=by omega
  simp -implicitDefEqProofs only [EE,nth,zC,vK,y9,WS,g2,cn,cl,hlt']
  have:f.code.all (Ua f)=true:=qV fun k hk=>hq k (by omega)
  rw [hB,this];rfl
theorem S8 (F:v8 h f) (hb:b1 < h.next) (hg:h.get b1=some (.cells [.string f.nm,f.pv,.int .i64 f.regs,.int .i64 f.frame,.int .i64 f.entry,f.cv] 45)) (hB:B=(Qw f.params f.regs && f.code.all (Ua f))) :
  WT (.pointer (some ⟨b1,0,none⟩)) (qO B) vs h:=by
 simp -implicitDefEqProofs only [↓BK,WT]
 refine XM (lo:=h) f.params.length (Ui f.params f.regs) (.refl h) ?_
 intro i h2 J hi e2 hq hJ
 have g2:=e2.Jl hb hg
 have F2:=F.old e2
 have pn:=F2.params.vk
 have pl:=F2.params.jM 3 h2
 rcases aar i f.params.length with hlt | hge
 ·obtain ⟨z,hz,hm⟩:=get_some hlt
  obtain ⟨b,o,c,t,ha,hbb,hgt,hco⟩:=F2.params.at hz
  have hlt':(i:Int) < (f.params.length:Int):=by omega
  have hinc:IntKind.wrap .i64 ((i:Int) + 1)=((i + 1:Nat):Int):=inc (by have:=F.tP;omega)
  have hgd:=cS hz
  by_cases z0:z < 0
  ·simp -implicitDefEqProofs only [EE,nth,↓BK,zC,xr,zj,uK,UI,UJ,UK,UL,UM,Y0,g2,pn,pl,hlt',ha,hgt,hco,z0]
   have:Qw f.params f.regs=false:=YJ hlt (by unfold Ui;rw [hgd,wH (.inl z0)];rfl)
   rw [hB,this];rfl
  by_cases z1:f.regs<=z
  ·simp -implicitDefEqProofs only [EE,nth,↓BK,zC,xr,zj,uK,wF,UI,UJ,UK,UL,UM,Y0,g2,pn,pl,hlt',ha,hgt,hco,z0,z1]
   have:Qw f.params f.regs=false:=YJ hlt (by unfold Ui;rw [hgd,wH (.inr z1)];rfl)
   rw [hB,this];rfl
  simp -implicitDefEqProofs only [EE,nth,↓BK,zC,xr,zj,uK,wF,UI,UJ,UK,UL,UM,la,Y0,g2,pn,pl,hlt',ha,hgt,hco,z0,z1]
  refine XM (lo:=h2) i (fun k => !decide (f.params.getD k 0=f.params.getD i 0)) (.refl h2) ?_
  intro k h3 J2 hk e3 hq3 hJ3
  have g3:=(e2.trans e3).Jl hb hg
  have F3:=F2.old e3
  rcases aar k i with hlk | hgk
  ·obtain ⟨y,hy,_⟩:=get_some (l:=f.params) (k:=k) (by omega)
   obtain ⟨b3,o3,c3,t3,ha3,hbb3,hgt3,hco3⟩:=F3.params.at hy
   obtain ⟨b4,o4,c4,t4,ha4,hbb4,hgt4,hco4⟩:=F3.params.at hz
   have hlk':(k:Int) < (i:Int):=by omega
   have hinc3:IntKind.wrap .i64 ((k:Int) + 1)=((k + 1:Nat):Int):=inc (by have:=F.tP;omega)
   have hgk3:=cS hy
   by_cases yz:y=z
   ·simp -implicitDefEqProofs only [EE,nth,↓BK,zC,xr,zj,uK,JO,UH,g3,hlk',ha3,hgt3,hco3,ha4,hgt4,hco4,yz]
    have:Qw f.params f.regs=false:=YJ hlt (by unfold Ui;rw [YJ hlk (by rw [hgk3,hgd,yz];simp),acz])
    rw [hB,this];rfl
   ·simp -implicitDefEqProofs only [EE,nth,↓BK,zC,xr,zj,uK,JO,i9,UH,g3,hlk',ha3,hgt3,hco3,ha4,hgt4,hco4,yz,hinc3]
    exact hJ3 _ hlk (by rw [hgk3,hgd];simp [yz]) e3
  ·have hlk':¬ (k:Int) < (i:Int):=by omega
   simp -implicitDefEqProofs only [EE,nth,UH,hlk',hinc]
   refine hJ _ hlt ?_ (e2.trans e3)
   unfold Ui
   rw [hgd,xD z0 z1,aa5]
   have:=Uj (n:=i) (G:=fun k => !decide (f.params.getD k 0=f.params.getD i 0)) (fun k' hk'=>hq3 k' (by omega))
   rw [hgd] at this
   exact this
 ·have hlt':¬ (i:Int) < (f.params.length:Int):=by omega
  simp -implicitDefEqProofs only [EE,nth,↓BK,zC,xr,uK,Y0,g2,pn,pl,hlt']
  have hp:Qw f.params f.regs=true:=Uj fun k hk=>hq k (by omega)
  exact S9 (B:=B) F2 (aai hb e2.next) g2 (by rw [hB,hp,aa5])
end
theorem Lq (f:Fn) (h:za) (F:v8 h f):xx Tryz.prog 39 [f.val] h (.bool (kG f)):=by
 apply ki
 replace F:=F.lock
 generalize h.lock=L at F
 apply AP
 unfold AO
 have pn:=F.params.vk
 have cn:=F.code.vk
 have F1:=F.old (Old.push L (.cells f.row 45))
 have cl:=F1.code.Qu 3 (L.push (.cells f.row 45))
 rw [aak] at cl
 have fin:∀ vs,WT (.pointer (some ⟨L.next,0,none⟩)) (qO (Qw f.params f.regs && f.code.all (Ua f))) vs (L.push (.cells f.row 45)):=fun vs=>S8 F1 (aaD _) zo rfl
 unfold kG Wv
 by_cases c1:f.regs < 0
 ·simp -implicitDefEqProofs only [EE,↓nw,Value.cells,zC,zj,wF,u5,u6,u7,u9,qa,qb,qc,qd,qe,qh,qi,qj,c1];rfl
 by_cases c2:5000 < f.regs
 ·simp -implicitDefEqProofs only [EE,↓nw,Value.cells,zC,zj,wF,u5,u6,u7,u9,qa,qb,qc,qd,qe,qh,qi,qj,c1,c2];rfl
 by_cases c3:(5000:Int) < f.code.length
 ·simp -implicitDefEqProofs only [EE,↓nw,Value.cells,zC,zj,vK,wF,y9,u5,u6,u7,u9,qa,qb,qc,qd,qe,qh,qi,qj,cn,cl,c1,c2,c3];rfl
 by_cases c4:f.entry < 0
 ·simp -implicitDefEqProofs only [EE,↓nw,Value.cells,zC,zj,vK,wF,ZK,y9,u5,u6,u7,u9,qa,qb,qc,qd,qe,qh,qi,qj,cn,cl,c1,c2,c3,c4];rfl
 by_cases c5:(f.code.length:Int)<=f.entry
 ·simp -implicitDefEqProofs only [EE,↓nw,Value.cells,zC,zj,vK,wF,ZK,y9,u5,u6,u7,u9,qa,qb,qc,qd,qe,qh,qi,qj,cn,cl,c1,c2,c3,c4,c5];rfl
 by_cases c6:f.frame < 0
 ·simp -implicitDefEqProofs only [EE,↓nw,Value.cells,zC,zj,vK,wF,kH,ZK,y9,u5,u6,u7,u9,qa,qb,qc,qd,qe,qh,qi,qj,cn,cl,c1,c2,c3,c4,c5,c6];rfl
 by_cases c7:65536 < f.frame
 ·simp -implicitDefEqProofs only [EE,↓nw,Value.cells,zC,zj,vK,wF,kH,ZK,y9,u5,u6,u7,u9,qa,qb,qc,qd,qe,qh,qi,qj,cn,cl,c1,c2,c3,c4,c5,c6,c7];rfl
 simp -implicitDefEqProofs only [EE,↓nw,Value.cells,zC,zj,vK,wF,kH,ZK,y9,u5,u6,u7,u9,qa,qb,qc,qd,qe,qh,qi,qj,cn,cl,c1,c2,c3,c4,c5,c6,c7]
 exact fin _
def ZM (g:Int):Bool := !decide (g < 0) && !decide (65536 < g)
def Wr (p:Pg) (k:Int):Int:=match p.funcs[k.toNat]? with
 | some f=>f.params.length
 | none=>0
def eP (p:Pg) (c:yM):Bool := !decide (c.op=10) || (yp c.sub p.funcs.length && decide (Wr p c.sub=c.args.length))
def He (p:Pg) (c:yM):Bool := !decide (c.op=8) || (yp c.sub p.globals.length && (!decide (c.k < 0) && !decide (p.globals.getD c.sub.toNat 0 < c.k)))
def kD (p:Pg) (c:yM):Bool:=eP p c && He p c
def Qm (p:Pg):Bool := !decide ((200:Int) < p.globals.length) && (!decide ((100:Int) < p.funcs.length) && (!decide (p.main < 0) && !decide ((p.funcs.length:Int)<=p.main)))
def eS (p:Pg):Bool:=Qm p && (p.globals.all ZM && p.funcs.all fun f=>kG f && f.code.all (kD p))
abbrev YA (f:Fn):xE := .cells [.string f.nm,f.pv,.int .i64 f.regs,.int .i64 f.frame,.int .i64 f.entry,f.cv] 45
abbrev xJ (x:yM):xE := .cells [.int .i64 x.op,.int .i64 x.sub,.int .i64 x.a,.int .i64 x.b,.int .i64 x.d,.int .i64 x.k,x.av,.int .i64 x.s,.int .i64 x.t] 53
abbrev YI (p:Pg):xE := .cells [p.gv,p.fv,.int .i64 p.main] 25
theorem mem_of {α:Type} {l:List α} {k:Nat} {x:α} (h:l[k]? = some x):x ∈ l:=aaq h
theorem tL {n:Int} (h:¬ n < 0):((n.toNat:Nat):Int)=n:=by omega
section
variable {h:za} {b1 b5:Nat} {p:Pg} {f:Fn} {x:yM} {vs:List Value} {B:Bool}
theorem S5 (P:wQ h p) (F:v8 h f) (hro:h.ro<=h.next) (hb:b1 < h.next) (hg:h.get b1=some (YI p)) (hb5:b5 < h.next) (hg5:h.get b5=some (YA f)) {i:Nat} (hx:f.code[i]? = some x) {v0:Value} {J:List Value->za->Prop}
  (hB:kD p x=false->B=false) (hJ:∀ h',kD p x=true->Old h h'->J [v0] h'):JL (.pointer (some ⟨b5,0,none⟩)) h [v0,.int .i64 (i:Nat)] (.pointer (some ⟨b1,0,none⟩)) (qO B) J:=by
 have hm:=mem_of hx
 have cn:=F.code.vk
 have I:=F.ins x hm
 have an:=I.args.vk
 have ac:=I.args.gO
 obtain ⟨b,o,c,t,ha,hbb,hgt,hle,htk,_⟩:=F.code.th (i:=i) (r:=x.row) (by rw [aap,hx];rfl) rfl
 have bad:kD p x=false->qO B (.bool false) h:=fun q=>by rw [hB q];rfl
 simp -implicitDefEqProofs only [EE,nth,↓nw,Value.cells,zf,if_true,Nat.reduceAdd,yU,zZ,zC,zj,vK,ka,gH,cE,y9,zq,JL,hg5,ha,hgt,hle,htk,ac,cE,hro]
 generalize hH:(za.push h _).set h.next _=H
 have e:Old h H:=by subst hH;exact (Old.push h _).set (aah _) _
 have g7:H.get h.next=some (xJ x):=by subst hH;exact zM
 have g1:=e.Jl hb hg
 clear hH
 have PH:=P.old e
 have fn:=PH.funcs.vk
 have fl:=PH.funcs.Jy 3 H
 rw [aak] at fl
 have gn:=PH.globals.vk
 have gl:=PH.globals.jM 3 H
 have al:=(I.args.old e).jM 3 H
 have fin:kD p x=true->J [v0] H:=fun q=>hJ H q e
 have bad':kD p x=false->qO B (.bool false) H:=bad
 unfold kD eP He at fin bad'
 by_cases c10:x.op=10
 ·have c8:¬ x.op=8:=by omega
  by_cases s0:x.sub < 0
  ·simp -implicitDefEqProofs only [EE,zC,zj,zW,uq,ur,uu,uv,uw,ux,uy,uz,uA,uB,uC,uD,uE,uF,g7,c10,s0]
   exact bad' (by rw [wH (.inl s0)];simp [c10])
  by_cases s1:(p.funcs.length:Int)<=x.sub
  ·simp -implicitDefEqProofs only [EE,zC,vA,zj,y8,zW,uq,ur,uu,uv,uw,ux,uy,uz,uA,uB,uC,uD,uE,uF,g1,g7,fn,fl,c10,s0,s1]
   exact bad' (by rw [wH (.inr s1)];simp [c10])
  obtain ⟨g,hgf,hgm⟩:=get_some (l:=p.funcs) (k:=x.sub.toNat) (by omega)
  obtain ⟨b',o',c',t',ha',hbb',hgt',hle',htk',hk'⟩:=PH.funcs.cC (i:=x.sub.toNat) (r:=g.row) (by rw [aap,hgf];rfl) rfl
  rw [tL s0] at ha'
  have hk1:c'[o' + 1]? = some g.pv:=hk' 1 (by omega)
  have pn:=(PH.fns g hgm).params.vk
  have pl:=(PH.fns g hgm).params.jM 3 H
  have hpa:Wr p x.sub=g.params.length:=by simp only [Wr,hgf]
  by_cases s2:(g.params.length:Int)=x.args.length
  ·simp -implicitDefEqProofs only [EE,nth,Int.reduceEq,zC,xr,vA,zj,y8,uK,zq,zW,uL,Zn,Zo,kU,kV,kW,kX,kY,kZ,k7,k8,k9,ja,jc,jd,jf,jg,uq,ur,uu,uv,uw,ux,uy,uz,uA,uB,uC,uD,uE,uF,g1,g7,fn,fl,an,al,ha',hgt',hk1,pn,pl,c10,s0,s1,s2]
   exact fin (by rw [xD s0 s1,hpa];simp [c10,s2])
  ·simp -implicitDefEqProofs only [EE,zC,xr,vA,zj,y8,uK,zW,uL,uq,ur,uu,uv,uw,ux,uy,uz,uA,uB,uC,uD,uE,uF,g1,g7,fn,fl,an,al,ha',hgt',hk1,pn,pl,c10,s0,s1,s2]
   exact bad' (by rw [xD s0 s1,hpa];simp [c10,s2])
 by_cases c8:x.op=8
 ·by_cases s0:x.sub < 0
  ·simp -implicitDefEqProofs only [EE,Int.reduceEq,zC,zj,zq,zW,Zn,Zo,kU,kV,kW,kX,kY,kZ,k7,k8,k9,ja,jc,jd,jf,jg,uq,ur,uu,uv,uw,ux,uy,uz,uA,uB,uC,uD,uE,uF,g7,c8,s0]
   exact bad' (by rw [wH (m:=p.globals.length) (.inl s0)];simp [c8])
  by_cases s1:(p.globals.length:Int)<=x.sub
  ·simp -implicitDefEqProofs only [EE,Int.reduceEq,zC,xr,zj,xM,zq,zW,Zn,Zo,kU,kV,kW,kX,kY,kZ,k7,k8,k9,ja,jc,jd,jf,jg,uq,ur,uu,uv,uw,ux,uy,uz,uA,uB,uC,uD,uE,uF,g1,g7,gn,gl,c8,s0,s1]
   exact bad' (by rw [wH (.inr s1)];simp [c8])
  by_cases s2:x.k < 0
  ·simp -implicitDefEqProofs only [EE,Int.reduceEq,zC,wj,xr,zj,xM,zq,zW,vo,Zn,Zo,kU,kV,kW,kX,kY,kZ,k7,k8,k9,ja,jc,jd,jf,jg,uq,ur,uu,uv,uw,ux,uy,uz,uA,uB,uC,uD,uE,uF,g1,g7,gn,gl,c8,s0,s1,s2]
   exact bad' (by rw [xD s0 s1];simp [c8,s2])
  obtain ⟨z,hz,_⟩:=get_some (l:=p.globals) (k:=x.sub.toNat) (by omega)
  obtain ⟨b',o',c',t',ha',hbb',hgt',hco'⟩:=PH.globals.at hz
  rw [tL s0] at ha'
  have hgd:=cS hz
  by_cases s3:z < x.k
  ·simp -implicitDefEqProofs only [EE,Int.reduceEq,zC,wj,xr,zj,xM,zq,zW,vo,Zn,Zo,kU,kV,kW,kX,kY,kZ,k7,k8,k9,ja,jc,jd,jf,jg,uq,ur,uu,uv,uw,ux,uy,uz,uA,uB,uC,uD,uE,uF,g1,g7,gn,gl,ha',hgt',hco',c8,s0,s1,s2,s3]
   exact bad' (by rw [xD s0 s1,hgd];simp [c8,s3])
  ·simp -implicitDefEqProofs only [EE,nth,Int.reduceEq,zC,wj,xr,zj,xM,zq,zW,vo,Zn,Zo,kU,kV,kW,kX,kY,kZ,k7,k8,k9,ja,jc,jd,jf,jg,uq,ur,uu,uv,uw,ux,uy,uz,uA,uB,uC,uD,uE,uF,g1,g7,gn,gl,ha',hgt',hco',c8,s0,s1,s2,s3]
   exact fin (by rw [xD s0 s1,hgd];simp [c8,s2,s3])
 simp -implicitDefEqProofs only [EE,nth,zC,zj,zq,Zn,Zo,kU,kV,kW,kX,kY,kZ,k7,k8,k9,ja,jc,jd,jf,jg,uq,ur,uu,uv,uw,ux,uy,uz,uA,uB,uC,uD,uE,uF,g7,c10,c8]
 exact fin (by simp [c10,c8])
theorem S6 (P:wQ h p) (hro:h.ro<=h.next) (hb:b1 < h.next) (hg:h.get b1=some (YI p)) (hB:B=p.funcs.all fun f=>kG f && f.code.all (kD p)) :
  LP (Uy (.pointer (some ⟨b1,0,none⟩)) (fun _ h65=>qO B (.bool true) h65) (qO B)) [(nth vs 0),(.int .i64 0)] h:=by
 refine XM (lo:=h) p.funcs.length (Dp p.funcs fun f=>kG f && f.code.all (kD p)) (.refl h) ?_
 intro i h2 J hi e2 hq hJ
 have g2:=e2.Jl hb hg
 have P2:=P.old e2
 have fn:=P2.funcs.vk
 have fl:=P2.funcs.Jy 3 h2
 rw [aak] at fl
 have hro2:h2.ro<=h2.next:=by rw [e2.ro];exact aaH hro e2.next
 rcases aar i p.funcs.length with hlt | hge
 ·obtain ⟨f,hf,hm⟩:=get_some hlt
  obtain ⟨b,o,c,t,ha,hbb,hgt,hle,htk,_⟩:=P2.funcs.cC (i:=i) (r:=f.row) (by rw [aap,hf];rfl) rfl
  have hlt':(i:Int) < (p.funcs.length:Int):=by omega
  have hinc:IntKind.wrap .i64 ((i:Int) + 1)=((i + 1:Nat):Int):=inc (by have:=P.BQ;omega)
  have F2:=P2.fns f hm
  have pn:=F2.params.vk
  have pc:=F2.params.gO
  have cn:=F2.code.vk
  have cc:=F2.code.gO
  simp -implicitDefEqProofs only [EE,nth,↓nw,Value.cells,↓BK,zf,if_true,Nat.reduceAdd,yU,zZ,zC,vA,Qq,lZ,gJ,y8,i5,Uy,g2,fn,fl,hlt',ha,hgt,hle,htk,pc,cc,gJ,hro2]
  generalize hH:(za.push h2 _).set h2.next _=H
  have e3:Old h2 H:=by subst hH;exact (Old.push h2 _).set (aah _) _
  have g5:H.get h2.next=some (YA f):=by subst hH;exact zM
  have n5:h2.next < H.next:=by subst hH;exact aaD _
  have roH:H.ro<=H.next:=by rw [e3.ro];exact aaH hro2 e3.next
  clear hH
  have FH:=F2.old e3
  simp -implicitDefEqProofs only []
  refine zi (by kernel_rfl) (by simp -implicitDefEqProofs only [EE]) (Lq f H FH) ?_
  cases hR:kG f with
  | false=>
    simp -implicitDefEqProofs only [EE,JN]
    rw [hB,qR (B:=fun f=>kG f && f.code.all (kD p)) hf (by rw [hR];rfl)];rfl
  | true=>
    simp -implicitDefEqProofs only [EE,nth,↓BK,JN]
    refine XM (lo:=H) f.code.length (Dp f.code (kD p)) (.refl H) ?_
    intro k h3 J3 hk e4 hq3 hJ3
    have g53:=e4.Jl n5 g5
    have F3:=FH.old e4
    have P3:=P2.old (e3.trans e4)
    have g3:=(e2.trans (e3.trans e4)).Jl hb hg
    have cn3:=F3.code.vk
    have cl3:=F3.code.Qu 3 h3
    rw [aak] at cl3
    have hro3:h3.ro<=h3.next:=by rw [e4.ro];exact aaH roH e4.next
    rcases aar k f.code.length with hlk | hgk
    ·obtain ⟨x,hx,hmx⟩:=get_some hlk
     have hlk':(k:Int) < (f.code.length:Int):=by omega
     have hinc3:IntKind.wrap .i64 ((k:Int) + 1)=((k + 1:Nat):Int):=inc (by have:=F2.nO;omega)
     simp -implicitDefEqProofs only [EE,nth,↓BK,zC,vK,y9,JM,g53,cn3,cl3,hlk']
     refine S5 P3 F3 hro3 (aai hb (e2.trans (e3.trans e4)).next) g3 (aai n5 e4.next) g53 hx (fun q => ?_) fun h' q e5 => ?_
     ·rw [hB,qR (B:=fun f=>kG f && f.code.all (kD p)) hf (by rw [qR hx q,acz])]
     ·simp -implicitDefEqProofs only [EE,nth,i4,hinc3]
      exact hJ3 _ hlk (by rw [Wd hx];exact q) (e4.trans e5)
    ·have hlk':¬ (k:Int) < (f.code.length:Int):=by omega
     simp -implicitDefEqProofs only [EE,nth,zC,vK,y9,JM,i6,g53,cn3,cl3,hlk',hinc]
     refine hJ _ hlt ?_ (e2.trans (e3.trans e4))
     rw [Wd hf,hR,aa5]
     exact qV fun k' hk'=>hq3 k' (by omega)
 ·have hlt':¬ (i:Int) < (p.funcs.length:Int):=by omega
  simp -implicitDefEqProofs only [EE,nth,zC,vA,y8,Uy,g2,fn,fl,hlt']
  have:(p.funcs.all fun f=>kG f && f.code.all (kD p))=true:=qV fun k hk=>hq k (by omega)
  rw [hB,this];rfl
theorem S7 (P:wQ h p) (hro:h.ro<=h.next) (hb:b1 < h.next) (hg:h.get b1=some (YI p)) (hB:B=(p.globals.all ZM && p.funcs.all fun f=>kG f && f.code.all (kD p))) :
  Uz (.pointer (some ⟨b1,0,none⟩)) (qO B) vs h:=by
 simp -implicitDefEqProofs only [↓BK,Uz]
 refine XM (lo:=h) p.globals.length (Dp p.globals ZM) (.refl h) ?_
 intro i h2 J hi e2 hq hJ
 have g2:=e2.Jl hb hg
 have P2:=P.old e2
 have gn:=P2.globals.vk
 have gl:=P2.globals.jM 3 h2
 rcases aar i p.globals.length with hlt | hge
 ·obtain ⟨z,hz,_⟩:=get_some hlt
  obtain ⟨b,o,c,t,ha,hbb,hgt,hco⟩:=P2.globals.at hz
  have hlt':(i:Int) < (p.globals.length:Int):=by omega
  have hinc:IntKind.wrap .i64 ((i:Int) + 1)=((i + 1:Nat):Int):=inc (by have:=P.tB;omega)
  by_cases z0:z < 0
  ·simp -implicitDefEqProofs only [EE,nth,↓BK,zC,xr,zj,xM,KQ,KR,KS,KT,KU,VV,g2,gn,gl,hlt',ha,hgt,hco,z0]
   rw [hB,qR (B:=ZM) hz (by simp [ZM,z0])];rfl
  by_cases z1:65536 < z
  ·simp -implicitDefEqProofs only [EE,nth,↓BK,zC,xr,zj,xM,KQ,KR,KS,KT,KU,VV,g2,gn,gl,hlt',ha,hgt,hco,z0,z1]
   rw [hB,qR (B:=ZM) hz (by simp [ZM,z1])];rfl
  simp -implicitDefEqProofs only [EE,nth,↓BK,zC,xr,zj,xM,KQ,KR,KS,KT,KU,oJ,VV,g2,gn,gl,hlt',ha,hgt,hco,z0,z1,hinc]
  exact hJ _ hlt (by rw [Wd hz];simp only [ZM,z0,z1,decide_false,aaO,acF]) e2
 ·have hlt':¬ (i:Int) < (p.globals.length:Int):=by omega
  simp -implicitDefEqProofs only [EE,nth,↓BK,zC,xr,xM,VV,g2,gn,gl,hlt']
  have hp:p.globals.all ZM=true:=qV fun k hk=>hq k (by omega)
  exact S6 (B:=B) P2 (by rw [e2.ro];exact aaH hro e2.next) (aai hb e2.next) g2 (by rw [hB,hp,aa5])
end
theorem Fe (p:Pg) (h:za) (P:wQ h p):xx Tryz.prog 16 [p.val] h (.bool (eS p)):=by
 apply ki
 replace P:=P.lock
 generalize h.lock=L at P
 apply jO;intro hwf;have hro:=hwf.2
 apply C2
 unfold EK
 have gn:=P.globals.vk
 have fn:=P.funcs.vk
 have P1:=P.old (Old.push L (.cells p.row 25))
 have gl:=P1.globals.jM 3 (L.push (.cells p.row 25))
 have fl:=P1.funcs.Jy 3 (L.push (.cells p.row 25))
 rw [aak] at fl
 have fin:∀ vs,Uz (.pointer (some ⟨L.next,0,none⟩)) (qO (p.globals.all ZM && p.funcs.all fun f=>kG f && f.code.all (kD p))) vs (L.push (.cells p.row 25)):=fun vs=>S7 P1 (abd hro) (aaD _) zo rfl
 unfold eS Qm
 by_cases c1:(200:Int) < p.globals.length
 ·simp -implicitDefEqProofs only [EE,↓nw,Value.cells,zC,xr,xM,Z4,Z5,Z6,Z7,Z8,Z9,Ya,gn,gl,c1];rfl
 by_cases c2:(100:Int) < p.funcs.length
 ·simp -implicitDefEqProofs only [EE,↓nw,Value.cells,zC,xr,vA,xM,y8,Z4,Z5,Z6,Z7,Z8,Z9,Ya,gn,fn,gl,fl,c1,c2];rfl
 by_cases c3:p.main < 0
 ·simp -implicitDefEqProofs only [EE,↓nw,Value.cells,zC,xr,vA,zj,xM,y8,Xw,Z4,Z5,Z6,Z7,Z8,Z9,Ya,gn,fn,gl,fl,c1,c2,c3];rfl
 by_cases c4:(p.funcs.length:Int)<=p.main
 ·simp -implicitDefEqProofs only [EE,↓nw,Value.cells,zC,xr,vA,zj,xM,y8,Xw,Z4,Z5,Z6,Z7,Z8,Z9,Ya,gn,fn,gl,fl,c1,c2,c3,c4];rfl
 simp -implicitDefEqProofs only [EE,↓nw,Value.cells,zC,xr,vA,zj,xM,y8,Xw,Z4,Z5,Z6,Z7,Z8,Z9,Ya,gn,fn,gl,fl,c1,c2,c3,c4]
 exact fin _
theorem sl (n:Nat) (l:List (Nat × Value)):(U6 n l).size=n:=by
 induction l with
 | nil=>simp [U6,Env.mm]
 | cons p l ih=>obtain ⟨k,v⟩:=p;exact ih
theorem LM (n t:Nat) (z:Value) (l:List (Nat × Value)) (hl:∀ p,p ∈ l->p.1 ≠ t) (i:Nat):(U6 n (l ++ [(t,z)])).get i=if i=t then z else (U6 n l).get i:=by
 induction l with
 | nil=>simp only [abA,U6,Env.yb]
 | cons p l ih=>
   obtain ⟨k,v⟩:=p
   have hk:k ≠ t:=hl _ acq
   have:=ih fun p hp=>hl p (acb _ hp)
   simp only [abM,U6,Env.yb,this]
   by_cases h1:i=k
   ·subst h1;simp [hk]
   ·simp [h1]
theorem B3 {n t:Nat} {l:List (Nat × Value)} {s1:Env} (z:Value) (h:Le (U6 n l) s1) (ht:t < n) (hl':(l.all fun p => !Nat.beq p.1 t)=true):∃ s0,jv [t] [z] s1=some s0/\Le (U6 n (l ++ [(t,z)])) s0:=by
 have hs:s1.size=n:=by rw [<- h.size,sl]
 have hl:∀ p,p ∈ l->p.1 ≠ t:=fun p hp e=>by
  rw [aas] at hl'
  have:=hl' p hp
  rw [e] at this
  simp at this
 refine ⟨s1.set t z,?_,⟨by rw [sl,Env.size_set,hs],fun i => ?_⟩⟩
 ·have:s1.put (some t) z=some (s1.set t z):=by
   simp only [Env.put]
   have:Nat.blt t s1.size=true:=by rw [hs];simpa [aaR] using ht
   simp [this]
  simp only [jv,this]
 ·rw [LM n t z l hl,Env.yb]
  by_cases h1:i=t
  ·simp [h1]
  ·simp only [h1,if_false];exact h.get i
structure aW (h0:za) (A0:kN) (h:za):Prop where
 next:h0.next < h.next
 ro:h.ro=h0.ro
 loop:h.get h0.next=some (.loop A0)
 ready:A0.state = .ready/\A0.pending=none
 old:∀ b,b < h0.next->h.get b=h0.get b
structure HX (h0:za) (A0:kN) (br:Nat) (h:za):Prop where
 next:h0.next < h.next
 ro:h.ro=h0.ro
 loop:h.get h0.next=some (.loop { A0 with state := .done,pending:=some .ret })
 old:∀ b,b < h0.next->b ≠ br->h.get b=h0.get b
 res:h.get br=some (.cells [.bool false] 4)
theorem aW.ZR {h0 h:za} {A0:kN} (r:aW h0 A0 h):Old h0 h:=⟨Nat.le_of_lt r.next,r.ro,r.old⟩
def Yc (h0:za) (br:Nat) (A0:kN) (test:Int->Bool):Prop := ∀ (z:Int) (h:za) (K:Value->za->Prop),aW h0 A0 h ->
 (test z=true->∀ h',aW h0 A0 h'->K (.bool true) h')->(test z=false->∀ h',HX h0 A0 br h'->K (.bool false) h')->NZ Tryz.prog h0.next [.int .i64 z] h K
def aU (h0:za) (br:Nat) (A0:kN) (test:Int->Bool) (zs:List Int) (_:Value) (h1:za):Prop:=(zs.all test=true/\aW h0 A0 h1)\/(zs.all test=false/\HX h0 A0 br h1)
def Iter (g:FuncId) (ptr:Value) (zs:List Int) (h0:za):Prop := ∀ (br:Nat) (A0:kN) (h:za) (test:Int->Bool),aW h0 A0 h->Yc h0 br A0 test ->
 DC Tryz.prog g [.func (.yield h0.next) #[] #[],ptr] h (aU h0 br A0 test zs)
theorem cF {L:Nat} {args:List Value} {h:za} {K:Value->za->Prop} (hy:NZ Tryz.prog L args h K):zH Tryz.prog (.func (.yield L) #[] #[]) args h K:=⟨rfl,rfl,hy⟩
theorem Cm {g:FuncId} {ptr:Value} {zs:List Int} {h0:za} {br:Nat} {test:Int->Bool} {n:Nat} {l:List (Nat × Value)} {ps:Array Tmp} {asn bd:Code} {nU ret:za->Prop} {ext:Nat->za->Prop}
  (hc:x9 Tryz.prog g=true) (hro:h0.ro<=h0.next) (hbr:br < h0.next) (it:Iter g ptr zs h0)
  (hy:∀ s1,Le (U6 n l) s1->Yc h0 br { state := .ready,pending:=none,s:=s1,params:=ps,assign:=asn,body:=bd } test)
  (hn:∀ h',zs.all test=true->Old h0 h'->nU h') (hr:∀ h',zs.all test=false->h0.next<=h'.next->h'.ro=h0.ro->h'.get br=some (.cells [.bool false] 4)->ret h') :
  RF Tryz.prog (.func (.func g) #[] #[ptr]) ps asn bd (U6 n l) h0 nU ret ext:=by
 refine ⟨hc,fun s1 hl => ?_⟩
 have r0:aW h0 { state := .ready,pending:=none,s:=s1,params:=ps,assign:=asn,body:=bd } (h0.push (.loop { state := .ready,pending:=none,s:=s1,params:=ps,assign:=asn,body:=bd })) :=
  ⟨aaD _,rfl,zo,⟨rfl,rfl⟩,fun b hb=>zt hb⟩
 refine (it br _ _ test r0 (hy s1 hl)).mono ?_
 rintro _ h1 (⟨ha,r⟩ | ⟨ha,r⟩)
 ·refine ⟨_,r.loop,rfl,by rw [r.ro];exact hro,.normal,rfl,hn _ ha ⟨Nat.le_of_lt r.next,r.ro,fun b hb => ?_⟩⟩
  rw [zE (by omega)];exact r.old b hb
 ·refine ⟨_,r.loop,rfl,by rw [r.ro];exact hro,.ret,rfl,hr _ ha (Nat.le_of_lt r.next) r.ro ?_⟩
  rw [zE (by omega)];exact r.res
theorem YR {h:za} {R:Value->za->Prop}:rv [] h R=R (.tuple #[]) h:=by
 apply propext;simp only [rv,yC,jF,true_and]
theorem Ow {x:yM} (ha:j2 x.op=true) (h1:¬ x.a = -1):lA x = [x.a]:=by simp [lA,ha,h1]
theorem Ox {x:yM} (ha:VH x.op=true) (h1:¬ x.b = -1):lB x = [x.b]:=by simp [lB,ha,h1]
section
variable {h0 h:za} {A0:kN} {br b:Nat} {test:Int->Bool} {x:yM} {vs:List Value}
theorem Tz (I:zN h0 x.av x.args) (J9:x.args.length<=17592186043904) (hb:b < h0.next) (hg:h0.get b=some (xJ x)) (y:Yc h0 br A0 test) (r:aW h0 A0 h) (hpre:(lA x ++ lB x).all test=true) :
  j6 (.pointer (some ⟨b,0,none⟩)) (aU h0 br A0 test (wP x)) (.func (.yield h0.next) #[] #[]) vs h:=by
 have gh:=r.ZR.Jl hb hg
 have an:=I.vk
 by_cases h10:x.op=10
 ·have hC:lC x=x.args:=by simp [lC,h10]
  have hl:=(I.old r.ZR).jM 3 h
  simp -implicitDefEqProofs only [EE,↓BK,zC,xr,zj,zq,uL,i0,j6,gh,h10,an,hl]
  refine M5 (aW h0 A0) x.args.length (Dp x.args test) r ?_
  intro i h2 J hi r2 hq hJ
  have S2:=I.old r2.ZR
  rcases aar i x.args.length with hlt | hge
  ·obtain ⟨z,hz,hm⟩:=get_some hlt
   obtain ⟨b',o',c',t',ha',hbb',hgt',hco'⟩:=S2.at hz
   have hlt':(i:Int) < (x.args.length:Int):=by omega
   have hinc:IntKind.wrap .i64 ((i:Int) + 1)=((i + 1:Nat):Int):=inc (by omega)
   simp -implicitDefEqProofs only [EE,nth,↓BK,zC,zj,iY,iZ,JK,hlt',ha',hgt',hco']
   refine cF (y z h2 _ r2 (fun ht h3 r3 => ?_) (fun ht h3 r3 => ?_))
   ·simp -implicitDefEqProofs only [EE,nth,hinc]
    exact hJ _ hlt (by rw [Wd hz];exact ht) r3
   ·simp -implicitDefEqProofs only [EE,YR]
    refine .inr ⟨?_,r3⟩
    unfold wP
    rw [hC,acg,qR (B:=test) hz ht,acz]
  ·have hlt':¬ (i:Int) < (x.args.length:Int):=by omega
   simp -implicitDefEqProofs only [EE,nth,JK,hlt',YR]
   refine .inl ⟨?_,r2⟩
   unfold wP
   rw [hC,acg,hpre,aa5]
   exact qV fun k hk=>hq k (by omega)
 ·simp -implicitDefEqProofs only [EE,zC,zj,zq,j6,gh,h10,YR]
  refine .inl ⟨?_,r⟩
  have hC:lC x = []:=by simp [lC,h10]
  unfold wP
  rw [hC,abD];exact hpre
theorem u15 (I:zN h0 x.av x.args) (J9:x.args.length<=17592186043904) (hb:b < h0.next) (hg:h0.get b=some (xJ x)) (y:Yc h0 br A0 test) (r:aW h0 A0 h) (hpre:(lA x).all test=true) :
  j5 (.int .i64 x.op) h (.pointer (some ⟨b,0,none⟩)) (.func (.yield h0.next) #[] #[]) (aU h0 br A0 test (wP x)) (j6 (.pointer (some ⟨b,0,none⟩)) (aU h0 br A0 test (wP x)) (.func (.yield h0.next) #[] #[])):=by
 have gh:=r.ZR.Jl hb hg
 cases hU:VH x.op with
 | false=>
   have hB:lB x = []:=by simp [lB,hU]
   have h5:¬ x.op=5:=by intro q;simp [VH,q] at hU
   have h7:¬ x.op=7:=by intro q;simp [VH,q] at hU
   have h11:¬ x.op=11:=by intro q;simp [VH,q] at hU
   simp -implicitDefEqProofs only [EE,nth,Uu,j5,h5,h7,h11]
   exact Tz I J9 hb hg y r (by rw [hB,abD];exact hpre)
 | true=>
   have key:Uw (.pointer (some ⟨b,0,none⟩)) h (.func (.yield h0.next) #[] #[]) (aU h0 br A0 test (wP x)) (j6 (.pointer (some ⟨b,0,none⟩)) (aU h0 br A0 test (wP x)) (.func (.yield h0.next) #[] #[])):=by
    by_cases hb1:x.b = -1
    ·simp -implicitDefEqProofs only [EE,Int.reduceNeg,zC,zj,vC,Uv,JJ,Uw,gh,hb1]
     exact Tz I J9 hb hg y r (by simp only [lB,hb1,not_true_eq_false,and_false,if_false,abD];exact hpre)
    ·simp -implicitDefEqProofs only [EE,Int.reduceNeg,zC,zj,vC,JJ,Uw,gh,hb1]
     refine cF (y x.b h _ r (fun ht h3 r3 => ?_) (fun ht h3 r3 => ?_))
     ·simp -implicitDefEqProofs only [EE,Uv]
      exact Tz I J9 hb hg y r3 (by rw [Ox hU hb1,acg,hpre];simp [ht])
     ·simp -implicitDefEqProofs only [EE,Uv,YR]
      refine .inr ⟨?_,r3⟩
      unfold wP
      rw [Ox hU hb1,acg,acg];simp [ht]
   by_cases h5:x.op=5
   ·simp -implicitDefEqProofs only [EE,nth,j5,h5];rw [h5] at *;exact key
   by_cases h11:x.op=11
   ·simp -implicitDefEqProofs only [EE,nth,Int.reduceEq,Uu,j5,h11];exact key
   by_cases h7:x.op=7
   ·simp -implicitDefEqProofs only [EE,nth,Int.reduceEq,Uu,j5,h7];exact key
   simp [VH,h5,h7,h11] at hU
end
section
variable {h0 h:za} {b:Nat} {x:yM}
theorem HO (I:zN h0 x.av x.args) (J9:x.args.length<=17592186043904) (hb:b < h0.next) (hg:h0.get b=some (xJ x)):Iter 43 (.pointer (some ⟨b,0,none⟩)) (wP x) h0:=by
 intro br A0 h test r y
 apply CZ
 unfold EH
 have gh:=r.ZR.Jl hb hg
 have tail:∀ h,aW h0 A0 h->(lA x).all test=true->j5 (.int .i64 x.op) h (.pointer (some ⟨b,0,none⟩)) (.func (.yield h0.next) #[] #[]) (aU h0 br A0 test (wP x)) (j6 (.pointer (some ⟨b,0,none⟩)) (aU h0 br A0 test (wP x)) (.func (.yield h0.next) #[] #[])):=fun h r hp=>u15 I J9 hb hg y r hp
 cases hU:j2 x.op with
 | false=>
   have hA:lA x = []:=by simp [lA,hU]
   have n3:¬ x.op=3:=by intro q;simp [j2,q] at hU
   have n4:¬ x.op=4:=by intro q;simp [j2,q] at hU
   have n5:¬ x.op=5:=by intro q;simp [j2,q] at hU
   have n6:¬ x.op=6:=by intro q;simp [j2,q] at hU
   have n7:¬ x.op=7:=by intro q;simp [j2,q] at hU
   have n11:¬ x.op=11:=by intro q;simp [j2,q] at hU
   have n12:¬ x.op=12:=by intro q;simp [j2,q] at hU
   have n14:¬ x.op=14:=by intro q;simp [j2,q] at hU
   simp -implicitDefEqProofs only [EE,nth,↓BK,zC,zj,zq,KJ,VU,XD,Z2,Zm,jB,qt,gh,n3,n4,n5,n6,n7,n11,n12,n14]
   exact tail h r (by rw [hA];rfl)
 | true=>
   have key:∀ J:List Value->za->Prop,(∀ h',aW h0 A0 h'->(lA x).all test=true->J [] h')->KL (.pointer (some ⟨b,0,none⟩)) h (.func (.yield h0.next) #[] #[]) (aU h0 br A0 test (wP x)) J:=by
    intro J hJ
    by_cases ha1:x.a = -1
    ·simp -implicitDefEqProofs only [EE,Int.reduceNeg,zC,zj,xe,KK,dN,KL,gh,ha1]
     exact hJ h r (by simp only [lA,ha1,not_true_eq_false,and_false,if_false];rfl)
    ·simp -implicitDefEqProofs only [EE,Int.reduceNeg,zC,zj,xe,dN,KL,gh,ha1]
     refine cF (y x.a h _ r (fun ht h3 r3 => ?_) (fun ht h3 r3 => ?_))
     ·simp -implicitDefEqProofs only [EE,KK]
      exact hJ h3 r3 (by rw [Ow hU ha1];simp [ht])
     ·simp -implicitDefEqProofs only [EE,KK,YR]
      refine .inr ⟨?_,r3⟩
      unfold wP
      rw [Ow hU ha1,acg,acg];simp [ht]
   by_cases h3:x.op=3
   ·simp -implicitDefEqProofs only [EE,nth,↓BK,zC,zj,zq,qt,gh,h3];exact key _ fun h' r' hp=>(by have g':=r'.ZR.Jl hb hg;simp -implicitDefEqProofs only [EE,g'];exact tail h' r' hp)
   by_cases h4:x.op=4
   ·simp -implicitDefEqProofs only [EE,nth,↓BK,Int.reduceEq,zC,zj,zq,jB,qt,gh,h4];exact key _ fun h' r' hp=>(by have g':=r'.ZR.Jl hb hg;simp -implicitDefEqProofs only [EE,g'];exact tail h' r' hp)
   by_cases h6:x.op=6
   ·simp -implicitDefEqProofs only [EE,nth,↓BK,Int.reduceEq,zC,zj,zq,Zm,jB,qt,gh,h6];exact key _ fun h' r' hp=>(by have g':=r'.ZR.Jl hb hg;simp -implicitDefEqProofs only [EE,g'];exact tail h' r' hp)
   by_cases h12:x.op=12
   ·simp -implicitDefEqProofs only [EE,nth,↓BK,Int.reduceEq,zC,zj,zq,Z2,Zm,jB,qt,gh,h12];exact key _ fun h' r' hp=>(by have g':=r'.ZR.Jl hb hg;simp -implicitDefEqProofs only [EE,g'];exact tail h' r' hp)
   by_cases h14:x.op=14
   ·simp -implicitDefEqProofs only [EE,nth,↓BK,Int.reduceEq,zC,zj,zq,XD,Z2,Zm,jB,qt,gh,h14];exact key _ fun h' r' hp=>(by have g':=r'.ZR.Jl hb hg;simp -implicitDefEqProofs only [EE,g'];exact tail h' r' hp)
   by_cases h5:x.op=5
   ·simp -implicitDefEqProofs only [EE,nth,↓BK,Int.reduceEq,zC,zj,zq,VU,XD,Z2,Zm,jB,qt,gh,h5];exact key _ fun h' r' hp=>(by have g':=r'.ZR.Jl hb hg;simp -implicitDefEqProofs only [EE,g'];exact tail h' r' hp)
   by_cases h11:x.op=11
   ·simp -implicitDefEqProofs only [EE,nth,↓BK,Int.reduceEq,zC,zj,zq,KJ,VU,XD,Z2,Zm,jB,qt,gh,h11];exact key _ fun h' r' hp=>(by have g':=r'.ZR.Jl hb hg;simp -implicitDefEqProofs only [EE,g'];exact tail h' r' hp)
   by_cases h7:x.op=7
   ·simp -implicitDefEqProofs only [EE,nth,↓BK,Int.reduceEq,zC,zj,zq,KJ,VU,XD,Z2,Zm,jB,qt,gh,h7];exact key _ fun h' r' hp=>(by have g':=r'.ZR.Jl hb hg;simp -implicitDefEqProofs only [EE,g'];exact tail h' r' hp)
   simp [j2,h3,h4,h5,h6,h7,h11,h12,h14] at hU
theorem Eg (hb:b < h0.next) (hg:h0.get b=some (xJ x)):Iter 42 (.pointer (some ⟨b,0,none⟩)) (wu x) h0:=by
 intro br A0 h test r y
 apply AG
 unfold AE
 have gh:=r.ZR.Jl hb hg
 by_cases h12:x.op=12
 ·have h11:¬ x.op=11:=by omega
  simp -implicitDefEqProofs only [EE,Int.reduceEq,zC,zj,zq,Ut,X1,JI,gh,h12,YR]
  exact .inl ⟨by simp [wu,h12],r⟩
 ·simp -implicitDefEqProofs only [EE,zC,zj,zq,kI,JI,gh,h12]
  refine cF (y x.s h _ r (fun ht h3 r3 => ?_) (fun ht h3 r3 => ?_))
  ·have g3:=r3.ZR.Jl hb hg
   by_cases h11:x.op=11
   ·simp -implicitDefEqProofs only [EE,zC,zj,zq,YM,Ut,X1,g3,h11]
    refine cF (y x.t h3 _ r3 (fun ht2 h4 r4 => ?_) (fun ht2 h4 r4 => ?_))
    ·simp -implicitDefEqProofs only [YR]
     exact .inl ⟨by simp [wu,h11,ht,ht2],r4⟩
    ·simp -implicitDefEqProofs only [YR]
     exact .inr ⟨by simp [wu,h11,ht,ht2],r4⟩
   ·simp -implicitDefEqProofs only [EE,zC,zj,zq,Ut,X1,g3,h11,YR]
    exact .inl ⟨by simp [wu,h12,h11,ht],r3⟩
  ·simp -implicitDefEqProofs only [EE,X1,YR]
   refine .inr ⟨?_,r3⟩
   by_cases h11:x.op=11
   ·simp [wu,h11,ht]
   ·simp [wu,h12,h11,ht]
end
structure HS (h0:za) (A0:kN) (h:za):Prop where
 next:h0.next < h.next
 ro:h.ro=h0.ro
 loop:h.get h0.next=some (.loop { A0 with state := .busy })
 ready:A0.state = .ready/\A0.pending=none
 old:∀ b,b < h0.next->h.get b=h0.get b
theorem HS.ZR {h0 h:za} {A0:kN} (r:HS h0 A0 h):Old h0 h:=⟨Nat.le_of_lt r.next,r.ro,r.old⟩
theorem Oz {h0 h:za} {A0:kN} (r:aW h0 A0 h) (hro:h0.ro<=h0.next) {K:za->Prop} (hk:∀ hb,HS h0 A0 hb->K hb):RA h0.next h K :=
 ⟨A0,r.loop,r.ready.1,by rw [r.ro];exact hro,hk _ ⟨r.next,r.ro,zM,r.ready,fun b hb=>by rw [zE (by omega)];exact r.old b hb⟩⟩
theorem LI {h0 hb:za} {A0:kN} (r:HS h0 A0 hb) (hro:h0.ro<=h0.next) {K:Value->za->Prop} (hk:∀ h',aW h0 A0 h'->K (.bool true) h'):Fin h0.next K .normal hb:=by
 refine ⟨_,r.loop,by rw [r.ro];exact hro,hk _ ⟨r.next,r.ro,?_,r.ready,fun b hb=>by rw [zE (by omega)];exact r.old b hb⟩⟩
 rw [zM]
 obtain ⟨st,pe,s,ps,asn,bd⟩:=A0
 obtain ⟨r1,r2⟩:=r.ready
 simp only at r1 r2
 subst r1 r2
 rfl
theorem Fl {h0 hb h2:za} {A0:kN} {br:Nat} (r:HS h0 A0 hb) (hro:h0.ro<=h0.next) (hbr:br < h0.next) (he:h2=hb.set br (some (.cells [.bool false] 4))) {K:Value->za->Prop} (hk:∀ h',HX h0 A0 br h'->K (.bool false) h'):Fin h0.next K .ret h2:=by
 subst he
 refine ⟨{ A0 with state := .busy },by rw [zE (by omega)];exact r.loop,by show hb.ro<=_;rw [r.ro];exact hro,hk _ ⟨r.next,r.ro,zM,fun b h1 h3 => ?_,?_⟩⟩
 ·rw [zE (by omega),zE h3];exact r.old b h1
 ·rw [zE (by omega),zM]
theorem PZ (x:yM) (h:za) (hn:zP x.av=false):DC Tryz.prog 20 [x.val] h (fun v h1=>v = .func (.func 43) #[] #[.pointer (some ⟨h.next,0,none⟩)]/\h1=h.push (xJ x)):=by
 apply Gw
 unfold Io
 simp -implicitDefEqProofs only [EE,↓nw,Value.cells,abA]
theorem NS (x:yM) (h:za) (hn:zP x.av=false):DC Tryz.prog 19 [x.val] h (fun v h1=>v = .func (.func 42) #[] #[.pointer (some ⟨h.next,0,none⟩)]/\h1=h.push (xJ x)):=by
 apply CX
 unfold EF
 simp -implicitDefEqProofs only [EE,↓nw,Value.cells,abA]
theorem Tw:(vq Tryz.prog 67 0).1 = #[19]:=by kernel_rfl
theorem Tx:(vq Tryz.prog 67 1).1 = #[28]:=by kernel_rfl
section
variable {h0:za} {b1 br:Nat} {f:Fn} {t0 t1 t3 t9 t10 t11 t12 t13 t14 t15 t16 t17 t18 t26 t27:Value}
theorem Mr (hro:h0.ro<=h0.next) (hbr:br < h0.next) (hg:h0.get br=some (.cells [.bool false] 4)) (hrb:h0.ro<=br) (hb1:b1 < h0.next) (hf:h0.get b1=some (YA f)) (hc:zJ h0 f.cv 9 (f.code.map yM.row))
  {s1:Env} (hl:Le (U6 125 [(0,t0),(1,t1),(2,.pointer (some ⟨b1,0,none⟩)),(3,t3),(4,.pointer (some ⟨br,0,none⟩)),(9,t9),(10,t10),(11,t11),(12,t12),(13,t13),(14,t14),(15,t15),(16,t16),(17,t17),(18,t18)]) s1) :
  Yc h0 br { state := .ready,pending:=none,s:=s1,params:=(vq Tryz.prog 67 0).1,assign:=(vq Tryz.prog 67 0).2.1,body:=(vq Tryz.prog 67 0).2.2 } (fun s=>yp s f.code.length):=by
 intro z h K r hgo hst
 obtain ⟨s0,e0,l0⟩:=B3 (.int .i64 z) hl (t:=19) (by decide) rfl
 refine FV (Kh (q:=qs) mixed) (n:=150) (lv:=52) (lv':=0) (h:=h) r.loop (s0:=s0) (by rw [Tw];exact e0) l0 rfl ?_
 show HW Tryz.prog (cK Tryz.prog qs) 150 52 0 h0.next (vq Tryz.prog 67 0).2.1 (vq Tryz.prog 67 0).2.2 (U6 125 [(0,t0),(1,t1),(2,.pointer (some ⟨b1,0,none⟩)),(3,t3),(4,.pointer (some ⟨br,0,none⟩)),(9,t9),(10,t10),(11,t11),(12,t12),(13,t13),(14,t14),(15,t15),(16,t16),(17,t17),(18,t18),(19,.int .i64 z)]) h K
 rw [lH]
 unfold fU
 refine Oz r hro fun hb B => ?_
 have gf:=B.ZR.Jl hb1 hf
 have c2:=hc.old B.ZR
 have cn:=c2.vk
 have cl:=c2.Qu 3 hb
 rw [aak] at cl
 simp -implicitDefEqProofs only [EE,↓BK,zC,vK,y9,lD,gf,cn,cl]
 refine zi (by kernel_rfl) rfl (Xf z _ hb) ?_
 cases ht:yp z f.code.length with
 | true=>
   simp -implicitDefEqProofs only [EE,JW]
   exact LI B hro (hgo ht)
 | false=>
   have g2:hb.get br=some (.cells [.bool false] 4):=by rw [B.old br hbr];exact hg
   have rb:hb.ro<=br:=by rw [B.ro];exact hrb
   simp -implicitDefEqProofs only [EE,zf,if_true,yU,Yx,JW,g2,rb]
   exact Fl B hro hbr rfl (hst ht)
theorem Ms (hro:h0.ro<=h0.next) (hbr:br < h0.next) (hg:h0.get br=some (.cells [.bool false] 4)) (hrb:h0.ro<=br) (hb1:b1 < h0.next) (hf:h0.get b1=some (YA f))
  {s1:Env} (hl:Le (U6 125 [(0,t0),(1,t1),(2,.pointer (some ⟨b1,0,none⟩)),(3,t3),(4,.pointer (some ⟨br,0,none⟩)),(9,t9),(10,t10),(11,t11),(12,t12),(13,t13),(14,t14),(15,t15),(16,t16),(17,t17),(18,t18),(26,t26),(27,t27)]) s1) :
  Yc h0 br { state := .ready,pending:=none,s:=s1,params:=(vq Tryz.prog 67 1).1,assign:=(vq Tryz.prog 67 1).2.1,body:=(vq Tryz.prog 67 1).2.2 } (fun u=>yp u f.regs):=by
 intro z h K r hgo hst
 obtain ⟨s0,e0,l0⟩:=B3 (.int .i64 z) hl (t:=28) (by decide) rfl
 refine FV (Kh (q:=qs) mixed) (n:=150) (lv:=84) (lv':=0) (h:=h) r.loop (s0:=s0) (by rw [Tx];exact e0) l0 rfl ?_
 show HW Tryz.prog (cK Tryz.prog qs) 150 84 0 h0.next (vq Tryz.prog 67 1).2.1 (vq Tryz.prog 67 1).2.2 (U6 125 [(0,t0),(1,t1),(2,.pointer (some ⟨b1,0,none⟩)),(3,t3),(4,.pointer (some ⟨br,0,none⟩)),(9,t9),(10,t10),(11,t11),(12,t12),(13,t13),(14,t14),(15,t15),(16,t16),(17,t17),(18,t18),(26,t26),(27,t27),(28,.int .i64 z)]) h K
 rw [lI]
 unfold fV
 refine Oz r hro fun hb B => ?_
 have gf:=B.ZR.Jl hb1 hf
 simp -implicitDefEqProofs only [EE,↓BK,zC,zj,wF,lF,gf]
 refine zi (by kernel_rfl) rfl (Xf z _ hb) ?_
 cases ht:yp z f.regs with
 | true=>
   simp -implicitDefEqProofs only [EE,JX]
   exact LI B hro (hgo ht)
 | false=>
   have g2:hb.get br=some (.cells [.bool false] 4):=by rw [B.old br hbr];exact hg
   have rb:hb.ro<=br:=by rw [B.ro];exact hrb
   simp -implicitDefEqProofs only [EE,zf,if_true,yU,Yx,JX,g2,rb]
   exact Fl B hro hbr rfl (hst ht)
end
def XB (f:Fn) (x:yM):Bool := !wr x.op || yp x.d f.regs
def Vj (f:Fn) (x:yM):Bool:=Zi f x && XB f x
def Wo (f:Fn) (x:yM):Bool := !Jk x && (!J5 x && (decide (x.op=10) && decide (x.d = -1) || Vj f x))
def ju (f:Fn) (x:yM):Bool:=decide (1<=x.op) && (decide (x.op<=14) && ((wu x).all (fun s=>yp s f.code.length) && ((wP x).all (fun u=>yp u f.regs) && Wo f x)))
section
variable {h:za} {b1 b2 br:Nat} {f:Fn} {x:yM} {vs:List Value} {B:Bool}
theorem T6 (W:Bx h b1 b2 f x) (hg:h.get br=some (.cells [.bool false] 4)) (hrb:h.ro<=br) (hB:B=XB f x):xH (.pointer (some ⟨b2,0,none⟩)) (.pointer (some ⟨b1,0,none⟩)) (.pointer (some ⟨br,0,none⟩)) (qO B) vs h:=by
 have g1:=W.g1
 have g2:=W.g2
 unfold XB at hB
 cases hw:wr x.op with
 | false=>
   have n2:¬ x.op=2:=by intro q;simp [wr,q] at hw
   have n3:¬ x.op=3:=by intro q;simp [wr,q] at hw
   have n4:¬ x.op=4:=by intro q;simp [wr,q] at hw
   have n5:¬ x.op=5:=by intro q;simp [wr,q] at hw
   have n6:¬ x.op=6:=by intro q;simp [wr,q] at hw
   have n8:¬ x.op=8:=by intro q;simp [wr,q] at hw
   have n9:¬ x.op=9:=by intro q;simp [wr,q] at hw
   have n10:¬ x.op=10:=by intro q;simp [wr,q] at hw
   have n13:¬ x.op=13:=by intro q;simp [wr,q] at hw
   simp -implicitDefEqProofs only [EE,nth,↓BK,zf,if_true,yU,zC,zj,Yv,Yx,zq,W8,Y5,Zw,jm,q9,ql,ue,vJ,xH,g2,hg,hrb,n2,n3,n4,n5,n6,n8,n9,n10,n13]
   rw [hB,hw];rfl
 | true=>
   have key:∀ J,Q3 (.pointer (some ⟨b2,0,none⟩)) h (.pointer (some ⟨b1,0,none⟩)) (.pointer (some ⟨br,0,none⟩)) (qO B) J:=by
    intro J
    simp -implicitDefEqProofs only [EE,zC,zj,wF,xj,Q3,g1,g2]
    refine zi (by kernel_rfl) rfl (Xf x.d f.regs h) ?_
    simp -implicitDefEqProofs only [EE,zf,if_true,yU,zC,Yv,Yx,hg,hrb]
    rw [hB,hw];rfl
   by_cases h2:x.op=2
   ·simp -implicitDefEqProofs only [EE,nth,↓BK,zf,yU,zC,zj,Yx,zq,vJ,xH,g2,h2];exact key _
   by_cases h3:x.op=3
   ·simp -implicitDefEqProofs only [EE,nth,↓BK,zf,Int.reduceEq,yU,zC,zj,Yx,zq,ue,vJ,xH,g2,h3];exact key _
   by_cases h4:x.op=4
   ·simp -implicitDefEqProofs only [EE,nth,↓BK,zf,Int.reduceEq,yU,zC,zj,Yx,zq,ql,ue,vJ,xH,g2,h4];exact key _
   by_cases h5:x.op=5
   ·simp -implicitDefEqProofs only [EE,nth,↓BK,zf,Int.reduceEq,yU,zC,zj,Yx,zq,q9,ql,ue,vJ,xH,g2,h5];exact key _
   by_cases h6:x.op=6
   ·simp -implicitDefEqProofs only [EE,nth,↓BK,zf,Int.reduceEq,yU,zC,zj,Yx,zq,jm,q9,ql,ue,vJ,xH,g2,h6];exact key _
   by_cases h8:x.op=8
   ·simp -implicitDefEqProofs only [EE,nth,↓BK,zf,Int.reduceEq,yU,zC,zj,Yx,zq,Zw,jm,q9,ql,ue,vJ,xH,g2,h8];exact key _
   by_cases h9:x.op=9
   ·simp -implicitDefEqProofs only [EE,nth,↓BK,zf,Int.reduceEq,yU,zC,zj,Yx,zq,Y5,Zw,jm,q9,ql,ue,vJ,xH,g2,h9];exact key _
   by_cases h13:x.op=13
   ·simp -implicitDefEqProofs only [EE,nth,↓BK,zf,Int.reduceEq,yU,zC,zj,Yx,zq,W8,Y5,Zw,jm,q9,ql,ue,vJ,xH,g2,h13];exact key _
   by_cases h10:x.op=10
   ·simp -implicitDefEqProofs only [EE,nth,↓BK,zf,Int.reduceEq,yU,zC,zj,Yx,zq,W8,Y5,Zw,jm,q9,ql,ue,vJ,xH,g2,h10];exact key _
   simp [wr,h2,h3,h4,h5,h6,h8,h9,h10,h13] at hw
theorem T5 (W:Bx h b1 b2 f x) (hg:h.get br=some (.cells [.bool false] 4)) (hrb:h.ro<=br) (ho:1<=x.op/\x.op<=14) (hB:B=Vj f x):wE (.int .i64 x.op) (.pointer (some ⟨b2,0,none⟩)) h (.pointer (some ⟨br,0,none⟩)) (qO B) (.pointer (some ⟨b1,0,none⟩)) (xH (.pointer (some ⟨b2,0,none⟩)) (.pointer (some ⟨b1,0,none⟩)) (.pointer (some ⟨br,0,none⟩)) (qO B)):=by
 have g1:=W.g1
 have g2:=W.g2
 have go:∀ vs,Zi f x=true->xH (.pointer (some ⟨b2,0,none⟩)) (.pointer (some ⟨b1,0,none⟩)) (.pointer (some ⟨br,0,none⟩)) (qO B) vs h:=fun vs q=>T6 W hg hrb (by rw [hB,Vj,q,aa5])
 have no:∀ h',Zi f x=false->qO B (.bool false) h':=fun h' q=>by rw [hB,Vj,q,acA];rfl
 by_cases h4:x.op=4
 ·have e:Zi f x=(decide (1<=x.sub) && decide (x.sub<=4)):=by simp [Zi,h4]
  rw [e] at go no
  by_cases c1:x.sub < 1
  ·have c1':¬ 1<=x.sub:=by omega
   simp -implicitDefEqProofs only [EE,zf,if_true,yU,zC,zj,Yv,Yx,zW,WY,WZ,W7,wE,g2,hg,hrb,h4,c1]
   exact no _ (by simp [c1'])
  by_cases c4:4 < x.sub
  ·have c4':¬ x.sub<=4:=by omega
   simp -implicitDefEqProofs only [EE,zf,if_true,yU,zC,zj,Yv,Yx,zW,WY,WZ,W7,wE,g2,hg,hrb,h4,c1,c4]
   exact no _ (by simp [c4'])
  ·have c1':1<=x.sub:=by omega
   have c4':x.sub<=4:=by omega
   simp -implicitDefEqProofs only [EE,zC,zj,zW,WY,WZ,W7,wE,g2,h4,c1,c4]
   exact go _ (by simp [c1',c4'])
 by_cases h5:x.op=5
 ·have e:Zi f x=rY x.sub:=by simp [Zi,h5]
  rw [e] at go no
  simp -implicitDefEqProofs only [EE,Int.reduceEq,zC,zj,zW,qk,wE,g2,h5]
  refine zi (by kernel_rfl) rfl (PD x.sub h) ?_
  cases hc:rY x.sub with
  | true=>simp -implicitDefEqProofs only [EE,QZ];exact go _ hc
  | false=>simp -implicitDefEqProofs only [EE,zf,if_true,yU,zC,Yv,Yx,QZ,hg,hrb];exact no _ hc
 by_cases h11:x.op=11
 ·have e:Zi f x=mC x.sub:=by simp [Zi,h11]
  rw [e] at go no
  simp -implicitDefEqProofs only [EE,Int.reduceEq,zC,zj,zW,q8,qk,wE,g2,h11]
  refine zT (by kernel_rfl) rfl (Ns x.sub h) ?_
  rintro _ h' ⟨⟨a,rfl⟩,rfl⟩
  cases hc:mC x.sub with
  | true=>simp -implicitDefEqProofs only [EE,Q0];exact go _ hc
  | false=>simp -implicitDefEqProofs only [EE,zf,if_true,yU,zC,Yv,Yx,Q0,hg,hrb];exact no _ hc
 by_cases h67:x.op=6\/x.op=7
 ·have e:Zi f x=Kf x.sub:=by rcases h67 with q | q <;> simp [Zi,q]
  rw [e] at go no
  have key:∀ J:List Value->za->Prop,(∀ vs,J vs h=xH (.pointer (some ⟨b2,0,none⟩)) (.pointer (some ⟨b1,0,none⟩)) (.pointer (some ⟨br,0,none⟩)) (qO B) [] h)->Q2 (.pointer (some ⟨b2,0,none⟩)) h (.pointer (some ⟨br,0,none⟩)) (qO B) J:=by
   intro J hJ
   simp -implicitDefEqProofs only [EE,zC,zj,zW,Q2,g2]
   refine zi (by kernel_rfl) rfl (Nk x.sub h) ?_
   cases hc:Kf x.sub with
   | true=>simp -implicitDefEqProofs only [EE,Q1];rw [hJ];exact go _ hc
   | false=>simp -implicitDefEqProofs only [EE,zf,if_true,yU,zC,Yv,Yx,Q1,hg,hrb];exact no _ hc
  by_cases h6:x.op=6
  ·simp -implicitDefEqProofs only [EE,nth,Int.reduceEq,jl,q8,qk,wE,h6]
   exact key _ fun _=>rfl
  ·have h7:x.op=7:=by omega
   simp -implicitDefEqProofs only [EE,nth,Int.reduceEq,jl,q8,qk,wE,h7]
   exact key _ fun _=>rfl
 have h6:¬ x.op=6:=fun q=>h67 (.inl q)
 have h7:¬ x.op=7:=fun q=>h67 (.inr q)
 by_cases h9:x.op=9
 ·have e:Zi f x=(decide (0<=x.k) && decide (x.k<=f.frame)):=by simp [Zi,h9]
  rw [e] at go no
  by_cases c0:x.k < 0
  ·have c0':¬ 0<=x.k:=by omega
   simp -implicitDefEqProofs only [EE,nth,zf,if_true,Int.reduceEq,yU,zC,wj,Yv,Yx,vo,W0,W4,W5,W6,Y4,jl,q8,qk,wE,g2,hg,hrb,h9,c0]
   exact no _ (by simp [c0'])
  by_cases c1:f.frame < x.k
  ·have c1':¬ x.k<=f.frame:=by omega
   simp -implicitDefEqProofs only [EE,nth,zf,if_true,Int.reduceEq,yU,zC,wj,zj,Yv,Yx,kH,vo,W0,W4,W5,W6,Y4,jl,q8,qk,wE,g1,g2,hg,hrb,h9,c0,c1]
   exact no _ (by simp [c1'])
  ·have c0':0<=x.k:=by omega
   have c1':x.k<=f.frame:=by omega
   simp -implicitDefEqProofs only [EE,nth,Int.reduceEq,zC,wj,zj,kH,vo,W0,W4,W5,W6,Y4,jl,q8,qk,wE,g1,g2,h9,c0,c1]
   exact go _ (by simp [c0',c1'])
 have e:Zi f x=true:=by
  unfold Zi
  rw [if_pos]
  omega
 simp -implicitDefEqProofs only [EE,nth,Y4,jl,q8,qk,wE,h4,h5,h11,h6,h7,h9]
 exact go _ e
theorem T7 (W:Bx h b1 b2 f x) (hg:h.get br=some (.cells [.bool false] 4)) (hrb:h.ro<=br) (ho:1<=x.op/\x.op<=14) (hB:B=Wo f x):Q4 (.pointer (some ⟨b2,0,none⟩)) (.pointer (some ⟨br,0,none⟩)) (qO B) (.pointer (some ⟨b1,0,none⟩)) vs h:=by
 have g1:=W.g1
 have g2:=W.g2
 have no:∀ h',Wo f x=false->qO B (.bool false) h':=fun h' q=>by rw [hB,q];rfl
 have go:Wo f x=Vj f x->wE (.int .i64 x.op) (.pointer (some ⟨b2,0,none⟩)) h (.pointer (some ⟨br,0,none⟩)) (qO B) (.pointer (some ⟨b1,0,none⟩)) (xH (.pointer (some ⟨b2,0,none⟩)) (.pointer (some ⟨b1,0,none⟩)) (.pointer (some ⟨br,0,none⟩)) (qO B)):=fun q=>T5 W hg hrb ho (by rw [hB,q])
 simp -implicitDefEqProofs only [EE,↓BK,zC,zj,zq,Q4,g2]
 by_cases h7:x.op=7
 ·by_cases ca:x.a = -1
  ·simp -implicitDefEqProofs only [EE,nth,zf,if_true,Int.reduceEq,Int.reduceNeg,yU,zC,zj,Yv,Yx,xe,ke,ud,vI,vj,WU,WV,WW,jk,wU,g2,hg,hrb,h7,ca]
   exact no _ (by simp [Wo,Jk,Xb,h7,ca])
  by_cases cb:x.b = -1
  ·simp -implicitDefEqProofs only [EE,nth,zf,if_true,Int.reduceEq,Int.reduceNeg,yU,zC,zj,Yv,Yx,xe,vC,ke,ud,vI,vj,WU,WV,WW,jk,wU,g2,hg,hrb,h7,ca,cb]
   exact no _ (by simp [Wo,J5,Ku,h7,cb])
  ·simp -implicitDefEqProofs only [EE,nth,Int.reduceEq,Int.reduceNeg,zC,zj,xe,vC,ke,ud,vI,vj,WU,WV,WW,jk,wU,g2,h7,ca,cb]
   rw [h7] at go
   exact go (by simp [Wo,Jk,J5,h7,ca,cb])
 by_cases h10:x.op=10
 ·have n1:Jk x=false:=by simp [Jk,Xb,h10]
  have n2:J5 x=false:=by simp [J5,Ku,h10]
  by_cases cd:x.d = -1
  ·simp -implicitDefEqProofs only [EE,nth,zf,if_true,Int.reduceEq,Int.reduceNeg,yU,zC,zj,Yv,Yx,xj,ke,ud,vI,vj,QY,WX,jk,wU,g2,hg,hrb,h10,cd]
   rw [hB]
   simp [qO,Wo,n1,n2,h10,cd]
  ·simp -implicitDefEqProofs only [EE,nth,Int.reduceEq,Int.reduceNeg,zC,zj,xj,ke,ud,vI,vj,QY,WX,jk,wU,g2,h10,cd]
   rw [h10] at go
   exact go (by simp [Wo,n1,n2,h10,cd])
 have n2:J5 x=false:=by simp [J5,Ku,h7]
 cases hA:Xb x.op with
 | false=>
   have n1:Jk x=false:=by simp [Jk,hA]
   have h3:¬ x.op=3:=by intro q;simp [Xb,q] at hA
   have h4:¬ x.op=4:=by intro q;simp [Xb,q] at hA
   have h5:¬ x.op=5:=by intro q;simp [Xb,q] at hA
   have h6:¬ x.op=6:=by intro q;simp [Xb,q] at hA
   have h11:¬ x.op=11:=by intro q;simp [Xb,q] at hA
   have h14:¬ x.op=14:=by intro q;simp [Xb,q] at hA
   simp -implicitDefEqProofs only [EE,nth,ke,ud,vI,vj,WX,jk,wU,g2,h3,h4,h5,h6,h11,h14,h7,h10]
   exact go (by simp [Wo,n1,n2,h10])
 | true=>
   have key:∀ J:List Value->za->Prop,(x.a ≠ -1->J [] h)->Y3 (.pointer (some ⟨b2,0,none⟩)) h (.pointer (some ⟨br,0,none⟩)) (qO B) J:=by
    intro J hJ
    by_cases ca:x.a = -1
    ·simp -implicitDefEqProofs only [EE,zf,if_true,Int.reduceNeg,yU,zC,zj,Yv,Yx,xe,Y3,g2,hg,hrb,ca]
     exact no _ (by simp [Wo,Jk,hA,ca])
    ·simp -implicitDefEqProofs only [EE,Int.reduceNeg,zC,zj,xe,Y3,g2,ca]
     exact hJ ca
   have fin:x.a ≠ -1->Wo f x=Vj f x:=fun ca=>by simp [Wo,Jk,n2,h10,ca]
   have step:∀ J:List Value->za->Prop,(Wo f x=Vj f x->J [] h)->Y3 (.pointer (some ⟨b2,0,none⟩)) h (.pointer (some ⟨br,0,none⟩)) (qO B) J:=fun J hJ=>key J fun ca=>hJ (fin ca)
   by_cases h3:x.op=3
   ·simp -implicitDefEqProofs only [EE,nth,wU,h3]
    rw [h3] at go
    refine step _ fun q => ?_
    simp -implicitDefEqProofs only [EE,g2,h3]
    exact go q
   by_cases h4:x.op=4
   ·simp -implicitDefEqProofs only [EE,nth,Int.reduceEq,vj,wU,h4]
    rw [h4] at go
    refine step _ fun q => ?_
    simp -implicitDefEqProofs only [EE,g2,h4]
    exact go q
   by_cases h6:x.op=6
   ·simp -implicitDefEqProofs only [EE,nth,Int.reduceEq,vI,vj,wU,h6]
    rw [h6] at go
    refine step _ fun q => ?_
    simp -implicitDefEqProofs only [EE,g2,h6]
    exact go q
   by_cases h14:x.op=14
   ·simp -implicitDefEqProofs only [EE,nth,Int.reduceEq,ud,vI,vj,wU,h14]
    rw [h14] at go
    refine step _ fun q => ?_
    simp -implicitDefEqProofs only [EE,g2,h14]
    exact go q
   by_cases h5:x.op=5
   ·simp -implicitDefEqProofs only [EE,nth,Int.reduceEq,ke,ud,vI,vj,wU,h5]
    rw [h5] at go
    refine step _ fun q => ?_
    simp -implicitDefEqProofs only [EE,g2,h5]
    exact go q
   by_cases h11:x.op=11
   ·simp -implicitDefEqProofs only [EE,nth,Int.reduceEq,ke,ud,vI,vj,wU,h11]
    rw [h11] at go
    refine step _ fun q => ?_
    simp -implicitDefEqProofs only [EE,g2,h11]
    exact go q
   simp [Xb,h3,h4,h5,h6,h7,h11,h14] at hA
end
section
variable {h:za} {b1 b2 br:Nat} {f:Fn} {x:yM} {vs:List Value} {B:Bool}
theorem T8 (W:Bx h b1 b2 f x) (I:xK h x) (hro:h.ro<=h.next) (hl:br < h.next) (hg:h.get br=some (.cells [.bool false] 4)) (hrb:h.ro<=br) (ho:1<=x.op/\x.op<=14) {t0 t1 t9 t10 t11 t13 t14 t15 t16 t17 t18:Value} (hB:B=((wP x).all (fun u=>yp u f.regs) && Wo f x)) :
  Q5 (.pointer (some ⟨b2,0,none⟩)) t0 t1 (.pointer (some ⟨b1,0,none⟩)) (.pointer (some ⟨br,0,none⟩)) t9 t10 t11 t13 t14 t15 t16 t17 t18 (qO B) vs h:=by
 have g2:=W.g2
 have an:=I.args.vk
 simp -implicitDefEqProofs only [EE,if_true,Nat.reduceAdd,zZ,ka,Q5,g2]
 refine zT (by kernel_rfl) (by simp -implicitDefEqProofs only [EE]) (PZ x h an) ?_
 rintro _ _ ⟨rfl,rfl⟩
 have e:Old h (h.push (xJ x)):=Old.push _ _
 have g3:(h.push (xJ x)).get h.next=some (xJ x):=zo
 have nx:(h.push (xJ x)).next=h.next + 1:=rfl
 have rx:(h.push (xJ x)).ro=h.ro:=rfl
 generalize h.push (xJ x)=H at e g3 nx rx
 have W2:=W.old e
 have I2:=I.old e
 have g4:=e.Jl hl hg
 have b1l:=W.l1
 simp -implicitDefEqProofs only [↓BK,zC,Yv,lG]
 refine Cm (br:=br) (test:=fun u=>yp u f.regs) (by kernel_rfl) (by omega) (by omega) (HO (b:=h.next) I2.args I2.J9 (by omega) g3) (fun s1 hl=>Ms (by omega) (by omega) g4 (by omega) (by omega) W2.g1 hl) (fun h' hall e' => ?_) (fun h' hno _ _ hres => ?_)
 ·exact T7 (W2.old e') (e'.Jl (by omega) g4) (by rw [e'.ro];omega) ho (by rw [hB,hall,aa5])
 ·simp -implicitDefEqProofs only [EE,hres]
  rw [hB,hno];rfl
theorem T9 (W:Bx h b1 b2 f x) (I:xK h x) (hc:zJ h f.cv 9 (f.code.map yM.row)) (hro:h.ro<=h.next) (hl:br < h.next) (hg:h.get br=some (.cells [.bool false] 4)) (hrb:h.ro<=br) (ho:1<=x.op/\x.op<=14) {t0 t1 t9 t10 t11 t13 t14 t15 t16:Value} (hB:B=((wu x).all (fun s=>yp s f.code.length) && ((wP x).all (fun u=>yp u f.regs) && Wo f x))) :
  Q6 (.pointer (some ⟨b2,0,none⟩)) t0 t1 (.pointer (some ⟨b1,0,none⟩)) (.pointer (some ⟨br,0,none⟩)) t9 t10 t11 t13 t14 t15 t16 (qO B) vs h:=by
 have g2:=W.g2
 have an:=I.args.vk
 simp -implicitDefEqProofs only [EE,if_true,Nat.reduceAdd,zZ,ka,Q6,g2]
 refine zT (by kernel_rfl) (by simp -implicitDefEqProofs only [EE]) (NS x h an) ?_
 rintro _ _ ⟨rfl,rfl⟩
 have e:Old h (h.push (xJ x)):=Old.push _ _
 have g3:(h.push (xJ x)).get h.next=some (xJ x):=zo
 have nx:(h.push (xJ x)).next=h.next + 1:=rfl
 have rx:(h.push (xJ x)).ro=h.ro:=rfl
 generalize h.push (xJ x)=H at e g3 nx rx
 have W2:=W.old e
 have g4:=e.Jl hl hg
 have b1l:=W.l1
 simp -implicitDefEqProofs only [↓BK,zC,Yv,lE]
 refine Cm (br:=br) (test:=fun s=>yp s f.code.length) (by kernel_rfl) (by omega) (by omega) (Eg (b:=h.next) (by omega) g3) (fun s1 hl=>Mr (by omega) (by omega) g4 (by omega) (by omega) W2.g1 (hc.old e) hl) (fun h' hall e' => ?_) (fun h' hno _ _ hres => ?_)
 ·have e2:=e.trans e'
  exact T8 (W2.old e') (I.old e2) (by rw [e'.ro];have:=e'.next;omega) (by have:=e'.next;omega) (e'.Jl (by omega) g4) (by rw [e'.ro];omega) ho (by rw [hB,hall,aa5])
 ·simp -implicitDefEqProofs only [EE,hres]
  rw [hB,hno];rfl
end
theorem Mq (f:Fn) (x:yM) (h:za) (hpv:cellOk f.pv=true/\zP f.pv=false) (I:xK h x) (hc:zJ h f.cv 9 (f.code.map yM.row)):xx Tryz.prog 67 [f.val,x.val] h (.bool (ju f x)):=by
 apply ki
 replace I:=I.lock
 replace hc:=hc.lock
 generalize h.lock=L at I hc
 apply jO;intro hwf;have hro:=hwf.2
 apply AZ
 unfold AY
 have an:=I.args.vk
 have cn:=hc.vk
 obtain ⟨hpc,hpn⟩:=hpv
 have roL:L.ro<=L.next + 1 + 1:=by omega
 by_cases c1:x.op < 1
 ·have c1':¬ 1<=x.op:=by omega
  have hB:ju f x=false:=by simp [ju,c1']
  simp -implicitDefEqProofs only [EE,↓nw,Value.cells,zf,if_true,yU,zC,zj,Yv,Yx,GS,zq,W9,Va,GS,roL,c1]
  rw [hB];rfl
 by_cases c2:14 < x.op
 ·have c2':¬ x.op<=14:=by omega
  have hB:ju f x=false:=by simp [ju,c2']
  simp -implicitDefEqProofs only [EE,↓nw,Value.cells,zf,if_true,yU,zC,zj,Yv,Yx,GS,zq,W9,Va,GS,roL,c1,c2]
  rw [hB];rfl
 have c1':1<=x.op:=by omega
 have c2':x.op<=14:=by omega
 simp -implicitDefEqProofs only [EE,↓nw,Value.cells,zC,zj,GS,zq,W9,Va,GS,c1,c2]
 generalize hH:((L.push (YA f)).push (xJ x)).push (.cells [.bool false] 4)=H
 have e:Old L H:=by subst hH;exact ((Old.push _ _).trans (Old.push _ _)).trans (Old.push _ _)
 have nH:H.next=L.next + 3:=by subst hH;rfl
 have rH:H.ro=L.ro:=by subst hH;rfl
 have g1:H.get L.next=some (YA f):=by subst hH;rw [zt (by simp only [z9];omega),zt (by simp only [z9];omega),zo]
 have g2:H.get (L.next + 1)=some (xJ x):=by subst hH;rw [zt (by simp only [z9];omega)];exact zD rfl
 have g3:H.get (L.next + 1 + 1)=some (.cells [.bool false] 4):=by subst hH;exact zD rfl
 clear hH
 have W:Bx H L.next (L.next + 1) f x:=⟨by omega,by omega,g1,g2⟩
 exact T9 W (I.old e) (hc.old e) (by omega) (by omega) g3 (by omega) ⟨c1',c2'⟩ (by simp [ju,c1',c2'])
def SX (fv:Value) (h:za) (x:yM) (b:Bool):Prop := ∀ K:Value->za->Prop,K (.bool b) h->zH Tryz.prog fv [x.val] h K
theorem Nj {g:FuncId} {c:Value} {args:List Value} {h:za} {K R:Value->za->Prop} (hc:x9 Tryz.prog g=true) (hn:yC args=true) (hn2:yC (args ++ [c])=true) (hT:DC Tryz.prog g (args ++ [c]) h R) (hk:∀ v h1,R v h1->K v h1):zH Tryz.prog (.func (.func g) #[] #[c]) args h K :=
 ⟨hn,by simpa using hn2,.inl ⟨hc,by simpa using hT.mono hk⟩⟩
section
variable {h:za} {cv fv:Value} {code:List yM} {bad:yM->Bool}
theorem NA (S:zJ h cv 9 (code.map yM.row)) (J9:code.length<=17592186043904) (hn:∀ x,x ∈ code->zP x.av=false) (hfv:zP fv=false) (hq:∀ x,x ∈ code->SX fv h x (bad x)):DC Tryz.prog 101 [cv,fv] h (fun v h1=>(∃ n:Int,v = .int .i64 n/\decide (0<=n)=code.any bad)/\h1=h):=by
 apply iU
 unfold fJ
 have cn:=S.vk
 have cl:=S.Qu 3 h
 rw [aak] at cl
 simp -implicitDefEqProofs only [EE,↓BK,cn,cl]
 refine CP (fun g=>g=h) code.length (Dp code fun x => !bad x) rfl ?_
 intro i h2 J hi hh hg hJ
 subst hh
 rcases aar i code.length with hlt | hge
 ·obtain ⟨x,hx,hm⟩:=get_some hlt
  obtain ⟨b,o,c,t,ha,hbb,hgt,hle,htk,_⟩:=S.th (i:=i) (r:=x.row) (by rw [aap,hx];rfl) rfl
  have hlt':(i:Int) < (code.length:Int):=by omega
  have hinc:IntKind.wrap .i64 ((i:Int) + 1)=((i + 1:Nat):Int):=inc (by omega)
  simp -implicitDefEqProofs only [EE,nth,↓BK,if_true,zZ,ka,Jp,Jq,Vt,hlt',ha,hgt,hle,htk]
  refine hq x hm _ ?_
  cases hb:bad x with
  | true=>
    simp -implicitDefEqProofs only [EE,nth]
    refine ⟨_,rfl,?_⟩
    rw [List.any_eq_true.2 ⟨x,hm,hb⟩]
    simp
  | false=>
    simp -implicitDefEqProofs only [EE,nth,hinc]
    exact hJ _ hlt (by rw [Wd hx,hb];rfl) rfl
 ·have hlt':¬ (i:Int) < (code.length:Int):=by omega
  simp -implicitDefEqProofs only [EE,nth,Int.reduceNeg,Vt,hlt']
  refine ⟨_,rfl,?_⟩
  have:code.all (fun x => !bad x)=true:=qV fun k hk=>hg k (by omega)
  rw [aas] at this
  symm
  rw [List.any_eq_false.2 fun x hx=>by have:=this x hx;simpa using this]
  rfl
theorem Dx (S:zJ h cv 9 (code.map yM.row)) (J9:code.length<=17592186043904) (hn:∀ x,x ∈ code->zP x.av=false) (hfv:zP fv=false) (hq:∀ x,x ∈ code->SX fv h x (bad x)):DC Tryz.prog 65 [cv,fv] h (fun v h1=>v = .bool (code.any bad)/\h1=h):=by
 apply aY
 unfold Qz
 have cn:=S.vk
 refine zT (by kernel_rfl) (by simp -implicitDefEqProofs only [EE,cn,hfv]) (NA S J9 hn hfv hq) ?_
 rintro _ h1 ⟨⟨n,rfl,hn2⟩,rfl⟩
 simp -implicitDefEqProofs only [EE]
 rw [hn2]
end
theorem Nb (l:List yM) (B:yM->Bool):(!(l.any fun x => !B x))=l.all B:=by
 induction l with
 | nil=>rfl
 | cons a l ih=>simp only [List.any_cons,aaX,<- ih,Bool.not_or,Bool.not_not]
theorem Mu (f:Fn) (x:yM) {h:za} {b1:Nat} (F:v8 h f) (I:xK h x) (hb:b1 < h.next) (hg:h.get b1=some (YA f)):SX (.func (.func 66) #[] #[.pointer (some ⟨b1,0,none⟩)]) h x (!ju f x):=by
 intro K hK
 have an:=I.args.vk
 have q:xx Tryz.prog 66 [x.val,.pointer (some ⟨b1,0,none⟩)] h (.bool (!ju f x)):=by
  apply ki
  replace F:=F.lock
  replace I:=I.lock
  have hg':h.lock.get b1=some (YA f):=by rw [Km];exact hg
  have hb':b1 < h.lock.next:=hb
  generalize h.lock=L at F I hg' hb'
  apply AB
  unfold AA
  have pn:=F.params.vk
  have cn:=F.code.vk
  have e:Old L (L.push (xJ x)):=Old.push _ _
  have g1:=e.Jl hb' hg'
  have g2:(L.push (xJ x)).get L.next=some (xJ x):=zo
  have hne:¬ b1=L.next:=by omega
  simp -implicitDefEqProofs only [EE,↓nw,Value.cells,if_true,Nat.reduceAdd,zZ,Qq,ka,hb',hg']
  refine zi (by kernel_rfl) (by simp -implicitDefEqProofs only [EE]) (Mq f x _ ⟨F.params.gO,pn⟩ (I.old e) (F.code.old e)) ?_
  simp -implicitDefEqProofs only [EE]
  rfl
 exact Nj (by kernel_rfl) (by simp -implicitDefEqProofs only [EE]) (by simp only [abM,abA,EE]) q.dc (by rintro _ _ ⟨rfl,rfl⟩;exact hK)
end Go.Rtl
