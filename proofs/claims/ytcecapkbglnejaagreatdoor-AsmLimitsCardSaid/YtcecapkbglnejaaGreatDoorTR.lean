/- A part of the proof. -/
import Derived.Test.YtcecapkbglnejaaGreatDoorTP
import Derived.Test.YtcecapkbglnejaaGreatDoorTQ
import Derived.Test.YtcecapkbglnejaaGreatDoorTK
import Derived.Test.YtcecapkbglnejaaGreatDoorTD
import Derived.Test.YtcecapkbglnejaaGreatDoorTN
set_option linter.unusedVariables false
set_option linter.unusedSimpArgs false
set_option maxRecDepth 100000
namespace Go.Am
open Go.Ai Go.Proofs
open Go.Rtl (zE zW Old inc yS xq)
open Go.As (Pg kG St Fw Fv Z0 HQ HH EY YY CA Fs Hn pS aE)
open Go.Rm (jF qw k8 Rd Rd.of Rd.at Za qT ZM j1)
theorem G2 {p:Pg} {lim:Int} {args world:List Int} {lab:Bool} {fuel:Int} {A B:St} (a:Go.As.Ends p lim args world lab fuel A) (b:Go.As.Ends p lim args world lab fuel B):B=A:=by
 obtain ⟨a0,i,rfl⟩:=a
 obtain ⟨b0,j,rfl⟩:=b
 exact aE _ _ _ _ _ b0 a0
def yes (v:Value) (_:za):Prop:=v = .bool true
section
variable {h:za} {p:Pg} {av wv:Value} {args world:List Int} {fuel less:Int}
theorem EO (P:kG h p) (ha:zE h av args) (hw:zE h wv world) (hwl:world.length * 8<=2 ^ 47) (aw:∀ h',Old h h'->vC Tryz.prog 6 [] h' (.bool true)) :
  DC Tryz.prog 4 [p.val,av,wv,.int .i64 fuel,.int .i64 less] h yes:=by
 apply YA;intro wf
 apply eY
 unfold UU
 have s0:Sat (.of h) h []:=Sat.self wf.2
 have RP:Rd (.of h) (kG · p):=Rd.of (yV.qc h) P fun h' o=>P.old o
 have RA:Rd (.of h) (zE · av args):=Rd.of (yV.qc h) ha fun h' o=>ha.old o
 have RW:Rd (.of h) (zE · wv world):=Rd.of (yV.qc h) hw fun h' o=>hw.old o
 have RQ:Rd (.of h) (fun h'=>vC Tryz.prog 6 [] h' (.bool true)):=fun h' b=>aw h' (by obtain ⟨a,c,d⟩:=(yV.qc h).old b;exact ⟨a,c,d⟩)
 have gvn:=P.globals.YR
 have gvc:=P.globals.gJ
 have fvn:=P.funcs.YR
 have fvc:=P.funcs.gJ
 have avn:=ha.YR
 have wvn:=hw.YR
 simp -implicitDefEqProofs only [EE,Value.cells]
 refine Di s0 wf fun b5 h2 wf2 s2 => ?_
 have g2:=s2.get
 refine zh (by kernel_rfl) rfl (RQ.at s2) ?_
 simp -implicitDefEqProofs only [EE,Sf,Nat.reduceAdd,ye,VE,U1,g2]
 obtain ⟨B,hB⟩:=OF (RP.at s2) wf2
 refine zh (by kernel_rfl) (by simp only [yN];rfl) hB ?_
 cases B with
 | false=>
   simp -implicitDefEqProofs only [EE,qI,qJ,qK,qL,qM,Wo]
   rfl
 | true=>
 simp -implicitDefEqProofs only [EE,Sf,Nat.reduceAdd,ye,VE,Wo,g2]
 refine zh (by kernel_rfl) (by simp only [yN];rfl) (Go.Ar.IE (RP.at s2)) ?_
 cases hd:Go.Ar.gP p with
 | false=>
   simp -implicitDefEqProofs only [EE,qI,qJ,qK,qL,qM]
   rfl
 | true=>
 by_cases c1:fuel < 0
 ·simp -implicitDefEqProofs only [EE,qI,qJ,qK,qL,qM,c1]
  rfl
 by_cases c2:fuel > 1500
 ·simp -implicitDefEqProofs only [EE,qI,qJ,qK,qL,qM,c1,c2]
  rfl
 by_cases c3:less < 1
 ·simp -implicitDefEqProofs only [EE,qI,qJ,qK,qL,qM,c1,c2,c3]
  rfl
 simp -implicitDefEqProofs only [EE,Sf,Nat.reduceAdd,ye,VE,qI,qJ,qK,qL,qM,g2,c1,c2,c3]
 refine z7 (by kernel_rfl) (by simp only [yN,avn,wvn,SK];rfl) (Fs (fuel:=fuel) (RP.at s2) (RA.at s2) (RW.at s2) hwl) ?_
 rintro v h3 hv
 by_cases hb:Z0 p args fuel 2147483647
 ·rw [Sn hb] at hv
  obtain ⟨A,evP,lkP,hA,rfl,s3⟩:=hv
  obtain ⟨l1,l2,l3,l4⟩:=Hn (by decide) hA
  have s4:=(s2.join s3).k [2]
  have g5:=s4.get
  unfold HH
  simp -implicitDefEqProofs only [EE,Sf,Nat.reduceAdd,ye,VE,U0,Wn,g5]
  refine z7 (by kernel_rfl) (by simp only [yN,avn,wvn,SK];rfl) (CA (fuel:=fuel) (lim:=2147483647) (RP.at s4) (RA.at s4) (RW.at s4) hwl) ?_
  rintro v h5 hv
  rw [Sn hb] at hv
  obtain ⟨A1,IJ,Ay,hA1,rfl,s5⟩:=hv
  have e1:=G2 hA hA1
  subst e1
  have s6:=s4.join s5
  have e1n:=qT s5
  have e1c:=ZM s5
  have k1n:=qT (s5.p 1)
  have k1c:=ZM (s5.p 1)
  unfold HQ YY
  simp -implicitDefEqProofs only [EE,Value.cells,KA,UZ]
  refine vy s6 fun b13 h7 s7 => ?_
  simp -implicitDefEqProofs only [EE,Nat.reduceAdd,UJ]
  refine wx s7 (by simp) (by simp [e1c,k1c];exact ⟨rfl,rfl,rfl⟩) fun h8 s8 => ?_
  have g5:=(s8.p 3).get
  simp -implicitDefEqProofs only [EE,Sf,Nat.reduceAdd,ye,VE,g5]
  have hb2:Z0 p args fuel A1.wD:=by
   obtain ⟨q1,q2,q3,q4,q5,q6⟩:=hb
   exact ⟨q1,q2,q3,q4,by omega,l2⟩
  refine z7 (by kernel_rfl) (by simp only [yN,avn,wvn,SK];rfl) (CA (fuel:=fuel) (lim:=A1.wD) (RP.at s8) (RA.at s8) (RW.at s8) hwl) ?_
  rintro v h9 hv
  rw [Sn hb2] at hv
  obtain ⟨B,ev2,lk2,hB2,rfl,s9⟩:=hv
  have e2:=l3 B hB2
  subst e2
  have s10:=s8.join s9
  have e2n:=qT s9
  have e2c:=ZM s9
  have k2n:=qT (s9.p 1)
  have k2c:=ZM (s9.p 1)
  unfold HQ YY
  simp -implicitDefEqProofs only [EE,Value.cells,KA,UY]
  refine vy s10 fun b15 h11 s11 => ?_
  simp -implicitDefEqProofs only [EE,Nat.reduceAdd,UJ]
  refine wx s11 (by simp) (by simp [e2c,k2c];exact ⟨rfl,rfl,rfl⟩) fun h12 s12 => ?_
  have g15:=s12.get
  have g13:=(s12.p 3).get
  have g5:=(s12.p 6).get
  have fa:=pS (by omega) hA1
  have RE1:=j1 (s12.p 4) (k8 (f:=jF) (fun _=>rfl) _)
  have RL1:=j1 (s12.p 5) (k8 (f:=qw) (fun _=>rfl) _)
  have RE2:=j1 (s12.p 1) (k8 (f:=jF) (fun _=>rfl) _)
  have RL2:=j1 (s12.p 2) (k8 (f:=qw) (fun _=>rfl) _)
  simp -implicitDefEqProofs only [EE,zf,Sf,Nat.reduceAdd,ye,Ky,g13,g15]
  refine zh (by kernel_rfl) (by simp only [yN];rfl) (Ny RE1 RE2 (by omega) rfl rfl rfl k1n k2n) ?_
  simp -implicitDefEqProofs only [EE,zf,Sf,Nat.reduceAdd,ye,Ky,UW,UX,g13,g15]
  refine zh (by kernel_rfl) (by simp only [yN];rfl) (I5 RL1 RL2 (by omega) rfl rfl e1n e2n) ?_
  have c8:¬ B.wD < 8:=by omega
  by_cases c9:less > B.wD
  ·simp -implicitDefEqProofs only [EE,Vk,Wk,Wl,Wm,c8,c9]
   rfl
  have hsub:IntKind.wrap .i64 (B.wD - less)=B.wD - less:=Go.Mem.Yb (by omega) (by omega)
  simp -implicitDefEqProofs only [EE,Sf,Nat.reduceAdd,ye,VE,Kt,Vk,Wk,Wl,Wm,c8,c9,g5,hsub]
  have hb3:Z0 p args fuel (B.wD - less):=by
   obtain ⟨q1,q2,q3,q4,q5,q6⟩:=hb
   exact ⟨q1,q2,q3,q4,by omega,by omega⟩
  refine z7 (by kernel_rfl) (by simp only [yN,avn,wvn,SK];rfl) (CA (fuel:=fuel) (lim:=B.wD - less) (RP.at s12) (RA.at s12) (RW.at s12) hwl) ?_
  rintro v h13 hv
  rw [Sn hb3] at hv
  obtain ⟨C,ev3,lk3,hC,rfl,s13⟩:=hv
  obtain ⟨d1,d2,d3⟩:=l4 _ C (by omega) hC
  have s14:=s12.join s13
  have e3n:=qT s13
  have e3c:=ZM s13
  have k3n:=qT (s13.p 1)
  have k3c:=ZM (s13.p 1)
  unfold HQ YY
  simp -implicitDefEqProofs only [EE,Value.cells,KA,Kr]
  refine vy s14 fun b17 h15 s15 => ?_
  simp -implicitDefEqProofs only [EE,Nat.reduceAdd,UJ]
  refine wx s15 (by simp) (by simp [e3c,k3c];exact ⟨rfl,rfl,rfl⟩) fun h16 s16 => ?_
  have g17:=s16.get
  have g13:=(s16.p 6).get
  have fc:=pS (by omega) hC
  have RE1:=j1 (s16.p 7) (k8 (f:=jF) (fun _=>rfl) _)
  have RL1:=j1 (s16.p 8) (k8 (f:=qw) (fun _=>rfl) _)
  have RE3:=j1 (s16.p 1) (k8 (f:=jF) (fun _=>rfl) _)
  have RL3:=j1 (s16.p 2) (k8 (f:=qw) (fun _=>rfl) _)
  simp -implicitDefEqProofs only [EE,zf,Nat.reduceAdd,zw,zi,CW,YL,eL,Kp,Kq,g13,g17,d1]
  refine zh (by kernel_rfl) (by simp only [yN,e1n,e3n,SK];rfl) (tk (all:=false) RE3 RE1 (by omega) d2 fun q=>(by cases q)) ?_
  have q1:=I8 RL1 3
  have q3:=I8 RL3 3
  have c10:(C.lk.length:Int)<=(B.lk.length:Int):=by have:=d3.length_le;omega
  simp -implicitDefEqProofs only [EE,zf,Nat.reduceAdd,zw,nh,Q5,Kl,Km,Kn,Ko,g13,g17,k1n,k3n,q1,q3,c10]
  rfl
 ·rw [Sl hb] at hv
  obtain ⟨rfl,s3⟩:=hv
  simp -implicitDefEqProofs only [EE,Int.reduceEq,Wn]
  rfl
end
def cls:List Nat:=[0,0,1,1,1,1,1,1,1,1,1,1,1,1,1,1,1,1,1,1,1,1,1,1,1,1,1,1,1,1,1,1,1,1,1,1,1,1,1,1,1,1,1,1,1,1,1,1,1,1,1,1,1,1,1,1,1,1,1,1,1,1,1,1,1,1,1,1,1,1,1,1,1,1,1,1,1,1,0,1,1,1,1,1,1,1,1,1,1,1,1,1,1,1,1,1,1,1,1,1,1,1,1,1,1,1,1,1,1,1,1,1,1,1,1,1,1,1,1,1,1,1,1,1,1,1,1,1,1,1,1,1,1,0,0,0,0,0,0,0,0,0,0,0,0,0,0,0,0,0,0,0,0,0,0,0,0,0,0,0,0,0,0,0,0,1]
set_option maxRecDepth 100000 in
theorem fits:Z3 Tryz.prog cls=true:=by decide +kernel
set_option maxRecDepth 100000 in
theorem Ek:Nz (run Tryz.prog cls 4000 (.call 6 []) (pV 100 []))=true:=by kernel_rfl
theorem Iv (h:za):vC Tryz.prog 6 [] h (.bool true):=by
 refine ⟨rfl,?_⟩
 obtain ⟨h',he⟩:=Lg Ek
 have:=Az (P:=Tryz.prog) (m:=100) (tabs:=[]) (v := .bool true) (f:=6) rfl (SH (by kernel_rfl)) (fun x hx=>by cases hx) ((DF fits mixed he).mono (fun v h1 q=>q.1)) (h:=h.lock) (fun x hx=>by cases hx)
 exact this.mono (fun v h1 q=>q.1)
end Go.Am
namespace Go.As
open Go.Ai Go.Proofs
open Go.Rtl (zE zW Old)
theorem absH_lt (w:World) (b:Nat) (o:vi) (h:(absH Tryz.prog w).get b=some o):b < (absH Tryz.prog w).next:=(Ab Tryz.prog w).UL b o h
theorem c2:Tryz.prog.cellsOf 2=1:=by kernel_rfl
theorem c3:Tryz.prog.cellsOf 3=1:=by kernel_rfl
theorem c9:Tryz.prog.cellsOf 9=1:=by kernel_rfl
theorem R1:Tryz.prog.cellsOf 22=1:=by kernel_rfl
theorem R2:Tryz.prog.cellsOf 23=1:=by kernel_rfl
theorem R3:Tryz.prog.cellsOf 25=4:=by kernel_rfl
theorem R4:Tryz.prog.cellsOf 45=1:=by kernel_rfl
theorem RT:Tryz.prog.cellsOf 47=2:=by kernel_rfl
theorem RU:Tryz.prog.cellsOf 50=7:=by kernel_rfl
theorem y2:Tryz.prog.bytesOf 2=8:=by kernel_rfl
theorem y3:Tryz.prog.bytesOf 3=8:=by kernel_rfl
theorem R8:Tryz.prog.bytesOf 47=40:=by kernel_rfl
theorem R9:Tryz.prog.bytesOf 50=56:=by kernel_rfl
theorem iP:reachBytes=140737488351232:=rfl
theorem pJ {α:Type} {n:Nat} {Q:Nat->α->Prop} (h:∀ i,i < n->∃ z,Q i z):∃ l:List α,l.length=n /\ ∀ i z,l[i]? = some z->Q i z:=by
 obtain ⟨f,hf⟩:=Classical.axiomOfChoice (r:=fun (i:Fin n) z=>Q i.1 z) fun i=>h i.1 i.2
 refine ⟨List.ofFn f,by simp,fun i z hz => ?_⟩
 rw [List.getElem?_ofFn] at hz
 split at hz
 ·rename_i hi
  simp only [Se] at hz
  subst hz
  exact hf ⟨i,hi⟩
 ·cases hz
theorem tY {c:List Value} {n:Nat} {v:Value} (h:(c.drop n).take 1 = [v]):c[n]? = some v:=by
 have:=congrArg (fun l=>l[0]?) h
 simpa [List.getElem?_take,S5] using this
section
variable {h:za} (hw:∀ b o,h.get b=some o->b < h.next)
include hw
theorem Lo {a:Value} (r:Jv Tryz.prog h 22 [a]):∃ zs,zE h a zs/\zs.length<=17592186043904:=by
 rcases iX Tryz.underlying22 c3 y3 (by decide) r with e | ⟨b,off,len,e,hl,hc⟩
 ·simp only [Tn,Tk] at e
  exact ⟨[],.inl ⟨e,rfl⟩,Th _⟩
 ·simp only [Tn,Tk] at e
  subst e
  rw [iP] at hl
  by_cases h0:0 < len
  ·obtain ⟨c,t,hg,hat⟩:=hc h0
   obtain ⟨l,e1,e2⟩:=pJ (n:=len) (Q:=fun i (z:Int)=>c[off + i]? = some (.int .i64 z)) fun i hi=>by
    obtain ⟨h1,h2⟩:=hat i hi
    obtain ⟨z,hz,_⟩:=rw_int Tryz.underlying3 h2
    rw [TN] at hz
    exact ⟨z,tY hz⟩
   refine ⟨l,.inr ⟨b,off,0,by rw [e1],fun _=>⟨c,t,hw b _ hg,hg,e2⟩⟩,by omega⟩
  ·have:len=0:=by omega
   subst this
   exact ⟨[],.inr ⟨b,off,0,rfl,fun q=>absurd rfl q⟩,Th _⟩
omit hw in
theorem Nv {cs:List Value} (r:Jv Tryz.prog h 50 cs):∃ x:uF,cs=x.row/\True:=by
 obtain ⟨hl,hf⟩:=cY Tryz.underlying50 r
 rw [RU] at hl
 match cs,hl with
 | [a0,a1,a2,a3,a4,a5,a6],_=>
   have f0:Jv Tryz.prog h 3 (([a0,a1,a2,a3,a4,a5,a6].drop 0).take (Tryz.prog.cellsOf 3)):=hf _ (Tp (i:=0) rfl)
   have f1:Jv Tryz.prog h 3 (([a0,a1,a2,a3,a4,a5,a6].drop 1).take (Tryz.prog.cellsOf 3)):=hf _ (Tp (i:=1) rfl)
   have f2:Jv Tryz.prog h 3 (([a0,a1,a2,a3,a4,a5,a6].drop 2).take (Tryz.prog.cellsOf 3)):=hf _ (Tp (i:=2) rfl)
   have f3:Jv Tryz.prog h 3 (([a0,a1,a2,a3,a4,a5,a6].drop 3).take (Tryz.prog.cellsOf 3)):=hf _ (Tp (i:=3) rfl)
   have f4:Jv Tryz.prog h 3 (([a0,a1,a2,a3,a4,a5,a6].drop 4).take (Tryz.prog.cellsOf 3)):=hf _ (Tp (i:=4) rfl)
   have f5:Jv Tryz.prog h 3 (([a0,a1,a2,a3,a4,a5,a6].drop 5).take (Tryz.prog.cellsOf 3)):=hf _ (Tp (i:=5) rfl)
   have f6:Jv Tryz.prog h 2 (([a0,a1,a2,a3,a4,a5,a6].drop 6).take (Tryz.prog.cellsOf 2)):=hf _ (Tp (i:=6) rfl)
   simp only [c2,c3,Tx,T4,SY,List.take_zero] at f0 f1 f2 f3 f4 f5 f6
   obtain ⟨z0,e0,_⟩:=rw_int Tryz.underlying3 f0
   obtain ⟨z1,e1,_⟩:=rw_int Tryz.underlying3 f1
   obtain ⟨z2,e2,_⟩:=rw_int Tryz.underlying3 f2
   obtain ⟨z3,e3,_⟩:=rw_int Tryz.underlying3 f3
   obtain ⟨z4,e4,_⟩:=rw_int Tryz.underlying3 f4
   obtain ⟨z5,e5,_⟩:=rw_int Tryz.underlying3 f5
   obtain ⟨z6,e6,_⟩:=rw_int Tryz.underlying2 f6
   simp only [Tn,Tk] at e0 e1 e2 e3 e4 e5 e6
   subst e0 e1 e2 e3 e4 e5 e6
   exact ⟨⟨z0,z1,z2,z3,z4,z5,z6⟩,rfl,trivial⟩
theorem Dn {α:Type} {row:α->List Value} {ok:α->Prop} {ts te:TypeId} {n bz:Nat} (hu:Tryz.prog.underlying ts=some (.slice te)) (hs:Tryz.prog.cellsOf te=n) (hb:Tryz.prog.bytesOf te=bz) (h0n:0 < n) (h8:8<=bz)
  (hrow:∀ cs,Jv Tryz.prog h te cs->∃ x,cs=row x/\ok x) {a:Value} (r:Jv Tryz.prog h ts [a]):∃ l:List α,zW h a n (l.map row)/\l.length * bz<=140737488351232 /\ ∀ x,x ∈ l->ok x:=by
 rcases iX hu hs hb h0n r with e | ⟨b,off,len,e,hl,hc⟩
 ·simp only [Tn,Tk] at e
  exact ⟨[],.inl ⟨e,rfl⟩,by simp,fun x hx=>by cases hx⟩
 ·simp only [Tn,Tk] at e
  subst e
  rw [iP] at hl
  by_cases h0:0 < len
  ·obtain ⟨c,t,hg,hat⟩:=hc h0
   obtain ⟨l,e1,e2⟩:=pJ (n:=len) (Q:=fun i x=>off + i * n + n<=c.length/\(c.drop (off + i * n)).take n=row x/\ok x) fun i hi=>by
    obtain ⟨h1,h2⟩:=hat i hi
    obtain ⟨x,hx,hok⟩:=hrow _ h2
    exact ⟨x,h1,hx,hok⟩
   refine ⟨l,.inr ⟨b,off,0,by rw [SX,e1],fun _=>⟨c,t,hw b _ hg,hg,fun i r hr => ?_⟩⟩,?_,fun x hx => ?_⟩
   ·rw [SI] at hr
    cases hx:l[i]? with
    | none=>rw [hx] at hr;cases hr
    | some x=>
      rw [hx] at hr
      simp only [TG,Se] at hr
      subst hr
      exact ⟨(e2 i x hx).1,(e2 i x hx).2.1⟩
   ·rw [e1];exact hl
   ·obtain ⟨k,hk,rfl⟩:=List.getElem_of_mem hx
    exact (e2 k _ (Sk hk)).2.2
  ·have:len=0:=by omega
   subst this
   exact ⟨[],.inr ⟨b,off,0,rfl,fun q=>absurd rfl q⟩,by simp,fun x hx=>by cases hx⟩
theorem Pr {cs:List Value} (r:Jv Tryz.prog h 47 cs):∃ f:Fn,cs=f.row/\KJ h f:=by
 obtain ⟨hl,hf⟩:=cY Tryz.underlying47 r
 rw [RT] at hl
 match cs,hl with
 | [a0,a1],_=>
   have f0:Jv Tryz.prog h 9 (([a0,a1].drop 0).take (Tryz.prog.cellsOf 9)):=hf _ (Tp (i:=0) rfl)
   have f1:Jv Tryz.prog h 45 (([a0,a1].drop 1).take (Tryz.prog.cellsOf 45)):=hf _ (Tp (i:=1) rfl)
   simp only [c9,R4,Tx,T4,SY,List.take_zero] at f0 f1
   obtain ⟨s,e0,_⟩:=Fc Tryz.underlying9 f0
   obtain ⟨code,C,hc,hi⟩:=Dn hw Tryz.underlying45 RU R9 (by decide) (by decide) (fun cs r=>Nv r) f1
   simp only [Tn,Tk] at e0
   subst e0
   exact ⟨⟨s,a1,code⟩,rfl,C,hc⟩
theorem rd_pg {cs:List Value} (r:Jv Tryz.prog h 25 cs):∃ p:Pg,cs=p.row/\kG h p:=by
 obtain ⟨hl,hf⟩:=cY Tryz.underlying25 r
 rw [R3] at hl
 match cs,hl with
 | [a0,a1,a2,a3],_=>
   have f0:Jv Tryz.prog h 22 (([a0,a1,a2,a3].drop 0).take (Tryz.prog.cellsOf 22)):=hf _ (Tp (i:=0) rfl)
   have f1:Jv Tryz.prog h 23 (([a0,a1,a2,a3].drop 1).take (Tryz.prog.cellsOf 23)):=hf _ (Tp (i:=1) rfl)
   have f2:Jv Tryz.prog h 3 (([a0,a1,a2,a3].drop 2).take (Tryz.prog.cellsOf 3)):=hf _ (Tp (i:=2) rfl)
   have f3:Jv Tryz.prog h 3 (([a0,a1,a2,a3].drop 3).take (Tryz.prog.cellsOf 3)):=hf _ (Tp (i:=3) rfl)
   simp only [c3,R1,R2,Tx,T4,SY,List.take_zero] at f0 f1 f2 f3
   obtain ⟨l,S,hl⟩:=Lo hw f0
   obtain ⟨fs,C,hc,hi⟩:=Dn hw Tryz.underlying23 RT R8 (by decide) (by decide) (fun cs r=>Pr hw r) f1
   obtain ⟨z2,e2,_⟩:=rw_int Tryz.underlying3 f2
   obtain ⟨z3,e3,_⟩:=rw_int Tryz.underlying3 f3
   simp only [Tn,Tk] at e2 e3
   subst e2 e3
   refine ⟨⟨a0,l,a1,fs,z2,z3⟩,rfl,S,hl,C,by show fs.length * 24<=140737488351232;omega,hi⟩
theorem rd_i64s {a:Value} (r:Jv Tryz.prog h 26 [a]):∃ l:List Int,zE h a l/\l.length * 8<=140737488351232:=by
 rcases iX Tryz.underlying26 c2 y2 (by decide) r with e | ⟨b,off,len,e,hl,hc⟩
 ·simp only [Tn,Tk] at e
  exact ⟨[],.inl ⟨e,rfl⟩,Th _⟩
 ·simp only [Tn,Tk] at e
  subst e
  rw [iP] at hl
  by_cases h0:0 < len
  ·obtain ⟨c,t,hg,hat⟩:=hc h0
   obtain ⟨l,e1,e2⟩:=pJ (n:=len) (Q:=fun i (z:Int)=>c[off + i]? = some (.int .i64 z)) fun i hi=>by
    obtain ⟨h1,h2⟩:=hat i hi
    obtain ⟨z,hz,_⟩:=rw_int Tryz.underlying2 h2
    rw [TN] at hz
    exact ⟨z,tY hz⟩
   refine ⟨l,.inr ⟨b,off,0,by rw [e1],fun _=>⟨c,t,hw b _ hg,hg,e2⟩⟩,by omega⟩
  ·have:len=0:=by omega
   subst this
   exact ⟨[],.inr ⟨b,off,0,rfl,fun q=>absurd rfl q⟩,Th _⟩
end
end Go.As
namespace Go.Am
open Go.Ai Go.Proofs
open Go.Rtl (zE)
open Go.As (Pg kG)
theorem limits_law {h:za} {p:Pg} {av wv:Value} {args world:List Int} {fuel less:Int} (P:kG h p) (ha:zE h av args) (hw:zE h wv world) (hwl:world.length * 8<=2 ^ 47) :
  DC Tryz.prog 4 [p.val,av,wv,.int .i64 fuel,.int .i64 less] h yes:=EO P ha hw hwl fun h' e=>Iv h'
end Go.Am
