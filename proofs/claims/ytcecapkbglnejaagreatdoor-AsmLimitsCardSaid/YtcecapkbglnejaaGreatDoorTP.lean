/- A part of the proof. -/
import Derived.Test.YtcecapkbglnejaaGreatDoorTO
import Derived.Test.YtcecapkbglnejaaGreatDoorTK
import Derived.Test.YtcecapkbglnejaaGreatDoorTN
set_option linter.unusedVariables false
set_option linter.unusedSimpArgs false
set_option maxRecDepth 100000
namespace Go.As
open Go.Ai Go.Proofs Go.Mem Go.Rm
structure Ih (p:Pg):Prop where
 main:∃ f,p.funcs[p.main.toNat]? = some f
 OX:0<=p.main
 OE:∀ f,f ∈ p.funcs->f.code.length<=100000
 ins:∀ f,f ∈ p.funcs->∀ x,x ∈ f.code->p9 p x
 gl:p.globals.length<=200
 Sb:∀ n,n ∈ p.globals->0<=n/\n<=65536
 par:0<=p.params/\p.params<=6
 fl:p.funcs.length<=100
theorem iZ {gl:List Int}:∀ (xs:List uF) (m:List (Int × Value)) (b:Bool) (r:List (Int × Value) × Bool),Z1 gl xs m b=some r->∀ x,x ∈ xs->UR gl x=true
 | [],m,b,r,h,x,hx=>by cases hx
 | y :: ys,m,b,r,h,x,hx=>by
   unfold Z1 at h
   by_cases hy:UR gl y=false
   ·rw [Sn hy] at h;cases h
   ·rw [Sl hy] at h
    have hy:UR gl y=true:=by simpa using hy
    rcases Tq.1 hx with rfl | hx
    ·exact hy
    ·split at h
     ·split at h
      ·cases h
      ·exact iZ ys _ _ r h x hx
     ·exact iZ ys _ _ r h x hx
theorem IZ {p:Pg} (h:dL p=true):Ih p:=by
 unfold dL at h
 simp only [Sm,SV] at h
 obtain ⟨h1,h2,h3⟩:=h
 unfold qY at h1
 simp only [Sm,Sz,SL] at h1
 obtain ⟨a1,a2,a3,a4,a5,a6⟩:=h1
 have fn:∀ f,f ∈ p.funcs->f.code.length<=100000 /\ ∀ x,x ∈ f.code->p9 p x:=fun f hf=>by
  have h4:=h3 f hf
  unfold BP at h4
  simp only [Sm,Sz,SL] at h4
  obtain ⟨b1,b2⟩:=h4
  refine ⟨by omega,fun x hx => ?_⟩
  unfold Ht at b2
  split at b2
  ·cases b2
  ·rename_i r hr
   simp only [Sm,SV] at b2
   exact I0 (iZ _ _ _ _ hr x hx) (b2.1 x hx)
 refine ⟨⟨_,Sk (by omega)⟩,by omega,fun f hf=>(fn f hf).1,fun f hf=>(fn f hf).2,by omega,fun n hn => ?_,by omega,by omega⟩
 have:=h2 n hn
 simp only [Sm,Sz,SL] at this
 omega
section
variable {p:Pg} {lim fuel:Int} {world:List Int} {lab:Bool} {S:St} {c:Fr} {ini:List Fr} {f:Fn} {i:uF}
theorem HO (hc:S.calls=ini ++ [c]) (hf:p.funcs[c.f]? = some f):UB p lim world lab fuel S=if c.pt=f.code.length then { S with kind:=3 } else match f.code[c.pt.toNat]? with
  | none=>{ S with kind:=3 }
  | some i=>if i.op=20/\lab=false then ja S { c with pt:=c.pt + 1 } else if S.steps=fuel then { S with kind:=2 } else
    VH (zk p lim world { ja S { c with pt:=c.pt + 1 } with steps:=S.steps + 1 } { c with pt:=c.pt + 1 } i):=by
 have e:Un p c.f=f.code:=by unfold Un;rw [hf]
 unfold UB
 have hl:S.calls.getLast? = some c:=by rw [hc,List.getLast?_concat]
 rw [hl]
 simp only [e]
 rfl
theorem ES (n:Nat) (T:St):uK p lim world lab fuel (n + 1) T=Vt p lim world lab fuel (uK p lim world lab fuel n T):=by rw [aC];rfl
def Qm (p:Pg) (fuel:Int) (S:St):Nat:=((fuel - S.steps) * 100002).toNat + match S.calls.getLast? with
 | none=>0
 | some c=>((Un p c.f).length - c.pt).toNat
theorem EN (g:Ih p) (c:Fr):(Un p c.f).length<=100000:=by
 unfold Un
 split
 ·exact Th _
 ·rename_i f hf
  exact g.OE f (S7 hf)
theorem OB {n:Int} {r:St × Bool} (I:ZS p lim n r.1):ZS p lim n (VH r):=by
 unfold VH
 split
 ·exact I
 ·exact ⟨I.n0,I.hl,I.hv,I.va,I.p7,I.fr,I.l0,I.l1,I.s0,I.s1,I.lk,I.ev,I.cs,I.used,I.mem,I.gl,I.ij⟩
theorem ZS.kind {n:Int} (I:ZS p lim n S) (k:Int):ZS p lim n { S with kind:=k }:=⟨I.n0,I.hl,I.hv,I.va,I.p7,I.fr,I.l0,I.l1,I.s0,I.s1,I.lk,I.ev,I.cs,I.used,I.mem,I.gl,I.ij⟩
theorem ZS.PE {n:Int} (I:ZS p lim n S) (k:Int):ZS p lim n { S with steps:=k }:=⟨I.n0,I.hl,I.hv,I.va,I.p7,I.fr,I.l0,I.l1,I.s0,I.s1,I.lk,I.ev,I.cs,I.used,I.mem,I.gl,I.ij⟩
theorem Ha (h:DB p c) (hf:p.funcs[c.f]? = some f) (hlt:c.pt < f.code.length):DB p { c with pt:=c.pt + 1 }:=by
 obtain ⟨f',hf',h0,h1⟩:=h.at_
 rw [hf] at hf'
 cases hf'
 exact ⟨h.Xf,h.size,h.iT,f,hf,by show 0<=c.pt + 1;omega,by show c.pt + 1<=f.code.length;omega⟩
theorem ZS.bounds {n:Int} (I:ZS p lim n S) (hn:n<=100000000):Jw lim S :=
 ⟨I.hl,I.hv,⟨I.l0,I.l1,by have:=I.s0;omega,by have:=I.s1;have:=I.l1;omega⟩,by have:=I.lk;omega,by have:=I.ev;omega,by have:=I.cs;omega,⟨I.mem.1,I.mem.2.1⟩,⟨I.used.1,by have:=I.used.2;omega⟩⟩
theorem DB.b (h:DB p c):PM c:=⟨h.Xf.2,h.size⟩
end
open Go.Rtl (zE zW Old yS xq inc vY wH)
section
variable {lo:yV} {h:za} {b mb wb:Nat} {p:Pg} {wn lv gl:Value} {world:List Int} {lim fuel:Int} {lab:Bool}
theorem sV {L:List HP} {cl:Value} {S:St} {c:Fr} {ini:List Fr} (s:Sat lo h (Za 134 7 cl (S.calls.map uD) :: L)) (hc:S.calls=ini ++ [c]):∃ q cp,cl = .slice (some ⟨q,0,none⟩) (ini.length + 1) cp:=by
 rcases Xn s with ⟨_,e,_⟩ | ⟨q,cp,cs,e,_⟩
 ·rw [hc] at e;simp at e
 ·exact ⟨q,cp,by rw [e,hc];simp⟩
theorem B3 {X:List HP} {S:St} {ev lk cl:Value} {K:za->Prop} (k:Int) (s:Sat lo h (pt b (xI p lv mb wb S ev lk gl cl lim) :: X)) (hk:∀ h',Sat lo h' (pt b (xI p lv mb wb { S with kind:=k } ev lk gl cl lim) :: X)->K h'):opt (vf h b 7 [.int .i64 k]) K:=by
 refine wx s (by simp [vP]) rfl fun h3 s3 => ?_
 rw [NA] at s3
 exact hk h3 s3
structure Loop (p:Pg) (lim:Int) (world:List Int) (lab:Bool) (fuel:Int) (T S:St):Prop where
 I:ZS p lim S.steps S
 ne:S.kind=0->S.calls ≠ []
 st:S.steps<=fuel
 run:∃ n,S=uK p lim world lab fuel n T
theorem Loop.next {T S S':St} (L:Loop p lim world lab fuel T S) (hk:S.kind=0) (e:UB p lim world lab fuel S=S') (I:ZS p lim S'.steps S') (ne:S'.kind=0->S'.calls ≠ []) (st:S'.steps<=fuel):Loop p lim world lab fuel T S':=by
 obtain ⟨n,hn⟩:=L.run
 exact ⟨I,ne,st,n + 1,by rw [ES,<- hn];unfold Vt;rw [Sn hk,e]⟩
theorem I7 (g:Ih p) {n:Int} {S:St} (I:ZS p lim n S):Qm p fuel S<=((fuel - S.steps) * 100002).toNat + 100000:=by
 unfold Qm
 cases e:S.calls.getLast? with
 | none=>simp only;omega
 | some d=>
   simp only
   have h1:=EN g d
   obtain ⟨_,_,h2,_⟩:=(I.fr d (List.mem_of_getLast? e)).at_
   omega
theorem NJ {S:St} {ev lk cl:Value} {q cp b8:Nat} {c:Fr} {ini:List Fr} {i:uF} {f:Fn} {R:Value->za->Prop} {J:List Value->za->Prop} {vs:List Value} (s:Sat lo h (pt b8 (.cells i.row 50) :: Vl p b mb wb wn world lim lv gl S ev lk cl)) (hcl:cl = .slice (some ⟨q,0,none⟩) (ini.length + 1) cp) (hc:S.calls=ini ++ [c]) (hil:ini.length < 4611686018427387900) (hwl:world.length < 4611686018427387904) (hg:Rd lo (zE · gl S.gl)) (hL:Rd lo (VW p lv)) (hf:p.funcs[c.f]? = some f) (G:p9 p i) (F:DB p { c with pt:=c.pt + 1 }) (I:ZS p lim S.steps S) (hs:S.steps<=100000000) (hw:IntKind.wrap .i64 (c.pt + 1)=c.pt + 1)
  (k2:S.steps=fuel->∀ h',Zy lo p b mb wb wn world lim lv gl { S with kind:=2 } h'->R (jT []) h')
  (kj:¬ S.steps=fuel->∀ h',Zy lo p b mb wb wn world lim lv gl (VH (zk p lim world { ja S { c with pt:=c.pt + 1 } with steps:=S.steps + 1 } { c with pt:=c.pt + 1 } i)) h'->J [] h') :
  f7 (xK b) (.int .i64 fuel) R (.pointer (some ⟨q,ini.length * 7,none⟩)) (.pointer (some ⟨b8,0,none⟩)) J vs h:=by
 have g8:=s.get
 have gm:=(s.p 1).get
 unfold xI at gm
 have hst:=I.n0
 unfold f7 xK
 by_cases hfu:S.steps=fuel
 ·simp -implicitDefEqProofs only [EE,Nat.reduceAdd,zw,zi,Wx,jZ,YL,C9,r9,gm,L8,hfu]
  refine B3 2 (s.p 1) fun h2 s2 => ?_
  simp -implicitDefEqProofs only [UF]
  exact k2 hfu h2 ⟨ev,lk,cl,(s2.p 1).drop⟩
 ·have hw1:IntKind.wrap .i64 (S.steps + 1)=S.steps + 1:=Go.Mem.Yb (by omega) (by omega)
  have tc:∀ d,(ja S d).calls=ini ++ [d]:=fun d=>by
   show S.calls.dropLast ++ [d]=_
   rw [hc,T0]
  simp -implicitDefEqProofs only [EE,Nat.reduceAdd,zw,zi,Wx,jZ,C9,sc,gm,L8,hfu,hw1]
  refine wx (s.p 1) (by simp [vP]) rfl fun h2 s2 => ?_
  rw [Pt] at s2
  have s2':=s2
  rw [hc] at s2'
  obtain ⟨cs,gq,wq,ltq,lq,kf,kp,kb,kz,kr⟩:=Wg (s2'.p 4) hcl
  clear s2'
  simp -implicitDefEqProofs only [EE,zw,zi,Wx,VL,gq,kp,hw]
  refine Dc hcl hc (s2.p 4) _ fun h3 s3 => ?_
  have g8:=(s3.p 2).get
  simp -implicitDefEqProofs only [EE,Sf,Nat.reduceAdd,ye,vS,g8]
  have B:Jw lim { ja S { c with pt:=c.pt + 1 } with steps:=S.steps + 1 }:=(((I.top (by rw [hc];simp) F).PE (S.steps + 1))).bounds hs
  obtain ⟨lo1,l1,s4,fr⟩:=(s3.f [1,3,4,0,5,6,7]).call (L2:=Vl p b mb wb wn world lim lv gl { ja S { c with pt:=c.pt + 1 } with steps:=S.steps + 1 } ev lk cl)
  refine z7 (by kernel_rfl) rfl (NI (i:=i) s4 B F.b hcl (tc _) hil hwl (hg.mono l1) (by have:=I.ij;exact this) (hL.mono l1) hf G) ?_
  rintro v h5 ⟨rfl,ev',lk',cl',s5⟩
  have s6:=fr _ _ s5
  cases hok:(zk p lim world { ja S { c with pt:=c.pt + 1 } with steps:=S.steps + 1 } { c with pt:=c.pt + 1 } i).2 with
  | true=>
    simp -implicitDefEqProofs only [EE]
    refine kj hfu h5 ?_
    unfold VH
    rw [Sn hok]
    exact ⟨ev',lk',cl',(s6.p 7).drop⟩
  | false=>
    simp -implicitDefEqProofs only [EE,Wx,jZ,YL,sa]
    refine B3 3 s6 fun h7 s7 => ?_
    simp -implicitDefEqProofs only []
    refine kj hfu h7 ?_
    unfold VH
    rw [Sl (by rw [hok];simp)]
    exact ⟨ev',lk',cl',(s7.p 7).drop⟩
theorem Nf (hp:Rd lo (kG · p)) (g:Ih p) (hwl:world.length < 4611686018427387904) {gls:List Int} (hg:Rd lo (zE · gl gls)) (hL:Rd lo (VW p lv)) (hf1:fuel<=100000000) {T S0:St} (L0:Loop p lim world lab fuel T S0) (hg0:S0.gl=gls) (x0:Zy lo p b mb wb wn world lim lv gl S0 h) {R:Value->za->Prop}
  (k:∀ h' S,Loop p lim world lab fuel T S->S.kind ≠ 0->Zy lo p b mb wb wn world lim lv gl S h'->R (jT []) h') :
  LP (bP (xK b) (fun _ h4=>Ai.rv [] h4 R) R (.bool lab) (.int .i64 fuel)) [] h:=by
 refine Zb (fun m vs h'=>vs = [] /\ ∃ S,m=Qm p fuel S/\Loop p lim world lab fuel T S/\S.gl=gls/\Zy lo p b mb wb wn world lim lv gl S h') (Qm p fuel S0) ⟨rfl,S0,rfl,L0,hg0,x0⟩ ?_
 rintro m vs h1 ⟨rfl,S,rfl,L,hgs,x⟩
 have x':=x
 obtain ⟨ev,lk,cl,s⟩:=x
 have gm:=s.get
 unfold xI at gm
 unfold bP xK
 by_cases hk:S.kind=0
 ·rcases List.eq_nil_or_concat S.calls with e | ⟨ini,c,hc⟩
  ·exact absurd e (L.ne hk)
  rw [List.concat_eq_append] at hc
  obtain ⟨q,cp,hcl⟩:=sV (s.p 3) hc
  have cm:c ∈ S.calls:=by rw [hc];simp
  have F:=L.I.fr c cm
  obtain ⟨f,hf,p0,p1⟩:=F.at_
  have fm:=S7 hf
  have fl:=g.OE f fm
  have G:=g.ins f fm
  obtain ⟨pc,hpc⟩:∃ pc:Nat,c.pt=pc:=⟨c.pt.toNat,by omega⟩
  have s':=s
  unfold Vl at s'
  rw [hc] at s'
  obtain ⟨cs,gq,wq,ltq,lq,kf,kp,kb,kz,kr⟩:=Wg (s'.p 3) hcl
  clear s'
  have hst:=L.I.n0
  have hsf:=L.st
  have hil:ini.length < 4611686018427387900:=by
   have:=L.I.cs
   rw [hc] at this
   simp at this
   omega
  have w2:IntKind.wrap .i64 (((ini.length + 1:Nat):Int) - 1)=(ini.length:Nat):=by rw [show (((ini.length + 1:Nat):Int) - 1)=(ini.length:Nat) by omega];exact Go.Mem.Yb (by omega) (by omega)
  have i0:(0:Int)<=ini.length:=by omega
  have i1:(ini.length:Int) < ((ini.length + 1:Nat):Int):=by omega
  have P:=hp.at s
  have F2:=P.fns f fm
  obtain ⟨bf,ofs,cf,tf,hif,hbf,hgf,hlf,htf,hkf⟩:=dE P.funcs (i:=c.f) (r:=f.row) (by rw [SI,hf];rfl) rfl
  have k1:=hkf 1 (by decide)
  have k1:cf[ofs + 1]? = some f.cv:=k1
  have hlc:=YP F2.code 3
  have fvn:=P.funcs.YR
  have cvn:=F2.code.YR
  simp -implicitDefEqProofs only [EE,↓yL,Sf,zw,oQ,qa,zi,ZX,tn,jZ,JZ,gV,VL,wF,YL,u7,M8,pF,sh,gm,Pq,hk,Dl,Rx,hcl,w2,i0,i1,SJ,gq,kf,kp,hif,hgf,k1,hlc,cvn]
  have ro:=HO (p:=p) (lim:=lim) (fuel:=fuel) (world:=world) (lab:=lab) hc hf
  by_cases he:c.pt=(f.code.length:Int)
  ·simp -implicitDefEqProofs only [EE,Wx,jZ,YL,r7,he]
   refine B3 3 s fun h2 s2 => ?_
   simp -implicitDefEqProofs only [UF]
   rw [Sn he] at ro
   exact k h2 _ (L.next hk ro (L.I.kind 3) (fun q=>by cases q) L.st) (by show (3:Int) ≠ 0;decide) ⟨ev,lk,cl,s2⟩
  rw [Sl he] at ro
  have hlt:pc < f.code.length:=by omega
  obtain ⟨i,hi⟩:∃ i,f.code[pc]? = some i:=⟨_,Sk hlt⟩
  rw [hpc,SJ,hi] at ro
  simp only at ro
  rw [<- hpc] at ro
  have Gi:=G i (S7 hi)
  obtain ⟨bi,oi,ci,ti,ha,hbi,hgi,hle,htk,_⟩:=Wy F2.code (i:=pc) (r:=i.row) (by rw [SI,hi];rfl) rfl
  rw [<- hpc] at ha
  have hw:IntKind.wrap .i64 (c.pt + 1)=c.pt + 1:=Go.Mem.Yb (by omega) (by have:=F2.pd;omega)
  have FN:=Ha F hf (by omega)
  simp -implicitDefEqProofs only [EE,Value.cells,Sf,ye,zw,zi,vS,nq,VL,sd,he,gq,kp,ha,hgi,hle,htk]
  refine vy s fun b8 h2 s2 => ?_
  simp -implicitDefEqProofs only [EE,Nat.reduceAdd,nk]
  refine wx s2 (by simp) rfl fun h3 s3 => ?_
  have g8:=s3.get
  have gm:=(s3.p 1).get
  unfold xI at gm
  have s3':=s3
  unfold Vl at s3'
  rw [hc] at s3'
  clear gq kf kp kb kz kr
  obtain ⟨cs,gq,wq,ltq,lq,kf,kp,kb,kz,kr⟩:=Wg (s3'.p 4) hcl
  clear s3'
  have lf:Qm p fuel S=((fuel - S.steps) * 100002).toNat + (f.code.length - c.pt).toNat:=by
   unfold Qm Un
   rw [hc,List.getLast?_concat]
   simp only [hf]
  have tc:∀ d,(ja S d).calls=ini ++ [d]:=fun d=>by
   show S.calls.dropLast ++ [d]=_
   rw [hc,T0]
  by_cases hlab:i.op=20/\lab=false
  ·rw [Sn hlab] at ro
   obtain ⟨h20,rfl⟩:=hlab
   simp -implicitDefEqProofs only [EE,zf,Nat.reduceAdd,zw,zi,Wx,VL,zg,r8,JL,g8,h20,gq,kp,hw]
   refine Dc hcl hc (s3.p 4) _ fun h4 s4 => ?_
   simp -implicitDefEqProofs only [EE]
   have X:=L.next hk ro (L.I.top (L.ne hk) FN) (fun _=>Jq _ _) L.st
   refine ⟨Qm p fuel (ja S { c with pt:=c.pt + 1 }),?_,_,rfl,X,hgs,ev,lk,cl,s4.k [2,3,4,0,5,6,7]⟩
   have e:Qm p fuel (ja S { c with pt:=c.pt + 1 })=((fuel - S.steps) * 100002).toNat + (f.code.length - (c.pt + 1)).toNat:=by
    unfold Qm Un
    rw [tc,List.getLast?_concat]
    simp only [hf]
    rfl
   omega
  rw [Sl hlab] at ro
  have hne:=L.ne hk
  have tl:=NJ (i:=i) (vs:=[]) (fuel:=fuel) (R:=R) (J:=fun _ h13 => ∃ m,m < Qm p fuel S /\ ∃ S,m=Qm p fuel S/\Loop p lim world lab fuel T S/\S.gl=gls/\Zy lo p b mb wb wn world lim lv gl S h13) s3 hcl hc hil hwl (by rw [hgs];exact hg) hL hf Gi FN L.I (by omega) hw
   (fun hfu h5 x5=>by
    rw [Sn hfu] at ro
    exact k h5 _ (L.next hk ro (L.I.kind 2) (fun q=>by cases q) L.st) (by show (2:Int) ≠ 0;decide) x5)
   (fun hfu h5 x5=>by
    rw [Sl hfu] at ro
    have I1:=(L.I.top hne FN).PE (S.steps + 1)
    have I2:=NH (i:=i) I1 world (Jq _ _) FN (by have:=L.I.cs;show ((ja S _).calls.length:Int)<=_;rw [tc];rw [hc] at this;simp at this ⊢;omega) Gi
    have sg:=Lv lim world { ja S { c with pt:=c.pt + 1 } with steps:=S.steps + 1 } { c with pt:=c.pt + 1 } Gi
    have es:(VH (zk p lim world { ja S { c with pt:=c.pt + 1 } with steps:=S.steps + 1 } { c with pt:=c.pt + 1 } i)).steps=S.steps + 1:=by
     unfold VH;split <;> exact sg.2
    have eg:(VH (zk p lim world { ja S { c with pt:=c.pt + 1 } with steps:=S.steps + 1 } { c with pt:=c.pt + 1 } i)).gl=gls:=by
     rw [<- hgs];unfold VH;split <;> exact sg.1
    have X:=L.next hk ro (by rw [es];exact OB I2) (fun q=>by
     unfold VH at q ⊢
     split at q
     ·rename_i ok
      rw [Sn ok]
      exact Lw (Jq _ _) Gi ok q
     ·cases q) (by rw [es];omega)
    refine ⟨_,?_,_,rfl,X,eg,x5⟩
    have l2:=I7 (fuel:=fuel) g X.I
    rw [es] at l2
    omega)
  by_cases h20:i.op=20
  ·have hlt:lab=true:=by
    cases lab with
    | true=>rfl
    | false=>exact absurd ⟨h20,rfl⟩ hlab
   subst hlt
   simp -implicitDefEqProofs only [EE,zf,Nat.reduceAdd,zw,zi,zg,JL,g8,h20]
   exact tl
  ·simp -implicitDefEqProofs only [EE,zf,Nat.reduceAdd,zw,zi,zg,JL,g8,h20]
   exact tl
 ·simp -implicitDefEqProofs only [EE,UF,zw,zi,jZ,YL,gm,Pq,hk]
  exact k h1 S L hk x'
end
section
variable {lo:yV} {h:za} {b mb wb:Nat} {p:Pg} {wn lv gl ev lk cl:Value} {world:List Int} {lim fuel:Int} {lab:Bool} {S:St}
theorem G3 (lim:Int) (S:St) (f:Nat) (hk:S.kind=0):(xP lim S f).kind=0->(xP lim S f).calls ≠ []:=by
 unfold xP
 split
 ·intro _;simp
 ·rename_i hg
  intro q
  exfalso
  unfold yM at hg q
  split at q
  ·cases q
  ·rename_i h2;rw [Sl h2] at hg;exact hg rfl
theorem Nr (hp:Rd lo (kG · p)) (g:Ih p) (hwl:world.length < 4611686018427387904) {gls:List Int} (hg:Rd lo (zE · gl gls)) (hL:Rd lo (VW p lv)) (hf0:0<=fuel) (hf1:fuel<=100000000) (s:Sat lo h (Vl p b mb wb wn world lim lv gl S ev lk cl)) (I:ZS p lim 0 S) (hs:S.steps=0) (hk:S.kind=0) (hc:S.calls = []) (hgs:S.gl=gls) :
  DC Tryz.prog 39 [xK b,.int .i64 fuel,.bool lab] h (fun _ h' => ∃ T,Loop p lim world lab fuel (xP lim S p.main.toNat) T/\T.kind ≠ 0/\Zy lo p b mb wb wn world lim lv gl T h'):=by
 apply D5
 unfold Bh xK
 have gm:=s.get
 unfold xI at gm
 obtain ⟨mn,hmn⟩:∃ mn:Nat,p.main=mn:=⟨p.main.toNat,by have:=g.OX;omega⟩
 obtain ⟨f,hf⟩:=g.main
 simp -implicitDefEqProofs only [EE,zw,zi,tn,j7,gm,Ry,hmn]
 rw [hmn,SJ] at *
 obtain ⟨lo1,l1,s2,fr⟩:=(s.f [0,3]).call (L2:=[pt b (xI p lv mb wb S ev lk gl cl lim),Za 134 7 cl (S.calls.map uD)])
 refine z7 (by kernel_rfl) rfl (C6 s2 (I.bounds (by decide)).Mi (by rw [hc];decide) mn) ?_
 rintro v h3 ⟨cl',s3⟩
 have s4:=fr _ _ s3
 simp -implicitDefEqProofs only [↓yL]
 obtain ⟨e1,e2,e3,e4⟩:=gR lim S mn
 have es:=tg lim S mn
 have L0:Loop p lim world lab fuel (xP lim S mn) (xP lim S mn):=⟨by rw [es.2,hs];exact I.enter hf (by rw [hc];decide),G3 lim S mn hk,by rw [es.2,hs];exact hf0,0,rfl⟩
 refine Nf hp g hwl hg hL hf1 L0 (by rw [es.1];exact hgs) ⟨ev,lk,cl',?_⟩ (fun h' T LT kT xT=>⟨T,LT,kT,xT⟩)
 unfold Vl
 rw [e1,e2,e3,e4]
 exact s4.k [0,2,3,1,4,5,6]
end
def Lu (M:MM) (gl:List Int) (r:List V):St:=⟨M,0,0,0,[],[],0,gl,[],r,false,v0,v0,0,0⟩
theorem GK (p:Pg) (args:List Int):XV p args=Lu (vO p.globals [] []).1 (vO p.globals [] []).2 (WE order args (List.replicate 16 v0)):=rfl
theorem MN (v00:Option Addr) (l00 c00:Nat) (v01:Option Addr) (l01 c01:Nat) (m k:Int) (mb wb:Nat) (lim:Int):xo Tryz.prog 108 [(0,(.agg #[(.slice v00 l00 c00),(.slice v01 l01 c01),(.int .i64 m),(.int .i64 k)])),(2,.pointer (some ⟨mb,0,none⟩)),(3,.pointer (some ⟨wb,0,none⟩)),(12,.int .i64 lim)]=some (.agg ⟨vx ⟨.slice v00 l00 c00,[],.slice v01 l01 c01,[],m,k⟩ (.slice none 0 0) mb wb (Lu [] [] (List.replicate 16 v0)) (.slice none 0 0) (.slice none 0 0) (.slice none 0 0) (.slice none 0 0) lim⟩):=by kernel_rfl
theorem zE.shape {h:za} {sv:Value} {l:List Int} (S:zE h sv l):∃ a n c,sv = .slice a n c:=by
 rcases S with ⟨rfl,_⟩ | ⟨b,off,cp,rfl,_⟩ <;> exact ⟨_,_,_,rfl⟩
theorem zW.shape {h:za} {sv:Value} {n:Nat} {l:List (List Value)} (S:zW h sv n l):∃ a n c,sv = .slice a n c:=by
 rcases S with ⟨rfl,_⟩ | ⟨b,off,cp,rfl,_⟩ <;> exact ⟨_,_,_,rfl⟩
theorem Iy {h:za} {p:Pg} (P:kG h p) (mb wb:Nat) (lim:Int):xo Tryz.prog 108 [(0,.agg #[p.gv,p.fv,.int .i64 p.main,.int .i64 p.params]),(2,.pointer (some ⟨mb,0,none⟩)),(3,.pointer (some ⟨wb,0,none⟩)),(12,.int .i64 lim)]=some (.agg ⟨vx p (.slice none 0 0) mb wb (Lu [] [] (List.replicate 16 v0)) (.slice none 0 0) (.slice none 0 0) (.slice none 0 0) (.slice none 0 0) lim⟩):=by
 obtain ⟨gv,gs,fv,fs,m,k⟩:=p
 obtain ⟨a1,n1,c1,q1⟩:=zE.shape P.globals
 obtain ⟨a2,n2,c2,q2⟩:=zW.shape P.funcs
 simp only at q1 q2
 subst q1 q2
 exact MN _ _ _ _ _ _ _ _ _ _ _
theorem GJ:xo Tryz.prog 130 [(0,.int .i64 7),(1,.int .i64 6),(2,.int .i64 2),(3,.int .i64 1),(4,.int .i64 8),(5,.int .i64 9)]=some (.agg #[.int .i64 7,.int .i64 6,.int .i64 2,.int .i64 1,.int .i64 8,.int .i64 9]):=by kernel_rfl
theorem Rn (h:za):vL h=(.map (some h.next),h.push (.map [] 0)):=rfl
theorem ig:∀ (rs l2:List Int) (l:List V) (i:Nat) (r a:Int),rs[i]? = some r->l2[i]? = some a->WE rs (l2.take (i + 1)) l=(WE rs (l2.take i) l).set r.toNat (qx a)
 | [],l2,l,i,r,a,h,_=>by cases h
 | x :: rs,[],l,i,r,a,_,h=>by cases h
 | x :: rs,y :: l2,l,0,r,a,h1,h2=>by
   simp only [Si,Se] at h1 h2
   subst h1 h2
   cases rs <;> cases l2 <;> rfl
 | x :: rs,y :: l2,l,i + 1,r,a,h1,h2=>by
   simp only [So] at h1 h2
   exact ig rs l2 _ i r a h1 h2
theorem cM:∀ (rs l2:List Int) (l:List V),(WE rs l2 l).length=l.length
 | [],l2,l=>rfl
 | x :: rs,[],l=>rfl
 | x :: rs,y :: l2,l=>by show (WE rs l2 _).length=_;rw [cM rs l2,TD]
theorem tF:∀ (rs l2:List Int) (l:List V),(∀ v,v ∈ l->vb v)->∀ v,v ∈ WE rs l2 l->vb v
 | [],l2,l,h=>h
 | x :: rs,[],l,h=>h
 | x :: rs,y :: l2,l,h=>tF rs l2 _ fun v hv=>by
   rcases List.mem_or_eq_of_mem_set hv with q | rfl
   ·exact h v q
   ·exact UO _
theorem Iz {p:Pg} (g:Ih p) {lim:Int} (l0:0<=lim) (l1:lim < 4294967296) (args:List Int):ZS p lim 0 (XV p args):=by
 obtain ⟨gm,ij,gb⟩:=px p.globals [] [] tQ (fun z h=>by cases h)
 rw [GK]
 have hv:∀ v,v ∈ WE order args (List.replicate 16 v0)->vb v:=tF _ _ _ fun v hv=>by
  rw [(List.mem_replicate.1 hv).2];exact aQ
 exact ⟨T5 0,cM _ _ _,NM hv,aQ,aQ,fun c hc=>by (cases hc),l0,l1,T5 0,l0,T5 0,T5 0,by show (0:Int)<=0 + 1;decide,⟨T5 0,T5 0⟩,gm,gb,by show (vO p.globals [] []).2.length=_;rw [ij];simp⟩
section
variable {lo:yV} {h:za} {L:List HP} {sv:Value} {zs:List Int}
theorem L6 (S:zE h sv zs) (r:TypeId) (h':za):zn Tryz.prog .len [26] r [sv] h'=some (.int .i64 zs.length,h'):=by
 rcases S with ⟨rfl,rfl⟩ | ⟨b,off,cp,rfl,_⟩
 ·simp only [iz,SF]
 ·simp only [iz]
theorem P1 (S:zE h sv zs) {i:Nat} {z:Int} (hz:zs[i]? = some z):∃ b o c t,zA Tryz.prog 26 sv (.int .i64 i)=some (.pointer (some ⟨b,o,none⟩))/\b < h.next/\h.get b=some (.cells c t)/\c[o]? = some (.int .i64 z):=by
 have hi:i < zs.length:=by
  rcases SC i zs.length with q | q
  ·exact q
  ·rw [Sr q] at hz;cases hz
 rcases S with ⟨rfl,rfl⟩ | ⟨b,off,cp,rfl,hc⟩
 ·cases hz
 ·obtain ⟨c,t,hb,hg,hat⟩:=hc (by intro e;subst e;cases hz)
  have h0:(0:Int)<=i:=by omega
  have h1:(i:Int) < (zs.length:Int):=by omega
  exact ⟨b,off + i,c,t,by simp only [Hj,h0,h1,and_self,Sf,TN,SJ],hb,hg,hat i z hz⟩
theorem Po {q:Nat} {o:vi} (s:Sat lo h (pt q o :: L)):∃ lo1,lo.Le lo1/\Rd lo1 (fun h=>h.get q=some o)/\Sat lo1 h L:=by
 obtain ⟨a,ha,d,w,s⟩:=s
 refine ⟨lo.un a,yV.KE d,fun h1 b1 => ?_,s⟩
 have:Sat lo h1 [pt q o]:=⟨a,ha,d,w,b1⟩
 exact this.get
theorem HW {h:za} {sv:Value} {zs:List Int} (S:zW h sv 1 (zs.map qX)):zE h sv zs:=by
 have T:=S
 rcases S with ⟨e,e2⟩ | ⟨b,off,cp,rfl,hc⟩
 ·exact .inl ⟨e,by simpa using e2⟩
 ·refine .inr ⟨b,off,cp,by rw [SX],fun hz => ?_⟩
  obtain ⟨c,t,hb,hg,hat⟩:=hc (by simpa using hz)
  refine ⟨c,t,hb,hg,fun i z hiz => ?_⟩
  obtain ⟨b2,o,c2,t2,⟨off2,cp2,e1,e2⟩,_,_,hg2,_,_,h3⟩:=T.spot (i:=i) (r:=qX z) (by rw [SI,hiz];rfl) rfl
  simp only [TZ,Se,aal] at e1
  obtain ⟨⟨rfl,rfl,_⟩,_,rfl⟩:=e1
  rw [hg] at hg2
  cases hg2
  have:=h3 0 (by decide)
  rw [e2,TN,aag] at this
  exact this
end
section
variable {lo:yV} {h h42:za} {L:List HP} {b mb wb b19:Nat} {p:Pg} {S:St} {f:Fn} {lv gl ev lk cl av:Value} {args:List Int} {lim:Int}
theorem MW (hF:Rd lo (KJ · f)) (s:Sat lo h (pt h42.next (Qq []) :: L)) {J:List Value->za->Prop} (k:∀ h',Sat lo h' (pt h42.next (Qq (Vd f.code 0 [])) :: L)->J [] h'):LP (bJ (.int .i64 f.code.length) J f.cv h42) [.int .i64 0] h:=by
 refine Zb (fun m vs h' => ∃ j:Nat,j<=f.code.length/\m=f.code.length - j/\vs = [.int .i64 (j:Nat)]/\Sat lo h' (pt h42.next (Qq (Vd (f.code.take j) 0 [])) :: L)) f.code.length ⟨0,Th _,rfl,rfl,s⟩ ?_
 rintro m vs h1 ⟨j,hj,rfl,rfl,s1⟩
 have F:=hF.at s1
 unfold bJ
 by_cases hc:(j:Int) < (f.code.length:Int)
 ·obtain ⟨i,hi⟩:∃ i,f.code[j]? = some i:=⟨_,Sk (by omega)⟩
  obtain ⟨bi,oi,ci,ti,ha,hbi,hgi,hle,htk,_⟩:=Wy F.code (i:=j) (r:=i.row) (by rw [SI,hi];rfl) rfl
  have et:f.code.take (j + 1)=f.code.take j ++ [i]:=by rw [List.take_add_one,hi];rfl
  have hsn:=nJ (f.code.take j) i 0 []
  rw [<- et] at hsn
  have hlen:(f.code.take j).length=j:=by simp;omega
  rw [hlen] at hsn
  have hin:=inc (show j < 4611686018427387904 by have:=F.pd;omega)
  simp -implicitDefEqProofs only [EE,nth,Value.cells,↓yL,Sf,ye,vS,nq,l5,l6,hc,ha,hgi,hle,htk]
  refine vy s1 fun b8 h2 s2 => ?_
  simp -implicitDefEqProofs only [EE,Nat.reduceAdd,nk]
  refine wx s2 (by simp) rfl fun h3 s3 => ?_
  have g8:=s3.get
  have gM:=(s3.p 1).get
  by_cases h20:i.op=20
  ·rw [Sn h20] at hsn
   have up:=Ao (P:=Tryz.prog) (t:=129) (kt:=3) (et:=3) (kind := .i64) (by kernel_rfl) (by kernel_rfl) gM (s3.p 1).wr i.l (.int .i64 (j:Nat))
   have s4:=(s3.p 1).set (Qq (VP (Vd (f.code.take j) 0 []) i.l (.int .i64 (j:Nat))))
   simp -implicitDefEqProofs only [EE,nth,zf,Nat.reduceAdd,zw,zi,zg,vB,lZ,g8,h20,Rn,up,hin]
   refine ⟨f.code.length - (j + 1),by omega,j + 1,by omega,rfl,rfl,?_⟩
   rw [hsn,Int.zero_add]
   exact (s4.p 1).drop
  ·rw [Sl h20] at hsn
   simp -implicitDefEqProofs only [EE,nth,zf,Nat.reduceAdd,zw,zi,zg,g8,h20,hin]
   refine ⟨f.code.length - (j + 1),by omega,j + 1,by omega,rfl,rfl,?_⟩
   rw [hsn]
   exact s3.drop
 ·have e:j=f.code.length:=by omega
  subst e
  rw [aav] at s1
  simp -implicitDefEqProofs only [EE,nth,hc]
  exact k h1 s1
theorem iC (l:List Nat):∀ r,r ∈ l.map (fun q=>[Value.map (some q)])->r.length=1:=k8 (f:=fun q=>[Value.map (some q)]) (fun _=>rfl) l
theorem IT (hp:Rd lo (kG · p)) (g:Ih p) (s:Sat lo h (pt b (xI p (.slice none 0 0) mb wb S ev lk gl cl lim) :: L)) {J:List Value->za->Prop}
  (k:∀ h' lo1 lv,lo.Le lo1->Rd lo1 (VW p lv)->Sat lo1 h' (pt b (xI p lv mb wb S ev lk gl cl lim) :: L)->J [] h') :
  LP (KR (.int .i64 p.funcs.length) J p.fv (xK b)) [.int .i64 0] h:=by
 refine Zb (fun m vs h' => ∃ (i:Nat) (lo1:yV) (lv:Value) (ls:List Nat),i<=p.funcs.length/\m=p.funcs.length - i/\vs = [.int .i64 (i:Nat)]/\ls.length=i/\lo.Le lo1/\Rd lo1 (fun h => ∀ (k q:Nat) (f:Fn),ls[k]? = some q->p.funcs[k]? = some f->h.get q=some (Qq (Vd f.code 0 [])))/\Sat lo1 h' (Za 129 1 lv (ls.map fun q=>[.map (some q)]) :: pt b (xI p lv mb wb S ev lk gl cl lim) :: L)) p.funcs.length
  ⟨0,lo,.slice none 0 0,[],Th _,rfl,rfl,rfl,yV.Le.refl _,fun h b k q f h1=>(by cases h1),Ke _ _ s⟩ ?_
 rintro m vs h1 ⟨i,lo1,lv,ls,hi,rfl,rfl,hls,hle1,hR,s1⟩
 unfold KR xK
 by_cases hc:(i:Int) < (p.funcs.length:Int)
 ·obtain ⟨f,hf⟩:∃ f,p.funcs[i]? = some f:=⟨_,Sk (by omega)⟩
  have P:=(hp.mono hle1).at s1
  have fm:=S7 hf
  obtain ⟨bf,ofs,cf,tf,hif,hbf,hgf,hlf,htf,hkf⟩:=dE P.funcs (i:=i) (r:=f.row) (by rw [SI,hf];rfl) rfl
  have hF:Rd lo1 (KJ · f):=fun h b=>(hp.mono hle1 h b).fns f fm
  have cvn:=(P.fns f fm).code.YR
  have cvc:=(P.fns f fm).code.gJ
  have hin:=inc (show i < 4611686018427387904 by have:=g.fl;omega)
  simp -implicitDefEqProofs only [EE,nth,Value.cells,↓yL,Sf,ye,U9,C1,fD,fE,hc,hif,hgf,hlf,htf]
  refine vy s1 fun b15 h2 s2 => ?_
  simp -implicitDefEqProofs only [EE,Nat.reduceAdd,CZ]
  refine wx s2 (by simp) (by simp [cvc];rfl) fun h3 s3 => ?_
  have g15:=s3.get
  have s4:=s3.push (.map [] 0)
  have g15:=(s4.p 1).get
  have hlc:=YP ((hF.at s4).code) 3
  simp -implicitDefEqProofs only [EE,↓yL,zf,zw,ZX,u7,Rn,g15,cvn,hlc]
  refine MW (h42:=h3) hF s4 fun h5 s5 => ?_
  obtain ⟨lo2,l2,hm,s6⟩:=Po s5
  have gM:=(s6.p 2).get
  unfold xI at gM
  have ln:=qT (s6.p 1)
  have s7:=s6.push (.cells [.map (some h3.next)] 129)
  obtain ⟨b',c',h8,a1,s8⟩:=aN (s7.p 2) (iC ls) [.map (some h3.next)] rfl (by decide) 8 (by rw [SX];have:=g.fl;omega)
  rw [SX] at a1 s8
  have hap:∀ r,zn Tryz.prog .append [103,103] r [lv,.slice (some ⟨h5.next,0,none⟩) 1 3] (h5.push (.cells [.map (some h3.next)] 129))=some (.slice (some ⟨b',0,none⟩) (ls.length + 1) c',h8):=fun r=>by
   rw [Mw r _ _ 1 [.map (some h3.next)] _ rfl (by simp only [uJ,yd];rfl) rfl rfl]
   exact a1
  unfold fC
  simp -implicitDefEqProofs only [EE,zw,Bt,MD,BE,gU,Rn,gM,Nt,ln,hap]
  refine wx (s8.p 3) (by simp [vP]) rfl fun h9 s9 => ?_
  rw [RH] at s9
  simp -implicitDefEqProofs only [EE,nth,hin]
  refine ⟨p.funcs.length - (i + 1),by omega,i + 1,lo2,.slice (some ⟨b',0,none⟩) (ls.length + 1) c',ls ++ [h3.next],by omega,rfl,rfl,by simp [hls],hle1.trans l2,fun h b k q f' hk hf' => ?_,?_⟩
  ·by_cases hki:k < ls.length
   ·rw [Tl hki] at hk
    exact hR.mono l2 h b k q f' hk hf'
   ·have hk2:k=ls.length:=by
     have:k < (ls ++ [h3.next]).length:=by
      rcases SC k (ls ++ [h3.next]).length with a | a
      ·exact a
      ·rw [Sr a] at hk;cases hk
     simp at this;omega
    subst hk2
    simp at hk
    subst hk
    rw [hls,hf] at hf'
    cases hf'
    exact hm h b
  ·have e:((ls ++ [h3.next]).map fun q=>[Value.map (some q)])=(ls.map fun q=>[Value.map (some q)]) ++ [[.map (some h3.next)]]:=by simp
   rw [e]
   exact (s9.f [2,3]).drop.drop.f [1,0]
 ·have e:i=p.funcs.length:=by omega
  subst e
  simp -implicitDefEqProofs only [EE,nth,hc]
  obtain ⟨lo2,l2,hs,s2,_⟩:=HV s1 (iC ls)
  exact k h1 lo2 lv (hle1.trans l2) (fun h b=>⟨ls,hs h b,hls,hR.mono l2 h b⟩) s2
theorem MC (ha:Rd lo (zE · av args)) (ha6:args.length<=6) {M:MM} {gs:List Int} (s:Sat lo h (pt b (xI p lv mb wb (Lu M gs (List.replicate 16 v0)) ev lk gl cl lim) :: pt b19 (.cells [.int .i64 7,.int .i64 6,.int .i64 2,.int .i64 1,.int .i64 8,.int .i64 9] 130) :: L)) {J:List Value->za->Prop}
  (k:∀ h',Sat lo h' (pt b (xI p lv mb wb (Lu M gs (WE order args (List.replicate 16 v0))) ev lk gl cl lim) :: pt b19 (.cells [.int .i64 7,.int .i64 6,.int .i64 2,.int .i64 1,.int .i64 8,.int .i64 9] 130) :: L)->J [] h') :
  LP (KS (.int .i64 args.length) J av (.pointer (some ⟨b19,0,none⟩)) (xK b)) [.int .i64 0] h:=by
 refine Zb (fun m vs h' => ∃ i:Nat,i<=args.length/\m=args.length - i/\vs = [.int .i64 (i:Nat)]/\Sat lo h' (pt b (xI p lv mb wb (Lu M gs (WE order (args.take i) (List.replicate 16 v0))) ev lk gl cl lim) :: pt b19 (.cells [.int .i64 7,.int .i64 6,.int .i64 2,.int .i64 1,.int .i64 8,.int .i64 9] 130) :: L)) args.length ⟨0,Th _,rfl,rfl,s⟩ ?_
 rintro m vs h1 ⟨i,hi,rfl,rfl,s1⟩
 unfold KS xK
 by_cases hc:(i:Int) < (args.length:Int)
 ·obtain ⟨a,haa⟩:∃ a,args[i]? = some a:=⟨_,Sk (by omega)⟩
  obtain ⟨bb,o,cs,t,hix,hb,hgt,hat⟩:=P1 (ha.at s1) haa
  obtain ⟨r,hr⟩:∃ r,order[i]? = some r:=⟨_,Sk (by show i < 6;omega)⟩
  have hr1:0<=r/\r < 16:=by
   have hm:=S7 hr
   simp only [order,Tq,List.not_mem_nil,SE] at hm
   omega
  have hc19:([.int .i64 7,.int .i64 6,.int .i64 2,.int .i64 1,.int .i64 8,.int .i64 9]:List Value)[i]? = some (.int .i64 r):=by
   have e:([.int .i64 7,.int .i64 6,.int .i64 2,.int .i64 1,.int .i64 8,.int .i64 9]:List Value)=order.map (Value.int .i64):=rfl
   rw [e,SI,hr];rfl
  have g19:=(s1.p 1).get
  have gn:=ig order args (List.replicate 16 v0) i r a hr haa
  have avn:=(ha.at s1).YR
  have i0:(0:Int)<=i:=by omega
  have i6:(i:Int) < 6:=by omega
  have hin:=inc (show i < 4611686018427387904 by omega)
  have r0:=hr1.1
  have r1:=hr1.2
  simp -implicitDefEqProofs only [EE,nth,↓yL,Sf,zw,yQ,zi,M9,fG,fH,hc,hix,hgt,hat,i0,i6,g19,hc19,SJ,TN]
  refine qR (by kernel_rfl) rfl (ZL a _) ?_
  simp -implicitDefEqProofs only [EE,Sf,Nat.reduceAdd,zL,xV,qD,fF,r0,r1]
  refine pU s1 (cM _ _ _) r0 r1 _ fun h3 s3 => ?_
  simp -implicitDefEqProofs only [EE,nth,hin]
  refine ⟨args.length - (i + 1),by omega,i + 1,by omega,rfl,rfl,?_⟩
  rw [gn]
  exact s3
 ·have e:i=args.length:=by omega
  subst e
  rw [aav] at s1
  simp -implicitDefEqProofs only [EE,nth,hc]
  exact k h1 s1
theorem IY (hp:Rd lo (kG · p)) (g:Ih p) {r:List V} (s:Sat lo h (pt b (xI p lv mb wb (Lu [] [] r) ev lk (.slice none 0 0) cl lim) :: YQ mb [] :: L)) {J:List Value->za->Prop}
  (k:∀ h' gl,Sat lo h' (Za 3 1 gl ((vO p.globals [] []).2.map qX) :: pt b (xI p lv mb wb (Lu (vO p.globals [] []).1 (vO p.globals [] []).2 r) ev lk gl cl lim) :: YQ mb (vO p.globals [] []).1 :: L)->J [] h') :
  LP (bI (.int .i64 p.globals.length) J p.gv (xK b)) [.int .i64 0] h:=by
 refine Zb (fun m vs h' => ∃ (i:Nat) (gl:Value),i<=p.globals.length/\m=p.globals.length - i/\vs = [.int .i64 (i:Nat)]/\Sat lo h' (Za 3 1 gl ((vO (p.globals.take i) [] []).2.map qX) :: pt b (xI p lv mb wb (Lu (vO (p.globals.take i) [] []).1 (vO (p.globals.take i) [] []).2 r) ev lk gl cl lim) :: YQ mb (vO (p.globals.take i) [] []).1 :: L)) p.globals.length
  ⟨0,.slice none 0 0,Th _,rfl,rfl,Ke _ _ s⟩ ?_
 rintro m vs h1 ⟨i,gl,hi,rfl,rfl,s1⟩
 unfold bI xK
 obtain ⟨gm,ij,gb⟩:=px (p.globals.take i) [] [] tQ (fun z h=>by cases h)
 have g200:=g.gl
 by_cases hc:(i:Int) < (p.globals.length:Int)
 ·obtain ⟨n,hn⟩:∃ n,p.globals[i]? = some n:=⟨_,Sk (by omega)⟩
  obtain ⟨b11,o11,c11,t11,ix11,lt11,g11,k11⟩:=gD ((hp.at s1).globals) hn
  have gvn:=(hp.at s1).globals.YR
  have gM:=(s1.p 1).get
  unfold xI at gM
  have et:p.globals.take (i + 1)=p.globals.take i ++ [n]:=by rw [List.take_add_one,hn];rfl
  have e1:=ik (p.globals.take i) n [] []
  rw [<- et] at e1
  have a:=Jg n gm
  have hin:=inc (show i < 4611686018427387904 by omega)
  simp -implicitDefEqProofs only [EE,nth,↓yL,zw,cC,zi,VJ,lX,lY,hc,ix11,g11,k11,gM,E7]
  obtain ⟨lo1,l1,s11,fr⟩:=(s1.f [2]).call (L2:=[YQ mb (vO (p.globals.take i) [] []).1])
  refine z7 (by kernel_rfl) rfl (CX s11 n) ?_
  rintro v h12 ⟨rfl,s12⟩
  have s13:=fr _ _ s12
  have gM:=(s13.p 2).get
  unfold xI at gM
  simp -implicitDefEqProofs only [EE,zw,cC,VJ,lW,gM,E7]
  obtain ⟨lo2,l2,s14,fr2⟩:=s13.call (L2:=[YQ mb (w8 (vO (p.globals.take i) [] []).1 n).1])
  refine z7 (by kernel_rfl) rfl (NR s14 a.1.1 a.2.2) ?_
  rintro v h15 ⟨rfl,s15⟩
  have s16:=fr2 _ _ s15
  have gM:=(s16.p 2).get
  unfold xI at gM
  have gn:=qT (s16.p 1)
  have s17:=s16.push (.cells [.int .i64 (w8 (vO (p.globals.take i) [] []).1 n).2.1] 3)
  obtain ⟨b',c',h18,a1,s18⟩:=aN (s17.p 2) (k8 (f:=qX) (fun _=>rfl) _) [.int .i64 (w8 (vO (p.globals.take i) [] []).1 n).2.1] rfl (by decide) 8 (by rw [SX,ij];simp;omega)
  rw [SX] at a1 s18
  have hap:∀ r',zn Tryz.prog .append [22,22] r' [gl,.slice (some ⟨h15.next,0,none⟩) 1 3] (h15.push (.cells [.int .i64 (w8 (vO (p.globals.take i) [] []).1 n).2.1] 3))=some (.slice (some ⟨b',0,none⟩) ((vO (p.globals.take i) [] []).2.length + 1) c',h18):=fun r'=>
   (Oc r' _ _ 1 [.int .i64 (w8 (vO (p.globals.take i) [] []).1 n).2.1] _ rfl (by simp only [uJ,yd];rfl) rfl rfl).trans a1
  simp -implicitDefEqProofs only [EE,zw,u9,Oh,Eu,tp,lV,gM,L9,gn,hap]
  refine wx (s18.p 3) (by simp [vP]) rfl fun h19 s19 => ?_
  rw [Pu] at s19
  simp -implicitDefEqProofs only [EE,nth,hin]
  refine ⟨p.globals.length - (i + 1),by omega,i + 1,.slice (some ⟨b',0,none⟩) ((vO (p.globals.take i) [] []).2.length + 1) c',by omega,rfl,rfl,?_⟩
  rw [e1]
  rw [aae]
  exact (s19.p 2).drop.f [1,0]
 ·have e:i=p.globals.length:=by omega
  subst e
  rw [aav] at s1
  simp -implicitDefEqProofs only [EE,nth,hc]
  exact k h1 gl s1
end
section
variable {h:za} {p:Pg} {av wv:Value} {args world:List Int} {lim:Int}
theorem IA (P:kG h p) (g:Ih p) (ha:zE h av args) (ha6:args.length<=6) (hw:zE h wv world) (hwl:world.length * 8<=2 ^ 47) :
  DC Tryz.prog 38 [p.val,av,wv,.int .i64 lim] h (fun v h' => ∃ b mb wb wn lv gl lo1,v=xK b/\(yV.of h).Le lo1/\Rd lo1 (VW p lv)/\Rd lo1 (zE · gl (XV p args).gl)/\Sat lo1 h' (Vl p b mb wb wn world lim lv gl (XV p args) (.slice none 0 0) (.slice none 0 0) (.slice none 0 0))):=by
 apply YA;intro wf
 apply AR
 unfold oh
 have s0:Sat (.of h) h []:=Sat.self wf.2
 have RP:Rd (.of h) (kG · p):=Rd.of (yV.qc h) P fun h' o=>P.old o
 have RA:Rd (.of h) (zE · av args):=Rd.of (yV.qc h) ha fun h' o=>ha.old o
 have RW:Rd (.of h) (zE · wv world):=Rd.of (yV.qc h) hw fun h' o=>hw.old o
 have gvn:=P.globals.YR
 have gvc:=P.globals.gJ
 have fvn:=P.funcs.YR
 have fvc:=P.funcs.gJ
 have avn:=ha.YR
 have wvn:=hw.YR
 have al:=L6 ha 3
 simp -implicitDefEqProofs only [EE,Value.cells]
 refine Di s0 wf fun b4 h2 wf2 s2 => ?_
 have g4:=s2.get
 simp -implicitDefEqProofs only [EE,Sf,Nat.reduceAdd,ye,VE,g4]
 refine oZ (by kernel_rfl) rfl wf2 s2 (Nk (Sat.self wf2.lock.2)) ?_
 rintro v h3 ⟨mb,rfl,s3⟩ back wf4
 have s4:=back _ s3
 clear back s3
 generalize qv h2 h3=h4 at wf4 s4 ⊢
 refine oZ (by kernel_rfl) (by simp only [yN,wvn,SK]) wf4 s4 (NK (RW.at s4).lock hwl (Sat.self wf4.lock.2)) ?_
 rintro v h5 ⟨wb,wn,rfl,s5⟩ back wf6
 have s6:=back _ s5
 clear back s5
 generalize qv h4 h5=h6 at wf6 s6 ⊢
 unfold xK
 have bd:=Iy P mb wb lim
 simp -implicitDefEqProofs only [EE,Value.cells,zw,u9,w5,fK,bd]
 refine vy s6 fun b h7 s7 => ?_
 have g4:=(s7.p 4).get
 have PG:=(RP.at s7).globals
 have gl7:=Qn PG
 simp -implicitDefEqProofs only [EE,↓yL,g4,gvn,gl7]
 refine IY RP g (s7.f [0,3]) fun h8 gl s8 => ?_
 have g4:=(s8.p 5).get
 have fl8:=WI (RP.at s8).funcs 3
 unfold fJ
 simp -implicitDefEqProofs only [EE,↓yL,zw,qa,wF,g4,fvn,fl8]
 refine IT RP g (s8.p 1) fun h9 lo1 lv le1 hL s9 => ?_
 unfold fI
 simp -implicitDefEqProofs only [EE,Value.cells,MJ,GJ]
 refine vy s9 fun b19 h10 s10 => ?_
 simp -implicitDefEqProofs only [EE,Nat.reduceAdd,ME]
 refine wx s10 (by simp) rfl fun h11 s11 => ?_
 simp -implicitDefEqProofs only [EE,↓yL,avn,al]
 refine MC (RA.mono le1) ha6 (s11.f [1,0]) fun h12 s12 => ?_
 obtain ⟨lo2,le2,hg,s13,_⟩:=HV (s12.p 2) (k8 (f:=qX) (fun _=>rfl) _)
 simp -implicitDefEqProofs only [EE]
 refine ⟨b,mb,wb,wn,lv,gl,lo2,rfl,le1.trans le2,hL.mono le2,fun h b=>HW (hg h b),?_⟩
 have s14:=Ke 80 3 (Ke 85 2 (Ke 134 7 s13))
 exact s14.k [3,0,1,2,5,6,7]
end
def Z0 (p:Pg) (args:List Int) (fuel lim:Int):Prop:=dL p=true/\(args.length:Int)=p.params/\0<=fuel/\fuel<=100000000/\0<=lim/\lim<=2147483647
instance (p:Pg) (args:List Int) (fuel lim:Int):Decidable (Z0 p args fuel lim):=by unfold Z0;infer_instance
def YY (kind exit:Int) (ev lk:Value) (steps:Int):Value := .agg #[.int .i64 kind,.int .i64 exit,ev,lk,.int .i64 steps]
def Fw (h:za) (p:Pg) (lim:Int) (args world:List Int) (lab:Bool) (fuel:Int) (w:St->Value->Value->Value) (v:Value) (h':za):Prop := ∃ T ev lk,Ends p lim args world lab fuel T/\v=w T ev lk/\Sat (.of h) h' [Za 85 2 ev (T.ev.map jF),Za 80 3 lk (T.lk.map qw)]
def Fv (h:za) (w:Value) (v:Value) (h':za):Prop:=v=w/\Sat (.of h) h' []
def EY:Value:=YY 0 0 (.slice none 0 0) (.slice none 0 0) 0
def Dj (T:St) (ev lk:Value):Value := .tuple #[YY T.kind T.exit ev lk T.steps,.int .i64 T.wD,.int .i64 0]
section
variable {h:za} {p:Pg} {av wv:Value} {args world:List Int} {lim fuel:Int} {lab:Bool}
theorem Ft (P:kG h p) (ha:zE h av args) (hw:zE h wv world) (hwl:world.length * 8<=2 ^ 47) :
  DC Tryz.prog 21 [p.val,av,wv,.int .i64 fuel,.int .i64 lim,.bool lab] h (fun v h'=>if Z0 p args fuel lim then Fw h p lim args world lab fuel Dj v h' else Fv h (.tuple #[EY,.int .i64 0,.int .i64 1]) v h'):=by
 apply YA;intro wf
 apply DS
 unfold AM
 have s0:Sat (.of h) h []:=Sat.self wf.2
 have RP:Rd (.of h) (kG · p):=Rd.of (yV.qc h) P fun h' o=>P.old o
 have RA:Rd (.of h) (zE · av args):=Rd.of (yV.qc h) ha fun h' o=>ha.old o
 have RW:Rd (.of h) (zE · wv world):=Rd.of (yV.qc h) hw fun h' o=>hw.old o
 have gvn:=P.globals.YR
 have gvc:=P.globals.gJ
 have fvn:=P.funcs.YR
 have fvc:=P.funcs.gJ
 have avn:=ha.YR
 have wvn:=hw.YR
 have al:=L6 ha 3
 simp -implicitDefEqProofs only [EE,Value.cells,KA]
 refine vy s0 fun b6 h2 s2 => ?_
 simp -implicitDefEqProofs only [EE,ye,VE]
 refine vy s2 fun b12 h4 s4 => ?_
 have g6:=(s4.p 1).get
 simp -implicitDefEqProofs only [EE,Sf,Nat.reduceAdd,g6]
 refine zh (by kernel_rfl) (by simp only [yN];rfl) (Jc (RP.at s4)) ?_
 have bad:∀ J,¬ Z0 p args fuel lim->fk (.pointer (some ⟨b12,0,none⟩)) h4 (fun v h'=>if Z0 p args fuel lim then Fw h p lim args world lab fuel Dj v h' else Fv h (.tuple #[EY,.int .i64 0,.int .i64 1]) v h') J:=by
  intro J hb
  unfold fk
  simp -implicitDefEqProofs only [EE,Nat.reduceAdd,UJ,ML]
  refine wx s4 (by simp) rfl fun h5 s5 => ?_
  have g7:=s5.get
  simp -implicitDefEqProofs only [EE,zf,Sf,Nat.reduceAdd,ye,Ky,g7]
  refine ⟨rfl,?_⟩
  show if Z0 p args fuel lim then _ else _
  rw [Sl hb]
  exact ⟨rfl,s5.drop.drop⟩
 cases hg:dL p with
 | false=>
   simp -implicitDefEqProofs only [EE,Xu,Xv,Xw,Xx,Xy,Xz,Yr]
   exact bad _ (by unfold Z0;rw [hg];simp)
 | true=>
 by_cases e1:¬ (args.length:Int)=p.params
 ·simp -implicitDefEqProofs only [EE,zw,zi,ZJ,Xu,Xv,Xw,Xx,Xy,Xz,Yr,avn,al,g6,e1]
  exact bad _ (by unfold Z0;omega)
 have e1:(args.length:Int)=p.params:=Classical.not_not.1 e1
 by_cases e2:fuel < 0
 ·simp -implicitDefEqProofs only [EE,zw,zi,ZJ,Xu,Xv,Xw,Xx,Xy,Xz,Yr,avn,al,g6,e1,e2]
  exact bad _ (by unfold Z0;omega)
 by_cases e3:fuel > 100000000
 ·simp -implicitDefEqProofs only [EE,zw,zi,ZJ,Xu,Xv,Xw,Xx,Xy,Xz,Yr,avn,al,g6,e1,e2,e3]
  exact bad _ (by unfold Z0;omega)
 by_cases e4:lim < 0
 ·simp -implicitDefEqProofs only [EE,zw,zi,ZJ,Xu,Xv,Xw,Xx,Xy,Xz,Yr,avn,al,g6,e1,e2,e3,e4]
  exact bad _ (by unfold Z0;omega)
 by_cases e5:lim > 2147483647
 ·simp -implicitDefEqProofs only [EE,zw,zi,ZJ,Xu,Xv,Xw,Xx,Xy,Xz,Yr,avn,al,g6,e1,e2,e3,e4,e5]
  exact bad _ (by unfold Z0;omega)
 simp -implicitDefEqProofs only [EE,zw,zi,ZJ,Xu,Xv,Xw,Xx,Xy,Xz,Yr,avn,al,g6,e1,e2,e3,e4,e5]
 have hok:Z0 p args fuel lim:=⟨hg,e1,by omega,by omega,by omega,by omega⟩
 simp only [Sn hok]
 have g:=IZ hg
 have gp:=g.par
 unfold rG
 simp -implicitDefEqProofs only [EE,Sf,Nat.reduceAdd,ye,VE,g6]
 refine z7 (by kernel_rfl) (by simp only [yN,avn,wvn,SK];rfl) (IA (RP.at s4) g (RA.at s4) (by omega) (RW.at s4) hwl) ?_
 rintro v h5 ⟨b,mb,wb,wn,lv,gl,lo1,rfl,le1,hL,hgl,s5⟩
 simp -implicitDefEqProofs only []
 have RP1:Rd lo1 (kG · p):=(Rd.of (yV.qc h4) (RP.at s4) fun h' o=>kG.old (RP.at s4) o).mono le1
 refine z7 (by kernel_rfl) rfl (Nr RP1 g (by omega) hgl hL (by omega) (by omega) s5 (Iz g (by omega) (by omega) args) rfl rfl rfl rfl) ?_
 rintro v h6 ⟨T,LT,kT,ev,lk,cl,s6⟩
 have s7:=s4.join (s6.mono le1)
 have gm:=s7.get
 unfold xI at gm
 have hne:¬ b12=b:=(s7.p 7).ne
 have hne2:¬ b=b12:=fun q=>hne q.symm
 have en:=qT (s7.p 2)
 have ec:=ZM (s7.p 2)
 have kn:=qT (s7.p 1)
 have kc:=ZM (s7.p 1)
 unfold xK
 simp -implicitDefEqProofs only [EE,Sf,Nat.reduceAdd,Nat.reduceLeDiff,ne_eq,ye,zw,zi,Ky,UJ,nF,jZ,rF,gm,aK,Nu,Md,sK,hne,ne_eq,true_or]
 refine wx (s7.p 7) (by simp) (by simp [ec,kc];exact ⟨rfl,rfl,rfl⟩) fun h8 s8 => ?_
 have g8:=s8.get
 simp -implicitDefEqProofs only [EE,zf,Sf,Nat.reduceAdd,ye,Ky,g8]
 obtain ⟨n,hn⟩:=LT.run
 refine ⟨by simp only [yN];rfl,?_⟩
 exact ⟨T,ev,lk,⟨kT,n,hn⟩,rfl,s8.k [3,2]⟩
theorem oW {a b c:Value} (ha:ym a=false) (hb:ym b=false) (hc:ym c=false):YW (.tuple #[a,b,c]) 0=some a:=(gE (by simp only [yN,ha,hb,hc,SK])).trans rfl
theorem oX {a b c:Value} (ha:ym a=false) (hb:ym b=false) (hc:ym c=false):YW (.tuple #[a,b,c]) 1=some b:=(gE (by simp only [yN,ha,hb,hc,SK])).trans rfl
theorem oY {a b c:Value} (ha:ym a=false) (hb:ym b=false) (hc:ym c=false):YW (.tuple #[a,b,c]) 2=some c:=(gE (by simp only [yN,ha,hb,hc,SK])).trans rfl
def HQ (T:St) (ev lk:Value):Value := .tuple #[YY T.kind T.exit ev lk T.steps,.int .i64 0]
theorem CA (P:kG h p) (ha:zE h av args) (hw:zE h wv world) (hwl:world.length * 8<=2 ^ 47) :
  DC Tryz.prog 9 [p.val,av,wv,.int .i64 fuel,.int .i64 lim] h (fun v h'=>if Z0 p args fuel lim then Fw h p lim args world true fuel HQ v h' else Fv h (.tuple #[EY,.int .i64 1]) v h'):=by
 apply YA;intro wf
 apply FK
 unfold FI
 have s0:Sat (.of h) h []:=Sat.self wf.2
 have RP:Rd (.of h) (kG · p):=Rd.of (yV.qc h) P fun h' o=>P.old o
 have RA:Rd (.of h) (zE · av args):=Rd.of (yV.qc h) ha fun h' o=>ha.old o
 have RW:Rd (.of h) (zE · wv world):=Rd.of (yV.qc h) hw fun h' o=>hw.old o
 have gvn:=P.globals.YR
 have gvc:=P.globals.gJ
 have fvn:=P.funcs.YR
 have fvc:=P.funcs.gJ
 have avn:=ha.YR
 have wvn:=hw.YR
 simp -implicitDefEqProofs only [EE,Value.cells,KA]
 refine vy s0 fun b5 h2 s2 => ?_
 simp -implicitDefEqProofs only [EE,ye,VE]
 refine vy s2 fun b10 h4 s4 => ?_
 have g5:=(s4.p 1).get
 simp -implicitDefEqProofs only [EE,Sf,Nat.reduceAdd,g5]
 refine z7 (by kernel_rfl) (by simp only [yN,avn,wvn,SK];rfl) (Ft (fuel:=fuel) (lim:=lim) (lab:=true) (RP.at s4) (RA.at s4) (RW.at s4) hwl) ?_
 rintro v h7 hv
 by_cases hb:Z0 p args fuel lim
 ·rw [Sn hb] at hv
  obtain ⟨T,ev,lk,hT,rfl,s8⟩:=hv
  have s9:=s4.join s8
  have en:=qT s9
  have ec:=ZM s9
  have kn:=qT (s9.p 1)
  have kc:=ZM (s9.p 1)
  unfold Dj YY
  simp -implicitDefEqProofs only [EE,Value.cells,KA,oe,oW,oX,oY]
  refine vy s9 fun b12 h10 s10 => ?_
  simp -implicitDefEqProofs only [EE,Nat.reduceAdd,UJ]
  refine wx s10 (by simp) (by simp [ec,kc];exact ⟨rfl,rfl,rfl⟩) fun h11 s11 => ?_
  have g11:=s11.get
  simp -implicitDefEqProofs only [EE,zf,Sf,Nat.reduceAdd,ye,Ky,UJ,g11]
  refine wx (s11.p 3) (by simp) (by simp [ec,kc];exact ⟨rfl,rfl,rfl⟩) fun h12 s12 => ?_
  have g12:=s12.get
  simp -implicitDefEqProofs only [EE,zf,Sf,Nat.reduceAdd,ye,Ky,g12]
  rw [Sn hb]
  exact ⟨T,ev,lk,hT,rfl,s12.k [2,3]⟩
 ·rw [Sl hb] at hv
  obtain ⟨rfl,s8⟩:=hv
  have s9:=s4.join s8
  unfold EY YY
  simp -implicitDefEqProofs only [EE,Value.cells,KA,oe,oW,oX,oY]
  refine vy s9 fun b12 h10 s10 => ?_
  simp -implicitDefEqProofs only [EE,Nat.reduceAdd,UJ]
  refine wx s10 (by simp) rfl fun h11 s11 => ?_
  have g11:=s11.get
  simp -implicitDefEqProofs only [EE,zf,Sf,Nat.reduceAdd,ye,Ky,UJ,g11]
  refine wx (s11.p 1) (by simp) rfl fun h12 s12 => ?_
  have g12:=s12.get
  simp -implicitDefEqProofs only [EE,zf,Sf,Nat.reduceAdd,ye,Ky,g12]
  rw [Sl hb]
  exact ⟨rfl,s12.zH 0⟩
end
end Go.As
namespace Go.Am
open Go.Ai Go.Proofs
open Go.Rtl (zE zW Old inc yS xq)
open Go.As (YY)
open Go.Rm (jF qw k8 Rd Rd.of Rd.at)
theorem HK {P:Program} {f:FuncId} {args:List Value} {h:za} (wf:du h) (d:DC P f args h.lock (fun v _ => ∃ B,v = .bool B)):∃ B,vC P f args h (.bool B):=by
 obtain ⟨v,h1,⟨B,rfl⟩,_,t⟩:=d wf.lock
 exact ⟨B,rfl,t.mono fun v h1 e=>e.1⟩
section
variable {h:za} {av bv:Value}
theorem OU {h:za} {sv:Value} {l:List (Int × Int)} (S:zW h sv 2 (l.map jF)) (r:TypeId) (h':za):zn Tryz.prog .len [30] r [sv] h'=some (.int .i64 l.length,h'):=by
 rcases S with ⟨rfl,e⟩ | ⟨b,off,cp,rfl,_⟩
 ·have:l = []:=by simpa using e
  subst this
  simp only [B5,SF]
 ·simp only [B5,SX]
theorem I8 {h:za} {sv:Value} {l:List (Int × Int × Int)} (S:zW h sv 3 (l.map qw)) (r:TypeId) (h':za):zn Tryz.prog .len [31] r [sv] h'=some (.int .i64 l.length,h'):=by
 rcases S with ⟨rfl,e⟩ | ⟨b,off,cp,rfl,_⟩
 ·have:l = []:=by simpa using e
  subst this
  simp only [B6,SF]
 ·simp only [B6,SX]
theorem Dk {α:Type} {a b:List α} (p:a <+: b):a.length<=b.length:=p.length_le
theorem Lj {α:Type} {a b:List α} (p:a <+: b) {i:Nat} {x:α} (h:a[i]? = some x):b[i]? = some x:=by
 obtain ⟨c,rfl⟩:=p
 have hi:i < a.length:=by
  rcases SC i a.length with q | q
  ·exact q
  ·rw [Sr q] at h;cases h
 rw [Tl hi];exact h
theorem tk {a b:List (Int × Int)} {all:Bool} (A:zW h av 2 (a.map jF)) (B:zW h bv 2 (b.map jF)) (hl:a.length < 4611686018427387904) (p:a <+: b) (e:all=true->a=b):vC Tryz.prog 16 [av,bv,.bool all] h (.bool true):=by
 apply yS
 replace A:=A.lock
 replace B:=B.lock
 generalize h.lock=L at A B
 apply rn
 unfold eZ
 have an:=A.YR
 have bn:=B.YR
 have al:=OU A 3
 have bl:=OU B 3
 have c1:¬ (a.length:Int) > (b.length:Int):=by have:=Dk p;omega
 have rest:KM (.bool false) (fun v _=>v = .bool true) av bv (.bool false) L:=by
  simp -implicitDefEqProofs only [EE,nth,↓yL,KM]
  refine Zb (fun m vs h' => ∃ (i:Nat),i<=a.length/\m=a.length - i/\vs = [.bool false,.int .i64 (i:Nat)]/\h'=L) a.length ⟨0,Th _,rfl,rfl,rfl⟩ ?_
  rintro m vs h' ⟨i,hi,rfl,rfl,rfl⟩
  unfold e9
  by_cases hc:(i:Int) < (a.length:Int)
  ·obtain ⟨x,hx⟩:∃ x,a[i]? = some x:=⟨_,Sk (by omega)⟩
   have hy:=Lj p hx
   have h0:(0:Int)<=i:=by omega
   have hc2:(i:Int) < (b.length:Int):=by have:=Dk p;omega
   obtain ⟨b1,o1,c1',t1,⟨off1,cp1,rfl,rfl⟩,hi1,hb1,hg1,hl1,ht1,_⟩:=A.spot (i:=i) (r:=jF x) (by rw [SI,hx];rfl) rfl
   obtain ⟨b2,o2,c2',t2,⟨off2,cp2,rfl,rfl⟩,hi2,hb2,hg2,hl2,ht2,_⟩:=B.spot (i:=i) (r:=jF x) (by rw [SI,hy];rfl) rfl
   rw [SX] at *
   unfold jF at ht1 ht2
   simp -implicitDefEqProofs only [EE,nth,↓yL,Sf,ye,T8,N9,OR,B5,Nm,e7,e8,hc,hc2,h0,hg1,hl1,ht1,hg2,hl2,ht2,SJ,inc (show i < 4611686018427387904 by omega),T8,Bool.and_self]
   exact ⟨a.length - (i + 1),by omega,i + 1,by omega,rfl,rfl⟩
  ·simp -implicitDefEqProofs only [EE,nth,hc,an,al]
 cases all with
 | false=>
   simp -implicitDefEqProofs only [EE,KN,KO,KP,an,bn,al,bl,c1]
   exact rest
 | true=>
   have e:=e rfl
   subst e
   simp -implicitDefEqProofs only [EE,KN,KO,KP,an,bn,al,bl,c1]
   exact rest
end
section
variable {h:za} {k1 e1 s1 k2 e2 s2:Int} {IJ Ay ev2 lk2:Value}
abbrev vx (k e:Int) (ev lk:Value) (s:Int):vi := .cells [.int .i64 k,.int .i64 e,ev,lk,.int .i64 s] 33
theorem Ny {a b:List (Int × Int)} (A:zW h IJ 2 (a.map jF)) (B:zW h ev2 2 (b.map jF)) (hl:a.length < 4611686018427387904) (hk:k1=k2) (he:e1=e2) (ha:a=b) (n1:ym Ay=false) (n2:ym lk2=false):vC Tryz.prog 12 [YY k1 e1 IJ Ay s1,YY k2 e2 ev2 lk2 s2] h (.bool true):=by
 apply yS
 replace A:=A.lock
 replace B:=B.lock
 generalize h.lock=L at A B
 apply YA;intro wf
 have s0:Sat (.of L) L []:=Sat.self wf.2
 have RA:Rd (.of L) (zW · IJ 2 (a.map jF)):=Rd.of (yV.qc L) A fun h' o=>A.old o
 have RB:Rd (.of L) (zW · ev2 2 (b.map jF)):=Rd.of (yV.qc L) B fun h' o=>B.old o
 apply DU
 unfold AN YY
 subst hk he ha
 have an:=A.YR
 have bn:=B.YR
 simp -implicitDefEqProofs only [EE,Value.cells]
 refine vy s0 fun ba h2 s2 => ?_
 refine vy s2 fun bb h3 s3 => ?_
 have g1:=(s3.p 1).get
 have g2:=s3.get
 simp -implicitDefEqProofs only [EE,zw,yQ,zi,CW,YL,ph,eL,rH,rI,rJ,rK,rL,g1,g2]
 refine zh (by kernel_rfl) (by simp only [yN,an,bn,SK];rfl) (tk (RA.at s3) (RB.at s3) hl (TB _) fun _=>rfl) ?_
 simp -implicitDefEqProofs only [EE]
 rfl
theorem I5 {a b:List (Int × Int × Int)} (A:zW h Ay 3 (a.map qw)) (B:zW h lk2 3 (b.map qw)) (hl:a.length < 4611686018427387904) (hk:k1=k2) (ha:a=b) (n1:ym IJ=false) (n2:ym ev2=false):vC Tryz.prog 13 [YY k1 e1 IJ Ay s1,YY k2 e2 ev2 lk2 s2] h (.bool true):=by
 apply yS
 replace A:=A.lock
 replace B:=B.lock
 generalize h.lock=L at A B
 apply YA;intro wf
 have s0:Sat (.of L) L []:=Sat.self wf.2
 have RA:Rd (.of L) (zW · Ay 3 (a.map qw)):=Rd.of (yV.qc L) A fun h' o=>A.old o
 have RB:Rd (.of L) (zW · lk2 3 (b.map qw)):=Rd.of (yV.qc L) B fun h' o=>B.old o
 apply AI
 unfold oc YY
 subst hk ha
 have an:=A.YR
 have bn:=B.YR
 simp -implicitDefEqProofs only [EE,Value.cells]
 refine vy s0 fun ba h2 s2 => ?_
 refine vy s2 fun bb h3 s3 => ?_
 have g1:=(s3.p 1).get
 have g2:=s3.get
 have al:=I8 (RA.at s3) 3
 have bl:=I8 (RB.at s3) 3
 have c1:¬ ¬ (a.length:Int)=(a.length:Int):=by simp
 simp -implicitDefEqProofs only [EE,nth,↓yL,zw,zi,nh,YL,Q5,lQ,lR,lS,lT,g1,g2,an,bn,al,bl]
 refine Zb (fun m vs h' => ∃ (i:Nat),i<=a.length/\m=a.length - i/\vs = [.bool false,.int .i64 (i:Nat)]/\h'=h3) a.length ⟨0,Th _,rfl,rfl,rfl⟩ ?_
 rintro m vs h' ⟨i,hi,rfl,rfl,rfl⟩
 unfold lP
 by_cases hc:(i:Int) < (a.length:Int)
 ·obtain ⟨x,hx⟩:∃ x,a[i]? = some x:=⟨_,Sk (by omega)⟩
  have h0:(0:Int)<=i:=by omega
  obtain ⟨b1,o1,c1',t1,⟨off1,cp1,rfl,rfl⟩,hi1,hb1,hg1,hl1,ht1,_⟩:=(RA.at s3).spot (i:=i) (r:=qw x) (by rw [SI,hx];rfl) rfl
  obtain ⟨b2,o2,c2',t2,⟨off2,cp2,rfl,rfl⟩,hi2,hb2,hg2,hl2,ht2,_⟩:=(RB.at s3).spot (i:=i) (r:=qw x) (by rw [SI,hx];rfl) rfl
  rw [SX] at *
  unfold qw at ht1 ht2
  simp -implicitDefEqProofs only [EE,nth,↓yL,Sf,ye,zw,T8,nh,N8,Q5,OS,B6,Nl,lN,lO,hc,h0,g1,g2,hg1,hl1,ht1,hg2,hl2,ht2,SJ,inc (show i < 4611686018427387904 by omega),T8,Bool.and_self]
  exact ⟨a.length - (i + 1),by omega,i + 1,by omega,rfl,rfl⟩
 ·simp -implicitDefEqProofs only [EE,nth,zw,nh,Q5,hc,g1,an,al]
  rfl
end
section
variable {h:za} {p:Go.As.Pg}
open Go.As (Pg kG Wy dE gD Qn WI YP)
theorem OF (P:kG h p) (wf:du h):∃ B,vC Tryz.prog 7 [p.val] h (.bool B):=by
 refine HK wf ?_
 replace P:=P.lock
 replace wf:=wf.lock
 generalize h.lock=L at P wf
 have s0:Sat (.of L) L []:=Sat.self wf.2
 have RP:Rd (.of L) (kG · p):=Rd.of (yV.qc L) P fun h' o=>P.old o
 apply F7
 unfold F5
 have gvn:=P.globals.YR
 have gvc:=P.globals.gJ
 have fvn:=P.funcs.YR
 have fvc:=P.funcs.gJ
 simp -implicitDefEqProofs only [EE,Value.cells]
 refine vy s0 fun b5 h2 s2 => ?_
 have g5:=s2.get
 have fl:=WI (RP.at s2).funcs 3
 have gl:=Qn (RP.at s2).globals 3
 by_cases c1:(p.funcs.length:Int) > 8
 ·simp -implicitDefEqProofs only [EE,zw,qa,wF,JE,JF,g5,fvn,fl,c1]
  exact ⟨_,rfl⟩
 by_cases c2:(p.globals.length:Int) > 8
 ·simp -implicitDefEqProofs only [EE,zw,u9,qa,w5,wF,JE,JF,g5,gvn,fvn,fl,gl,c1,c2]
  exact ⟨_,rfl⟩
 simp -implicitDefEqProofs only [EE,nth,↓yL,zw,u9,qa,w5,wF,rW,JE,JF,g5,gvn,fvn,fl,gl,c1,c2]
 refine Zb (fun m vs h' => ∃ (i:Nat) (v0:Value),i<=p.funcs.length/\m=p.funcs.length - i/\vs = [v0,.int .i64 (i:Nat)]/\h'=h2) p.funcs.length ⟨0,_,Th _,rfl,rfl,rfl⟩ ?_
 rintro m vs h' ⟨i,v0,hi,rfl,rfl,rfl⟩
 unfold rT
 by_cases hc:(i:Int) < (p.funcs.length:Int)
 ·obtain ⟨f,hf⟩:∃ f,p.funcs[i]? = some f:=⟨_,Sk (by omega)⟩
  obtain ⟨bf,o,cf,tf,hix,hbf,hgf,hof,htf,hkf⟩:=dE (RP.at s2).funcs (i:=i) (r:=f.row) (by rw [SI,hf];rfl) rfl
  have F:=(RP.at s2).fns f (S7 hf)
  have cn:=F.code.YR
  have cl:=YP F.code 3
  have k1:=hkf 1 (by decide)
  have k1:cf[o + 1]? = some f.cv:=k1
  have hin:=inc (show i < 4611686018427387904 by omega)
  by_cases d1:(f.code.length:Int) > 80
  ·simp -implicitDefEqProofs only [EE,nth,↓yL,zw,qa,ZX,wF,u7,fU,hc,g5,fvn,fl,hix,hgf,k1,cn,cl,d1]
   exact ⟨_,rfl⟩
  simp -implicitDefEqProofs only [EE,nth,↓yL,zw,qa,ZX,wF,u7,fU,rS,hc,g5,fvn,fl,hix,hgf,k1,cn,cl,d1]
  refine Zb (fun m vs h9 => ∃ (j:Nat) (v0:Value),j<=f.code.length/\m=f.code.length - j/\vs = [v0,.int .i64 (j:Nat)]/\h9=h') f.code.length ⟨0,_,Th _,rfl,rfl,rfl⟩ ?_
  rintro m vs h9 ⟨j,v1,hj,rfl,rfl,rfl⟩
  unfold CP
  by_cases hc2:(j:Int) < (f.code.length:Int)
  ·obtain ⟨x,hx⟩:∃ x,f.code[j]? = some x:=⟨_,Sk (by omega)⟩
   obtain ⟨bi,oi,ci,ti,ha,hbi,hgi,hle,htk,hki⟩:=Wy F.code (i:=j) (r:=x.row) (by rw [SI,hx];rfl) rfl
   have q0:=hki 0 (by decide)
   have q0:ci[oi]? = some (.int .i64 x.op):=q0
   have q6:=hki 6 (by decide)
   have q6:ci[oi + 6]? = some (.int .i64 x.k):=q6
   have hjn:=inc (show j < 4611686018427387904 by omega)
   by_cases e1:x.op=23
   ·by_cases e2:x.k > 1024
    ·simp -implicitDefEqProofs only [EE,nth,↓yL,zw,yQ,qa,zi,ZX,wF,u7,zg,zQ,eC,eD,eE,eF,eG,eH,eI,hc2,g5,hix,hgf,k1,cn,cl,ha,hgi,q0,q6,e1,e2]
     exact ⟨_,rfl⟩
    ·simp -implicitDefEqProofs only [EE,nth,↓yL,zw,yQ,qa,zi,ZX,wF,u7,zg,zQ,eC,eD,eE,eF,eG,eH,eI,ot,hc2,g5,hix,hgf,k1,cn,cl,ha,hgi,q0,q6,e1,e2,hjn]
     exact ⟨f.code.length - (j + 1),by omega,j + 1,_,by omega,rfl,rfl⟩
   ·simp -implicitDefEqProofs only [EE,nth,↓yL,zw,qa,zi,ZX,wF,u7,zg,eC,eD,eE,eF,eG,eH,eI,ot,hc2,g5,hix,hgf,k1,cn,cl,ha,hgi,q0,e1,hjn]
    exact ⟨f.code.length - (j + 1),by omega,j + 1,_,by omega,rfl,rfl⟩
  ·simp -implicitDefEqProofs only [EE,nth,zw,qa,ZX,wF,u7,hc2,g5,hix,hgf,k1,cn,cl,hin]
   exact ⟨p.funcs.length - (i + 1),by omega,i + 1,_,by omega,rfl,rfl⟩
 simp -implicitDefEqProofs only [EE,nth,zw,qa,wF,hc,g5,fvn,fl]
 refine Zb (fun m vs h9 => ∃ (i:Nat) (v0:Value),i<=p.globals.length/\m=p.globals.length - i/\vs = [v0,.int .i64 (i:Nat)]/\h9=h') p.globals.length ⟨0,_,Th _,rfl,rfl,rfl⟩ ?_
 rintro m vs h9 ⟨i,v0,hi,rfl,rfl,rfl⟩
 unfold rV
 by_cases hc:(i:Int) < (p.globals.length:Int)
 ·obtain ⟨z,hz⟩:∃ z,p.globals[i]? = some z:=⟨_,Sk (by omega)⟩
  obtain ⟨b11,o11,c11,t11,ix11,lt11,g11,k11⟩:=gD (RP.at s2).globals hz
  have hin:=inc (show i < 4611686018427387904 by omega)
  by_cases d1:z > 1024
  ·simp -implicitDefEqProofs only [EE,nth,↓yL,zw,u9,zi,w5,fV,hc,g5,gvn,gl,ix11,g11,k11,d1]
   exact ⟨_,rfl⟩
  simp -implicitDefEqProofs only [EE,nth,↓yL,zw,u9,zi,w5,fV,rU,hc,g5,gvn,gl,ix11,g11,k11,d1,hin]
  exact ⟨p.globals.length - (i + 1),by omega,i + 1,_,by omega,rfl,rfl⟩
 simp -implicitDefEqProofs only [EE,nth,zw,u9,w5,hc,g5,gvn,gl]
 exact ⟨_,rfl⟩
end
end Go.Am
namespace Go.As
open Go.Ai Go.Proofs Go.Mem Go.Rm
open Go.Rtl (zE zW Old yS xq inc vY wH)
def HH (T:St) (_ _:Value):Value := .tuple #[.int .i64 T.wD,.int .i64 0]
section
variable {h:za} {p:Pg} {av wv:Value} {args world:List Int} {lim fuel:Int} {lab:Bool}
theorem Fs (P:kG h p) (ha:zE h av args) (hw:zE h wv world) (hwl:world.length * 8<=2 ^ 47) :
  DC Tryz.prog 11 [p.val,av,wv,.int .i64 fuel] h (fun v h'=>if Z0 p args fuel 2147483647 then Fw h p 2147483647 args world true fuel HH v h' else Fv h (.tuple #[.int .i64 0,.int .i64 1]) v h'):=by
 apply YA;intro wf
 apply DQ
 unfold AJ
 have s0:Sat (.of h) h []:=Sat.self wf.2
 have RP:Rd (.of h) (kG · p):=Rd.of (yV.qc h) P fun h' o=>P.old o
 have RA:Rd (.of h) (zE · av args):=Rd.of (yV.qc h) ha fun h' o=>ha.old o
 have RW:Rd (.of h) (zE · wv world):=Rd.of (yV.qc h) hw fun h' o=>hw.old o
 have gvn:=P.globals.YR
 have gvc:=P.globals.gJ
 have fvn:=P.funcs.YR
 have fvc:=P.funcs.gJ
 have avn:=ha.YR
 have wvn:=hw.YR
 simp -implicitDefEqProofs only [EE,Value.cells]
 refine vy s0 fun b4 h2 s2 => ?_
 have g4:=s2.get
 simp -implicitDefEqProofs only [EE,Sf,Nat.reduceAdd,ye,VE,g4]
 refine z7 (by kernel_rfl) (by simp only [yN,avn,wvn,SK];rfl) (Ft (fuel:=fuel) (lim:=2147483647) (lab:=true) (RP.at s2) (RA.at s2) (RW.at s2) hwl) ?_
 rintro v h7 hv
 by_cases hb:Z0 p args fuel 2147483647
 ·rw [Sn hb] at hv
  obtain ⟨T,ev,lk,hT,rfl,s8⟩:=hv
  have s9:=s2.join s8
  have en:=qT s9
  have ec:=ZM s9
  have kn:=qT (s9.p 1)
  have kc:=ZM (s9.p 1)
  unfold Dj YY
  simp -implicitDefEqProofs only [EE,Value.cells,KA,fj,oW,oX,oY]
  refine vy s9 fun b12 h10 s10 => ?_
  simp -implicitDefEqProofs only [EE,Nat.reduceAdd,UJ]
  refine wx s10 (by simp) (by simp [ec,kc];exact ⟨rfl,rfl,rfl⟩) fun h11 s11 => ?_
  simp -implicitDefEqProofs only [EE]
  rw [Sn hb]
  exact ⟨T,ev,lk,hT,rfl,s11.k [1,2]⟩
 ·rw [Sl hb] at hv
  obtain ⟨rfl,s8⟩:=hv
  have s9:=s2.join s8
  unfold EY YY
  simp -implicitDefEqProofs only [EE,Value.cells,KA,fj,oW,oX,oY]
  refine vy s9 fun b12 h10 s10 => ?_
  simp -implicitDefEqProofs only [EE,Nat.reduceAdd,UJ]
  refine wx s10 (by simp) rfl fun h11 s11 => ?_
  simp -implicitDefEqProofs only [EE]
  rw [Sl hb]
  exact ⟨rfl,s11.zH 0⟩
end
structure NZ (L M:Int) (S:St) (r q:St × Bool):Prop where
 mono:S.wD<=r.1.wD
 Jh:S.wD<=M->r.1.wD<=M
 alike:S.wD<=L->r.1.wD<=L->q=r
 over:S.wD<=L->L < r.1.wD->q.2=true/\q.1.kind=4/\q.1.ev=r.1.ev/\q.1.lk=r.1.lk
theorem NZ.same {L M:Int} {S:St} {r:St × Bool} (h:r.1.wD=S.wD):NZ L M S r r:=⟨by omega,by omega,fun _ _=>rfl,by omega⟩
theorem tI {L M:Int} (hl:L<=M) (S:St) (n:Int):S.wD<=(yM M S n).1.wD/\(S.wD<=M->(yM M S n).1.wD<=M)/\(S.wD<=L->(yM M S n).1.wD<=L->yM L S n=yM M S n)/\(S.wD<=L->L < (yM M S n).1.wD->yM L S n=({ S with kind:=4 },false)/\(yM M S n).2=true):=by
 unfold yM
 by_cases h:M - S.stack < n
 ·rw [Sn h,Sn (by omega)]
  exact ⟨T5 _,fun q=>q,fun _ _=>rfl,fun a b=>by have b:L < S.wD:=b;omega⟩
 ·rw [Sl h]
  have e:(max S.wD (S.stack + n))=if S.wD<=S.stack + n then S.stack + n else S.wD:=by omega
  refine ⟨by show S.wD<=max _ _;omega,fun q=>by show max _ _<=M;omega,fun a b => ?_,fun a b => ?_⟩
  ·have b:max S.wD (S.stack + n)<=L:=b
   rw [Sl (by omega)]
  ·have b:L < max S.wD (S.stack + n):=b
   rw [Sn (by omega)]
   exact ⟨rfl,rfl⟩
theorem EC {L M:Int} (hl:L<=M) (S:St) (f:Nat):NZ L M S (xP M S f,true) (xP L S f,true):=by
 obtain ⟨a,b,c,d⟩:=tI hl S 8
 obtain ⟨g1,g2,_⟩:=Uu M S 8
 have e:(xP M S f).wD=(yM M S 8).1.wD:=by unfold xP;split <;> rfl
 have e2:(xP M S f).ev=S.ev/\(xP M S f).lk=S.lk:=by unfold xP;split <;> exact ⟨g1,g2⟩
 refine ⟨by rw [e];exact a,by rw [e];exact b,fun x y => ?_,fun x y => ?_⟩
 ·rw [e] at y
  have:=c x y
  unfold xP
  rw [this]
 ·rw [e] at y
  obtain ⟨q,_⟩:=d x y
  have:xP L S f = { S with kind:=4 }:=by unfold xP;rw [q,Sl (by simp)]
  rw [this]
  exact ⟨rfl,rfl,e2.1.symm,e2.2.symm⟩
theorem EF {L M:Int} (hl:L<=M) (S:St) (c:Fr) (i:uF):NZ L M S (wW M S c i) (wW L S c i):=by
 obtain ⟨a,b,d,e⟩:=tI hl S i.k
 obtain ⟨g1,g2,_⟩:=Uu M S i.k
 unfold wW
 by_cases h:i.op=24
 ·rw [Sn h,Sn h]
  split
  ·exact .same rfl
  ·exact .same rfl
 rw [Sl h,Sl h]
 by_cases h2:c.Xf ≠ 0
 ·first | rw [Sn h2,Sn h2] | rw [Sn h2]
  exact .same rfl
 first | rw [Sl h2,Sl h2] | rw [Sl h2]
 by_cases hg:(yM M S i.k).2=true
 ·rw [Sn hg]
  refine ⟨a,b,fun x y => ?_,fun x y => ?_⟩
  ·have y:(yM M S i.k).1.wD<=L:=y
   rw [d x y,Sn hg]
  ·have y:L < (yM M S i.k).1.wD:=y
   obtain ⟨q,_⟩:=e x y
   rw [q,Sl (by simp)]
   exact ⟨rfl,rfl,g1.symm,g2.symm⟩
 ·rw [Sl hg]
  have hp:(yM M S i.k).1.wD=S.wD:=by
   revert hg
   unfold yM
   split
   ·exact fun _=>rfl
   ·exact fun q=>absurd rfl q
  refine ⟨a,b,fun x y => ?_,fun x y => ?_⟩
  ·have y:(yM M S i.k).1.wD<=L:=y
   rw [d x y,Sl hg]
  ·have y:L < (yM M S i.k).1.wD:=y
   omega
theorem sw (S:St) (i:uF):(yO S i).1.wD=S.wD:=by
 unfold yO
 repeat' split
 all_goals rfl
theorem GV (S:St) (m:V):(ZI S m).1.wD=S.wD:=by
 unfold ZI
 repeat' split
 all_goals rfl
theorem HN (S:St) (c:Fr):(ZU S c).1.wD=S.wD:=by
 unfold ZU
 repeat' split
 all_goals rfl
theorem Hl (p:Pg) (S:St) (c:Fr) (i:uF):(WH p S c i).1.wD=S.wD:=by
 unfold WH
 split
 ·rfl
 split
 ·split <;> rfl
 ·rfl
theorem H0 {L M:Int} (hl:L<=M) (p:Pg) (world:List Int) (S:St) (c:Fr) (i:uF):NZ L M S (zk p M world S c i) (zk p L world S c i):=by
 unfold zk
 by_cases h0:i.op=1
 ·first | rw [Sn h0,Sn h0] | rw [Sn h0]
  exact .same rfl
 first | rw [Sl h0,Sl h0] | rw [Sl h0]
 by_cases h1:i.op=2
 ·first | rw [Sn h1,Sn h1] | rw [Sn h1]
  exact .same rfl
 first | rw [Sl h1,Sl h1] | rw [Sl h1]
 by_cases h2:i.op=3\/i.op=4
 ·first | rw [Sn h2,Sn h2] | rw [Sn h2]
  exact .same (sw _ _)
 first | rw [Sl h2,Sl h2] | rw [Sl h2]
 by_cases h3:i.op=5
 ·first | rw [Sn h3,Sn h3] | rw [Sn h3]
  exact .same rfl
 first | rw [Sl h3,Sl h3] | rw [Sl h3]
 by_cases h4:i.op=6
 ·first | rw [Sn h4,Sn h4] | rw [Sn h4]
  exact .same rfl
 first | rw [Sl h4,Sl h4] | rw [Sl h4]
 by_cases h5:i.op=7
 ·first | rw [Sn h5,Sn h5] | rw [Sn h5]
  exact .same rfl
 first | rw [Sl h5,Sl h5] | rw [Sl h5]
 by_cases h6:i.op=8\/i.op=11
 ·first | rw [Sn h6,Sn h6] | rw [Sn h6]
  exact .same rfl
 first | rw [Sl h6,Sl h6] | rw [Sl h6]
 by_cases h7:i.op=9
 ·first | rw [Sn h7,Sn h7] | rw [Sn h7]
  exact .same rfl
 first | rw [Sl h7,Sl h7] | rw [Sl h7]
 by_cases h8:i.op=10
 ·first | rw [Sn h8,Sn h8] | rw [Sn h8]
  exact .same rfl
 first | rw [Sl h8,Sl h8] | rw [Sl h8]
 by_cases h9:i.op=12
 ·first | rw [Sn h9,Sn h9] | rw [Sn h9]
  split <;> exact .same rfl
 first | rw [Sl h9,Sl h9] | rw [Sl h9]
 by_cases h10:i.op=13
 ·first | rw [Sn h10,Sn h10] | rw [Sn h10]
  exact .same rfl
 first | rw [Sl h10,Sl h10] | rw [Sl h10]
 by_cases h11:i.op=14
 ·first | rw [Sn h11,Sn h11] | rw [Sn h11]
  exact .same (GV _ _)
 first | rw [Sl h11,Sl h11] | rw [Sl h11]
 by_cases h12:i.op=15
 ·first | rw [Sn h12,Sn h12] | rw [Sn h12]
  exact .same rfl
 first | rw [Sl h12,Sl h12] | rw [Sl h12]
 by_cases h13:i.op=16
 ·first | rw [Sn h13,Sn h13] | rw [Sn h13]
  exact .same rfl
 first | rw [Sl h13,Sl h13] | rw [Sl h13]
 by_cases h14:i.op=17
 ·first | rw [Sn h14,Sn h14] | rw [Sn h14]
  split <;> exact .same rfl
 first | rw [Sl h14,Sl h14] | rw [Sl h14]
 by_cases h15:i.op=18
 ·first | rw [Sn h15,Sn h15] | rw [Sn h15]
  exact .same rfl
 first | rw [Sl h15,Sl h15] | rw [Sl h15]
 by_cases h16:i.op=19
 ·first | rw [Sn h16,Sn h16] | rw [Sn h16]
  exact .same (Hl _ _ _ _)
 first | rw [Sl h16,Sl h16] | rw [Sl h16]
 by_cases h17:i.op=21
 ·first | rw [Sn h17,Sn h17] | rw [Sn h17]
  have x:=EC hl (uU { S with flags:=false } 4 i.sub 0) i.sub.toNat;exact ⟨x.mono,x.Jh,x.alike,x.over⟩
 first | rw [Sl h17,Sl h17] | rw [Sl h17]
 by_cases h18:i.op=22
 ·first | rw [Sn h18,Sn h18] | rw [Sn h18]
  exact .same (HN _ _)
 first | rw [Sl h18,Sl h18] | rw [Sl h18]
 by_cases h19:i.op=23\/i.op=24
 ·first | rw [Sn h19,Sn h19] | rw [Sn h19]
  exact EF hl _ _ _
 first | rw [Sl h19,Sl h19] | rw [Sl h19]
 by_cases h20:i.op=25
 ·first | rw [Sn h20,Sn h20] | rw [Sn h20]
  exact .same rfl
 first | rw [Sl h20,Sl h20] | rw [Sl h20]
 by_cases h21:i.op=26
 ·first | rw [Sn h21,Sn h21] | rw [Sn h21]
  split <;> exact .same rfl
 first | rw [Sl h21,Sl h21] | rw [Sl h21]
 exact .same rfl
section
variable {p:Pg} {L M:Int} {world:List Int} {lab:Bool} {fuel:Int}
structure Ig (L M:Int) (S T U:St):Prop where
 mono:S.wD<=T.wD
 Jh:S.wD<=M->T.wD<=M
 alike:S.wD<=L->T.wD<=L->U=T
 over:S.wD<=L->L < T.wD->U.kind=4/\U.ev=T.ev/\U.lk=T.lk
theorem Ig.same {S T:St} (h:T.wD=S.wD):Ig L M S T T:=⟨by omega,by omega,fun _ _=>rfl,by omega⟩
theorem Fa (hl:L<=M) (S:St):Ig L M S (UB p M world lab fuel S) (UB p L world lab fuel S):=by
 unfold UB
 split
 ·exact .same rfl
 split
 ·exact .same rfl
 split
 ·exact .same rfl
 split
 ·exact .same rfl
 split
 ·exact .same rfl
 ·rename_i c _ _ _ i _ _ _
  have x:=H0 hl p world { ja S { c with pt:=c.pt + 1 } with steps:=S.steps + 1 } { c with pt:=c.pt + 1 } i
  generalize zk p M world { ja S { c with pt:=c.pt + 1 } with steps:=S.steps + 1 } { c with pt:=c.pt + 1 } i=r at x
  generalize zk p L world { ja S { c with pt:=c.pt + 1 } with steps:=S.steps + 1 } { c with pt:=c.pt + 1 } i=q at x
  have ep:(VH r).wD=r.1.wD:=by unfold VH;split <;> rfl
  have ee:(VH r).ev=r.1.ev/\(VH r).lk=r.1.lk:=by unfold VH;split <;> exact ⟨rfl,rfl⟩
  refine ⟨by rw [ep];exact x.mono,by rw [ep];exact x.Jh,fun a b => ?_,fun a b => ?_⟩
  ·rw [ep] at b
   rw [x.alike a b]
  ·rw [ep] at b
   obtain ⟨x1,x2,x3,x4⟩:=x.over a b
   have:VH q=q.1:=by unfold VH;rw [Sn x1]
   rw [this,ee.1,ee.2]
   exact ⟨x2,x3,x4⟩
theorem Lh (hl:L<=M) (S:St):Ig L M S (Vt p M world lab fuel S) (Vt p L world lab fuel S):=by
 unfold Vt
 split
 ·exact Fa hl S
 ·exact .same rfl
theorem aD (hl:L<=M):∀ (n:Nat) (S:St),S.wD<=(uK p M world lab fuel n S).wD/\(S.wD<=M->(uK p M world lab fuel n S).wD<=M)/\(S.wD<=L->(uK p M world lab fuel n S).wD<=L->uK p L world lab fuel n S=uK p M world lab fuel n S) /\
  (S.wD<=L->L < (uK p M world lab fuel n S).wD->∃ k,(uK p L world lab fuel k S).kind=4/\(uK p L world lab fuel k S).ev <+: (uK p M world lab fuel n S).ev/\(uK p L world lab fuel k S).lk <+: (uK p M world lab fuel n S).lk)
 | 0,S=>⟨T5 _,fun q=>q,fun _ _=>rfl,fun a b=>by have b:L < S.wD:=b;omega⟩
 | n + 1,S=>by
   have x:=Lh (p:=p) (world:=world) (lab:=lab) (fuel:=fuel) hl S
   obtain ⟨a,b,c,d⟩:=aD hl n (Vt p M world lab fuel S)
   have e:∀ l,uK p l world lab fuel (n + 1) S=uK p l world lab fuel n (Vt p l world lab fuel S):=fun _=>rfl
   rw [e,e]
   refine ⟨Int.le_trans x.mono a,fun q=>b (x.Jh q),fun y z => ?_,fun y z => ?_⟩
   ·rw [x.alike y (by omega)]
    exact c (by omega) z
   ·by_cases q:(Vt p M world lab fuel S).wD<=L
    ·obtain ⟨k,k1,k2,k3⟩:=d q z
     refine ⟨k + 1,?_⟩
     rw [show uK p L world lab fuel (k + 1) S=uK p L world lab fuel k (Vt p L world lab fuel S) from rfl,x.alike y q]
     exact ⟨k1,k2,k3⟩
    ·obtain ⟨x1,x2,x3⟩:=x.over y (by omega)
     have ex:=tO p M world lab fuel n (Vt p M world lab fuel S)
     refine ⟨1,?_⟩
     rw [show uK p L world lab fuel 1 S=Vt p L world lab fuel S from rfl]
     exact ⟨x1,by rw [x2];exact ex.ev,by rw [x3];exact ex.lk⟩
end
theorem Hn {p:Pg} {M:Int} {args world:List Int} {lab:Bool} {fuel:Int} {A:St} (hM:8<=M) (a:Ends p M args world lab fuel A) :
  8<=A.wD/\A.wD<=M/\(∀ B,Ends p A.wD args world lab fuel B->B=A) /\ ∀ L C,L < A.wD->Ends p L args world lab fuel C->C.kind=4/\C.ev <+: A.ev/\C.lk <+: A.lk:=by
 obtain ⟨a0,i,rfl⟩:=a
 have sM:∀ l,8<=l->k9 p l args = { XV p args with stack:=8,wD:=8,calls:=[⟨p.main.toNat,0,0,0,v0⟩] }:=by
  intro l hl
  unfold k9 xP
  have:yM l (XV p args) 8=({ XV p args with stack:=8,wD:=8 },true):=by
   unfold yM
   rw [Sl (by show ¬ l - 0 < 8;omega)]
   rfl
  rw [this,Sn rfl]
  rfl
 have pk:(k9 p M args).wD=8:=by rw [sM M hM]
 have x:=aD (p:=p) (L:=M) (M:=M) (world:=world) (lab:=lab) (fuel:=fuel) (T5 _) i (k9 p M args)
 obtain ⟨x1,x2,_⟩:=x
 have h8:8<=(uK p M world lab fuel i (k9 p M args)).wD:=by omega
 have hp:=x2 (by omega)
 refine ⟨h8,hp,fun B b => ?_,fun L C hL c => ?_⟩
 ·obtain ⟨b0,j,rfl⟩:=b
  obtain ⟨_,_,y,_⟩:=aD (p:=p) (world:=world) (lab:=lab) (fuel:=fuel) hp i (k9 p M args)
  have y:=y (by omega) (T5 _)
  have es:k9 p (uK p M world lab fuel i (k9 p M args)).wD args=k9 p M args:=by rw [sM _ h8,sM M hM]
  rw [es] at b0 ⊢
  exact (aE _ _ _ _ _ b0 (by rw [y];exact a0)).trans y
 ·obtain ⟨c0,j,rfl⟩:=c
  by_cases h:8<=L
  ·have es:k9 p L args=k9 p M args:=by rw [sM _ h,sM M hM]
   rw [es] at c0 ⊢
   obtain ⟨_,_,_,y⟩:=aD (p:=p) (world:=world) (lab:=lab) (fuel:=fuel) (show L<=M by omega) i (k9 p M args)
   obtain ⟨k,k1,k2,k3⟩:=y (by omega) hL
   rw [aE _ _ _ _ _ c0 (m:=k) (by rw [k1];decide)]
   exact ⟨k1,k2,k3⟩
  ·have es:k9 p L args = { XV p args with kind:=4 }:=by
    unfold k9 xP
    have:yM L (XV p args) 8=({ XV p args with kind:=4 },false):=by
     unfold yM
     rw [Sn (by show L - 0 < 8;omega)]
    rw [this,Sl (by simp)]
   rw [Q7 _ _ _ _ _ _ _ (by rw [es];show (4:Int) ≠ 0;decide),es]
   exact ⟨rfl,List.nil_prefix,List.nil_prefix⟩
end Go.As
