/- A part of the proof. -/
import Derived.Test.YtcecapkbglnejaaDoorTO
import Derived.Test.YtcecapkbglnejaaDoorTK
import Derived.Test.YtcecapkbglnejaaDoorTD
import Derived.Test.YtcecapkbglnejaaDoorTN
set_option linter.unusedVariables false
set_option linter.unusedSimpArgs false
set_option maxRecDepth 100000
namespace Go.As
open Go.Ai Go.Proofs Go.Mem Go.Rm
structure DK (p:Pg):Prop where
 main:∃ f,p.funcs[p.main.toNat]? = some f
 Il:0<=p.main
 HY:∀ f,f ∈ p.funcs->f.code.length<=100000
 ins:∀ f,f ∈ p.funcs->∀ x,x ∈ f.code->iR p x
 gl:p.globals.length<=200
 Mu:∀ n,n ∈ p.globals->0<=n/\n<=65536
 par:0<=p.params/\p.params<=6
 fl:p.funcs.length<=100
theorem cB {gl:List Int}:∀ (xs:List qt) (m:List (Int × Value)) (b:Bool) (r:List (Int × Value) × Bool),ke gl xs m b=some r->∀ x,x ∈ xs->X0 gl x=true
 | [],m,b,r,h,x,hx=>by cases hx
 | y :: ys,m,b,r,h,x,hx=>by
   unfold ke at h
   by_cases hy:X0 gl y=false
   ·rw [MK hy] at h;cases h
   ·rw [MJ hy] at h
    have hy:X0 gl y=true:=by simpa using hy
    rcases NJ.1 hx with rfl | hx
    ·exact hy
    ·split at h
     ·split at h
      ·cases h
      ·exact cB ys _ _ r h x hx
     ·exact cB ys _ _ r h x hx
theorem En {p:Pg} (h:Ku p=true):DK p:=by
 unfold Ku at h
 simp only [MG,Ni] at h
 obtain ⟨h1,h2,h3⟩:=h
 unfold Yb at h1
 simp only [MG,MU,M6] at h1
 obtain ⟨a1,a2,a3,a4,a5,a6⟩:=h1
 have fn:∀ f,f ∈ p.funcs->f.code.length<=100000 /\ ∀ x,x ∈ f.code->iR p x:=fun f hf=>by
  have h4:=h3 f hf
  unfold pj at h4
  simp only [MG,MU,M6] at h4
  obtain ⟨b1,b2⟩:=h4
  refine ⟨by omega,fun x hx => ?_⟩
  unfold C1 at b2
  split at b2
  ·cases b2
  ·rename_i r hr
   simp only [MG,Ni] at b2
   exact Eo (cB _ _ _ _ hr x hx) (b2.1 x hx)
 refine ⟨⟨_,MF (by omega)⟩,by omega,fun f hf=>(fn f hf).1,fun f hf=>(fn f hf).2,by omega,fun n hn => ?_,by omega,by omega⟩
 have:=h2 n hn
 simp only [MG,MU,M6] at this
 omega
section
variable {p:Pg} {lim fuel:Int} {world:List Int} {lab:Bool} {S:St} {c:Fr} {ini:List Fr} {f:Fn} {i:qt}
theorem Dm (hc:S.calls=ini ++ [c]) (hf:p.funcs[c.f]? = some f):jt p lim world lab fuel S=if c.pt=f.code.length then { S with kind:=3 } else match f.code[c.pt.toNat]? with
  | none=>{ S with kind:=3 }
  | some i=>if i.op=20/\lab=false then qg S { c with pt:=c.pt + 1 } else if S.steps=fuel then { S with kind:=2 } else
    QK (zi p lim world { qg S { c with pt:=c.pt + 1 } with steps:=S.steps + 1 } { c with pt:=c.pt + 1 } i):=by
 have e:XA p c.f=f.code:=by unfold XA;rw [hf]
 unfold jt
 have hl:S.calls.getLast? = some c:=by rw [hc,List.getLast?_concat]
 rw [hl]
 simp only [e]
 rfl
theorem AI (n:Nat) (T:St):vI p lim world lab fuel (n + 1) T=Wr p lim world lab fuel (vI p lim world lab fuel n T):=by rw [Y5];rfl
def Wo (p:Pg) (fuel:Int) (S:St):Nat:=((fuel - S.steps) * 100002).toNat + match S.calls.getLast? with
 | none=>0
 | some c=>((XA p c.f).length - c.pt).toNat
theorem AE (g:DK p) (c:Fr):(XA p c.f).length<=100000:=by
 unfold XA
 split
 ·exact NG _
 ·rename_i f hf
  exact g.HY f (Np hf)
theorem HV {n:Int} {r:St × Bool} (I:qZ p lim n r.1):qZ p lim n (QK r):=by
 unfold QK
 split
 ·exact I
 ·exact ⟨I.n0,I.hl,I.hv,I.va,I.iP,I.fr,I.l0,I.l1,I.s0,I.s1,I.lk,I.ev,I.cs,I.used,I.mem,I.gl,I.aQ⟩
theorem qZ.kind {n:Int} (I:qZ p lim n S) (k:Int):qZ p lim n { S with kind:=k }:=⟨I.n0,I.hl,I.hv,I.va,I.iP,I.fr,I.l0,I.l1,I.s0,I.s1,I.lk,I.ev,I.cs,I.used,I.mem,I.gl,I.aQ⟩
theorem qZ.I6 {n:Int} (I:qZ p lim n S) (k:Int):qZ p lim n { S with steps:=k }:=⟨I.n0,I.hl,I.hv,I.va,I.iP,I.fr,I.l0,I.l1,I.s0,I.s1,I.lk,I.ev,I.cs,I.used,I.mem,I.gl,I.aQ⟩
theorem CM (h:ta p c) (hf:p.funcs[c.f]? = some f) (hlt:c.pt < f.code.length):ta p { c with pt:=c.pt + 1 }:=by
 obtain ⟨f',hf',h0,h1⟩:=h.at_
 rw [hf] at hf'
 cases hf'
 exact ⟨h.jU,h.size,h.bV,f,hf,by show 0<=c.pt + 1;omega,by show c.pt + 1<=f.code.length;omega⟩
theorem qZ.bounds {n:Int} (I:qZ p lim n S) (hn:n<=100000000):V0 lim S :=
 ⟨I.hl,I.hv,⟨I.l0,I.l1,by have:=I.s0;omega,by have:=I.s1;have:=I.l1;omega⟩,by have:=I.lk;omega,by have:=I.ev;omega,by have:=I.cs;omega,⟨I.mem.1,I.mem.2.1⟩,⟨I.used.1,by have:=I.used.2;omega⟩⟩
theorem ta.b (h:ta p c):Ld c:=⟨h.jU.2,h.size⟩
end
open Go.Rtl (zG zX Old xG w7 inc wM xC)
section
variable {lo:yQ} {h:za} {b mb wb:Nat} {p:Pg} {wn lv gl:Value} {world:List Int} {lim fuel:Int} {lab:Bool}
theorem mw {L:List HP} {cl:Value} {S:St} {c:Fr} {ini:List Fr} (s:Sat lo h (qy 105 7 cl (S.calls.map wQ) :: L)) (hc:S.calls=ini ++ [c]):∃ q cp,cl = .slice (some ⟨q,0,none⟩) (ini.length + 1) cp:=by
 rcases jT s with ⟨_,e,_⟩ | ⟨q,cp,cs,e,_⟩
 ·rw [hc] at e;simp at e
 ·exact ⟨q,cp,by rw [e,hc];simp⟩
theorem pF {X:List HP} {S:St} {ev lk cl:Value} {K:za->Prop} (k:Int) (s:Sat lo h (pt b (yY p lv mb wb S ev lk gl cl lim) :: X)) (hk:∀ h',Sat lo h' (pt b (yY p lv mb wb { S with kind:=k } ev lk gl cl lim) :: X)->K h'):opt (xU h b 7 [.int .i64 k]) K:=by
 refine xx s (by simp [wC]) rfl fun h3 s3 => ?_
 rw [G4] at s3
 exact hk h3 s3
structure Loop (p:Pg) (lim:Int) (world:List Int) (lab:Bool) (fuel:Int) (T S:St):Prop where
 I:qZ p lim S.steps S
 ne:S.kind=0->S.calls ≠ []
 st:S.steps<=fuel
 run:∃ n,S=vI p lim world lab fuel n T
theorem Loop.next {T S S':St} (L:Loop p lim world lab fuel T S) (hk:S.kind=0) (e:jt p lim world lab fuel S=S') (I:qZ p lim S'.steps S') (ne:S'.kind=0->S'.calls ≠ []) (st:S'.steps<=fuel):Loop p lim world lab fuel T S':=by
 obtain ⟨n,hn⟩:=L.run
 exact ⟨I,ne,st,n + 1,by rw [AI,<- hn];unfold Wr;rw [MK hk,e]⟩
theorem Eu (g:DK p) {n:Int} {S:St} (I:qZ p lim n S):Wo p fuel S<=((fuel - S.steps) * 100002).toNat + 100000:=by
 unfold Wo
 cases e:S.calls.getLast? with
 | none=>simp only;omega
 | some d=>
   simp only
   have h1:=AE g d
   obtain ⟨_,_,h2,_⟩:=(I.fr d (List.mem_of_getLast? e)).at_
   omega
theorem Hb {S:St} {ev lk cl:Value} {q cp b8:Nat} {c:Fr} {ini:List Fr} {i:qt} {f:Fn} {R:Value->za->Prop} {J:List Value->za->Prop} {vs:List Value} (s:Sat lo h (pt b8 (.cells i.row 51) :: YD p b mb wb wn world lim lv gl S ev lk cl)) (hcl:cl = .slice (some ⟨q,0,none⟩) (ini.length + 1) cp) (hc:S.calls=ini ++ [c]) (hil:ini.length < 4611686018427387900) (hwl:world.length < 4611686018427387904) (hg:Rd lo (zG · gl S.gl)) (hL:Rd lo (Xd p lv)) (hf:p.funcs[c.f]? = some f) (G:iR p i) (F:ta p { c with pt:=c.pt + 1 }) (I:qZ p lim S.steps S) (hs:S.steps<=100000000) (hw:IntKind.wrap .i64 (c.pt + 1)=c.pt + 1)
  (k2:S.steps=fuel->∀ h',qH lo p b mb wb wn world lim lv gl { S with kind:=2 } h'->R (qa []) h')
  (kj:¬ S.steps=fuel->∀ h',qH lo p b mb wb wn world lim lv gl (QK (zi p lim world { qg S { c with pt:=c.pt + 1 } with steps:=S.steps + 1 } { c with pt:=c.pt + 1 } i)) h'->J [] h') :
  JJ (yZ b) (.int .i64 fuel) R (.pointer (some ⟨q,ini.length * 7,none⟩)) (.pointer (some ⟨b8,0,none⟩)) J vs h:=by
 have g8:=s.get
 have gm:=(s.p 1).get
 unfold yY at gm
 have hst:=I.n0
 unfold JJ yZ
 by_cases hfu:S.steps=fuel
 ·simp -implicitDefEqProofs only [EE,Nat.reduceAdd,zL,zu,ZV,km,UB,ks,lL,gm,FC,hfu]
  refine pF 2 (s.p 1) fun h2 s2 => ?_
  simp -implicitDefEqProofs only [XO]
  exact k2 hfu h2 ⟨ev,lk,cl,(s2.p 1).drop⟩
 ·have hw1:IntKind.wrap .i64 (S.steps + 1)=S.steps + 1:=Go.Mem.kC (by omega) (by omega)
  have tc:∀ d,(qg S d).calls=ini ++ [d]:=fun d=>by
   show S.calls.dropLast ++ [d]=_
   rw [hc,Og]
  simp -implicitDefEqProofs only [EE,Nat.reduceAdd,zL,zu,ZV,UB,ks,lN,gm,FC,hfu,hw1]
  refine xx (s.p 1) (by simp [wC]) rfl fun h2 s2 => ?_
  rw [IS] at s2
  have s2':=s2
  rw [hc] at s2'
  obtain ⟨cs,gq,wq,ltq,lq,kf,kp,kb,kz,kr⟩:=ZJ (s2'.p 4) hcl
  clear s2'
  simp -implicitDefEqProofs only [EE,zL,zu,ZV,YZ,gq,kp,hw]
  refine sB hcl hc (s2.p 4) _ fun h3 s3 => ?_
  have g8:=(s3.p 2).get
  simp -implicitDefEqProofs only [EE,MA,Nat.reduceAdd,yb,vx,g8]
  have B:V0 lim { qg S { c with pt:=c.pt + 1 } with steps:=S.steps + 1 }:=(((I.top (by rw [hc];simp) F).I6 (S.steps + 1))).bounds hs
  obtain ⟨lo1,l1,s4,fr⟩:=(s3.f [1,3,4,0,5,6,7]).call (L2:=YD p b mb wb wn world lim lv gl { qg S { c with pt:=c.pt + 1 } with steps:=S.steps + 1 } ev lk cl)
  refine zW (by kernel_rfl) rfl (Ha (i:=i) s4 B F.b hcl (tc _) hil hwl (hg.mono l1) (by have:=I.aQ;exact this) (hL.mono l1) hf G) ?_
  rintro v h5 ⟨rfl,ev',lk',cl',s5⟩
  have s6:=fr _ _ s5
  cases hok:(zi p lim world { qg S { c with pt:=c.pt + 1 } with steps:=S.steps + 1 } { c with pt:=c.pt + 1 } i).2 with
  | true=>
    simp -implicitDefEqProofs only [EE]
    refine kj hfu h5 ?_
    unfold QK
    rw [MK hok]
    exact ⟨ev',lk',cl',(s6.p 7).drop⟩
  | false=>
    simp -implicitDefEqProofs only [EE,ZV,km,ks,lM]
    refine pF 3 s6 fun h7 s7 => ?_
    simp -implicitDefEqProofs only []
    refine kj hfu h7 ?_
    unfold QK
    rw [MJ (by rw [hok];simp)]
    exact ⟨ev',lk',cl',(s7.p 7).drop⟩
theorem GJ (hp:Rd lo (qG · p)) (g:DK p) (hwl:world.length < 4611686018427387904) {gls:List Int} (hg:Rd lo (zG · gl gls)) (hL:Rd lo (Xd p lv)) (hf1:fuel<=100000000) {T S0:St} (L0:Loop p lim world lab fuel T S0) (hg0:S0.gl=gls) (x0:qH lo p b mb wb wn world lim lv gl S0 h) {R:Value->za->Prop}
  (k:∀ h' S,Loop p lim world lab fuel T S->S.kind ≠ 0->qH lo p b mb wb wn world lim lv gl S h'->R (qa []) h') :
  LP (Qp (yZ b) (fun _ h4=>Ai.rv [] h4 R) R (.bool lab) (.int .i64 fuel)) [] h:=by
 refine kD (fun m vs h'=>vs = [] /\ ∃ S,m=Wo p fuel S/\Loop p lim world lab fuel T S/\S.gl=gls/\qH lo p b mb wb wn world lim lv gl S h') (Wo p fuel S0) ⟨rfl,S0,rfl,L0,hg0,x0⟩ ?_
 rintro m vs h1 ⟨rfl,S,rfl,L,hgs,x⟩
 have x':=x
 obtain ⟨ev,lk,cl,s⟩:=x
 have gm:=s.get
 unfold yY at gm
 unfold Qp yZ
 by_cases hk:S.kind=0
 ·rcases List.eq_nil_or_concat S.calls with e | ⟨ini,c,hc⟩
  ·exact absurd e (L.ne hk)
  rw [List.concat_eq_append] at hc
  obtain ⟨q,cp,hcl⟩:=mw (s.p 3) hc
  have cm:c ∈ S.calls:=by rw [hc];simp
  have F:=L.I.fr c cm
  obtain ⟨f,hf,p0,p1⟩:=F.at_
  have fm:=Np hf
  have fl:=g.HY f fm
  have G:=g.ins f fm
  obtain ⟨pc,hpc⟩:∃ pc:Nat,c.pt=pc:=⟨c.pt.toNat,by omega⟩
  have s':=s
  unfold YD at s'
  rw [hc] at s'
  obtain ⟨cs,gq,wq,ltq,lq,kf,kp,kb,kz,kr⟩:=ZJ (s'.p 3) hcl
  clear s'
  have hst:=L.I.n0
  have hsf:=L.st
  have hil:ini.length < 4611686018427387900:=by
   have:=L.I.cs
   rw [hc] at this
   simp at this
   omega
  have w2:IntKind.wrap .i64 (((ini.length + 1:Nat):Int) - 1)=(ini.length:Nat):=by rw [show (((ini.length + 1:Nat):Int) - 1)=(ini.length:Nat) by omega];exact Go.Mem.kC (by omega) (by omega)
  have i0:(0:Int)<=ini.length:=by omega
  have i1:(ini.length:Int) < ((ini.length + 1:Nat):Int):=by omega
  have P:=hp.at s
  have F2:=P.fns f fm
  obtain ⟨bf,ofs,cf,tf,hif,hbf,hgf,hlf,htf,hkf⟩:=me P.funcs (i:=c.f) (r:=f.row) (by rw [M5,hf];rfl) rfl
  have k1:=hkf 1 (by decide)
  have k1:cf[ofs + 1]? = some f.cv:=k1
  have hlc:=UM F2.code 3
  have fvn:=P.funcs.Ye
  have cvn:=F2.code.Ye
  simp -implicitDefEqProofs only [EE,↓yW,MA,zL,qU,zu,XS,r8,aC,YZ,w9,km,ko,su,ks,KY,Ig,pL,lP,gm,IN,hk,sK,LW,hcl,w2,i0,i1,M4,gq,kf,kp,hif,hgf,k1,hlc,cvn]
  have ro:=Dm (p:=p) (lim:=lim) (fuel:=fuel) (world:=world) (lab:=lab) hc hf
  by_cases he:c.pt=(f.code.length:Int)
  ·simp -implicitDefEqProofs only [EE,ZV,km,ks,lJ,he]
   refine pF 3 s fun h2 s2 => ?_
   simp -implicitDefEqProofs only [XO]
   rw [MK he] at ro
   exact k h2 _ (L.next hk ro (L.I.kind 3) (fun q=>by cases q) L.st) (by show (3:Int) ≠ 0;decide) ⟨ev,lk,cl,s2⟩
  rw [MJ he] at ro
  have hlt:pc < f.code.length:=by omega
  obtain ⟨i,hi⟩:∃ i,f.code[pc]? = some i:=⟨_,MF hlt⟩
  rw [hpc,M4,hi] at ro
  simp only at ro
  rw [<- hpc] at ro
  have Gi:=G i (Np hi)
  obtain ⟨bi,oi,ci,ti,ha,hbi,hgi,hle,htk,_⟩:=QH F2.code (i:=pc) (r:=i.row) (by rw [M5,hi];rfl) rfl
  rw [<- hpc] at ha
  have hw:IntKind.wrap .i64 (c.pt + 1)=c.pt + 1:=Go.Mem.kC (by omega) (by have:=F2.oW;omega)
  have FN:=CM F hf (by omega)
  simp -implicitDefEqProofs only [EE,Value.cells,MA,yb,zL,zu,vx,sh,YZ,lO,he,gq,kp,ha,hgi,hle,htk]
  refine wy s fun b8 h2 s2 => ?_
  simp -implicitDefEqProofs only [EE,Nat.reduceAdd,sc]
  refine xx s2 (by simp) rfl fun h3 s3 => ?_
  have g8:=s3.get
  have gm:=(s3.p 1).get
  unfold yY at gm
  have s3':=s3
  unfold YD at s3'
  rw [hc] at s3'
  clear gq kf kp kb kz kr
  obtain ⟨cs,gq,wq,ltq,lq,kf,kp,kb,kz,kr⟩:=ZJ (s3'.p 4) hcl
  clear s3'
  have lf:Wo p fuel S=((fuel - S.steps) * 100002).toNat + (f.code.length - c.pt).toNat:=by
   unfold Wo XA
   rw [hc,List.getLast?_concat]
   simp only [hf]
  have tc:∀ d,(qg S d).calls=ini ++ [d]:=fun d=>by
   show S.calls.dropLast ++ [d]=_
   rw [hc,Og]
  by_cases hlab:i.op=20/\lab=false
  ·rw [MK hlab] at ro
   obtain ⟨h20,rfl⟩:=hlab
   simp -implicitDefEqProofs only [EE,ze,Nat.reduceAdd,zL,zu,ZV,YZ,zh,lK,Un,g8,h20,gq,kp,hw]
   refine sB hcl hc (s3.p 4) _ fun h4 s4 => ?_
   simp -implicitDefEqProofs only [EE]
   have X:=L.next hk ro (L.I.top (L.ne hk) FN) (fun _=>VU _ _) L.st
   refine ⟨Wo p fuel (qg S { c with pt:=c.pt + 1 }),?_,_,rfl,X,hgs,ev,lk,cl,s4.k [2,3,4,0,5,6,7]⟩
   have e:Wo p fuel (qg S { c with pt:=c.pt + 1 })=((fuel - S.steps) * 100002).toNat + (f.code.length - (c.pt + 1)).toNat:=by
    unfold Wo XA
    rw [tc,List.getLast?_concat]
    simp only [hf]
    rfl
   omega
  rw [MJ hlab] at ro
  have hne:=L.ne hk
  have tl:=Hb (i:=i) (vs:=[]) (fuel:=fuel) (R:=R) (J:=fun _ h13 => ∃ m,m < Wo p fuel S /\ ∃ S,m=Wo p fuel S/\Loop p lim world lab fuel T S/\S.gl=gls/\qH lo p b mb wb wn world lim lv gl S h13) s3 hcl hc hil hwl (by rw [hgs];exact hg) hL hf Gi FN L.I (by omega) hw
   (fun hfu h5 x5=>by
    rw [MK hfu] at ro
    exact k h5 _ (L.next hk ro (L.I.kind 2) (fun q=>by cases q) L.st) (by show (2:Int) ≠ 0;decide) x5)
   (fun hfu h5 x5=>by
    rw [MJ hfu] at ro
    have I1:=(L.I.top hne FN).I6 (S.steps + 1)
    have I2:=G9 (i:=i) I1 world (VU _ _) FN (by have:=L.I.cs;show ((qg S _).calls.length:Int)<=_;rw [tc];rw [hc] at this;simp at this ⊢;omega) Gi
    have sg:=ET lim world { qg S { c with pt:=c.pt + 1 } with steps:=S.steps + 1 } { c with pt:=c.pt + 1 } Gi
    have es:(QK (zi p lim world { qg S { c with pt:=c.pt + 1 } with steps:=S.steps + 1 } { c with pt:=c.pt + 1 } i)).steps=S.steps + 1:=by
     unfold QK;split <;> exact sg.2
    have eg:(QK (zi p lim world { qg S { c with pt:=c.pt + 1 } with steps:=S.steps + 1 } { c with pt:=c.pt + 1 } i)).gl=gls:=by
     rw [<- hgs];unfold QK;split <;> exact sg.1
    have X:=L.next hk ro (by rw [es];exact HV I2) (fun q=>by
     unfold QK at q ⊢
     split at q
     ·rename_i ok
      rw [MK ok]
      exact EU (VU _ _) Gi ok q
     ·cases q) (by rw [es];omega)
    refine ⟨_,?_,_,rfl,X,eg,x5⟩
    have l2:=Eu (fuel:=fuel) g X.I
    rw [es] at l2
    omega)
  by_cases h20:i.op=20
  ·have hlt:lab=true:=by
    cases lab with
    | true=>rfl
    | false=>exact absurd ⟨h20,rfl⟩ hlab
   subst hlt
   simp -implicitDefEqProofs only [EE,ze,Nat.reduceAdd,zL,zu,zh,Un,g8,h20]
   exact tl
  ·simp -implicitDefEqProofs only [EE,ze,Nat.reduceAdd,zL,zu,zh,Un,g8,h20]
   exact tl
 ·simp -implicitDefEqProofs only [EE,XO,zL,zu,km,ks,gm,IN,hk]
  exact k h1 S L hk x'
end
section
variable {lo:yQ} {h:za} {b mb wb:Nat} {p:Pg} {wn lv gl ev lk cl:Value} {world:List Int} {lim fuel:Int} {lab:Bool} {S:St}
theorem CG (lim:Int) (S:St) (f:Nat) (hk:S.kind=0):(xX lim S f).kind=0->(xX lim S f).calls ≠ []:=by
 unfold xX
 split
 ·intro _;simp
 ·rename_i hg
  intro q
  exfalso
  unfold xD at hg q
  split at q
  ·cases q
  ·rename_i h2;rw [MJ h2] at hg;exact hg rfl
theorem GV (hp:Rd lo (qG · p)) (g:DK p) (hwl:world.length < 4611686018427387904) {gls:List Int} (hg:Rd lo (zG · gl gls)) (hL:Rd lo (Xd p lv)) (hf0:0<=fuel) (hf1:fuel<=100000000) (s:Sat lo h (YD p b mb wb wn world lim lv gl S ev lk cl)) (I:qZ p lim 0 S) (hs:S.steps=0) (hk:S.kind=0) (hc:S.calls = []) (hgs:S.gl=gls) :
  DC Tryd.prog 37 [yZ b,.int .i64 fuel,.bool lab] h (fun _ h' => ∃ T,Loop p lim world lab fuel (xX lim S p.main.toNat) T/\T.kind ≠ 0/\qH lo p b mb wb wn world lim lv gl T h'):=by
 apply tN
 unfold oC yZ
 have gm:=s.get
 unfold yY at gm
 obtain ⟨mn,hmn⟩:∃ mn:Nat,p.main=mn:=⟨p.main.toNat,by have:=g.Il;omega⟩
 obtain ⟨f,hf⟩:=g.main
 simp -implicitDefEqProofs only [EE,zL,zu,Yo,su,gm,LX,hmn]
 rw [hmn,M4] at *
 obtain ⟨lo1,l1,s2,fr⟩:=(s.f [0,3]).call (L2:=[pt b (yY p lv mb wb S ev lk gl cl lim),qy 105 7 cl (S.calls.map wQ)])
 refine zW (by kernel_rfl) rfl (so s2 (I.bounds (by decide)).FM (by rw [hc];decide) mn) ?_
 rintro v h3 ⟨cl',s3⟩
 have s4:=fr _ _ s3
 simp -implicitDefEqProofs only [↓yW]
 obtain ⟨e1,e2,e3,e4⟩:=J9 lim S mn
 have es:=mF lim S mn
 have L0:Loop p lim world lab fuel (xX lim S mn) (xX lim S mn):=⟨by rw [es.2,hs];exact I.enter hf (by rw [hc];decide),CG lim S mn hk,by rw [es.2,hs];exact hf0,0,rfl⟩
 refine GJ hp g hwl hg hL hf1 L0 (by rw [es.1];exact hgs) ⟨ev,lk,cl',?_⟩ (fun h' T LT kT xT=>⟨T,LT,kT,xT⟩)
 unfold YD
 rw [e1,e2,e3,e4]
 exact s4.k [0,2,3,1,4,5,6]
end
def ES (M:MM) (gl:List Int) (r:List V):St:=⟨M,0,0,0,[],[],0,gl,[],r,false,v0,v0,0,0⟩
theorem Cq (p:Pg) (args:List Int):QI p args=ES (wB p.globals [] []).1 (wB p.globals [] []).2 (Z2 order args (List.replicate 16 v0)):=rfl
theorem Gh (v00:Option Addr) (l00 c00:Nat) (v01:Option Addr) (l01 c01:Nat) (m k:Int) (mb wb:Nat) (lim:Int):yR Tryd.prog 89 [(0,(.agg #[(.slice v00 l00 c00),(.slice v01 l01 c01),(.int .i64 m),(.int .i64 k)])),(2,.pointer (some ⟨mb,0,none⟩)),(3,.pointer (some ⟨wb,0,none⟩)),(12,.int .i64 lim)]=some (.agg ⟨xY ⟨.slice v00 l00 c00,[],.slice v01 l01 c01,[],m,k⟩ (.slice none 0 0) mb wb (ES [] [] (List.replicate 16 v0)) (.slice none 0 0) (.slice none 0 0) (.slice none 0 0) (.slice none 0 0) lim⟩):=by kernel_rfl
theorem zG.shape {h:za} {sv:Value} {l:List Int} (S:zG h sv l):∃ a n c,sv = .slice a n c:=by
 rcases S with ⟨rfl,_⟩ | ⟨b,off,cp,rfl,_⟩ <;> exact ⟨_,_,_,rfl⟩
theorem zX.shape {h:za} {sv:Value} {n:Nat} {l:List (List Value)} (S:zX h sv n l):∃ a n c,sv = .slice a n c:=by
 rcases S with ⟨rfl,_⟩ | ⟨b,off,cp,rfl,_⟩ <;> exact ⟨_,_,_,rfl⟩
theorem D2 {h:za} {p:Pg} (P:qG h p) (mb wb:Nat) (lim:Int):yR Tryd.prog 89 [(0,.agg #[p.gv,p.fv,.int .i64 p.main,.int .i64 p.params]),(2,.pointer (some ⟨mb,0,none⟩)),(3,.pointer (some ⟨wb,0,none⟩)),(12,.int .i64 lim)]=some (.agg ⟨xY p (.slice none 0 0) mb wb (ES [] [] (List.replicate 16 v0)) (.slice none 0 0) (.slice none 0 0) (.slice none 0 0) (.slice none 0 0) lim⟩):=by
 obtain ⟨gv,gs,fv,fs,m,k⟩:=p
 obtain ⟨a1,n1,c1,q1⟩:=zG.shape P.globals
 obtain ⟨a2,n2,c2,q2⟩:=zX.shape P.funcs
 simp only at q1 q2
 subst q1 q2
 exact Gh _ _ _ _ _ _ _ _ _ _ _
theorem Cp:yR Tryd.prog 100 [(0,.int .i64 7),(1,.int .i64 6),(2,.int .i64 2),(3,.int .i64 1),(4,.int .i64 8),(5,.int .i64 9)]=some (.agg #[.int .i64 7,.int .i64 6,.int .i64 2,.int .i64 1,.int .i64 8,.int .i64 9]):=by kernel_rfl
theorem LJ (h:za):wx h=(.map (some h.next),h.push (.map [] 0)):=rfl
theorem aP:∀ (rs l2:List Int) (l:List V) (i:Nat) (r a:Int),rs[i]? = some r->l2[i]? = some a->Z2 rs (l2.take (i + 1)) l=(Z2 rs (l2.take i) l).set r.toNat (vJ a)
 | [],l2,l,i,r,a,h,_=>by cases h
 | x :: rs,[],l,i,r,a,_,h=>by cases h
 | x :: rs,y :: l2,l,0,r,a,h1,h2=>by
   simp only [MD,My] at h1 h2
   subst h1 h2
   cases rs <;> cases l2 <;> rfl
 | x :: rs,y :: l2,l,i + 1,r,a,h1,h2=>by
   simp only [MH] at h1 h2
   exact aP rs l2 _ i r a h1 h2
theorem QN:∀ (rs l2:List Int) (l:List V),(Z2 rs l2 l).length=l.length
 | [],l2,l=>rfl
 | x :: rs,[],l=>rfl
 | x :: rs,y :: l2,l=>by show (Z2 rs l2 _).length=_;rw [QN rs l2,NU]
theorem mU:∀ (rs l2:List Int) (l:List V),(∀ v,v ∈ l->vb v)->∀ v,v ∈ Z2 rs l2 l->vb v
 | [],l2,l,h=>h
 | x :: rs,[],l,h=>h
 | x :: rs,y :: l2,l,h=>mU rs l2 _ fun v hv=>by
   rcases List.mem_or_eq_of_mem_set hv with q | rfl
   ·exact h v q
   ·exact XX _
theorem D3 {p:Pg} (g:DK p) {lim:Int} (l0:0<=lim) (l1:lim < 4294967296) (args:List Int):qZ p lim 0 (QI p args):=by
 obtain ⟨gm,aQ,gb⟩:=ig p.globals [] [] m8 (fun z h=>by cases h)
 rw [Cq]
 have hv:∀ v,v ∈ Z2 order args (List.replicate 16 v0)->vb v:=mU _ _ _ fun v hv=>by
  rw [(List.mem_replicate.1 hv).2];exact U1
 exact ⟨OL 0,QN _ _ _,He hv,U1,U1,fun c hc=>by (cases hc),l0,l1,OL 0,l0,OL 0,OL 0,by show (0:Int)<=0 + 1;decide,⟨OL 0,OL 0⟩,gm,gb,by show (wB p.globals [] []).2.length=_;rw [aQ];simp⟩
section
variable {lo:yQ} {h:za} {L:List HP} {sv:Value} {zs:List Int}
theorem FA (S:zG h sv zs) (r:TypeId) (h':za):zo Tryd.prog .len [30] r [sv] h'=some (.int .i64 zs.length,h'):=by
 rcases S with ⟨rfl,rfl⟩ | ⟨b,off,cp,rfl,_⟩
 ·simp only [bB,M0]
 ·simp only [bB]
theorem Lu (S:zG h sv zs) {i:Nat} {z:Int} (hz:zs[i]? = some z):∃ b o c t,zA Tryd.prog 30 sv (.int .i64 i)=some (.pointer (some ⟨b,o,none⟩))/\b < h.next/\h.get b=some (.cells c t)/\c[o]? = some (.int .i64 z):=by
 have hi:i < zs.length:=by
  rcases MX i zs.length with q | q
  ·exact q
  ·rw [MO q] at hz;cases hz
 rcases S with ⟨rfl,rfl⟩ | ⟨b,off,cp,rfl,hc⟩
 ·cases hz
 ·obtain ⟨c,t,hb,hg,hat⟩:=hc (by intro e;subst e;cases hz)
  have h0:(0:Int)<=i:=by omega
  have h1:(i:Int) < (zs.length:Int):=by omega
  exact ⟨b,off + i,c,t,by simp only [CT,h0,h1,and_self,MA,N4,M4],hb,hg,hat i z hz⟩
theorem IL {q:Nat} {o:xS} (s:Sat lo h (pt q o :: L)):∃ lo1,lo.Le lo1/\Rd lo1 (fun h=>h.get q=some o)/\Sat lo1 h L:=by
 obtain ⟨a,ha,d,w,s⟩:=s
 refine ⟨lo.un a,yQ.Vj d,fun h1 b1 => ?_,s⟩
 have:Sat lo h1 [pt q o]:=⟨a,ha,d,w,b1⟩
 exact this.get
theorem Dt {h:za} {sv:Value} {zs:List Int} (S:zX h sv 1 (zs.map vZ)):zG h sv zs:=by
 have T:=S
 rcases S with ⟨e,e2⟩ | ⟨b,off,cp,rfl,hc⟩
 ·exact .inl ⟨e,by simpa using e2⟩
 ·refine .inr ⟨b,off,cp,by rw [Nf],fun hz => ?_⟩
  obtain ⟨c,t,hb,hg,hat⟩:=hc (by simpa using hz)
  refine ⟨c,t,hb,hg,fun i z hiz => ?_⟩
  obtain ⟨b2,o,c2,t2,⟨off2,cp2,e1,e2⟩,_,_,hg2,_,_,h3⟩:=T.spot (i:=i) (r:=vZ z) (by rw [M5,hiz];rfl) rfl
  simp only [Of,My,OC] at e1
  obtain ⟨⟨rfl,rfl,_⟩,_,rfl⟩:=e1
  rw [hg] at hg2
  cases hg2
  have:=h3 0 (by decide)
  rw [e2,N4,Ox] at this
  exact this
end
section
variable {lo:yQ} {h h42:za} {L:List HP} {b mb wb b19:Nat} {p:Pg} {S:St} {f:Fn} {lv gl ev lk cl av:Value} {args:List Int} {lim:Int}
theorem Gr (hF:Rd lo (cF · f)) (s:Sat lo h (pt h42.next (Wq []) :: L)) {J:List Value->za->Prop} (k:∀ h',Sat lo h' (pt h42.next (Wq (Yw f.code 0 [])) :: L)->J [] h'):LP (Qj (.int .i64 f.code.length) J f.cv h42) [.int .i64 0] h:=by
 refine kD (fun m vs h' => ∃ j:Nat,j<=f.code.length/\m=f.code.length - j/\vs = [.int .i64 (j:Nat)]/\Sat lo h' (pt h42.next (Wq (Yw (f.code.take j) 0 [])) :: L)) f.code.length ⟨0,NG _,rfl,rfl,s⟩ ?_
 rintro m vs h1 ⟨j,hj,rfl,rfl,s1⟩
 have F:=hF.at s1
 unfold Qj
 by_cases hc:(j:Int) < (f.code.length:Int)
 ·obtain ⟨i,hi⟩:∃ i,f.code[j]? = some i:=⟨_,MF (by omega)⟩
  obtain ⟨bi,oi,ci,ti,ha,hbi,hgi,hle,htk,_⟩:=QH F.code (i:=j) (r:=i.row) (by rw [M5,hi];rfl) rfl
  have et:f.code.take (j + 1)=f.code.take j ++ [i]:=by rw [List.take_add_one,hi];rfl
  have hsn:=fJ (f.code.take j) i 0 []
  rw [<- et] at hsn
  have hlen:(f.code.take j).length=j:=by simp;omega
  rw [hlen] at hsn
  have hin:=inc (show j < 4611686018427387904 by have:=F.oW;omega)
  simp -implicitDefEqProofs only [EE,nth,Value.cells,↓yW,MA,yb,vx,sh,dI,dJ,hc,ha,hgi,hle,htk]
  refine wy s1 fun b8 h2 s2 => ?_
  simp -implicitDefEqProofs only [EE,Nat.reduceAdd,sc]
  refine xx s2 (by simp) rfl fun h3 s3 => ?_
  have g8:=s3.get
  have gM:=(s3.p 1).get
  by_cases h20:i.op=20
  ·rw [MK h20] at hsn
   have up:=nH (P:=Tryd.prog) (t:=99) (kt:=3) (et:=3) (kind := .i64) (by kernel_rfl) (by kernel_rfl) gM (s3.p 1).wr i.l (.int .i64 (j:Nat))
   have s4:=(s3.p 1).set (Wq (Y6 (Yw (f.code.take j) 0 []) i.l (.int .i64 (j:Nat))))
   simp -implicitDefEqProofs only [EE,nth,ze,Nat.reduceAdd,zL,zu,zh,jW,dH,g8,h20,LJ,up,hin]
   refine ⟨f.code.length - (j + 1),by omega,j + 1,by omega,rfl,rfl,?_⟩
   rw [hsn,Int.zero_add]
   exact (s4.p 1).drop
  ·rw [MJ h20] at hsn
   simp -implicitDefEqProofs only [EE,nth,ze,Nat.reduceAdd,zL,zu,zh,g8,h20,hin]
   refine ⟨f.code.length - (j + 1),by omega,j + 1,by omega,rfl,rfl,?_⟩
   rw [hsn]
   exact s3.drop
 ·have e:j=f.code.length:=by omega
  subst e
  rw [List.take_length] at s1
  simp -implicitDefEqProofs only [EE,nth,hc]
  exact k h1 s1
theorem bE (l:List Nat):∀ r,r ∈ l.map (fun q=>[Value.map (some q)])->r.length=1:=qE (f:=fun q=>[Value.map (some q)]) (fun _=>rfl) l
theorem Ej (hp:Rd lo (qG · p)) (g:DK p) (s:Sat lo h (pt b (yY p (.slice none 0 0) mb wb S ev lk gl cl lim) :: L)) {J:List Value->za->Prop}
  (k:∀ h' lo1 lv,lo.Le lo1->Rd lo1 (Xd p lv)->Sat lo1 h' (pt b (yY p lv mb wb S ev lk gl cl lim) :: L)->J [] h') :
  LP (Vu (.int .i64 p.funcs.length) J p.fv (yZ b)) [.int .i64 0] h:=by
 refine kD (fun m vs h' => ∃ (i:Nat) (lo1:yQ) (lv:Value) (ls:List Nat),i<=p.funcs.length/\m=p.funcs.length - i/\vs = [.int .i64 (i:Nat)]/\ls.length=i/\lo.Le lo1/\Rd lo1 (fun h => ∀ (k q:Nat) (f:Fn),ls[k]? = some q->p.funcs[k]? = some f->h.get q=some (Wq (Yw f.code 0 [])))/\Sat lo1 h' (qy 99 1 lv (ls.map fun q=>[.map (some q)]) :: pt b (yY p lv mb wb S ev lk gl cl lim) :: L)) p.funcs.length
  ⟨0,lo,.slice none 0 0,[],NG _,rfl,rfl,rfl,yQ.Le.refl _,fun h b k q f h1=>(by cases h1),W2 _ _ s⟩ ?_
 rintro m vs h1 ⟨i,lo1,lv,ls,hi,rfl,rfl,hls,hle1,hR,s1⟩
 unfold Vu yZ
 by_cases hc:(i:Int) < (p.funcs.length:Int)
 ·obtain ⟨f,hf⟩:∃ f,p.funcs[i]? = some f:=⟨_,MF (by omega)⟩
  have P:=(hp.mono hle1).at s1
  have fm:=Np hf
  obtain ⟨bf,ofs,cf,tf,hif,hbf,hgf,hlf,htf,hkf⟩:=me P.funcs (i:=i) (r:=f.row) (by rw [M5,hf];rfl) rfl
  have hF:Rd lo1 (cF · f):=fun h b=>(hp.mono hle1 h b).fns f fm
  have cvn:=(P.fns f fm).code.Ye
  have cvc:=(P.fns f fm).code.nO
  have hin:=inc (show i < 4611686018427387904 by have:=g.fl;omega)
  simp -implicitDefEqProofs only [EE,nth,Value.cells,↓yW,MA,yb,B4,Fj,Jr,Js,hc,hif,hgf,hlf,htf]
  refine wy s1 fun b15 h2 s2 => ?_
  simp -implicitDefEqProofs only [EE,Nat.reduceAdd,Fh]
  refine xx s2 (by simp) (by simp [cvc];rfl) fun h3 s3 => ?_
  have g15:=s3.get
  have s4:=s3.push (.map [] 0)
  have g15:=(s4.p 1).get
  have hlc:=UM ((hF.at s4).code) 3
  simp -implicitDefEqProofs only [EE,↓yW,ze,zL,XS,ko,LJ,g15,cvn,hlc]
  refine Gr (h42:=h3) hF s4 fun h5 s5 => ?_
  obtain ⟨lo2,l2,hm,s6⟩:=IL s5
  have gM:=(s6.p 2).get
  unfold yY at gM
  have ln:=qx (s6.p 1)
  have s7:=s6.push (.cells [.map (some h3.next)] 99)
  obtain ⟨b',c',h8,a1,s8⟩:=UY (s7.p 2) (bE ls) [.map (some h3.next)] rfl (by decide) 8 (by rw [Nf];have:=g.fl;omega)
  rw [Nf] at a1 s8
  have hap:∀ r,zo Tryd.prog .append [81,81] r [lv,.slice (some ⟨h5.next,0,none⟩) 1 3] (h5.push (.cells [.map (some h3.next)] 99))=some (.slice (some ⟨b',0,none⟩) (ls.length + 1) c',h8):=fun r=>by
   rw [HK r _ _ 1 [.map (some h3.next)] _ rfl (by simp only [wW,z7];rfl) rfl rfl]
   exact a1
  unfold Jq
  simp -implicitDefEqProofs only [EE,zL,B5,HR,Ap,hQ,LJ,gM,GX,ln,hap]
  refine xx (s8.p 3) (by simp [wC]) rfl fun h9 s9 => ?_
  rw [L6] at s9
  simp -implicitDefEqProofs only [EE,nth,hin]
  refine ⟨p.funcs.length - (i + 1),by omega,i + 1,lo2,.slice (some ⟨b',0,none⟩) (ls.length + 1) c',ls ++ [h3.next],by omega,rfl,rfl,by simp [hls],hle1.trans l2,fun h b k q f' hk hf' => ?_,?_⟩
  ·by_cases hki:k < ls.length
   ·rw [NC hki] at hk
    exact hR.mono l2 h b k q f' hk hf'
   ·have hk2:k=ls.length:=by
     have:k < (ls ++ [h3.next]).length:=by
      rcases MX k (ls ++ [h3.next]).length with a | a
      ·exact a
      ·rw [MO a] at hk;cases hk
     simp at this;omega
    subst hk2
    simp at hk
    subst hk
    rw [hls,hf] at hf'
    cases hf'
    exact hm h b
  ·have e:((ls ++ [h3.next]).map fun q=>[Value.map (some q)])=(ls.map fun q=>[Value.map (some q)]) ++ [[.map (some h3.next)]]:=by simp
   rw [e]
   exact (s9.f [2,3]).drop.drop.f [1,0]
 ·have e:i=p.funcs.length:=by omega
  subst e
  simp -implicitDefEqProofs only [EE,nth,hc]
  obtain ⟨lo2,l2,hs,s2,_⟩:=Ds s1 (bE ls)
  exact k h1 lo2 lv (hle1.trans l2) (fun h b=>⟨ls,hs h b,hls,hR.mono l2 h b⟩) s2
theorem F8 (ha:Rd lo (zG · av args)) (ha6:args.length<=6) {M:MM} {gs:List Int} (s:Sat lo h (pt b (yY p lv mb wb (ES M gs (List.replicate 16 v0)) ev lk gl cl lim) :: pt b19 (.cells [.int .i64 7,.int .i64 6,.int .i64 2,.int .i64 1,.int .i64 8,.int .i64 9] 100) :: L)) {J:List Value->za->Prop}
  (k:∀ h',Sat lo h' (pt b (yY p lv mb wb (ES M gs (Z2 order args (List.replicate 16 v0))) ev lk gl cl lim) :: pt b19 (.cells [.int .i64 7,.int .i64 6,.int .i64 2,.int .i64 1,.int .i64 8,.int .i64 9] 100) :: L)->J [] h') :
  LP (Vv (.int .i64 args.length) J av (.pointer (some ⟨b19,0,none⟩)) (yZ b)) [.int .i64 0] h:=by
 refine kD (fun m vs h' => ∃ i:Nat,i<=args.length/\m=args.length - i/\vs = [.int .i64 (i:Nat)]/\Sat lo h' (pt b (yY p lv mb wb (ES M gs (Z2 order (args.take i) (List.replicate 16 v0))) ev lk gl cl lim) :: pt b19 (.cells [.int .i64 7,.int .i64 6,.int .i64 2,.int .i64 1,.int .i64 8,.int .i64 9] 100) :: L)) args.length ⟨0,NG _,rfl,rfl,s⟩ ?_
 rintro m vs h1 ⟨i,hi,rfl,rfl,s1⟩
 unfold Vv yZ
 by_cases hc:(i:Int) < (args.length:Int)
 ·obtain ⟨a,haa⟩:∃ a,args[i]? = some a:=⟨_,MF (by omega)⟩
  obtain ⟨bb,o,cs,t,hix,hb,hgt,hat⟩:=Lu (ha.at s1) haa
  obtain ⟨r,hr⟩:∃ r,order[i]? = some r:=⟨_,MF (by show i < 6;omega)⟩
  have hr1:0<=r/\r < 16:=by
   have hm:=Np hr
   simp only [order,NJ,List.not_mem_nil,MZ] at hm
   omega
  have hc19:([.int .i64 7,.int .i64 6,.int .i64 2,.int .i64 1,.int .i64 8,.int .i64 9]:List Value)[i]? = some (.int .i64 r):=by
   have e:([.int .i64 7,.int .i64 6,.int .i64 2,.int .i64 1,.int .i64 8,.int .i64 9]:List Value)=order.map (Value.int .i64):=rfl
   rw [e,M5,hr];rfl
  have g19:=(s1.p 1).get
  have gn:=aP order args (List.replicate 16 v0) i r a hr haa
  have avn:=(ha.at s1).Ye
  have i0:(0:Int)<=i:=by omega
  have i6:(i:Int) < 6:=by omega
  have hin:=inc (show i < 4611686018427387904 by omega)
  have r0:=hr1.1
  have r1:=hr1.2
  simp -implicitDefEqProofs only [EE,nth,↓yW,MA,zL,xz,zu,GC,Ju,Jv,hc,hix,hgt,hat,i0,i6,g19,hc19,M4,N4]
  refine vU (by kernel_rfl) rfl (qS a _) ?_
  simp -implicitDefEqProofs only [EE,MA,Nat.reduceAdd,zF,xI,vO,Jt,r0,r1]
  refine iI s1 (QN _ _ _) r0 r1 _ fun h3 s3 => ?_
  simp -implicitDefEqProofs only [EE,nth,hin]
  refine ⟨args.length - (i + 1),by omega,i + 1,by omega,rfl,rfl,?_⟩
  rw [gn]
  exact s3
 ·have e:i=args.length:=by omega
  subst e
  rw [List.take_length] at s1
  simp -implicitDefEqProofs only [EE,nth,hc]
  exact k h1 s1
theorem Em (hp:Rd lo (qG · p)) (g:DK p) {r:List V} (s:Sat lo h (pt b (yY p lv mb wb (ES [] [] r) ev lk (.slice none 0 0) cl lim) :: jq mb [] :: L)) {J:List Value->za->Prop}
  (k:∀ h' gl,Sat lo h' (qy 3 1 gl ((wB p.globals [] []).2.map vZ) :: pt b (yY p lv mb wb (ES (wB p.globals [] []).1 (wB p.globals [] []).2 r) ev lk gl cl lim) :: jq mb (wB p.globals [] []).1 :: L)->J [] h') :
  LP (Qi (.int .i64 p.globals.length) J p.gv (yZ b)) [.int .i64 0] h:=by
 refine kD (fun m vs h' => ∃ (i:Nat) (gl:Value),i<=p.globals.length/\m=p.globals.length - i/\vs = [.int .i64 (i:Nat)]/\Sat lo h' (qy 3 1 gl ((wB (p.globals.take i) [] []).2.map vZ) :: pt b (yY p lv mb wb (ES (wB (p.globals.take i) [] []).1 (wB (p.globals.take i) [] []).2 r) ev lk gl cl lim) :: jq mb (wB (p.globals.take i) [] []).1 :: L)) p.globals.length
  ⟨0,.slice none 0 0,NG _,rfl,rfl,W2 _ _ s⟩ ?_
 rintro m vs h1 ⟨i,gl,hi,rfl,rfl,s1⟩
 unfold Qi yZ
 obtain ⟨gm,aQ,gb⟩:=ig (p.globals.take i) [] [] m8 (fun z h=>by cases h)
 have g200:=g.gl
 by_cases hc:(i:Int) < (p.globals.length:Int)
 ·obtain ⟨n,hn⟩:∃ n,p.globals[i]? = some n:=⟨_,MF (by omega)⟩
  obtain ⟨b11,o11,c11,t11,ix11,lt11,g11,k11⟩:=t9 ((hp.at s1).globals) hn
  have gvn:=(hp.at s1).globals.Ye
  have gM:=(s1.p 1).get
  unfold yY at gM
  have et:p.globals.take (i + 1)=p.globals.take i ++ [n]:=by rw [List.take_add_one,hn];rfl
  have e1:=aR (p.globals.take i) n [] []
  rw [<- et] at e1
  have a:=VM n gm
  have hin:=inc (show i < 4611686018427387904 by omega)
  simp -implicitDefEqProofs only [EE,nth,↓yW,zL,zu,fk,WW,dF,dG,hc,ix11,g11,k11,gM,AV]
  obtain ⟨lo1,l1,s11,fr⟩:=(s1.f [2]).call (L2:=[jq mb (wB (p.globals.take i) [] []).1])
  refine zW (by kernel_rfl) rfl (r9 s11 n) ?_
  rintro v h12 ⟨rfl,s12⟩
  have s13:=fr _ _ s12
  have gM:=(s13.p 2).get
  unfold yY at gM
  simp -implicitDefEqProofs only [EE,zL,fk,WW,dE,gM,AV]
  obtain ⟨lo2,l2,s14,fr2⟩:=s13.call (L2:=[jq mb (xJ (wB (p.globals.take i) [] []).1 n).1])
  refine zW (by kernel_rfl) rfl (Hj s14 a.1.1 a.2.2) ?_
  rintro v h15 ⟨rfl,s15⟩
  have s16:=fr2 _ _ s15
  have gM:=(s16.p 2).get
  unfold yY at gM
  have gn:=qx (s16.p 1)
  have s17:=s16.push (.cells [.int .i64 (xJ (wB (p.globals.take i) [] []).1 n).2.1] 3)
  obtain ⟨b',c',h18,a1,s18⟩:=UY (s17.p 2) (qE (f:=vZ) (fun _=>rfl) _) [.int .i64 (xJ (wB (p.globals.take i) [] []).1 n).2.1] rfl (by decide) 8 (by rw [Nf,aQ];simp;omega)
  rw [Nf] at a1 s18
  have hap:∀ r',zo Tryd.prog .append [22,22] r' [gl,.slice (some ⟨h15.next,0,none⟩) 1 3] (h15.push (.cells [.int .i64 (xJ (wB (p.globals.take i) [] []).1 n).2.1] 3))=some (.slice (some ⟨b',0,none⟩) ((wB (p.globals.take i) [] []).2.length + 1) c',h18):=fun r'=>
   (HG r' _ _ 1 [.int .i64 (xJ (wB (p.globals.take i) [] []).1 n).2.1] _ rfl (by simp only [wW,z7];rfl) rfl rfl).trans a1
  simp -implicitDefEqProofs only [EE,zL,ZP,HN,Al,sw,dD,gM,FD,gn,hap]
  refine xx (s18.p 3) (by simp [wC]) rfl fun h19 s19 => ?_
  rw [IT] at s19
  simp -implicitDefEqProofs only [EE,nth,hin]
  refine ⟨p.globals.length - (i + 1),by omega,i + 1,.slice (some ⟨b',0,none⟩) ((wB (p.globals.take i) [] []).2.length + 1) c',by omega,rfl,rfl,?_⟩
  rw [e1]
  rw [Ov]
  exact (s19.p 2).drop.f [1,0]
 ·have e:i=p.globals.length:=by omega
  subst e
  rw [List.take_length] at s1
  simp -implicitDefEqProofs only [EE,nth,hc]
  exact k h1 gl s1
end
section
variable {h:za} {p:Pg} {av wv:Value} {args world:List Int} {lim:Int}
theorem D4 (P:qG h p) (g:DK p) (ha:zG h av args) (ha6:args.length<=6) (hw:zG h wv world) (hwl:world.length * 8<=2 ^ 47) :
  DC Tryd.prog 36 [p.val,av,wv,.int .i64 lim] h (fun v h' => ∃ b mb wb wn lv gl lo1,v=yZ b/\(yQ.of h).Le lo1/\Rd lo1 (Xd p lv)/\Rd lo1 (zG · gl (QI p args).gl)/\Sat lo1 h' (YD p b mb wb wn world lim lv gl (QI p args) (.slice none 0 0) (.slice none 0 0) (.slice none 0 0))):=by
 apply Zq;intro wf
 apply oa
 unfold gy
 have s0:Sat (.of h) h []:=Sat.self wf.2
 have RP:Rd (.of h) (qG · p):=Rd.of (yQ.uM h) P fun h' o=>P.old o
 have RA:Rd (.of h) (zG · av args):=Rd.of (yQ.uM h) ha fun h' o=>ha.old o
 have RW:Rd (.of h) (zG · wv world):=Rd.of (yQ.uM h) hw fun h' o=>hw.old o
 have gvn:=P.globals.Ye
 have gvc:=P.globals.nO
 have fvn:=P.funcs.Ye
 have fvc:=P.funcs.nO
 have avn:=ha.Ye
 have wvn:=hw.Ye
 have al:=FA ha 3
 simp -implicitDefEqProofs only [EE,Value.cells]
 refine sH s0 wf fun b4 h2 wf2 s2 => ?_
 have g4:=s2.get
 simp -implicitDefEqProofs only [EE,MA,Nat.reduceAdd,yb,Vd,g4]
 refine g9 (by kernel_rfl) rfl wf2 s2 (GO (Sat.self wf2.lock.2)) ?_
 rintro v h3 ⟨mb,rfl,s3⟩ back wf4
 have s4:=back _ s3
 clear back s3
 generalize vH h2 h3=h4 at wf4 s4 ⊢
 refine g9 (by kernel_rfl) (by simp only [yV,wvn,M7]) wf4 s4 (Hc (RW.at s4).lock hwl (Sat.self wf4.lock.2)) ?_
 rintro v h5 ⟨wb,wn,rfl,s5⟩ back wf6
 have s6:=back _ s5
 clear back s5
 generalize vH h4 h5=h6 at wf6 s6 ⊢
 unfold yZ
 have bd:=D2 P mb wb lim
 simp -implicitDefEqProofs only [EE,Value.cells,zL,ZP,qQ,Jy,bd]
 refine wy s6 fun b h7 s7 => ?_
 have g4:=(s7.p 4).get
 have PG:=(RP.at s7).globals
 have gl7:=fK PG
 simp -implicitDefEqProofs only [EE,↓yW,g4,gvn,gl7]
 refine Em RP g (s7.f [0,3]) fun h8 gl s8 => ?_
 have g4:=(s8.p 5).get
 have fl8:=QS (RP.at s8).funcs 3
 unfold Jx
 simp -implicitDefEqProofs only [EE,↓yW,zL,qU,w9,g4,fvn,fl8]
 refine Ej RP g (s8.p 1) fun h9 lo1 lv le1 hL s9 => ?_
 unfold Jw
 simp -implicitDefEqProofs only [EE,Value.cells,Ge,Cp]
 refine wy s9 fun b19 h10 s10 => ?_
 simp -implicitDefEqProofs only [EE,Nat.reduceAdd,F9]
 refine xx s10 (by simp) rfl fun h11 s11 => ?_
 simp -implicitDefEqProofs only [EE,↓yW,avn,al]
 refine F8 (RA.mono le1) ha6 (s11.f [1,0]) fun h12 s12 => ?_
 obtain ⟨lo2,le2,hg,s13,_⟩:=Ds (s12.p 2) (qE (f:=vZ) (fun _=>rfl) _)
 simp -implicitDefEqProofs only [EE]
 refine ⟨b,mb,wb,wn,lv,gl,lo2,rfl,le1.trans le2,hL.mono le2,fun h b=>Dt (hg h b),?_⟩
 have s14:=W2 41 3 (W2 69 2 (W2 105 7 s13))
 exact s14.k [3,0,1,2,5,6,7]
end
def k9 (p:Pg) (args:List Int) (fuel lim:Int):Prop:=Ku p=true/\(args.length:Int)=p.params/\0<=fuel/\fuel<=100000000/\0<=lim/\lim<=2147483647
instance (p:Pg) (args:List Int) (fuel lim:Int):Decidable (k9 p args fuel lim):=by unfold k9;infer_instance
def Ze (kind exit:Int) (ev lk:Value) (steps:Int):Value := .agg #[.int .i64 kind,.int .i64 exit,ev,lk,.int .i64 steps]
def DM (h:za) (p:Pg) (lim:Int) (args world:List Int) (lab:Bool) (fuel:Int) (w:St->Value->Value->Value) (v:Value) (h':za):Prop := ∃ T ev lk,Ends p lim args world lab fuel T/\v=w T ev lk/\Sat (.of h) h' [qy 69 2 ev (T.ev.map qu),qy 41 3 lk (T.lk.map vA)]
def DL (h:za) (w:Value) (v:Value) (h':za):Prop:=v=w/\Sat (.of h) h' []
def pS:Value:=Ze 0 0 (.slice none 0 0) (.slice none 0 0) 0
def Dg (T:St) (ev lk:Value):Value := .tuple #[Ze T.kind T.exit ev lk T.steps,.int .i64 T.iB,.int .i64 0]
section
variable {h:za} {p:Pg} {av wv:Value} {args world:List Int} {lim fuel:Int} {lab:Bool}
theorem FV (P:qG h p) (ha:zG h av args) (hw:zG h wv world) (hwl:world.length * 8<=2 ^ 47) :
  DC Tryd.prog 25 [p.val,av,wv,.int .i64 fuel,.int .i64 lim,.bool lab] h (fun v h'=>if k9 p args fuel lim then DM h p lim args world lab fuel Dg v h' else DL h (.tuple #[pS,.int .i64 0,.int .i64 1]) v h'):=by
 apply Zq;intro wf
 apply tC
 unfold nZ
 have s0:Sat (.of h) h []:=Sat.self wf.2
 have RP:Rd (.of h) (qG · p):=Rd.of (yQ.uM h) P fun h' o=>P.old o
 have RA:Rd (.of h) (zG · av args):=Rd.of (yQ.uM h) ha fun h' o=>ha.old o
 have RW:Rd (.of h) (zG · wv world):=Rd.of (yQ.uM h) hw fun h' o=>hw.old o
 have gvn:=P.globals.Ye
 have gvc:=P.globals.nO
 have fvn:=P.funcs.Ye
 have fvc:=P.funcs.nO
 have avn:=ha.Ye
 have wvn:=hw.Ye
 have al:=FA ha 3
 simp -implicitDefEqProofs only [EE,Value.cells,Us]
 refine wy s0 fun b6 h2 s2 => ?_
 simp -implicitDefEqProofs only [EE,yb,Vd]
 refine wy s2 fun b12 h4 s4 => ?_
 have g6:=(s4.p 1).get
 simp -implicitDefEqProofs only [EE,MA,Nat.reduceAdd,g6]
 refine zj (by kernel_rfl) (by simp only [yV];rfl) (VH (RP.at s4)) ?_
 have bad:∀ J,¬ k9 p args fuel lim->Ji (.pointer (some ⟨b12,0,none⟩)) h4 (fun v h'=>if k9 p args fuel lim then DM h p lim args world lab fuel Dg v h' else DL h (.tuple #[pS,.int .i64 0,.int .i64 1]) v h') J:=by
  intro J hb
  unfold Ji
  simp -implicitDefEqProofs only [EE,Nat.reduceAdd,Wb,Gg]
  refine xx s4 (by simp) rfl fun h5 s5 => ?_
  have g7:=s5.get
  simp -implicitDefEqProofs only [EE,ze,MA,Nat.reduceAdd,yb,Ve,g7]
  refine ⟨rfl,?_⟩
  show if k9 p args fuel lim then _ else _
  rw [MJ hb]
  exact ⟨rfl,s5.drop.drop⟩
 cases hg:Ku p with
 | false=>
   simp -implicitDefEqProofs only [EE,j3,j4,j5,j6,j7,j8,kU]
   exact bad _ (by unfold k9;rw [hg];simp)
 | true=>
 by_cases e1:¬ (args.length:Int)=p.params
 ·simp -implicitDefEqProofs only [EE,zL,zu,ZG,j3,j4,j5,j6,j7,j8,kU,avn,al,g6,e1]
  exact bad _ (by unfold k9;omega)
 have e1:(args.length:Int)=p.params:=Classical.not_not.1 e1
 by_cases e2:fuel < 0
 ·simp -implicitDefEqProofs only [EE,zL,zu,ZG,j3,j4,j5,j6,j7,j8,kU,avn,al,g6,e1,e2]
  exact bad _ (by unfold k9;omega)
 by_cases e3:fuel > 100000000
 ·simp -implicitDefEqProofs only [EE,zL,zu,ZG,j3,j4,j5,j6,j7,j8,kU,avn,al,g6,e1,e2,e3]
  exact bad _ (by unfold k9;omega)
 by_cases e4:lim < 0
 ·simp -implicitDefEqProofs only [EE,zL,zu,ZG,j3,j4,j5,j6,j7,j8,kU,avn,al,g6,e1,e2,e3,e4]
  exact bad _ (by unfold k9;omega)
 by_cases e5:lim > 2147483647
 ·simp -implicitDefEqProofs only [EE,zL,zu,ZG,j3,j4,j5,j6,j7,j8,kU,avn,al,g6,e1,e2,e3,e4,e5]
  exact bad _ (by unfold k9;omega)
 simp -implicitDefEqProofs only [EE,zL,zu,ZG,j3,j4,j5,j6,j7,j8,kU,avn,al,g6,e1,e2,e3,e4,e5]
 have hok:k9 p args fuel lim:=⟨hg,e1,by omega,by omega,by omega,by omega⟩
 simp only [MK hok]
 have g:=En hg
 have gp:=g.par
 unfold lg
 simp -implicitDefEqProofs only [EE,MA,Nat.reduceAdd,yb,Vd,g6]
 refine zW (by kernel_rfl) (by simp only [yV,avn,wvn,M7];rfl) (D4 (RP.at s4) g (RA.at s4) (by omega) (RW.at s4) hwl) ?_
 rintro v h5 ⟨b,mb,wb,wn,lv,gl,lo1,rfl,le1,hL,hgl,s5⟩
 simp -implicitDefEqProofs only []
 have RP1:Rd lo1 (qG · p):=(Rd.of (yQ.uM h4) (RP.at s4) fun h' o=>qG.old (RP.at s4) o).mono le1
 refine zW (by kernel_rfl) rfl (GV RP1 g (by omega) hgl hL (by omega) (by omega) s5 (D3 g (by omega) (by omega) args) rfl rfl rfl rfl) ?_
 rintro v h6 ⟨T,LT,kT,ev,lk,cl,s6⟩
 have s7:=s4.join (s6.mono le1)
 have gm:=s7.get
 unfold yY at gm
 have hne:¬ b12=b:=(s7.p 7).ne
 have hne2:¬ b=b12:=fun q=>hne q.symm
 have en:=qx (s7.p 2)
 have ec:=ZI (s7.p 2)
 have kn:=qx (s7.p 1)
 have kc:=ZI (s7.p 1)
 unfold yZ
 simp -implicitDefEqProofs only [EE,MA,Nat.reduceAdd,Nat.reduceLeDiff,ne_eq,yb,zL,zu,Ve,Wb,mN,ks,ld,gm,UU,GY,FH,mc,hne,ne_eq,true_or]
 refine xx (s7.p 7) (by simp) (by simp [ec,kc];exact ⟨rfl,rfl,rfl⟩) fun h8 s8 => ?_
 have g8:=s8.get
 simp -implicitDefEqProofs only [EE,ze,MA,Nat.reduceAdd,yb,Ve,g8]
 obtain ⟨n,hn⟩:=LT.run
 refine ⟨by simp only [yV];rfl,?_⟩
 exact ⟨T,ev,lk,⟨kT,n,hn⟩,rfl,s8.k [3,2]⟩
theorem Ci {a b c:Value} (ha:yc a=false) (hb:yc b=false) (hc:yc c=false):ZW (.tuple #[a,b,c]) 0=some a:=(J0 (by simp only [yV,ha,hb,hc,M7])).trans rfl
theorem Cj {a b c:Value} (ha:yc a=false) (hb:yc b=false) (hc:yc c=false):ZW (.tuple #[a,b,c]) 1=some b:=(J0 (by simp only [yV,ha,hb,hc,M7])).trans rfl
theorem Ck {a b c:Value} (ha:yc a=false) (hb:yc b=false) (hc:yc c=false):ZW (.tuple #[a,b,c]) 2=some c:=(J0 (by simp only [yV,ha,hb,hc,M7])).trans rfl
def EM (T:St) (ev lk:Value):Value := .tuple #[Ze T.kind T.exit ev lk T.steps,.int .i64 0]
theorem rF (P:qG h p) (ha:zG h av args) (hw:zG h wv world) (hwl:world.length * 8<=2 ^ 47) :
  DC Tryd.prog 10 [p.val,av,wv,.int .i64 fuel,.int .i64 lim] h (fun v h'=>if k9 p args fuel lim then DM h p lim args world true fuel EM v h' else DL h (.tuple #[pS,.int .i64 1]) v h'):=by
 apply Zq;intro wf
 apply Bv
 unfold Bt
 have s0:Sat (.of h) h []:=Sat.self wf.2
 have RP:Rd (.of h) (qG · p):=Rd.of (yQ.uM h) P fun h' o=>P.old o
 have RA:Rd (.of h) (zG · av args):=Rd.of (yQ.uM h) ha fun h' o=>ha.old o
 have RW:Rd (.of h) (zG · wv world):=Rd.of (yQ.uM h) hw fun h' o=>hw.old o
 have gvn:=P.globals.Ye
 have gvc:=P.globals.nO
 have fvn:=P.funcs.Ye
 have fvc:=P.funcs.nO
 have avn:=ha.Ye
 have wvn:=hw.Ye
 simp -implicitDefEqProofs only [EE,Value.cells,Us]
 refine wy s0 fun b5 h2 s2 => ?_
 simp -implicitDefEqProofs only [EE,yb,Vd]
 refine wy s2 fun b10 h4 s4 => ?_
 have g5:=(s4.p 1).get
 simp -implicitDefEqProofs only [EE,MA,Nat.reduceAdd,g5]
 refine zW (by kernel_rfl) (by simp only [yV,avn,wvn,M7];rfl) (FV (fuel:=fuel) (lim:=lim) (lab:=true) (RP.at s4) (RA.at s4) (RW.at s4) hwl) ?_
 rintro v h7 hv
 by_cases hb:k9 p args fuel lim
 ·rw [MK hb] at hv
  obtain ⟨T,ev,lk,hT,rfl,s8⟩:=hv
  have s9:=s4.join s8
  have en:=qx s9
  have ec:=ZI s9
  have kn:=qx (s9.p 1)
  have kc:=ZI (s9.p 1)
  unfold Dg Ze
  simp -implicitDefEqProofs only [EE,Value.cells,Us,gu,Ci,Cj,Ck]
  refine wy s9 fun b12 h10 s10 => ?_
  simp -implicitDefEqProofs only [EE,Nat.reduceAdd,Wb]
  refine xx s10 (by simp) (by simp [ec,kc];exact ⟨rfl,rfl,rfl⟩) fun h11 s11 => ?_
  have g11:=s11.get
  simp -implicitDefEqProofs only [EE,ze,MA,Nat.reduceAdd,yb,Ve,Wb,g11]
  refine xx (s11.p 3) (by simp) (by simp [ec,kc];exact ⟨rfl,rfl,rfl⟩) fun h12 s12 => ?_
  have g12:=s12.get
  simp -implicitDefEqProofs only [EE,ze,MA,Nat.reduceAdd,yb,Ve,g12]
  rw [MK hb]
  exact ⟨T,ev,lk,hT,rfl,s12.k [2,3]⟩
 ·rw [MJ hb] at hv
  obtain ⟨rfl,s8⟩:=hv
  have s9:=s4.join s8
  unfold pS Ze
  simp -implicitDefEqProofs only [EE,Value.cells,Us,gu,Ci,Cj,Ck]
  refine wy s9 fun b12 h10 s10 => ?_
  simp -implicitDefEqProofs only [EE,Nat.reduceAdd,Wb]
  refine xx s10 (by simp) rfl fun h11 s11 => ?_
  have g11:=s11.get
  simp -implicitDefEqProofs only [EE,ze,MA,Nat.reduceAdd,yb,Ve,Wb,g11]
  refine xx (s11.p 1) (by simp) rfl fun h12 s12 => ?_
  have g12:=s12.get
  simp -implicitDefEqProofs only [EE,ze,MA,Nat.reduceAdd,yb,Ve,g12]
  rw [MJ hb]
  exact ⟨rfl,s12.zI 0⟩
end
end Go.As
namespace Go.Am
open Go.Ai Go.Proofs
open Go.Rtl (zG zX Old inc xG w7)
open Go.As (Ze)
open Go.Rm (qu vA qE Rd Rd.of Rd.at)
theorem Dj {P:Program} {f:FuncId} {args:List Value} {h:za} (wf:Q7 h) (d:DC P f args h.lock (fun v _ => ∃ B,v = .bool B)):∃ B,wS P f args h (.bool B):=by
 obtain ⟨v,h1,⟨B,rfl⟩,_,t⟩:=d wf.lock
 exact ⟨B,rfl,t.mono fun v h1 e=>e.1⟩
section
variable {h:za} {av bv:Value}
theorem Ii {h:za} {sv:Value} {l:List (Int × Int)} (S:zX h sv 2 (l.map qu)) (r:TypeId) (h':za):zo Tryd.prog .len [31] r [sv] h'=some (.int .i64 l.length,h'):=by
 rcases S with ⟨rfl,e⟩ | ⟨b,off,cp,rfl,_⟩
 ·have:l = []:=by simpa using e
  subst this
  simp only [pJ,M0]
 ·simp only [pJ,Nf]
theorem Ev {h:za} {sv:Value} {l:List (Int × Int × Int)} (S:zX h sv 3 (l.map vA)) (r:TypeId) (h':za):zo Tryd.prog .len [32] r [sv] h'=some (.int .i64 l.length,h'):=by
 rcases S with ⟨rfl,e⟩ | ⟨b,off,cp,rfl,_⟩
 ·have:l = []:=by simpa using e
  subst this
  simp only [iw,M0]
 ·simp only [iw,Nf]
theorem sJ {α:Type} {a b:List α} (p:a <+: b):a.length<=b.length:=p.length_le
theorem sI {α:Type} {a b:List α} (p:a <+: b) {i:Nat} {x:α} (h:a[i]? = some x):b[i]? = some x:=by
 obtain ⟨c,rfl⟩:=p
 have hi:i < a.length:=by
  rcases MX i a.length with q | q
  ·exact q
  ·rw [MO q] at h;cases h
 rw [NC hi];exact h
theorem mI {a b:List (Int × Int)} {all:Bool} (A:zX h av 2 (a.map qu)) (B:zX h bv 2 (b.map qu)) (hl:a.length < 4611686018427387904) (p:a <+: b) (e:all=true->a=b):wS Tryd.prog 13 [av,bv,.bool all] h (.bool true):=by
 apply xG
 replace A:=A.lock
 replace B:=B.lock
 generalize h.lock=L at A B
 apply iZ
 unfold Jc
 have an:=A.Ye
 have bn:=B.Ye
 have al:=Ii A 3
 have bl:=Ii B 3
 have c1:¬ (a.length:Int) > (b.length:Int):=by have:=sJ p;omega
 have rest:Vp (.bool false) (fun v _=>v = .bool true) av bv (.bool false) L:=by
  simp -implicitDefEqProofs only [EE,nth,↓yW,Vp]
  refine kD (fun m vs h' => ∃ (i:Nat),i<=a.length/\m=a.length - i/\vs = [.bool false,.int .i64 (i:Nat)]/\h'=L) a.length ⟨0,NG _,rfl,rfl,rfl⟩ ?_
  rintro m vs h' ⟨i,hi,rfl,rfl,rfl⟩
  unfold Jf
  by_cases hc:(i:Int) < (a.length:Int)
  ·obtain ⟨x,hx⟩:∃ x,a[i]? = some x:=⟨_,MF (by omega)⟩
   have hy:=sI p hx
   have h0:(0:Int)<=i:=by omega
   have hc2:(i:Int) < (b.length:Int):=by have:=sJ p;omega
   obtain ⟨b1,o1,c1',t1,⟨off1,cp1,rfl,rfl⟩,hi1,hb1,hg1,hl1,ht1,_⟩:=A.spot (i:=i) (r:=qu x) (by rw [M5,hx];rfl) rfl
   obtain ⟨b2,o2,c2',t2,⟨off2,cp2,rfl,rfl⟩,hi2,hb2,hg2,hl2,ht2,_⟩:=B.spot (i:=i) (r:=qu x) (by rw [M5,hy];rfl) rfl
   rw [Nf] at *
   unfold qu at ht1 ht2
   simp -implicitDefEqProofs only [EE,nth,↓yW,MA,yb,Oa,HC,Ic,pJ,GP,Jd,Je,hc,hc2,h0,hg1,hl1,ht1,hg2,hl2,ht2,M4,inc (show i < 4611686018427387904 by omega),Oa,Bool.and_self]
   exact ⟨a.length - (i + 1),by omega,i + 1,by omega,rfl,rfl⟩
  ·simp -implicitDefEqProofs only [EE,nth,hc,an,al]
 cases all with
 | false=>
   simp -implicitDefEqProofs only [EE,Vq,Vr,Vs,an,bn,al,bl,c1]
   exact rest
 | true=>
   have e:=e rfl
   subst e
   simp -implicitDefEqProofs only [EE,Vq,Vr,Vs,an,bn,al,bl,c1]
   exact rest
end
section
variable {h:za} {k1 e1 s1 k2 e2 s2:Int} {Ec nQ ev2 lk2:Value}
abbrev xY (k e:Int) (ev lk:Value) (s:Int):xS := .cells [.int .i64 k,.int .i64 e,ev,lk,.int .i64 s] 34
theorem G2 {a b:List (Int × Int)} (A:zX h Ec 2 (a.map qu)) (B:zX h ev2 2 (b.map qu)) (hl:a.length < 4611686018427387904) (hk:k1=k2) (he:e1=e2) (ha:a=b) (n1:yc nQ=false) (n2:yc lk2=false):wS Tryd.prog 11 [Ze k1 e1 Ec nQ s1,Ze k2 e2 ev2 lk2 s2] h (.bool true):=by
 apply xG
 replace A:=A.lock
 replace B:=B.lock
 generalize h.lock=L at A B
 apply Zq;intro wf
 have s0:Sat (.of L) L []:=Sat.self wf.2
 have RA:Rd (.of L) (zX · Ec 2 (a.map qu)):=Rd.of (yQ.uM L) A fun h' o=>A.old o
 have RB:Rd (.of L) (zX · ev2 2 (b.map qu)):=Rd.of (yQ.uM L) B fun h' o=>B.old o
 apply tE
 unfold n5 Ze
 subst hk he ha
 have an:=A.Ye
 have bn:=B.Ye
 simp -implicitDefEqProofs only [EE,Value.cells]
 refine wy s0 fun ba h2 s2 => ?_
 refine wy s2 fun bb h3 s3 => ?_
 have g1:=(s3.p 1).get
 have g2:=s3.get
 simp -implicitDefEqProofs only [EE,zL,xz,zu,r7,km,hO,KW,lh,lj,ll,lp,lu,g1,g2]
 refine zj (by kernel_rfl) (by simp only [yV,an,bn,M7];rfl) (mI (RA.at s3) (RB.at s3) hl (NT _) fun _=>rfl) ?_
 simp -implicitDefEqProofs only [EE]
 rfl
theorem Es {a b:List (Int × Int × Int)} (A:zX h nQ 3 (a.map vA)) (B:zX h lk2 3 (b.map vA)) (hl:a.length < 4611686018427387904) (hk:k1=k2) (ha:a=b) (n1:yc Ec=false) (n2:yc ev2=false):wS Tryd.prog 12 [Ze k1 e1 Ec nQ s1,Ze k2 e2 ev2 lk2 s2] h (.bool true):=by
 apply xG
 replace A:=A.lock
 replace B:=B.lock
 generalize h.lock=L at A B
 apply Zq;intro wf
 have s0:Sat (.of L) L []:=Sat.self wf.2
 have RA:Rd (.of L) (zX · nQ 3 (a.map vA)):=Rd.of (yQ.uM L) A fun h' o=>A.old o
 have RB:Rd (.of L) (zX · lk2 3 (b.map vA)):=Rd.of (yQ.uM L) B fun h' o=>B.old o
 apply nY
 unfold gk Ze
 subst hk ha
 have an:=A.Ye
 have bn:=B.Ye
 simp -implicitDefEqProofs only [EE,Value.cells]
 refine wy s0 fun ba h2 s2 => ?_
 refine wy s2 fun bb h3 s3 => ?_
 have g1:=(s3.p 1).get
 have g2:=s3.get
 have al:=Ev (RA.at s3) 3
 have bl:=Ev (RB.at s3) 3
 have c1:¬ ¬ (a.length:Int)=(a.length:Int):=by simp
 simp -implicitDefEqProofs only [EE,nth,↓yW,zL,zu,Kj,km,Yp,dx,dy,dz,dC,g1,g2,an,bn,al,bl]
 refine kD (fun m vs h' => ∃ (i:Nat),i<=a.length/\m=a.length - i/\vs = [.bool false,.int .i64 (i:Nat)]/\h'=h3) a.length ⟨0,NG _,rfl,rfl,rfl⟩ ?_
 rintro m vs h' ⟨i,hi,rfl,rfl,rfl⟩
 unfold dw
 by_cases hc:(i:Int) < (a.length:Int)
 ·obtain ⟨x,hx⟩:∃ x,a[i]? = some x:=⟨_,MF (by omega)⟩
  have h0:(0:Int)<=i:=by omega
  obtain ⟨b1,o1,c1',t1,⟨off1,cp1,rfl,rfl⟩,hi1,hb1,hg1,hl1,ht1,_⟩:=(RA.at s3).spot (i:=i) (r:=vA x) (by rw [M5,hx];rfl) rfl
  obtain ⟨b2,o2,c2',t2,⟨off2,cp2,rfl,rfl⟩,hi2,hb2,hg2,hl2,ht2,_⟩:=(RB.at s3).spot (i:=i) (r:=vA x) (by rw [M5,hx];rfl) rfl
  rw [Nf] at *
  unfold vA at ht1 ht2
  simp -implicitDefEqProofs only [EE,nth,↓yW,MA,yb,zL,Oa,Kj,Fe,Yp,Fy,iw,C3,du,dv,hc,h0,g1,g2,hg1,hl1,ht1,hg2,hl2,ht2,M4,inc (show i < 4611686018427387904 by omega),Oa,Bool.and_self]
  exact ⟨a.length - (i + 1),by omega,i + 1,by omega,rfl,rfl⟩
 ·simp -implicitDefEqProofs only [EE,nth,zL,Kj,Yp,hc,g1,an,al]
  rfl
end
section
variable {h:za} {p:Go.As.Pg}
open Go.As (Pg qG QH me t9 fK QS UM)
theorem HZ (P:qG h p) (wf:Q7 h):∃ B,wS Tryd.prog 6 [p.val] h (.bool B):=by
 refine Dj wf ?_
 replace P:=P.lock
 replace wf:=wf.lock
 generalize h.lock=L at P wf
 have s0:Sat (.of L) L []:=Sat.self wf.2
 have RP:Rd (.of L) (qG · p):=Rd.of (yQ.uM L) P fun h' o=>P.old o
 apply BJ
 unfold BH
 have gvn:=P.globals.Ye
 have gvc:=P.globals.nO
 have fvn:=P.funcs.Ye
 have fvc:=P.funcs.nO
 simp -implicitDefEqProofs only [EE,Value.cells]
 refine wy s0 fun b5 h2 s2 => ?_
 have g5:=s2.get
 have fl:=QS (RP.at s2).funcs 3
 have gl:=fK (RP.at s2).globals 3
 by_cases c1:(p.funcs.length:Int) > 8
 ·simp -implicitDefEqProofs only [EE,zL,qU,w9,Ug,Uh,g5,fvn,fl,c1]
  exact ⟨_,rfl⟩
 by_cases c2:(p.globals.length:Int) > 8
 ·simp -implicitDefEqProofs only [EE,zL,ZP,qU,qQ,w9,Ug,Uh,g5,gvn,fvn,fl,gl,c1,c2]
  exact ⟨_,rfl⟩
 simp -implicitDefEqProofs only [EE,nth,↓yW,zL,ZP,qU,qQ,w9,lF,Ug,Uh,g5,gvn,fvn,fl,gl,c1,c2]
 refine kD (fun m vs h' => ∃ (i:Nat) (v0:Value),i<=p.funcs.length/\m=p.funcs.length - i/\vs = [v0,.int .i64 (i:Nat)]/\h'=h2) p.funcs.length ⟨0,_,NG _,rfl,rfl,rfl⟩ ?_
 rintro m vs h' ⟨i,v0,hi,rfl,rfl,rfl⟩
 unfold lC
 by_cases hc:(i:Int) < (p.funcs.length:Int)
 ·obtain ⟨f,hf⟩:∃ f,p.funcs[i]? = some f:=⟨_,MF (by omega)⟩
  obtain ⟨bf,o,cf,tf,hix,hbf,hgf,hof,htf,hkf⟩:=me (RP.at s2).funcs (i:=i) (r:=f.row) (by rw [M5,hf];rfl) rfl
  have F:=(RP.at s2).fns f (Np hf)
  have cn:=F.code.Ye
  have cl:=UM F.code 3
  have k1:=hkf 1 (by decide)
  have k1:cf[o + 1]? = some f.cv:=k1
  have hin:=inc (show i < 4611686018427387904 by omega)
  by_cases d1:(f.code.length:Int) > 80
  ·simp -implicitDefEqProofs only [EE,nth,↓yW,zL,qU,XS,w9,ko,JD,hc,g5,fvn,fl,hix,hgf,k1,cn,cl,d1]
   exact ⟨_,rfl⟩
  simp -implicitDefEqProofs only [EE,nth,↓yW,zL,qU,XS,w9,ko,JD,lB,hc,g5,fvn,fl,hix,hgf,k1,cn,cl,d1]
  refine kD (fun m vs h9 => ∃ (j:Nat) (v0:Value),j<=f.code.length/\m=f.code.length - j/\vs = [v0,.int .i64 (j:Nat)]/\h9=h') f.code.length ⟨0,_,NG _,rfl,rfl,rfl⟩ ?_
  rintro m vs h9 ⟨j,v1,hj,rfl,rfl,rfl⟩
  unfold rT
  by_cases hc2:(j:Int) < (f.code.length:Int)
  ·obtain ⟨x,hx⟩:∃ x,f.code[j]? = some x:=⟨_,MF (by omega)⟩
   obtain ⟨bi,oi,ci,ti,ha,hbi,hgi,hle,htk,hki⟩:=QH F.code (i:=j) (r:=x.row) (by rw [M5,hx];rfl) rfl
   have q0:=hki 0 (by decide)
   have q0:ci[oi]? = some (.int .i64 x.op):=q0
   have q6:=hki 6 (by decide)
   have q6:ci[oi + 6]? = some (.int .i64 x.k):=q6
   have hjn:=inc (show j < 4611686018427387904 by omega)
   by_cases e1:x.op=23
   ·by_cases e2:x.k > 1024
    ·simp -implicitDefEqProofs only [EE,nth,↓yW,zL,xz,qU,zu,XS,w9,ko,zh,y7,KN,KO,KP,KQ,KR,KS,KT,hc2,g5,hix,hgf,k1,cn,cl,ha,hgi,q0,q6,e1,e2]
     exact ⟨_,rfl⟩
    ·simp -implicitDefEqProofs only [EE,nth,↓yW,zL,xz,qU,zu,XS,w9,ko,zh,y7,KN,KO,KP,KQ,KR,KS,KT,gC,hc2,g5,hix,hgf,k1,cn,cl,ha,hgi,q0,q6,e1,e2,hjn]
     exact ⟨f.code.length - (j + 1),by omega,j + 1,_,by omega,rfl,rfl⟩
   ·simp -implicitDefEqProofs only [EE,nth,↓yW,zL,qU,zu,XS,w9,ko,zh,KN,KO,KP,KQ,KR,KS,KT,gC,hc2,g5,hix,hgf,k1,cn,cl,ha,hgi,q0,e1,hjn]
    exact ⟨f.code.length - (j + 1),by omega,j + 1,_,by omega,rfl,rfl⟩
  ·simp -implicitDefEqProofs only [EE,nth,zL,qU,XS,w9,ko,hc2,g5,hix,hgf,k1,cn,cl,hin]
   exact ⟨p.funcs.length - (i + 1),by omega,i + 1,_,by omega,rfl,rfl⟩
 simp -implicitDefEqProofs only [EE,nth,zL,qU,w9,hc,g5,fvn,fl]
 refine kD (fun m vs h9 => ∃ (i:Nat) (v0:Value),i<=p.globals.length/\m=p.globals.length - i/\vs = [v0,.int .i64 (i:Nat)]/\h9=h') p.globals.length ⟨0,_,NG _,rfl,rfl,rfl⟩ ?_
 rintro m vs h9 ⟨i,v0,hi,rfl,rfl,rfl⟩
 unfold lE
 by_cases hc:(i:Int) < (p.globals.length:Int)
 ·obtain ⟨z,hz⟩:∃ z,p.globals[i]? = some z:=⟨_,MF (by omega)⟩
  obtain ⟨b11,o11,c11,t11,ix11,lt11,g11,k11⟩:=t9 (RP.at s2).globals hz
  have hin:=inc (show i < 4611686018427387904 by omega)
  by_cases d1:z > 1024
  ·simp -implicitDefEqProofs only [EE,nth,↓yW,zL,ZP,zu,qQ,JE,hc,g5,gvn,gl,ix11,g11,k11,d1]
   exact ⟨_,rfl⟩
  simp -implicitDefEqProofs only [EE,nth,↓yW,zL,ZP,zu,qQ,JE,lD,hc,g5,gvn,gl,ix11,g11,k11,d1,hin]
  exact ⟨p.globals.length - (i + 1),by omega,i + 1,_,by omega,rfl,rfl⟩
 simp -implicitDefEqProofs only [EE,nth,zL,ZP,qQ,hc,g5,gvn,gl]
 exact ⟨_,rfl⟩
end
open Go.As (Pg qG St DM DL k9 EM pS rF nC sO)
open Go.Rm (qy qx ZI Zh)
structure Lr (fuel:Int) (A B:St):Prop where
 one:(A.kind ≠ 2/\B=A)\/(A.kind=2/\A.steps=fuel/\A.ev <+: B.ev/\A.lk <+: B.lk)
theorem EG {p:Pg} {lim:Int} {args world:List Int} {lab:Bool} {fuel more:Int} {A B:St} (h0:0<=fuel) (h1:0<=more) (a:Go.As.Ends p lim args world lab fuel A) (b:Go.As.Ends p lim args world lab (fuel + more) B):Lr fuel A B:=by
 obtain ⟨n,rfl⟩:∃ n:Nat,fuel=n:=⟨fuel.toNat,by omega⟩
 obtain ⟨m,rfl⟩:∃ m:Nat,more=m:=⟨more.toNat,by omega⟩
 exact ⟨nC a b⟩
def yes (v:Value) (_:za):Prop:=v = .bool true
section
variable {h:za} {p:Pg} {av wv:Value} {args world:List Int} {fuel more lim:Int}
theorem EA (P:qG h p) (ha:zG h av args) (hw:zG h wv world) (hwl:world.length * 8<=2 ^ 47) (aw:∀ h',Old h h'->wS Tryd.prog 5 [] h' (.bool true)) :
  DC Tryd.prog 4 [p.val,av,wv,.int .i64 fuel,.int .i64 more,.int .i64 lim] h yes:=by
 apply Zq;intro wf
 apply gg
 unfold U7
 have s0:Sat (.of h) h []:=Sat.self wf.2
 have RP:Rd (.of h) (qG · p):=Rd.of (yQ.uM h) P fun h' o=>P.old o
 have RA:Rd (.of h) (zG · av args):=Rd.of (yQ.uM h) ha fun h' o=>ha.old o
 have RW:Rd (.of h) (zG · wv world):=Rd.of (yQ.uM h) hw fun h' o=>hw.old o
 have RQ:Rd (.of h) (fun h'=>wS Tryd.prog 5 [] h' (.bool true)):=fun h' b=>aw h' (by obtain ⟨a,c,d⟩:=(yQ.uM h).old b;exact ⟨a,c,d⟩)
 have gvn:=P.globals.Ye
 have gvc:=P.globals.nO
 have fvn:=P.funcs.Ye
 have fvc:=P.funcs.nO
 have avn:=ha.Ye
 have wvn:=hw.Ye
 simp -implicitDefEqProofs only [EE,Value.cells]
 refine sH s0 wf fun b5 h2 wf2 s2 => ?_
 have g2:=s2.get
 refine zj (by kernel_rfl) rfl (RQ.at s2) ?_
 simp -implicitDefEqProofs only [EE,MA,Nat.reduceAdd,yb,Vd,V9,g2]
 obtain ⟨B,hB⟩:=HZ (RP.at s2) wf2
 refine zj (by kernel_rfl) (by simp only [yV];rfl) hB ?_
 have yes':∀ (v:Value) (h':za),yes v h'=(v = .bool true):=fun _ _=>rfl
 cases B with
 | false=>
   simp -implicitDefEqProofs only [EE,uY,uZ,u0,u1,u2]
   rfl
 | true=>
 by_cases c1:fuel < 0
 ·simp -implicitDefEqProofs only [EE,uY,uZ,u0,u1,u2,c1]
  rfl
 by_cases c2:fuel > 1000
 ·simp -implicitDefEqProofs only [EE,uY,uZ,u0,u1,u2,c1,c2]
  rfl
 by_cases c3:more < 0
 ·simp -implicitDefEqProofs only [EE,uY,uZ,u0,u1,u2,c1,c2,c3]
  rfl
 by_cases c4:more > 1000
 ·simp -implicitDefEqProofs only [EE,uY,uZ,u0,u1,u2,c1,c2,c3,c4]
  rfl
 simp -implicitDefEqProofs only [EE,MA,Nat.reduceAdd,yb,Vd,uY,uZ,u0,u1,u2,g2,c1,c2,c3,c4]
 have hsum:IntKind.wrap .i64 (fuel + more)=fuel + more:=Go.Mem.kC (by omega) (by omega)
 have hb2:k9 p args (fuel + more) lim ↔ k9 p args fuel lim:=by
  unfold Go.As.k9
  constructor
  ·rintro ⟨a,b,c,d,e⟩;exact ⟨a,b,by omega,by omega,e⟩
  ·rintro ⟨a,b,c,d,e⟩;exact ⟨a,b,by omega,by omega,e⟩
 refine zW (by kernel_rfl) (by simp only [yV,avn,wvn,M7];rfl) (rF (RP.at s2) (RA.at s2) (RW.at s2) hwl) ?_
 rintro v h3 hv
 by_cases hb:k9 p args fuel lim
 ·rw [MK hb] at hv
  obtain ⟨A,Ec,nQ,hA,rfl,s3⟩:=hv
  have s4:=(s2.join s3).f [2,0,1]
  have e1n:=qx s3
  have e1c:=ZI s3
  have l1n:=qx (s3.p 1)
  have l1c:=ZI (s3.p 1)
  unfold EM Ze
  simp -implicitDefEqProofs only [EE,Value.cells,Us,Xh]
  refine wy s4 fun ba h5 s5 => ?_
  simp -implicitDefEqProofs only [EE,Nat.reduceAdd,Wb]
  refine xx s5 (by simp) (by simp [e1c,l1c];exact ⟨rfl,rfl,rfl⟩) fun h6 s6 => ?_
  have g6:=(s6.p 1).get
  simp -implicitDefEqProofs only [EE,MA,Nat.reduceAdd,yb,Vd,g6,hsum]
  refine zW (by kernel_rfl) (by simp only [yV,avn,wvn,M7];rfl) (rF (RP.at s6) (RA.at s6) (RW.at s6) hwl) ?_
  rintro v h7 hv
  rw [MK (hb2.2 hb)] at hv
  obtain ⟨B,ev2,lk2,hB,rfl,s7⟩:=hv
  have s8:=s6.join s7
  have e2n:=qx s7
  have e2c:=ZI s7
  have l2n:=qx (s7.p 1)
  have l2c:=ZI (s7.p 1)
  unfold EM Ze
  have pr:=EG (by omega) (by omega) hA hB
  simp -implicitDefEqProofs only [EE,Value.cells,Us,Xg]
  refine wy s8 fun bb h9 s9 => ?_
  simp -implicitDefEqProofs only [EE,Nat.reduceAdd,Wb]
  refine xx s9 (by simp) (by simp [e2c,l2c];exact ⟨rfl,rfl,rfl⟩) fun h10 s10 => ?_
  have g10:=s10.get
  have ga:=(s10.p 3).get
  have fa:=sO (by omega) hA
  have RE1:=Zh (s10.p 5) (qE (f:=qu) (fun _=>rfl) _)
  have RL1:=Zh (s10.p 6) (qE (f:=vA) (fun _=>rfl) _)
  have RE2:=Zh (s10.p 1) (qE (f:=qu) (fun _=>rfl) _)
  have RL2:=Zh (s10.p 2) (qE (f:=vA) (fun _=>rfl) _)
  rcases pr.one with ⟨k2,hBA⟩ | ⟨k2,hs,he,hl⟩
  ·subst hBA
   simp -implicitDefEqProofs only [EE,ze,MA,Nat.reduceAdd,yb,zL,zu,Ve,km,Kd,Xf,Zt,Zu,ga,g10,k2]
   refine zj (by kernel_rfl) (by simp only [yV];rfl) (G2 RE1 RE2 (by omega) rfl rfl rfl l1n l2n) ?_
   simp -implicitDefEqProofs only [EE,ze,MA,Nat.reduceAdd,yb,Ve,Kc,ga,g10]
   refine zj (by kernel_rfl) (by simp only [yV];rfl) (Es RL1 RL2 (by omega) rfl rfl e1n e2n) ?_
   simp -implicitDefEqProofs only [EE,ze,Nat.reduceAdd,zL,zu,UB,Q9,Ka,Kb,ga,g10]
   rfl
  ·simp -implicitDefEqProofs only [EE,ze,Nat.reduceAdd,zL,zu,r7,km,KW,UB,V6,V7,V8,Xf,Zt,Zu,ga,g10,k2,hs]
   refine zj (by kernel_rfl) (by simp only [yV,e1n,e2n,M7];rfl) (mI (all:=false) RE1 RE2 (by omega) he fun q=>(by cases q)) ?_
   have l1:=Ev RL1 3
   have l2:=Ev RL2 3
   have c5:¬ (A.lk.length:Int) > (B.lk.length:Int):=by have:=hl.length_le;omega
   simp -implicitDefEqProofs only [EE,nth,↓yW,ze,Nat.reduceAdd,zL,Kj,Yp,Kh,V2,V3,V4,V5,ga,g10,l1n,l2n,l1,l2,c5]
   refine kD (fun m vs h' => ∃ (i:Nat) (v0:Value),i<=A.lk.length/\m=A.lk.length - i/\vs = [v0,.int .i64 (i:Nat)]/\h'=h10) A.lk.length ⟨0,_,NG _,rfl,rfl,rfl⟩ ?_
   rintro m vs h' ⟨i,v0,hi,rfl,rfl,rfl⟩
   unfold Kg
   by_cases hc:(i:Int) < (A.lk.length:Int)
   ·obtain ⟨x,hx⟩:∃ x,A.lk[i]? = some x:=⟨_,MF (by omega)⟩
    have hy:=sI hl hx
    have h0:(0:Int)<=i:=by omega
    have hc2:(i:Int) < (B.lk.length:Int):=by have:=hl.length_le;omega
    obtain ⟨b1,o1,c1',t1,⟨off1,cp1,rfl,rfl⟩,hi1,hb1,hg1,hl1,ht1,_⟩:=RL1.spot (i:=i) (r:=vA x) (by rw [M5,hx];rfl) rfl
    obtain ⟨b2,o2,c2',t2,⟨off2,cp2,rfl,rfl⟩,hi2,hb2,hg2,hl2,ht2,_⟩:=RL2.spot (i:=i) (r:=vA x) (by rw [M5,hy];rfl) rfl
    rw [Nf] at *
    unfold vA at ht1 ht2
    simp -implicitDefEqProofs only [EE,nth,↓yW,ze,MA,Nat.reduceAdd,yb,zL,Oa,Kj,Fe,Yp,Fy,iw,C3,Ke,Kf,hc,hc2,h0,ga,g10,hg1,hl1,ht1,hg2,hl2,ht2,M4,inc (show i < 4611686018427387904 by omega),Oa,Bool.and_self]
    exact ⟨A.lk.length - (i + 1),by omega,i + 1,_,by omega,rfl,rfl⟩
   ·simp -implicitDefEqProofs only [EE,nth,ze,Nat.reduceAdd,zL,Kj,Yp,hc,ga,l1n,l1]
    rfl
 ·rw [MJ hb] at hv
  obtain ⟨rfl,s3⟩:=hv
  have s4:=s2.join s3
  unfold pS Ze
  simp -implicitDefEqProofs only [EE,Value.cells,Us,Xh]
  refine wy s4 fun ba h5 s5 => ?_
  simp -implicitDefEqProofs only [EE,Nat.reduceAdd,Wb]
  refine xx s5 (by simp) rfl fun h6 s6 => ?_
  have g6:=(s6.p 1).get
  simp -implicitDefEqProofs only [EE,MA,Nat.reduceAdd,yb,Vd,g6,hsum]
  refine zW (by kernel_rfl) (by simp only [yV,avn,wvn,M7];rfl) (rF (RP.at s6) (RA.at s6) (RW.at s6) hwl) ?_
  rintro v h7 hv
  rw [MJ (fun q=>hb (hb2.1 q))] at hv
  obtain ⟨rfl,s7⟩:=hv
  have s8:=s6.join s7
  unfold pS Ze
  simp -implicitDefEqProofs only [EE,Value.cells,Us,Xg]
  refine wy s8 fun bb h9 s9 => ?_
  simp -implicitDefEqProofs only [EE,Nat.reduceAdd,Wb]
  refine xx s9 (by simp) rfl fun h10 s10 => ?_
  simp -implicitDefEqProofs only [EE,Int.reduceEq,Zt,Zu]
  rfl
end
def cls:List Nat:=[0,0,1,1,1,1,1,1,1,1,1,1,1,1,1,1,1,1,1,1,1,1,1,1,1,1,1,1,1,1,1,1,1,1,1,1,1,1,1,0,1,1,1,1,1,1,1,1,1,1,1,1,1,1,1,1,1,1,1,1,1,1,1,1,1,1,1,1,1,1,1,1,1,1,1,1,1,1,1,1,1,1,1,1,1,1,1,1,1,1,1,1,1,1,1,1,1,1,1,1,1,1,1,0,0,0,0,0,0,0,0,0,0,0,0,0,0,0,0,0,0,0,0,0,0,0,0,0,0,0,0,0,0,0,0,1]
set_option maxRecDepth 100000 in
theorem fits:kh Tryd.prog cls=true:=by decide +kernel
set_option maxRecDepth 100000 in
theorem Ab:G3 (run Tryd.prog cls 4000 (.call 5 []) (iJ 100 []))=true:=by kernel_rfl
theorem DZ (h:za):wS Tryd.prog 5 [] h (.bool true):=by
 refine ⟨rfl,?_⟩
 obtain ⟨h',he⟩:=ED Ab
 have:=nR (P:=Tryd.prog) (m:=100) (tabs:=[]) (v := .bool true) (f:=5) rfl (M3 (by kernel_rfl)) (fun x hx=>by cases hx) ((th fits mixed he).mono (fun v h1 q=>q.1)) (h:=h.lock) (fun x hx=>by cases hx)
 exact this.mono (fun v h1 q=>q.1)
end Go.Am
namespace Go.As
open Go.Ai Go.Proofs
open Go.Rtl (zG zX Old)
theorem absH_lt (w:World) (b:Nat) (o:xS) (h:(absH Tryd.prog w).get b=some o):b < (absH Tryd.prog w).next:=(nt Tryd.prog w).XU b o h
theorem c2:Tryd.prog.cellsOf 2=1:=by kernel_rfl
theorem c3:Tryd.prog.cellsOf 3=1:=by kernel_rfl
theorem c9:Tryd.prog.cellsOf 9=1:=by kernel_rfl
theorem Mk:Tryd.prog.cellsOf 22=1:=by kernel_rfl
theorem Ml:Tryd.prog.cellsOf 23=1:=by kernel_rfl
theorem Mm:Tryd.prog.cellsOf 25=4:=by kernel_rfl
theorem Mn:Tryd.prog.cellsOf 47=1:=by kernel_rfl
theorem Mf:Tryd.prog.cellsOf 49=2:=by kernel_rfl
theorem Mg:Tryd.prog.cellsOf 51=7:=by kernel_rfl
theorem y2:Tryd.prog.bytesOf 2=8:=by kernel_rfl
theorem y3:Tryd.prog.bytesOf 3=8:=by kernel_rfl
theorem Mr:Tryd.prog.bytesOf 49=40:=by kernel_rfl
theorem Ms:Tryd.prog.bytesOf 51=56:=by kernel_rfl
theorem bR:reachBytes=140737488351232:=rfl
theorem iy {α:Type} {n:Nat} {Q:Nat->α->Prop} (h:∀ i,i < n->∃ z,Q i z):∃ l:List α,l.length=n /\ ∀ i z,l[i]? = some z->Q i z:=by
 obtain ⟨f,hf⟩:=Classical.axiomOfChoice (r:=fun (i:Fin n) z=>Q i.1 z) fun i=>h i.1 i.2
 refine ⟨List.ofFn f,by simp,fun i z hz => ?_⟩
 rw [List.getElem?_ofFn] at hz
 split at hz
 ·rename_i hi
  simp only [My] at hz
  subst hz
  exact hf ⟨i,hi⟩
 ·cases hz
theorem ni {c:List Value} {n:Nat} {v:Value} (h:(c.drop n).take 1 = [v]):c[n]? = some v:=by
 have:=congrArg (fun l=>l[0]?) h
 simpa [List.getElem?_take,Nn] using this
section
variable {h:za} (hw:∀ b o,h.get b=some o->b < h.next)
include hw
theorem EK {a:Value} (r:VZ Tryd.prog h 22 [a]):∃ zs,zG h a zs/\zs.length<=17592186043904:=by
 rcases bZ Tryd.underlying22 c3 y3 (by decide) r with e | ⟨b,off,len,e,hl,hc⟩
 ·simp only [NF,NB] at e
  exact ⟨[],.inl ⟨e,rfl⟩,NG _⟩
 ·simp only [NF,NB] at e
  subst e
  rw [bR] at hl
  by_cases h0:0 < len
  ·obtain ⟨c,t,hg,hat⟩:=hc h0
   obtain ⟨l,e1,e2⟩:=iy (n:=len) (Q:=fun i (z:Int)=>c[off + i]? = some (.int .i64 z)) fun i hi=>by
    obtain ⟨h1,h2⟩:=hat i hi
    obtain ⟨z,hz,_⟩:=rw_int Tryd.underlying3 h2
    rw [N4] at hz
    exact ⟨z,ni hz⟩
   refine ⟨l,.inr ⟨b,off,0,by rw [e1],fun _=>⟨c,t,hw b _ hg,hg,e2⟩⟩,by omega⟩
  ·have:len=0:=by omega
   subst this
   exact ⟨[],.inr ⟨b,off,0,rfl,fun q=>absurd rfl q⟩,NG _⟩
omit hw in
theorem GZ {cs:List Value} (r:VZ Tryd.prog h 51 cs):∃ x:qt,cs=x.row/\True:=by
 obtain ⟨hl,hf⟩:=Q0 Tryd.underlying51 r
 rw [Mg] at hl
 match cs,hl with
 | [a0,a1,a2,a3,a4,a5,a6],_=>
   have f0:VZ Tryd.prog h 3 (([a0,a1,a2,a3,a4,a5,a6].drop 0).take (Tryd.prog.cellsOf 3)):=hf _ (NI (i:=0) rfl)
   have f1:VZ Tryd.prog h 3 (([a0,a1,a2,a3,a4,a5,a6].drop 1).take (Tryd.prog.cellsOf 3)):=hf _ (NI (i:=1) rfl)
   have f2:VZ Tryd.prog h 3 (([a0,a1,a2,a3,a4,a5,a6].drop 2).take (Tryd.prog.cellsOf 3)):=hf _ (NI (i:=2) rfl)
   have f3:VZ Tryd.prog h 3 (([a0,a1,a2,a3,a4,a5,a6].drop 3).take (Tryd.prog.cellsOf 3)):=hf _ (NI (i:=3) rfl)
   have f4:VZ Tryd.prog h 3 (([a0,a1,a2,a3,a4,a5,a6].drop 4).take (Tryd.prog.cellsOf 3)):=hf _ (NI (i:=4) rfl)
   have f5:VZ Tryd.prog h 3 (([a0,a1,a2,a3,a4,a5,a6].drop 5).take (Tryd.prog.cellsOf 3)):=hf _ (NI (i:=5) rfl)
   have f6:VZ Tryd.prog h 2 (([a0,a1,a2,a3,a4,a5,a6].drop 6).take (Tryd.prog.cellsOf 2)):=hf _ (NI (i:=6) rfl)
   simp only [c2,c3,NP,Ok,Nh,List.take_zero] at f0 f1 f2 f3 f4 f5 f6
   obtain ⟨z0,e0,_⟩:=rw_int Tryd.underlying3 f0
   obtain ⟨z1,e1,_⟩:=rw_int Tryd.underlying3 f1
   obtain ⟨z2,e2,_⟩:=rw_int Tryd.underlying3 f2
   obtain ⟨z3,e3,_⟩:=rw_int Tryd.underlying3 f3
   obtain ⟨z4,e4,_⟩:=rw_int Tryd.underlying3 f4
   obtain ⟨z5,e5,_⟩:=rw_int Tryd.underlying3 f5
   obtain ⟨z6,e6,_⟩:=rw_int Tryd.underlying2 f6
   simp only [NF,NB] at e0 e1 e2 e3 e4 e5 e6
   subst e0 e1 e2 e3 e4 e5 e6
   exact ⟨⟨z0,z1,z2,z3,z4,z5,z6⟩,rfl,trivial⟩
theorem sM {α:Type} {row:α->List Value} {ok:α->Prop} {ts te:TypeId} {n bz:Nat} (hu:Tryd.prog.underlying ts=some (.slice te)) (hs:Tryd.prog.cellsOf te=n) (hb:Tryd.prog.bytesOf te=bz) (h0n:0 < n) (h8:8<=bz)
  (hrow:∀ cs,VZ Tryd.prog h te cs->∃ x,cs=row x/\ok x) {a:Value} (r:VZ Tryd.prog h ts [a]):∃ l:List α,zX h a n (l.map row)/\l.length * bz<=140737488351232 /\ ∀ x,x ∈ l->ok x:=by
 rcases bZ hu hs hb h0n r with e | ⟨b,off,len,e,hl,hc⟩
 ·simp only [NF,NB] at e
  exact ⟨[],.inl ⟨e,rfl⟩,by simp,fun x hx=>by cases hx⟩
 ·simp only [NF,NB] at e
  subst e
  rw [bR] at hl
  by_cases h0:0 < len
  ·obtain ⟨c,t,hg,hat⟩:=hc h0
   obtain ⟨l,e1,e2⟩:=iy (n:=len) (Q:=fun i x=>off + i * n + n<=c.length/\(c.drop (off + i * n)).take n=row x/\ok x) fun i hi=>by
    obtain ⟨h1,h2⟩:=hat i hi
    obtain ⟨x,hx,hok⟩:=hrow _ h2
    exact ⟨x,h1,hx,hok⟩
   refine ⟨l,.inr ⟨b,off,0,by rw [Nf,e1],fun _=>⟨c,t,hw b _ hg,hg,fun i r hr => ?_⟩⟩,?_,fun x hx => ?_⟩
   ·rw [M5] at hr
    cases hx:l[i]? with
    | none=>rw [hx] at hr;cases hr
    | some x=>
      rw [hx] at hr
      simp only [NX,My] at hr
      subst hr
      exact ⟨(e2 i x hx).1,(e2 i x hx).2.1⟩
   ·rw [e1];exact hl
   ·obtain ⟨k,hk,rfl⟩:=List.getElem_of_mem hx
    exact (e2 k _ (MF hk)).2.2
  ·have:len=0:=by omega
   subst this
   exact ⟨[],.inr ⟨b,off,0,rfl,fun q=>absurd rfl q⟩,by simp,fun x hx=>by cases hx⟩
theorem IP {cs:List Value} (r:VZ Tryd.prog h 49 cs):∃ f:Fn,cs=f.row/\cF h f:=by
 obtain ⟨hl,hf⟩:=Q0 Tryd.underlying49 r
 rw [Mf] at hl
 match cs,hl with
 | [a0,a1],_=>
   have f0:VZ Tryd.prog h 9 (([a0,a1].drop 0).take (Tryd.prog.cellsOf 9)):=hf _ (NI (i:=0) rfl)
   have f1:VZ Tryd.prog h 47 (([a0,a1].drop 1).take (Tryd.prog.cellsOf 47)):=hf _ (NI (i:=1) rfl)
   simp only [c9,Mn,NP,Ok,Nh,List.take_zero] at f0 f1
   obtain ⟨s,e0,_⟩:=AZ Tryd.underlying9 f0
   obtain ⟨code,C,hc,hi⟩:=sM hw Tryd.underlying47 Mg Ms (by decide) (by decide) (fun cs r=>GZ r) f1
   simp only [NF,NB] at e0
   subst e0
   exact ⟨⟨s,a1,code⟩,rfl,C,hc⟩
theorem rd_pg {cs:List Value} (r:VZ Tryd.prog h 25 cs):∃ p:Pg,cs=p.row/\qG h p:=by
 obtain ⟨hl,hf⟩:=Q0 Tryd.underlying25 r
 rw [Mm] at hl
 match cs,hl with
 | [a0,a1,a2,a3],_=>
   have f0:VZ Tryd.prog h 22 (([a0,a1,a2,a3].drop 0).take (Tryd.prog.cellsOf 22)):=hf _ (NI (i:=0) rfl)
   have f1:VZ Tryd.prog h 23 (([a0,a1,a2,a3].drop 1).take (Tryd.prog.cellsOf 23)):=hf _ (NI (i:=1) rfl)
   have f2:VZ Tryd.prog h 3 (([a0,a1,a2,a3].drop 2).take (Tryd.prog.cellsOf 3)):=hf _ (NI (i:=2) rfl)
   have f3:VZ Tryd.prog h 3 (([a0,a1,a2,a3].drop 3).take (Tryd.prog.cellsOf 3)):=hf _ (NI (i:=3) rfl)
   simp only [c3,Mk,Ml,NP,Ok,Nh,List.take_zero] at f0 f1 f2 f3
   obtain ⟨l,S,hl⟩:=EK hw f0
   obtain ⟨fs,C,hc,hi⟩:=sM hw Tryd.underlying23 Mf Mr (by decide) (by decide) (fun cs r=>IP hw r) f1
   obtain ⟨z2,e2,_⟩:=rw_int Tryd.underlying3 f2
   obtain ⟨z3,e3,_⟩:=rw_int Tryd.underlying3 f3
   simp only [NF,NB] at e2 e3
   subst e2 e3
   refine ⟨⟨a0,l,a1,fs,z2,z3⟩,rfl,S,hl,C,by show fs.length * 24<=140737488351232;omega,hi⟩
theorem rd_i64s {a:Value} (r:VZ Tryd.prog h 30 [a]):∃ l:List Int,zG h a l/\l.length * 8<=140737488351232:=by
 rcases bZ Tryd.underlying30 c2 y2 (by decide) r with e | ⟨b,off,len,e,hl,hc⟩
 ·simp only [NF,NB] at e
  exact ⟨[],.inl ⟨e,rfl⟩,NG _⟩
 ·simp only [NF,NB] at e
  subst e
  rw [bR] at hl
  by_cases h0:0 < len
  ·obtain ⟨c,t,hg,hat⟩:=hc h0
   obtain ⟨l,e1,e2⟩:=iy (n:=len) (Q:=fun i (z:Int)=>c[off + i]? = some (.int .i64 z)) fun i hi=>by
    obtain ⟨h1,h2⟩:=hat i hi
    obtain ⟨z,hz,_⟩:=rw_int Tryd.underlying2 h2
    rw [N4] at hz
    exact ⟨z,ni hz⟩
   refine ⟨l,.inr ⟨b,off,0,by rw [e1],fun _=>⟨c,t,hw b _ hg,hg,e2⟩⟩,by omega⟩
  ·have:len=0:=by omega
   subst this
   exact ⟨[],.inr ⟨b,off,0,rfl,fun q=>absurd rfl q⟩,NG _⟩
end
end Go.As
namespace Go.Am
open Go.Ai Go.Proofs
open Go.Rtl (zG)
open Go.As (Pg qG)
theorem law_ok {h:za} {p:Pg} {av wv:Value} {args world:List Int} {fuel more lim:Int} (P:qG h p) (ha:zG h av args) (hw:zG h wv world) (hwl:world.length * 8<=2 ^ 47) :
  DC Tryd.prog 4 [p.val,av,wv,.int .i64 fuel,.int .i64 more,.int .i64 lim] h yes:=EA P ha hw hwl fun h' e=>DZ h'
end Go.Am
