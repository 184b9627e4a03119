/- A part of the proof. -/
import Derived.Test.YtfhacoddmpbgnaaGreatDoorTO
import Derived.Test.YtfhacoddmpbgnaaGreatDoorTJ
set_option linter.unusedVariables false
set_option linter.unusedSimpArgs false
set_option maxRecDepth 100000
namespace Go.Rm
open Go.Ai Go.Proofs Go.Mem
open Go.Rtl (yM Pg zA wQ v8 xK zN zJ Old inc)
theorem FM (p:Pg) (world:List Int) (kept:Option (Int->Bool)) (S:St) (hk:S.kind=0) (hok:(qY p world kept S).2=true) (hk':(qY p world kept S).1.kind=0):(qY p world kept S).1.calls ≠ []:=by
 have top:∀ (S:St) (c:Fr),(Ei S c).calls ≠ []:=fun S c h=>by
  have h:S.calls.dropLast ++ [c] = []:=h
  simp at h
 revert hok hk'
 unfold qY
 cases hc:S.calls.getLast? with
 | none=>intro hok;cases hok
 | some c=>
 simp only
 cases hi:ZO p c with
 | none=>intro hok;cases hok
 | some i=>
 simp only
 unfold w4
 by_cases h2:i.op=2
 ·rw [if_pos h2];intro _ _;exact top _ _
 rw [if_neg h2]
 by_cases h3:i.op=3
 ·rw [if_pos h3];intro _ _;exact top _ _
 rw [if_neg h3]
 by_cases h4:i.op=4
 ·rw [if_pos h4]
  cases nY i.sub (ye c.regs i.a) with
  | none=>intro hok;cases hok
  | some v=>intro _ _;exact top _ _
 rw [if_neg h4]
 by_cases h5:i.op=5
 ·rw [if_pos h5]
  cases xp i.sub (ye c.regs i.a) (zY c i) with
  | none=>intro hok;cases hok
  | some v=>intro _ _;exact top _ _
 rw [if_neg h5]
 by_cases h6:i.op=6
 ·rw [if_pos h6]
  cases yB c i with
  | none=>intro hok;cases hok
  | some q=>
    simp only []
    cases ZP S.mem i.sub q with
    | none=>intro hok;cases hok
    | some v=>intro _ _;exact top _ _
 rw [if_neg h6]
 by_cases h7:i.op=7
 ·rw [if_pos h7]
  cases yB c i with
  | none=>intro hok;cases hok
  | some q=>
    simp only []
    cases jw S.mem i.sub q (ye c.regs i.b) with
    | none=>intro hok;cases hok
    | some M=>intro _ _;exact top _ _
 rw [if_neg h7]
 by_cases h8:i.op=8
 ·rw [if_pos h8];intro _ _;exact top _ _
 rw [if_neg h8]
 by_cases h9:i.op=9
 ·rw [if_pos h9];intro _ _;exact top _ _
 rw [if_neg h9]
 by_cases h10:i.op=10
 ·rw [if_pos h10]
  unfold wh
  split
  ·intro hok;cases hok
  split
  ·intro hok;cases hok
  split
  ·intro _ _ h
   have h:(xC S 4 i.sub 0).calls ++ [_] = []:=h
   simp at h
  ·intro hok;cases hok
 rw [if_neg h10]
 by_cases h11:i.op=11
 ·rw [if_pos h11]
  unfold cI
  split
  ·intro hok;cases hok
  ·intro _ _;exact top _ _
 rw [if_neg h11]
 by_cases h12:i.op=12
 ·rw [if_pos h12]
  unfold uQ
  split
  ·intro hok;cases hok
  split
  ·split
   ·intro _ q;cases q
   ·intro hok;cases hok
  ·split
   ·intro hok;cases hok
   ·intro _ _ h
    simp at h
 rw [if_neg h12]
 by_cases h13:i.op=13
 ·rw [if_pos h13];intro _ _;exact top _ _
 rw [if_neg h13]
 by_cases h14:i.op=14
 ·rw [if_pos h14]
  split
  ·intro _ _;exact top _ _
  ·intro hok;cases hok
 rw [if_neg h14];intro _ _;exact top _ _
theorem BE {p:Pg} {S:St} {n:Int} {args:List V} {f:Go.Rtl.Fn} (hf:p.funcs[n.toNat]? = some f):((wh p S n args).2=true->(wh p S n args).1.calls=S.calls ++ [⟨n.toNat,vX f.params args [],(y1 S.mem f.frame).2.1,f.entry⟩])/\((wh p S n args).2=false->(wh p S n args).1.calls=S.calls)/\(wh p S n args).1.gl=S.gl/\(wh p S n args).1.used=S.used:=by
 unfold wh
 split
 ·exact ⟨fun q=>(by cases q),fun _=>rfl,rfl,rfl⟩
 simp only [hf]
 split
 ·exact ⟨fun _=>rfl,fun q=>(by cases q),rfl,rfl⟩
 ·exact ⟨fun q=>(by cases q),fun _=>rfl,rfl,rfl⟩
section
variable {lo:yE} {h:za} {b mb wb:Nat} {p:Pg} {world:List Int} {gl kv wn:Value} {fuel:Int} {kept:Option (Int->Bool)}
theorem Pr (hp:Rd lo (wQ · p)) (g:F6 p) (hK:KV kv kept) (hwl:world.length < 4611686018427387904) {T:St × Bool} (x:CQ lo h p b mb wb world gl kv wn T.1) (hI:T.2=true->CM p T.1/\(T.1.kind=0->T.1.calls ≠ [])) (hs:T.1.steps=0) (hf0:0<=fuel) (hf1:fuel<=10000000) {J:List Value->za->Prop}
  (k:∀ h' S ok,Vm p world kept fuel.toNat T=(S,ok)->CQ lo h' p b mb wb world gl kv wn S->J [.bool ok] h') :
  LP (fun vs64 h65 j63=>GD (nth vs64 0) true (fun k66=>k66 (y6 b) h65) (XC vs64 J (y6 b) (.int .i64 fuel) j63) h65) [.bool T.2] h:=by
 refine kj (fun m vs h' => ∃ S ok,vs = [.bool ok]/\CQ lo h' p b mb wb world gl kv wn S/\(ok=true->CM p S/\(S.kind=0->S.calls ≠ [])/\S.steps + m=fuel)/\Vm p world kept fuel.toNat T=Vm p world kept m (S,ok))
  fuel.toNat ⟨T.1,T.2,rfl,x,fun q=>⟨(hI q).1,(hI q).2,by omega⟩,rfl⟩ ?_
 rintro m vs h' ⟨S,ok,rfl,x,hI,hl⟩
 have out:¬ (ok=true/\S.kind=0)->J [.bool ok] h':=fun q=>by
  refine k h' S ok ?_ x
  rw [hl]
  cases m with
  | zero=>show (if ok=true/\S.kind=0 then ({ S with kind:=2 },ok) else (S,ok))=_;rw [if_neg q]
  | succ m=>show (if ok=true/\S.kind=0 then _ else (S,ok))=_;rw [if_neg q]
 obtain ⟨ev,lk,cl,fbs,hlen,s⟩:=x
 have gm:=s.get
 unfold yK y6 at gm
 unfold y6
 cases ok with
 | false=>
   simp -implicitDefEqProofs only [EE,nth,ne_eq,VN,VO,VP,XC]
   exact out (by simp)
 | true=>
   by_cases hk:¬ S.kind=0
   ·simp -implicitDefEqProofs only [EE,nth,ne_eq,zC,zj,jo,Xx,VN,VO,VP,XC,gm,hk]
    exact out (by simp [hk])
   have hk:S.kind=0:=Classical.not_not.1 hk
   obtain ⟨I,hne,hsf⟩:=hI rfl
   have hne:=hne hk
   cases m with
   | zero=>
     have e:S.steps=fuel:=by omega
     simp -implicitDefEqProofs only [EE,nth,↓BK,Nat.reduceAdd,ne_eq,zC,zj,jo,Xx,Jb,dG,VN,VO,VP,XC,gm,hk,e]
     simp -implicitDefEqProofs only [EE,Wy,jo,Xx,ow]
     refine yL s (by simp) rfl fun h2 s2 => ?_
     refine k h2 { S with kind:=2 } true ?_ ⟨ev,lk,cl,fbs,hlen,s2⟩
     rw [hl]
     show (if true=true/\S.kind=0 then ({ S with kind:=2 },true) else (S,true))=_
     rw [if_pos ⟨rfl,hk⟩]
   | succ m=>
     have e:¬ S.steps=fuel:=by omega
     have h0:0<=S.steps:=by have:=I.lk;omega
     have hw:IntKind.wrap .i64 (S.steps + 1)=S.steps + 1:=Go.Mem.ZV (by omega) (by omega)
     simp -implicitDefEqProofs only [EE,nth,↓BK,Nat.reduceAdd,ne_eq,zC,zj,jo,Xx,Jb,dG,VN,VO,VP,XC,gm,hk,e]
     simp -implicitDefEqProofs only [EE,Nat.reduceAdd,zC,zj,Wy,jo,Jb,oz,gm,hw]
     refine yL s (by simp) rfl fun h2 s2 => ?_
     have ok2:=I.ok g (by omega)
     refine zT (by kernel_rfl) rfl (PU (S:={ S with steps:=S.steps + 1 }) hp hK hwl ⟨ev,lk,cl,fbs,hlen,s2⟩ ⟨ok2.fr,ok2.at_,ok2.low,ok2.many,ok2.lk,ok2.ev,ok2.used,ok2.mem,ok2.gl⟩ hne) ?_
     rintro v h3 ⟨rfl,x3⟩
     refine ⟨m,by omega,_,_,rfl,x3,fun q=>⟨MJ g I hne q,fun q2=>FM p world kept _ hk q q2,?_⟩,?_⟩
     ·have:=(MO p world kept { S with steps:=S.steps + 1 }).steps
      rw [this]
      show S.steps + 1 + (m:Int)=fuel
      omega
     ·rw [hl]
      show (if true=true/\S.kind=0 then _ else (S,true))=_
      rw [if_pos ⟨rfl,hk⟩]
end
def ie (f:Go.Rtl.Fn) (args:List Int) (fuel:Int):Prop:=args.length ≠ f.params.length\/fuel < 0\/10000000 < fuel
instance (f:Go.Rtl.Fn) (args:List Int) (fuel:Int):Decidable (ie f args fuel):=by unfold ie;infer_instance
def Xs (kind exit:Int) (ev lk:Value) (steps:Int):Value := .agg #[.int .i64 kind,.int .i64 exit,ev,lk,.int .i64 steps]
def F8 (h:za) (S:St) (v:Value) (h':za):Prop := ∃ ev lk,v = .tuple #[Xs S.kind S.exit ev lk S.steps,.int .i64 0]/\Sat (.of h) h' [xN 97 2 ev (S.ev.map kp),xN 74 3 lk (S.lk.map uh)]
def F7 (h:za) (v:Value) (h':za):Prop:=v = .tuple #[Xs 0 0 (.slice none 0 0) (.slice none 0 0) 0,.int .i64 1]/\Sat (.of h) h' []
theorem Sf {h:za} {sv:Value} {l:List Int} (S:zN h sv l) (r:TypeId) (h':za):zg Tryz.prog .len [26] r [sv] h'=some (.int .i64 l.length,h'):=by
 rcases S with ⟨rfl,rfl⟩ | ⟨b,off,cp,rfl,_⟩
 ·simp only [tI,aaw]
 ·simp only [tI]
theorem zN.shape {h:za} {sv:Value} {l:List Int} (S:zN h sv l):∃ a n c,sv = .slice a n c:=by
 rcases S with ⟨rfl,_⟩ | ⟨b,off,cp,rfl,_⟩ <;> exact ⟨_,_,_,rfl⟩
theorem zJ.shape {h:za} {sv:Value} {n:Nat} {l:List (List Value)} (S:zJ h sv n l):∃ a n c,sv = .slice a n c:=by
 rcases S with ⟨rfl,_⟩ | ⟨b,off,cp,rfl,_⟩ <;> exact ⟨_,_,_,rfl⟩
theorem OZ (v00:Option Addr) (v00l v00c:Nat) (v01:Option Addr) (v01l v01c:Nat) (v02:Int) (v1:Option Addr) (v2:Option Addr):yg Tryz.prog 106 [(0,(.agg #[(.slice v00 v00l v00c),(.slice v01 v01l v01c),(.int .i64 v02)])),(1,(.pointer v1)),(2,(.pointer v2)),(6,.nilFunc)]=some (.agg #[(.slice v00 v00l v00c),(.slice v01 v01l v01c),(.int .i64 v02),.pointer v1,.pointer v2,.int .i64 0,.int .i64 0,.slice none 0 0,.slice none 0 0,.int .i64 0,.slice none 0 0,.slice none 0 0,.nilFunc]):=zB (by kernel_rfl)
theorem Se {kv:Value} {kept:Option (Int->Bool)} (hK:KV kv kept):(zP kv=false/\cellOk kv=true) /\ ∀ (v00:Option Addr) (v00l v00c:Nat) (v01:Option Addr) (v01l v01c:Nat) (v02:Int) (v1:Option Addr) (v2:Option Addr),yg Tryz.prog 106 [(0,(.agg #[(.slice v00 v00l v00c),(.slice v01 v01l v01c),(.int .i64 v02)])),(1,(.pointer v1)),(2,(.pointer v2)),(6,kv)]=some (.agg #[(.slice v00 v00l v00c),(.slice v01 v01l v01c),(.int .i64 v02),.pointer v1,.pointer v2,.int .i64 0,.int .i64 0,.slice none 0 0,.slice none 0 0,.int .i64 0,.slice none 0 0,.slice none 0 0,kv]):=by
 unfold KV at hK
 cases kept with
 | none=>subst hK;exact ⟨⟨rfl,rfl⟩,OZ⟩
 | some K=>obtain ⟨g,rfl,_⟩:=hK;exact ⟨⟨rfl,rfl⟩,fun _ _ _ _ _ _ _ _ _=>ma _ _ _ _ _ _ _ _ _ _ _ _⟩
section
variable {h:za} {p:Pg} {f:Go.Rtl.Fn} {av wv kv:Value} {args world:List Int} {fuel:Int} {kept:Option (Int->Bool)}
theorem PI (P:wQ h p) (g:F6 p) (hf:p.funcs[p.main.toNat]? = some f) (ha:zN h av args) (hw:zN h wv world) (hwl:world.length * 8<=2 ^ 47) (hK:KV kv kept) :
  DC Tryz.prog 22 [p.val,av,wv,.int .i64 fuel,kv] h (fun v h'=>if ie f args fuel then F7 h v h' else F8 h (runM p args world kept fuel.toNat) v h'):=by
 apply jO;intro wf
 apply Gh
 unfold Ic
 have s0:Sat (.of h) h []:=Sat.self wf.2
 have RP:Rd (.of h) (wQ · p):=Rd.of (yE.jq h) P fun h' o=>P.old o
 have RA:Rd (.of h) (zN · av args):=Rd.of (yE.jq h) ha fun h' o=>ha.old o
 have RW:Rd (.of h) (zN · wv world):=Rd.of (yE.jq h) hw fun h' o=>hw.old o
 have gvn:=P.globals.vk
 have gvc:=P.globals.gO
 have fvn:=P.funcs.vk
 have fvc:=P.funcs.gO
 have avn:=ha.vk
 have avc:=ha.gO
 have wvn:=hw.vk
 have wvc:=hw.gO
 have al:=Sf ha 3
 simp -implicitDefEqProofs only [EE,Value.cells,l9]
 refine FA s0 wf fun b5 h2 wf2 s2 => ?_
 simp -implicitDefEqProofs only []
 refine FA s2 wf2 fun b10 h4 wf4 s4 => ?_
 have g5:=(s4.p 1).get
 have P4:=RP.at s4
 obtain ⟨bf,o,cf,tf,hix,hbf,hgf,hof,htf,hkf⟩:=zJ.cC P4.funcs (i:=p.main.toNat) (r:=f.row) (by rw [aap,hf];rfl) rfl
 have hmn:((p.main.toNat:Nat):Int)=p.main:=by have:=g.main;omega
 rw [hmn] at hix
 have k1:=hkf 1 (by decide)
 have fm:=aaq hf
 have pn:=(P4.fns f fm).params.vk
 have pl:=(P4.fns f fm).params.jM 3
 simp -implicitDefEqProofs only [EE,zC,xr,vA,zj,y8,Xw,uK,g5,avn,al,hix,hgf,k1,pn,pl]
 have bad:ie f args fuel->iV (.pointer (some ⟨b10,0,none⟩)) h4 (fun v h'=>if ie f args fuel then F7 h v h' else F8 h (runM p args world kept fuel.toNat) v h') (fun vs16 h17=>opt (zd Tryz.prog 25 (.pointer (some ⟨b5,0,none⟩)) h17) fun t41=>cG Tryz.prog 45 [] h17 (fun t42 h20=>cG Tryz.prog 46 [wv] h20 (dI t41 t42 kv (.pointer (some ⟨b5,0,none⟩)) av (.int .i64 fuel) (.pointer (some ⟨b10,0,none⟩)) (fun v h'=>if ie f args fuel then F7 h v h' else F8 h (runM p args world kept fuel.toNat) v h')))):=by
  intro hb
  simp only [if_pos hb]
  unfold iV
  simp -implicitDefEqProofs only [EE,Nat.reduceAdd,Ju,Ld]
  refine yL s4 (by simp) rfl fun h5 s5 => ?_
  have g6:=s5.get
  simp -implicitDefEqProofs only [EE,zf,if_true,Nat.reduceAdd,zZ,Kb,g6]
  exact ⟨rfl,s5.zB 0⟩
 by_cases e1:¬ (args.length:Int)=(f.params.length:Int)
 ·simp -implicitDefEqProofs only [EE,zZ,ZX,VQ,VR,VS,e1]
  exact bad (.inl (by omega))
 have e1:(args.length:Int)=(f.params.length:Int):=Classical.not_not.1 e1
 by_cases e2:fuel < 0
 ·simp -implicitDefEqProofs only [EE,zZ,ZX,VQ,VR,VS,e1,e2]
  exact bad (.inr (.inl e2))
 by_cases e3:fuel > 10000000
 ·simp -implicitDefEqProofs only [EE,zZ,ZX,VQ,VR,VS,e1,e2,e3]
  exact bad (.inr (.inr (by omega)))
 have nb:¬ ie f args fuel:=by unfold ie;omega
 clear bad
 simp -implicitDefEqProofs only [EE,if_true,Nat.reduceAdd,zZ,ZX,VQ,VR,VS,e1,e2,e3,g5]
 refine tk (by kernel_rfl) rfl wf4 s4 (Px (Sat.self wf4.lock.2)) ?_
 rintro v h5 ⟨mb,rfl,s5⟩ back wf6
 have s6:=back _ s5
 clear back s5
 generalize wY h4 h5=h6 at wf6 s6 ⊢
 refine tk (by kernel_rfl) (by simp only [yC,wvn,cond_false]) wf6 s6 (PW (RW.at s6).lock hwl (Sat.self wf6.lock.2)) ?_
 rintro v h7 ⟨wb,wn,rfl,s7⟩ back wf8
 have s8:=back _ s7
 clear back s7
 generalize wY h6 h7=h8 at wf8 s8 ⊢
 unfold y6
 obtain ⟨⟨hkn,hkc⟩,hbd⟩:=Se hK
 have bd:∀ q1 q2,yg Tryz.prog 106 [(0,.agg #[p.gv,p.fv,.int .i64 p.main]),(1,.pointer q1),(2,.pointer q2),(6,kv)]=some (.agg #[p.gv,p.fv,.int .i64 p.main,.pointer q1,.pointer q2,.int .i64 0,.int .i64 0,.slice none 0 0,.slice none 0 0,.int .i64 0,.slice none 0 0,.slice none 0 0,kv]):=by
  obtain ⟨a1,n1,c1,q1⟩:=zN.shape P.globals
  obtain ⟨a2,n2,c2,q2⟩:=zJ.shape P.funcs
  rw [q1,q2]
  exact fun _ _=>hbd _ _ _ _ _ _ _ _ _
 simp -implicitDefEqProofs only [EE,Value.cells,zC,xr,xM,dI,hkn,bd]
 refine uR s8 fun b h9 s9 => ?_
 have g9:=(s9.p 5).get
 have PG:=(RP.at s9).globals
 have gl9:=PG.len
 simp -implicitDefEqProofs only [EE,↓BK,g9,gvn,gl9]
 refine kj (fun m vs h' => ∃ (i:Nat) (gl:Value),i<=p.globals.length/\m=p.globals.length - i/\vs = [.int .i64 (i:Nat)]/\Sat (.of h) h' [xN 3 1 gl ((wR (p.globals.take i) [] []).2.map yw),pt b (yK p mb wb (KC p) (.slice none 0 0) (.slice none 0 0) gl (.slice none 0 0) kv),pt wb (.cells [wn,.int .i64 0] 141),xN 2 1 wn (world.map yw),kE mb (wR (p.globals.take i) [] []).1,pt b10 (.cells [.int .i64 0,.int .i64 0,.slice none 0 0,.slice none 0 0,.int .i64 0] 33),pt b5 (.cells p.row 25)])
  p.globals.length ⟨0,.slice none 0 0,aa0 _,rfl,rfl,ub _ _ s9⟩ ?_
 rintro m vs h' ⟨i,gl,hi,rfl,rfl,s10⟩
 unfold Aw
 obtain ⟨gm,gll,gb⟩:=tC (p.globals.take i) [] [] B7 (fun z h=>by cases h)
 have g200:=g.globals
 have hlen:(p.globals.take i).length=i:=by simp;omega
 by_cases hc:(i:Int) < (p.globals.length:Int)
 ·obtain ⟨r,hr1⟩:∃ r,p.globals[i]? = some r:=⟨_,aab (by omega)⟩
  obtain ⟨b11,o11,c11,t11,ix11,lt11,g11,k11⟩:=(RP.at s10).globals.at hr1
  have gM:=(s10.p 1).get
  unfold yK y6 at gM
  have et:p.globals.take (i + 1)=p.globals.take i ++ [r]:=by rw [abP,hr1];rfl
  have e1:=mH (p.globals.take i) r [] []
  rw [<- et] at e1
  have a:=Qd r gm
  simp -implicitDefEqProofs only [EE,nth,↓BK,zC,J1,zj,Wj,Au,Av,hc,ix11,g11,k11,gM]
  obtain ⟨lo1,l1,s11,fr⟩:=(s10.f [4]).call (L2:=[kE mb (wR (p.globals.take i) [] []).1])
  refine zT (by kernel_rfl) rfl (E4 s11 r) ?_
  rintro v h12 ⟨rfl,s12⟩
  have s13:=fr _ _ s12
  have gM:=(s13.p 2).get
  unfold yK y6 at gM
  simp -implicitDefEqProofs only [EE,zC,J1,Wj,At,gM]
  obtain ⟨lo2,l2,s14,fr2⟩:=s13.call (L2:=[kE mb (y1 (wR (p.globals.take i) [] []).1 r).1])
  refine zT (by kernel_rfl) rfl (P9 s14 a.1.1 a.2.2) ?_
  rintro v h15 ⟨rfl,s15⟩
  have s16:=fr2 _ _ s15
  have gM:=(s16.p 2).get
  unfold yK y6 at gM
  have gn:=xw (s16.p 1)
  have s17:=s16.push (.cells [.int .i64 (y1 (wR (p.globals.take i) [] []).1 r).2.1] 3)
  obtain ⟨b',c',h18,a1,s18⟩:=YS (s17.p 2) (vZ (f:=yw) (fun _=>rfl) _) [.int .i64 (y1 (wR (p.globals.take i) [] []).1 r).2.1] rfl (by decide) 8 (by rw [aak,gll];simp;omega)
  rw [aak] at a1 s18
  have hap:∀ r',zg Tryz.prog .append [22,22] r' [gl,.slice (some ⟨h15.next,0,none⟩) 1 3] (h15.push (.cells [.int .i64 (y1 (wR (p.globals.take i) [] []).1 r).2.1] 3))=some (.slice (some ⟨b',0,none⟩) ((wR (p.globals.take i) [] []).2.length + 1) c',h18):=fun r'=>
   (IV r' _ _ 1 [.int .i64 (y1 (wR (p.globals.take i) [] []).1 r).2.1] _ rfl (by simp only [xA,zo];rfl) rfl rfl).trans a1
  simp -implicitDefEqProofs only [EE,zC,xr,E7,V8,BJ,As,gM,gn,hap]
  refine yL (s18.p 3) (by simp) rfl fun h19 s19 => ?_
  simp -implicitDefEqProofs only [EE,nth,inc (show i < 4611686018427387904 by omega)]
  refine ⟨p.globals.length - (i + 1),by omega,i + 1,.slice (some ⟨b',0,none⟩) ((wR (p.globals.take i) [] []).2.length + 1) c',by omega,rfl,rfl,?_⟩
  rw [e1]
  rw [aaU]
  exact s19.k [1,0,4,5,3,6,7]
 ·have hi9:i=p.globals.length:=by omega
  subst hi9
  rw [List.take_length] at s10
  simp -implicitDefEqProofs only [EE,nth,hc]
  clear s2 s4 s6 s8 s9 g5 g9
  unfold oD
  simp -implicitDefEqProofs only [EE,↓BK,avn,al]
  have hp1:=g.par f fm
  refine kj (fun m vs h' => ∃ (i:Nat) (lv:Value),i<=args.length/\m=args.length - i/\vs = [lv,.int .i64 (i:Nat)]/\Sat (.of h) h' [xN 69 3 lv (((args.take i).map j1).map V.yJ),xN 3 1 gl ((wR p.globals [] []).2.map yw),pt b (yK p mb wb (KC p) (.slice none 0 0) (.slice none 0 0) gl (.slice none 0 0) kv),pt wb (.cells [wn,.int .i64 0] 141),xN 2 1 wn (world.map yw),kE mb (wR p.globals [] []).1,pt b10 (.cells [.int .i64 0,.int .i64 0,.slice none 0 0,.slice none 0 0,.int .i64 0] 33),pt b5 (.cells p.row 25)])
   args.length ⟨0,.slice none 0 0,aa0 _,rfl,rfl,ub _ _ s10⟩ ?_
  rintro m vs h9 ⟨i,lv,hi,rfl,rfl,s11⟩
  unfold ov
  by_cases hc2:(i:Int) < (args.length:Int)
  ·obtain ⟨r,hr1⟩:∃ r,args[i]? = some r:=⟨_,aab (by omega)⟩
   have et:args.take (i + 1)=args.take i ++ [r]:=by rw [abP,hr1];rfl
   have hlen2:(args.take i).length=i:=by simp;omega
   obtain ⟨bb,o2,cs,t,⟨off,cp,rfl,rfl⟩,hib,hbb,hgt,hle,htk,hat⟩:=(Cy (RA.at s11)).spot (i:=i) (r:=yw r) (by rw [aap,hr1];rfl) rfl
   have hat0:cs[off + i * 1]? = some (.int .i64 r):=hat 0 (by decide)
   rw [aa6] at hat0
   rw [aak] at *
   have hi8:(0:Int)<=i:=by omega
   simp -implicitDefEqProofs only [EE,nth,↓BK,if_true,zC,wj,Ov,Ay,hc2,hi8,hgt,hat0,aa6,aau]
   refine zi (by kernel_rfl) rfl (ZQ r _) ?_
   have s12:=s11.push (.cells [.int .i64 (j1 r).k,.int .i64 (j1 r).n,.int .i64 (j1 r).b] 69)
   obtain ⟨b',c',h18,a1,s18⟩:=YS (s12.p 1) (jy _) (j1 r).yJ rfl (by decide) 24 (by simp;omega)
   rw [aak,aak] at a1 s18
   have ln:=xw s11
   have hap:∀ r',zg Tryz.prog .append [59,59] r' [lv,.slice (some ⟨h9.next,0,none⟩) 1 3] (h9.push (.cells [.int .i64 (j1 r).k,.int .i64 (j1 r).n,.int .i64 (j1 r).b] 69))=some (.slice (some ⟨b',0,none⟩) ((args.take i).length + 1) c',h18):=fun r'=>
    (IW r' _ _ 1 (j1 r).yJ _ rfl (by simp only [xA,zo];rfl) rfl rfl).trans a1
   simp -implicitDefEqProofs only [EE,nth,eO,Ax,Az,ln,hap,inc (show i < 4611686018427387904 by omega)]
   refine ⟨args.length - (i + 1),by omega,i + 1,_,by omega,rfl,rfl,?_⟩
   rw [et,aaU,aaU]
   exact s18.k [0,2,3,4,5,6,7,8]
  ·have hi9:i=args.length:=by omega
   subst hi9
   rw [List.take_length] at s11
   have gb5:=(s11.p 7).get
   simp -implicitDefEqProofs only [EE,nth,zC,zj,Xw,zj,Xw,oC,hc2,gb5]
   obtain ⟨lo1,l1,ra,s12,back⟩:=MG s11 (jy _)
   have s13:=ub 152 1 s12
   obtain ⟨lo2,l2,s14,fr⟩:=(s13.f [2,0,5]).call (L2:=[pt b (yK p mb wb (KC p) (.slice none 0 0) (.slice none 0 0) gl (.slice none 0 0) kv),xN 152 1 (.slice none 0 0) [],kE mb (wR p.globals [] []).1])
   have en:=Fg (S:=KC p) (n:=p.main.toNat) (fbs:=[]) (args:=args.map j1) (RP.mono (l1.trans l2)) (ra.mono l2) s14 hf (by rw [aak];omega) rfl hp1.2 hp1.1
   rw [hmn] at en
   refine zT (by kernel_rfl) (by simp only [yC,xw s11,cond_false];rfl) en ?_
   rintro v h15 ⟨rfl,x15⟩
   have es:wh p (KC p) p.main (args.map j1)=vm p args:=rfl
   obtain ⟨c1,c2,c3,c4⟩:=BE (S:=KC p) (args:=args.map j1) hf
   rw [es] at x15 c1 c2 c3 c4 ⊢
   have c3:(vm p args).1.gl=(wR p.globals [] []).2:=c3
   have c4:(vm p args).1.used=0:=c4
   obtain ⟨k0,st0,ev0,lk0⟩:=gW p args
   have X:∃ cl' fbs',fbs'.length=(vm p args).1.calls.length/\Sat lo1 h15 ((xt p b mb wb world (vm p args).1 (.slice none 0 0) (.slice none 0 0) gl cl' kv wn fbs' ++ aA p fbs' (vm p args).1.calls) ++ [pt b10 (.cells [.int .i64 0,.int .i64 0,.slice none 0 0,.slice none 0 0,.int .i64 0] 33),pt b5 (.cells p.row 25)]):=by
    unfold xt
    rw [c3,c4,ev0,lk0]
    by_cases hok:(vm p args).2=true
    ·rw [if_pos hok] at x15
     obtain ⟨fb,cl',x15⟩:=x15
     have s16:=ub 74 3 (ub 97 2 (fr _ _ x15))
     refine ⟨cl',[fb],by rw [c1 hok];rfl,?_⟩
     rw [c1 hok]
     exact s16.f [2,3,4,0,1,6,7,8,5]
    ·rw [if_neg hok] at x15
     have s16:=ub 74 3 (ub 97 2 (fr _ _ x15))
     have c2:=c2 (by simpa using hok)
     refine ⟨.slice none 0 0,[],by rw [c2];rfl,?_⟩
     rw [c2]
     exact s16.f [2,3,4,0,1,5,6,7]
   clear x15 s14 s13 s12 s11 s10
   obtain ⟨cl',fbs',hfl,s18⟩:=X
   obtain ⟨lo3,l3,s19,fr3⟩:=s18.call (L2:=xt p b mb wb world (vm p args).1 (.slice none 0 0) (.slice none 0 0) gl cl' kv wn fbs' ++ aA p fbs' (vm p args).1.calls)
   unfold oB
   refine Pr (RP.mono (l1.trans l3)) g hK (by omega) (T:=vm p args) ⟨_,_,cl',fbs',hfl,s19⟩ (fun q=>⟨FL g args q,fun _=>by rw [c1 q];simp⟩) st0 (by omega) (by omega) ?_
   intro h20 S ok hl x20
   obtain ⟨ev,lk,cl2,fbs2,hfl2,s20⟩:=x20
   have s21:=fr3 _ _ s20
   have fin:∀ {h22:za} (S':St),S'.ev=S.ev->S'.lk=S.lk->G8 (S,ok)=S'->Sat lo1 h22 ((pt b (yK p mb wb S' ev lk gl cl2 kv) :: (xt p b mb wb world S ev lk gl cl2 kv wn fbs2).tail ++ aA p fbs2 S.calls) ++ [pt b10 (.cells [.int .i64 0,.int .i64 0,.slice none 0 0,.slice none 0 0,.int .i64 0] 33),pt b5 (.cells p.row 25)])->dH (.pointer (some ⟨b,0,none⟩)) (.pointer (some ⟨b10,0,none⟩)) (fun v h'=>if ie f args fuel then F7 h v h' else F8 h (runM p args world kept fuel.toNat) v h') [] h22:=by
    intro h22 S' he hk hend s22
    have g22:=s22.get
    unfold yK y6 at g22
    have en:=xw (s22.p 4)
    have ec:=vE (s22.p 4)
    have kn:=xw (s22.p 3)
    have kc:=vE (s22.p 3)
    have s23:=s22.perm abr
    simp -implicitDefEqProofs only [EE,if_true,Nat.reduceAdd,Nat.reduceLeDiff,zZ,Kb,Ju,jo,dH,g22]
    refine yL s23 (by simp) (by simp [ec,kc];exact ⟨rfl,rfl,rfl⟩) fun h24 s24 => ?_
    have g24:=s24.get
    simp -implicitDefEqProofs only [EE,zf,if_true,Nat.reduceAdd,zZ,Kb,g24]
    rw [if_neg nb]
    have er:runM p args world kept fuel.toNat=S':=by unfold runM;rw [hl];exact hend
    rw [er]
    refine ⟨ev,lk,rfl,?_⟩
    rw [he,hk]
    exact (back _ _ (s24.k [6,5])).drop
   cases ok with
   | true=>
     simp -implicitDefEqProofs only [EE,nth]
     exact fin S rfl rfl rfl s21
   | false=>
     have g21:=s21.get
     unfold yK y6 at g21
     simp -implicitDefEqProofs only [EE,nth,Wy,jo,Xx,oA]
     refine yL s21 (by simp) rfl fun h22 s22 => ?_
     exact fin { S with kind:=3 } rfl rfl rfl s22
end
open Go.Rtl (uH dr)
def Kt (p:Pg):Go.Rtl.Fn:=(p.funcs[p.main.toNat]?).getD ⟨⟨#[]⟩,.nilFunc,[],0,0,0,.nilFunc,[]⟩
theorem F6.Kt {p:Pg} (g:F6 p):p.funcs[p.main.toNat]? = some (Kt p):=by
 have:=g.main
 unfold Go.Rm.Kt
 rw [aab (by omega)]
 rfl
def nV (p:Pg) (args:List Int) (fuel:Int):Prop:=uH p=true /\ ¬ ie (Kt p) args fuel
instance (p:Pg) (args:List Int) (fuel:Int):Decidable (nV p args fuel):=by unfold nV;infer_instance
section
variable {h:za} {p:Pg} {av wv:Value} {args world:List Int} {fuel:Int}
theorem FG (P:wQ h p) (ha:zN h av args) (hw:zN h wv world) (hwl:world.length * 8<=2 ^ 47) :
  DC Tryz.prog 9 [p.val,av,wv,.int .i64 fuel] h (fun v h'=>if nV p args fuel then F8 h (runM p args world none fuel.toNat) v h' else F7 h v h'):=by
 apply jO;intro wf
 apply Ie
 unfold N9
 have s0:Sat (.of h) h []:=Sat.self wf.2
 have RP:Rd (.of h) (wQ · p):=Rd.of (yE.jq h) P fun h' o=>P.old o
 have RA:Rd (.of h) (zN · av args):=Rd.of (yE.jq h) ha fun h' o=>ha.old o
 have RW:Rd (.of h) (zN · wv world):=Rd.of (yE.jq h) hw fun h' o=>hw.old o
 have gvn:=P.globals.vk
 have gvc:=P.globals.gO
 have fvn:=P.funcs.vk
 have fvc:=P.funcs.gO
 have avn:=ha.vk
 have wvn:=hw.vk
 simp -implicitDefEqProofs only [EE,Value.cells,l9]
 refine uR s0 fun b5 h2 s2 => ?_
 simp -implicitDefEqProofs only [EE,zZ,ZX]
 refine uR s2 fun b10 h4 s4 => ?_
 have g5:=(s4.p 1).get
 simp -implicitDefEqProofs only [EE,if_true,Nat.reduceAdd,g5]
 refine zi (by kernel_rfl) (by simp only [yC];rfl) (dr p h4 (RP.at s4)) ?_
 cases hg:uH p with
 | false=>
   simp -implicitDefEqProofs only [EE,Nat.reduceAdd,Ju,Ld,ED,sB]
   refine yL s4 (by simp) rfl fun h5 s5 => ?_
   have g6:=s5.get
   simp -implicitDefEqProofs only [EE,zf,if_true,Nat.reduceAdd,zZ,Kb,g6]
   rw [if_neg (by unfold nV;rw [hg];simp)]
   exact ⟨rfl,s5.zB 0⟩
 | true=>
   simp -implicitDefEqProofs only [EE,if_true,Nat.reduceAdd,zZ,ZX,sB,g5]
   have g:=iF hg
   refine zT (by kernel_rfl) (by simp only [yC,avn,wvn,cond_false];rfl) (PI (fuel:=fuel) (kept:=none) (RP.at s4) g g.Kt (RA.at s4) (RW.at s4) hwl rfl) ?_
   rintro v h7 hv
   by_cases hb:ie (Kt p) args fuel
   ·rw [if_pos hb] at hv
    obtain ⟨rfl,s8⟩:=hv
    unfold Xs
    simp -implicitDefEqProofs only [EE,Nat.reduceAdd,Ju,sA]
    refine yL (s4.join s8) (by simp) rfl fun h9 s9 => ?_
    have g9:=s9.get
    simp -implicitDefEqProofs only [EE,zf,if_true,Nat.reduceAdd,zZ,Kb,g9]
    rw [if_neg (by unfold nV;rw [hg];simp [hb])]
    exact ⟨rfl,s9.zB 0⟩
   ·rw [if_neg hb] at hv
    obtain ⟨ev,lk,rfl,s8⟩:=hv
    have en:=xw s8
    have ec:=vE s8
    have kn:=xw (s8.p 1)
    have kc:=vE (s8.p 1)
    have s9:=(s4.join s8).p 2
    unfold Xs
    simp -implicitDefEqProofs only [EE,Nat.reduceAdd,Ju,sA]
    refine yL s9 (by simp) (by simp [ec,kc];exact ⟨rfl,rfl,rfl⟩) fun h10 s10 => ?_
    have g10:=s10.get
    simp -implicitDefEqProofs only [EE,zf,if_true,Nat.reduceAdd,zZ,Kb,g10]
    rw [if_pos ⟨hg,hb⟩]
    exact ⟨ev,lk,rfl,s10.k [1,2]⟩
end
end Go.Rm
namespace Go.Rl
open Go.Ai Go.Proofs
open Go.Rtl (yM Pg wQ v8 xK zN zJ Old inc ki qO)
open Go.Rm (kp uh Xs vZ Rd Rd.of Rd.at)
theorem Mp {P:Program} {f:FuncId} {args:List Value} {h:za} (wf:VJ h) (d:DC P f args h.lock (fun v _ => ∃ B,v = .bool B)):∃ B,xx P f args h (.bool B):=by
 obtain ⟨v,h1,⟨B,rfl⟩,_,t⟩:=d wf.lock
 exact ⟨B,rfl,t.mono fun v h1 e=>e.1⟩
section
variable {h:za} {av bv:Value}
theorem Sg {h:za} {sv:Value} {l:List (Int × Int)} (S:zJ h sv 2 (l.map kp)) (r:TypeId) (h':za):zg Tryz.prog .len [30] r [sv] h'=some (.int .i64 l.length,h'):=by
 rcases S with ⟨rfl,e⟩ | ⟨b,off,cp,rfl,_⟩
 ·have:l = []:=by simpa using e
  subst this
  simp only [DT,aaw]
 ·simp only [DT,aak]
theorem Si {h:za} {sv:Value} {l:List (Int × Int × Int)} (S:zJ h sv 3 (l.map uh)) (r:TypeId) (h':za):zg Tryz.prog .len [31] r [sv] h'=some (.int .i64 l.length,h'):=by
 rcases S with ⟨rfl,e⟩ | ⟨b,off,cp,rfl,_⟩
 ·have:l = []:=by simpa using e
  subst this
  simp only [DU,aaw]
 ·simp only [DU,aak]
theorem FB {α:Type} {a b:List α} (p:a <+: b):a.length<=b.length:=p.length_le
theorem NM {α:Type} {a b:List α} (p:a <+: b) {i:Nat} {x:α} (h:a[i]? = some x):b[i]? = some x:=by
 obtain ⟨c,rfl⟩:=p
 have hi:i < a.length:=by
  rcases aar i a.length with q | q
  ·exact q
  ·rw [aaj q] at h;cases h
 rw [abl hi];exact h
theorem Lz {a b:List (Int × Int)} {all:Bool} (A:zJ h av 2 (a.map kp)) (B:zJ h bv 2 (b.map kp)) (hl:a.length < 4611686018427387904) (p:a <+: b) (e:all=true->a=b):xx Tryz.prog 29 [av,bv,.bool all] h (.bool true):=by
 apply ki
 replace A:=A.lock
 replace B:=B.lock
 generalize h.lock=L at A B
 apply Aq
 unfold Ap
 have an:=A.vk
 have bn:=B.vk
 have al:=Sg A 3
 have bl:=Sg B 3
 have c1:¬ (a.length:Int) > (b.length:Int):=by have:=FB p;omega
 have rest:JE (.bool false) (fun v _=>v = .bool true) av bv (.bool false) L:=by
  simp -implicitDefEqProofs only [EE,nth,↓BK,JE]
  refine kj (fun m vs h' => ∃ (i:Nat),i<=a.length/\m=a.length - i/\vs = [.bool false,.int .i64 (i:Nat)]/\h'=L) a.length ⟨0,aa0 _,rfl,rfl,rfl⟩ ?_
  rintro m vs h' ⟨i,hi,rfl,rfl,rfl⟩
  unfold iS
  by_cases hc:(i:Int) < (a.length:Int)
  ·obtain ⟨x,hx⟩:∃ x,a[i]? = some x:=⟨_,aab (by omega)⟩
   have hy:=NM p hx
   have h0:(0:Int)<=i:=by omega
   have hc2:(i:Int) < (b.length:Int):=by have:=FB p;omega
   obtain ⟨b1,o1,c1',t1,⟨off1,cp1,rfl,rfl⟩,hi1,hb1,hg1,hl1,ht1,_⟩:=A.spot (i:=i) (r:=kp x) (by rw [aap,hx];rfl) rfl
   obtain ⟨b2,o2,c2',t2,⟨off2,cp2,rfl,rfl⟩,hi2,hb2,hg2,hl2,ht2,_⟩:=B.spot (i:=i) (r:=kp x) (by rw [aap,hy];rfl) rfl
   rw [aak] at *
   unfold kp at ht1 ht2
   simp -implicitDefEqProofs only [EE,nth,↓BK,if_true,zZ,beq_self_eq_true,RD,Sb,DT,Pz,iQ,iR,hc,hc2,h0,hg1,hl1,ht1,hg2,hl2,ht2,aau,inc (show i < 4611686018427387904 by omega),beq_self_eq_true,acF]
   exact ⟨a.length - (i + 1),by omega,i + 1,by omega,rfl,rfl⟩
  ·simp -implicitDefEqProofs only [EE,nth,hc,an,al]
 cases all with
 | false=>
   simp -implicitDefEqProofs only [EE,JF,JG,JH,an,bn,al,bl,c1]
   exact rest
 | true=>
   have e:=e rfl
   subst e
   simp -implicitDefEqProofs only [EE,JF,JG,JH,an,bn,al,bl,c1]
   exact rest
end
section
variable {h:za} {k1 e1 s1 k2 e2 s2:Int} {ev1 lk1 ev2 lk2:Value}
theorem Mx {a b:List (Int × Int)} (A:zJ h ev1 2 (a.map kp)) (B:zJ h ev2 2 (b.map kp)) (hl:a.length < 4611686018427387904) (hk:k1=k2) (he:e1=e2) (ha:a=b) (n1:zP lk1=false) (n2:zP lk2=false):xx Tryz.prog 11 [Xs k1 e1 ev1 lk1 s1,Xs k2 e2 ev2 lk2 s2] h (.bool true):=by
 apply ki
 replace A:=A.lock
 replace B:=B.lock
 generalize h.lock=L at A B
 apply jO;intro wf
 have s0:Sat (.of L) L []:=Sat.self wf.2
 have RA:Rd (.of L) (zJ · ev1 2 (a.map kp)):=Rd.of (yE.jq L) A fun h' o=>A.old o
 have RB:Rd (.of L) (zJ · ev2 2 (b.map kp)):=Rd.of (yE.jq L) B fun h' o=>B.old o
 apply oH
 unfold sC Xs
 subst hk he ha
 have an:=A.vk
 have bn:=B.vk
 simp -implicitDefEqProofs only [EE,Value.cells]
 refine uR s0 fun ba h2 s2 => ?_
 refine uR s2 fun bb h3 s3 => ?_
 have g1:=(s3.p 1).get
 have g2:=s3.get
 simp -implicitDefEqProofs only [EE,zC,wj,zj,IN,Xx,tn,tq,bE,bF,bH,VT,QD,g1,g2]
 refine zi (by kernel_rfl) (by simp only [yC,an,bn,cond_false];rfl) (Lz (RA.at s3) (RB.at s3) hl (ab3 _) fun _=>rfl) ?_
 simp -implicitDefEqProofs only [EE]
 rfl
theorem Fv {a b:List (Int × Int × Int)} (A:zJ h lk1 3 (a.map uh)) (B:zJ h lk2 3 (b.map uh)) (hl:a.length < 4611686018427387904) (hk:k1=k2) (ha:a=b) (n1:zP ev1=false) (n2:zP ev2=false):xx Tryz.prog 12 [Xs k1 e1 ev1 lk1 s1,Xs k2 e2 ev2 lk2 s2] h (.bool true):=by
 apply ki
 replace A:=A.lock
 replace B:=B.lock
 generalize h.lock=L at A B
 apply jO;intro wf
 have s0:Sat (.of L) L []:=Sat.self wf.2
 have RA:Rd (.of L) (zJ · lk1 3 (a.map uh)):=Rd.of (yE.jq L) A fun h' o=>A.old o
 have RB:Rd (.of L) (zJ · lk2 3 (b.map uh)):=Rd.of (yE.jq L) B fun h' o=>B.old o
 apply CV
 unfold EB Xs
 subst hk ha
 have an:=A.vk
 have bn:=B.vk
 simp -implicitDefEqProofs only [EE,Value.cells]
 refine uR s0 fun ba h2 s2 => ?_
 refine uR s2 fun bb h3 s3 => ?_
 have g1:=(s3.p 1).get
 have g2:=s3.get
 have al:=Si (RA.at s3) 3
 have bl:=Si (RB.at s3) 3
 have c1:¬ ¬ (a.length:Int)=(a.length:Int):=by simp
 simp -implicitDefEqProofs only [EE,nth,↓BK,zC,zj,Bj,Xx,cP,om,oq,ot,ou,g1,g2,an,bn,al,bl]
 refine kj (fun m vs h' => ∃ (i:Nat),i<=a.length/\m=a.length - i/\vs = [.bool false,.int .i64 (i:Nat)]/\h'=h3) a.length ⟨0,aa0 _,rfl,rfl,rfl⟩ ?_
 rintro m vs h' ⟨i,hi,rfl,rfl,rfl⟩
 unfold oj
 by_cases hc:(i:Int) < (a.length:Int)
 ·obtain ⟨x,hx⟩:∃ x,a[i]? = some x:=⟨_,aab (by omega)⟩
  have h0:(0:Int)<=i:=by omega
  obtain ⟨b1,o1,c1',t1,⟨off1,cp1,rfl,rfl⟩,hi1,hb1,hg1,hl1,ht1,_⟩:=(RA.at s3).spot (i:=i) (r:=uh x) (by rw [aap,hx];rfl) rfl
  obtain ⟨b2,o2,c2',t2,⟨off2,cp2,rfl,rfl⟩,hi2,hb2,hg2,hl2,ht2,_⟩:=(RB.at s3).spot (i:=i) (r:=uh x) (by rw [aap,hx];rfl) rfl
  rw [aak] at *
  unfold uh at ht1 ht2
  simp -implicitDefEqProofs only [EE,nth,↓BK,if_true,zZ,zC,beq_self_eq_true,Bj,RC,cP,Sc,DU,Py,og,oh,hc,h0,g1,g2,hg1,hl1,ht1,hg2,hl2,ht2,aau,inc (show i < 4611686018427387904 by omega),beq_self_eq_true,acF]
  exact ⟨a.length - (i + 1),by omega,i + 1,by omega,rfl,rfl⟩
 ·simp -implicitDefEqProofs only [EE,nth,zC,Bj,cP,hc,g1,an,al]
  rfl
end
section
variable {h:za} {p:Pg}
theorem R7 (P:wQ h p) (wf:VJ h):∃ B,xx Tryz.prog 7 [p.val] h (.bool B):=by
 refine Mp wf ?_
 replace P:=P.lock
 replace wf:=wf.lock
 generalize h.lock=L at P wf
 have s0:Sat (.of L) L []:=Sat.self wf.2
 have RP:Rd (.of L) (wQ · p):=Rd.of (yE.jq L) P fun h' o=>P.old o
 apply Iq
 unfold Oa
 have gvn:=P.globals.vk
 have gvc:=P.globals.gO
 have fvn:=P.funcs.vk
 have fvc:=P.funcs.gO
 simp -implicitDefEqProofs only [EE,Value.cells]
 refine uR s0 fun b5 h2 s2 => ?_
 have g5:=s2.get
 have fl:=(RP.at s2).funcs.Jy 3
 have gl:=(RP.at s2).globals.jM 3
 rw [aak] at fl
 by_cases c1:(p.funcs.length:Int) > 12
 ·simp -implicitDefEqProofs only [EE,zC,vA,y8,bK,bL,g5,fvn,fl,c1]
  exact ⟨_,rfl⟩
 by_cases c2:(p.globals.length:Int) > 12
 ·simp -implicitDefEqProofs only [EE,zC,xr,vA,xM,y8,bK,bL,g5,gvn,fvn,fl,gl,c1,c2]
  exact ⟨_,rfl⟩
 simp -implicitDefEqProofs only [EE,nth,↓BK,zC,xr,vA,xM,y8,AW,bK,bL,g5,gvn,fvn,fl,gl,c1,c2]
 refine kj (fun m vs h' => ∃ (i:Nat) (v0:Value),i<=p.funcs.length/\m=p.funcs.length - i/\vs = [v0,.int .i64 (i:Nat)]/\h'=h2) p.funcs.length ⟨0,_,aa0 _,rfl,rfl,rfl⟩ ?_
 rintro m vs h' ⟨i,v0,hi,rfl,rfl,rfl⟩
 unfold AT
 by_cases hc:(i:Int) < (p.funcs.length:Int)
 ·obtain ⟨f,hf⟩:∃ f,p.funcs[i]? = some f:=⟨_,aab (by omega)⟩
  obtain ⟨bf,o,cf,tf,hix,hbf,hgf,hof,htf,hkf⟩:=zJ.cC (RP.at s2).funcs (i:=i) (r:=f.row) (by rw [aap,hf];rfl) rfl
  have cn:=((RP.at s2).fns f (aaq hf)).code.vk
  have cl:=((RP.at s2).fns f (aaq hf)).code.Qu 3
  rw [aak] at cl
  have k2:=hkf 2 (by decide)
  have k3:=hkf 3 (by decide)
  have k5:=hkf 5 (by decide)
  have hin:=inc (show i < 4611686018427387904 by omega)
  by_cases d1:(f.code.length:Int) > 60
  ·simp -implicitDefEqProofs only [EE,nth,↓BK,zC,vA,vK,y8,y9,bJ,bM,bN,bO,bP,bQ,bR,bS,bT,hc,g5,fvn,fl,hix,hgf,k5,cn,cl,d1]
   exact ⟨_,rfl⟩
  by_cases d2:f.regs > 40
  ·simp -implicitDefEqProofs only [EE,nth,↓BK,zC,vA,zj,vK,y8,wF,y9,bJ,bM,bN,bO,bP,bQ,bR,bS,bT,hc,g5,fvn,fl,hix,hgf,k2,k5,cn,cl,d1,d2]
   exact ⟨_,rfl⟩
  by_cases d3:f.frame > 4096
  ·simp -implicitDefEqProofs only [EE,nth,↓BK,zC,vA,zj,vK,y8,wF,kH,y9,bJ,bM,bN,bO,bP,bQ,bR,bS,bT,hc,g5,fvn,fl,hix,hgf,k2,k3,k5,cn,cl,d1,d2,d3]
   exact ⟨_,rfl⟩
  simp -implicitDefEqProofs only [EE,nth,↓BK,zC,vA,zj,vK,y8,wF,kH,y9,bJ,bM,bN,bO,bP,bQ,bR,bS,bT,AS,hc,g5,fvn,fl,hix,hgf,k2,k3,k5,cn,cl,d1,d2,d3,hin]
  exact ⟨p.funcs.length - (i + 1),by omega,i + 1,_,by omega,rfl,rfl⟩
 simp -implicitDefEqProofs only [EE,nth,zC,vA,y8,hc,g5,fvn,fl]
 refine kj (fun m vs h9 => ∃ (i:Nat) (v0:Value),i<=p.globals.length/\m=p.globals.length - i/\vs = [v0,.int .i64 (i:Nat)]/\h9=h') p.globals.length ⟨0,_,aa0 _,rfl,rfl,rfl⟩ ?_
 rintro m vs h9 ⟨i,v0,hi,rfl,rfl,rfl⟩
 unfold AV
 by_cases hc:(i:Int) < (p.globals.length:Int)
 ·obtain ⟨z,hz⟩:∃ z,p.globals[i]? = some z:=⟨_,aab (by omega)⟩
  obtain ⟨b11,o11,c11,t11,ix11,lt11,g11,k11⟩:=(RP.at s2).globals.at hz
  have hin:=inc (show i < 4611686018427387904 by omega)
  by_cases d1:z > 4096
  ·simp -implicitDefEqProofs only [EE,nth,↓BK,zC,xr,zj,xM,lg,hc,g5,gvn,gl,ix11,g11,k11,d1]
   exact ⟨_,rfl⟩
  simp -implicitDefEqProofs only [EE,nth,↓BK,zC,xr,zj,xM,lg,AU,hc,g5,gvn,gl,ix11,g11,k11,d1,hin]
  exact ⟨p.globals.length - (i + 1),by omega,i + 1,_,by omega,rfl,rfl⟩
 simp -implicitDefEqProofs only [EE,nth,zC,xr,xM,hc,g5,gvn,gl]
 exact ⟨_,rfl⟩
end
end Go.Rl
namespace Go.Rn
open Go.Ai Go.Proofs Go.Mem Go.Rm
open Go.Rtl (yM Pg zA wr wP wu uH vD ju Wo Vj XB Zi yp Qw Ui Wv Qm kD eP He Wr Jk J5 Xb Ku lA lB lC j2 VH)
def vW (n:Int) (on:Bool) (i:Int):Int:=if on=false\/i < 0\/n<=i then i else n - 1 - i
theorem gI (n:Int) (on:Bool) (i:Int):vW n on (vW n on i)=i:=by
 unfold vW
 cases on <;> simp only [Bool.true_eq_false,false_or,true_or,if_true]
 by_cases h:i < 0\/n<=i
 ·rw [if_pos h,if_pos h]
 ·rw [if_neg h,if_neg (by omega)];omega
theorem Y6 {n:Int} {on:Bool} {i:Int} (h:0<=i/\i < n):0<=vW n on i/\vW n on i < n:=by
 unfold vW
 split <;> omega
theorem U0 {n:Int} {on:Bool} {i:Int} (h:¬ (0<=i/\i < n)):vW n on i=i:=by
 unfold vW
 rw [if_pos (by omega)]
theorem J4 {n:Int} {on:Bool} {i j:Int} (h:vW n on i=vW n on j):i=j:=by
 rw [<- gI n on i,h,gI]
theorem We {n:Int} {on:Bool} {i:Int}:vW n on i = -1 ↔ i = -1:=by
 constructor
 ·intro h
  by_cases q:0<=i/\i < n
  ·have:=Y6 (on:=on) q;omega
  ·rw [U0 q] at h;exact h
 ·rintro rfl
  exact U0 (by omega)
theorem eM {n:Int} {on:Bool} {i:Int}:yp (vW n on i) n=yp i n:=by
 by_cases q:0<=i/\i < n
 ·have:=Y6 (on:=on) q
  unfold yp
  simp only [q.1,q.2,this.1,this.2]
 ·rw [U0 q]
structure TI (nn nr:Int->Int) (x y:yM):Prop where
 op:y.op=x.op
 sub:y.sub=x.sub
 a:y.a=nr x.a
 b:y.b=nr x.b
 d:y.d=nr x.d
 k:y.k=x.k
 args:y.args=x.args.map nr
 s:y.s=nn x.s
 t:y.t=nn x.t
structure TF (nodes rg:Bool) (f g:Go.Rtl.Fn):Prop where
 params:g.params=f.params.map (vW f.regs rg)
 regs:g.regs=f.regs
 frame:g.frame=f.frame
 entry:g.entry=vW f.code.length nodes f.entry
 len:g.code.length=f.code.length
 code:∀ (i:Nat) x,f.code[i]? = some x->∃ y,g.code[(vW f.code.length nodes i).toNat]? = some y/\TI (vW f.code.length nodes) (vW f.regs rg) x y
structure TP (nodes regs:Bool) (p q:Pg):Prop where
 globals:q.globals=p.globals
 len:q.funcs.length=p.funcs.length
 fn:∀ (k:Nat) f,p.funcs[k]? = some f->∃ g,q.funcs[k]? = some g/\TF nodes regs f g
 main:q.main=p.main
section
variable {nodes regs:Bool} {f g:Go.Rtl.Fn} {x y:yM} {p q:Pg}
theorem TF.back (h:TF nodes regs f g) {y:yM} (hy:y ∈ g.code):∃ x,x ∈ f.code/\TI (vW f.code.length nodes) (vW f.regs regs) x y:=by
 obtain ⟨j,hj,rfl⟩:=abO hy
 have hj':j < f.code.length:=by rw [<- h.len];exact hj
 have r:=Y6 (n:=f.code.length) (on:=nodes) (i:=(j:Int)) ⟨by omega,by omega⟩
 obtain ⟨i,hi⟩:∃ i:Nat,(i:Int)=vW f.code.length nodes j:=⟨(vW f.code.length nodes j).toNat,by omega⟩
 have hil:i < f.code.length:=by omega
 obtain ⟨y,h1,h2⟩:=h.code i _ (aab hil)
 rw [hi,gI,aau,aab hj] at h1
 refine ⟨_,abN hil,?_⟩
 rw [abE h1];exact h2
theorem TP.back (h:TP nodes regs p q) {g:Go.Rtl.Fn} (hg:g ∈ q.funcs):∃ f,f ∈ p.funcs/\TF nodes regs f g:=by
 obtain ⟨j,hj,rfl⟩:=abO hg
 have hj':j < p.funcs.length:=by rw [<- h.len];exact hj
 obtain ⟨y,h1,h2⟩:=h.fn j _ (aab hj')
 rw [aab hj] at h1
 refine ⟨_,abN hj',?_⟩
 rw [abE h1];exact h2
theorem TI.writes {nn:Int->Int} {n:Int} (h:TI nn (vW n regs) x y):zA y=vW n regs (zA x):=by
 unfold zA
 rw [h.op,h.d]
 split
 ·rfl
 ·exact (We.2 rfl).symm
theorem TI.TD {nn:Int->Int} {n:Int} (h:TI nn (vW n regs) x y):wP y=(wP x).map (vW n regs):=by
 unfold wP lA lB lC
 rw [h.op,h.a,h.b,h.args,aaU,aaU]
 congr 1
 ·congr 1
  ·by_cases c:j2 x.op=true /\ ¬ x.a = -1
   ·rw [if_pos c,if_pos ⟨c.1,fun e=>c.2 (We.1 e)⟩];rfl
   ·rw [if_neg c,if_neg (fun e=>c ⟨e.1,fun e2=>e.2 (We.2 e2)⟩)];rfl
  ·by_cases c:VH x.op=true /\ ¬ x.b = -1
   ·rw [if_pos c,if_pos ⟨c.1,fun e=>c.2 (We.1 e)⟩];rfl
   ·rw [if_neg c,if_neg (fun e=>c ⟨e.1,fun e2=>e.2 (We.2 e2)⟩)];rfl
 ·split <;> rfl
theorem TI.SE {nn nr:Int->Int} (h:TI nn nr x y):wu y=(wu x).map nn:=by
 unfold wu
 rw [h.op,h.s,h.t]
 split
 ·rfl
 ·split <;> rfl
theorem Dz {n i:Int}:decide (vW n regs i = -1)=decide (i = -1):=by
 by_cases h:i = -1
 ·rw [decide_eq_true h,decide_eq_true (We.2 h)]
 ·rw [decide_eq_false h,decide_eq_false (fun e=>h (We.1 e))]
theorem TI.Tp (hf:TF nodes regs f g) (h:TI (vW f.code.length nodes) (vW f.regs regs) x y):ju g y=ju f x:=by
 have e1:(wu y).all (fun s=>yp s g.code.length)=(wu x).all (fun s=>yp s f.code.length):=by
  rw [h.SE,List.all_map,hf.len]
  congr 1;funext s;exact eM
 have e2:(wP y).all (fun s=>yp s g.regs)=(wP x).all (fun s=>yp s f.regs):=by
  rw [h.TD,List.all_map,hf.regs]
  congr 1;funext s;exact eM
 have e3:Zi g y=Zi f x:=by unfold Zi;rw [h.op,h.sub,h.k,hf.frame]
 unfold ju Wo Vj XB Jk J5
 rw [e1,e2,e3,h.op,h.a,h.b,h.d,hf.regs,Dz,Dz,Dz,eM]
theorem PF {l:List Int} {n:Int} (hd:l.Nodup) (h:∀ x,x ∈ l->0<=x/\x < n):Qw l n=true:=by
 unfold Qw
 rw [aas]
 intro i hi
 have hi:=aa7.1 hi
 have gd:∀ k,(hk:k < l.length)->l.getD k 0=l[k]:=fun k hk=>by rw [aaB,aab hk];rfl
 unfold Ui
 rw [aac,aas,gd i hi]
 constructor
 ·have:=h _ (abN hi)
  unfold yp;simp [this.1,this.2]
 ·intro k hk
  have hk:=aa7.1 hk
  rw [gd k (by omega)]
  rw [ab1,List.pairwise_iff_getElem] at hd
  have:=hd k i (by omega) hi hk
  simp [this]
theorem Hs {α β:Type} {F:α->β} (hF:∀ a b,F a=F b->a=b) {l:List α} (h:l.Nodup):(l.map F).Nodup:=by
 rw [ab1,List.pairwise_map]
 rw [ab1] at h
 exact h.imp fun hn e=>hn (hF _ _ e)
theorem TF.right (h:TF nodes regs f g) (r:vD f=true):vD g=true:=by
 unfold vD at r ⊢
 rw [aac,aac,aas] at r ⊢
 obtain ⟨r1,r2,r3⟩:=r
 refine ⟨?_,?_,fun y hy => ?_⟩
 ·unfold Wv at r1 ⊢
  rw [h.regs,h.frame,h.entry,h.len]
  simp only [aac,aat,decide_eq_false_iff_not] at r1 ⊢
  have:=Y6 (n:=f.code.length) (on:=nodes) (i:=f.entry) (by omega)
  omega
 ·obtain ⟨a,b⟩:=fj r2
  rw [h.params,h.regs]
  refine PF (Hs (fun _ _ e=>J4 e) a) fun z hz => ?_
  simp only [aba] at hz
  obtain ⟨w,hw,rfl⟩:=hz
  exact Y6 (b w hw)
 ·obtain ⟨x,hx,t⟩:=h.back hy
  rw [t.Tp h];exact r3 x hx
theorem TP.R8 (h:TP nodes regs p q) (r:uH p=true):uH q=true:=by
 unfold uH at r ⊢
 rw [aac,aac,aas,aas] at r ⊢
 obtain ⟨r1,r2,r3⟩:=r
 refine ⟨?_,by rw [h.globals];exact r2,fun g hg => ?_⟩
 ·unfold Qm at r1 ⊢
  rw [h.globals,h.len,h.main];exact r1
 ·obtain ⟨f,hf,t⟩:=h.back hg
  have:=r3 f hf
  rw [aac,aas] at this ⊢
  refine ⟨t.right this.1,fun y hy => ?_⟩
  obtain ⟨x,hx,ti⟩:=t.back hy
  have ip:=this.2 x hx
  have e:Wr q x.sub=Wr p x.sub:=by
   unfold Wr
   cases e:p.funcs[x.sub.toNat]? with
   | none=>
     have:q.funcs[x.sub.toNat]? = none:=by
      rw [List.getElem?_eq_none_iff] at e ⊢
      rw [h.len];exact e
     rw [this]
   | some f2=>
     obtain ⟨g2,h1,h2⟩:=h.fn _ _ e
     rw [h1]
     simp only [h2.params,aak]
  unfold kD eP He at ip ⊢
  rw [ti.op,ti.sub,ti.k,ti.args,aak,h.len,h.globals,e]
  exact ip
end
def Re (n r:Int):Prop:=(0<=r/\r < n)\/r = -1
structure GI (f:Go.Rtl.Fn) (x:yM):Prop where
 a:j2 x.op=true->Re f.regs x.a
 b:VH x.op=true->Re f.regs x.b
 args:x.op=10->∀ r,r ∈ x.args->0<=r/\r < f.regs
 d:wr x.op=true->Re f.regs x.d
def GP (p:Pg):Prop := ∀ f,f ∈ p.funcs->(∀ x,x ∈ f.code->GI f x) /\ ∀ r,r ∈ f.params->0<=r/\r < f.regs
theorem R9 {p:Pg} (h:uH p=true):GP p:=by
 unfold uH at h
 rw [aac,aac,aas,aas] at h
 intro f hf
 have h3:=h.2.2 f hf
 rw [aac] at h3
 have r:=h3.1
 unfold vD at r
 rw [aac,aac,aas] at r
 refine ⟨fun x hx => ?_,(fj r.2.1).2⟩
 have q:=r.2.2 x hx
 unfold ju at q
 simp only [aac,aas] at q
 obtain ⟨_,_,_,u,m⟩:=q
 have u:∀ r,r ∈ wP x->0<=r/\r < f.regs:=fun r hr=>Ww (u r hr)
 refine ⟨fun ha => ?_,fun hb => ?_,fun h10 r hr => ?_,fun hw => ?_⟩
 ·by_cases e:x.a = -1
  ·exact .inr e
  ·exact .inl (u _ (by unfold wP lA;rw [if_pos ⟨ha,e⟩];simp))
 ·by_cases e:x.b = -1
  ·exact .inr e
  ·exact .inl (u _ (by unfold wP lB;rw [if_pos ⟨hb,e⟩];simp))
 ·exact u _ (by unfold wP lC;rw [if_pos h10];simp [hr])
 ·unfold Wo Vj XB at m
  simp only [aac,aaV,decide_eq_true_eq,aat] at m
  rcases m.2.2 with ⟨_,e⟩ | ⟨_,e⟩
  ·exact .inr e
  ·rcases e with e | e
   ·rw [hw] at e;cases e
   ·exact .inl (Ww e)
theorem rI {l:List V} {d r:Int} {v:V} (hd:0<=d) (hr:0<=r):ye (v7 l d v) r=if r=d then v else ye l r:=by
 unfold ye v7
 have h1:¬ r < 0:=by omega
 have h2:¬ d < 0:=by omega
 rw [if_neg h1,if_neg h2,if_neg h1,aaB,aaB,abZ]
 by_cases e:r=d
 ·subst e
  rw [if_pos rfl,if_pos (by simp;omega),if_pos rfl];rfl
 ·have h3:¬ d.toNat=r.toNat:=by omega
  rw [if_neg h3,if_neg e,List.getElem?_append]
  split
  ·rfl
  ·rw [List.getElem?_replicate,aaj (l:=l) (by omega)]
   split <;> rfl
def RR (n:Int) (on:Bool) (l m:List V):Prop := ∀ r,0<=r/\r < n->ye m (vW n on r)=ye l r
section
variable {n:Int} {on:Bool} {l m:List V}
theorem RR.get (h:RR n on l m) {r:Int} (hr:Re n r):ye m (vW n on r)=ye l r:=by
 rcases hr with hr | rfl
 ·exact h r hr
 ·rw [We.2 rfl];rfl
theorem RR.set (h:RR n on l m) {d:Int} (hd:Re n d) (v:V):RR n on (v7 l d v) (v7 m (vW n on d) v):=by
 rcases hd with hd | rfl
 ·intro r hr
  have a:=Y6 (on:=on) hd
  have b:=Y6 (on:=on) hr
  rw [rI hd.1 hr.1,rI a.1 b.1]
  by_cases e:r=d
  ·subst e;rw [if_pos rfl,if_pos rfl]
  ·rw [if_neg e,if_neg fun q=>e (J4 q)];exact h r hr
 ·rw [We.2 rfl];exact h
theorem RR.given:∀ (ps:List Int) (al l m:List V),(∀ r,r ∈ ps->0<=r/\r < n)->RR n on l m->RR n on (vX ps al l) (vX (ps.map (vW n on)) al m)
 | [],al,l,m,_,h=>by cases al <;> exact h
 | p :: ps,[],l,m,_,h=>h
 | p :: ps,a :: al,l,m,hp,h=>RR.given ps al _ _ (fun r hr=>hp r (by simp [hr])) (h.set (.inl (hp p (by simp))) a)
theorem RR.nil:RR n on [] []:=by
 intro r hr
 have:=Y6 (on:=on) hr
 unfold ye
 rw [if_neg (by omega),if_neg (by omega)];rfl
end
structure FR (p:Pg) (nodes regs:Bool) (c d:Fr):Prop where
 f:d.f=c.f
 kM:d.kM=c.kM
 at_:∃ f,p.funcs[c.f]? = some f/\0<=c.pt/\c.pt < f.code.length/\d.pt=vW f.code.length nodes c.pt/\RR f.regs regs c.regs d.regs
inductive gY (R:Fr->Fr->Prop):List Fr->List Fr->Prop where
 | nil:gY R [] []
 | snoc {l m:List Fr} {c d:Fr}:gY R l m->R c d->gY R (l ++ [c]) (m ++ [d])
theorem gY.inv {R:Fr->Fr->Prop} {l m:List Fr} {c:Fr} (h:gY R (l ++ [c]) m):∃ m2 d,m=m2 ++ [d]/\gY R l m2/\R c d:=by
 generalize e:l ++ [c]=x at h
 cases h with
 | nil=>simp at e
 | snoc h r=>
   obtain ⟨rfl,q⟩:=List.append_inj' e rfl
   simp only [aa9,and_true] at q
   subst q
   exact ⟨_,_,rfl,h,r⟩
theorem gY.Sa {R:Fr->Fr->Prop} {m:List Fr} (h:gY R [] m):m = []:=by
 generalize e:([]:List Fr)=x at h
 cases h with
 | nil=>rfl
 | snoc h r=>simp at e
theorem gY.len {R:Fr->Fr->Prop} {l m:List Fr} (h:gY R l m):m.length=l.length:=by
 induction h with
 | nil=>rfl
 | snoc h r ih=>simp [ih]
structure SR (p:Pg) (nodes regs:Bool) (S T:St):Prop where
 mem:T.mem=S.mem
 used:T.used=S.used
 kind:T.kind=S.kind
 exit:T.exit=S.exit
 ev:T.ev=S.ev
 lk:T.lk=S.lk
 steps:T.steps=S.steps
 gl:T.gl=S.gl
 calls:gY (FR p nodes regs) S.calls T.calls
section
variable {p q:Pg} {nodes regs:Bool} {S T:St} {world args:List Int} {c d:Fr}
theorem FR.ins (tp:TP nodes regs p q) (h:FR p nodes regs c d):∃ f x y,p.funcs[c.f]? = some f/\f ∈ p.funcs/\ZO p c=some x/\x ∈ f.code/\ZO q d=some y/\TI (vW f.code.length nodes) (vW f.regs regs) x y/\RR f.regs regs c.regs d.regs:=by
 obtain ⟨f,hf,h0,h1,hp,rr⟩:=h.at_
 obtain ⟨g,hg,tf⟩:=tp.fn _ _ hf
 have hx:f.code[c.pt.toNat]? = some (f.code[c.pt.toNat]'(by omega)):=aab (by omega)
 obtain ⟨y,hy,ti⟩:=tf.code _ _ hx
 have a:=Y6 (on:=nodes) ⟨h0,h1⟩
 rw [acj h0,<- hp] at hy
 refine ⟨f,_,y,hf,aaq hf,?_,aaq hx,?_,ti,rr⟩
 ·unfold ZO
  rw [hf]
  simp only [aaC]
  rw [if_neg (by omega),hx]
 ·unfold ZO
  rw [h.f,hg]
  simp only [aaC]
  rw [if_neg (by omega),hy]
theorem SR.B4 (h:SR p nodes regs S T) (k a b:Int):SR p nodes regs (xC S k a b) (xC T k a b):=⟨h.mem,h.used,h.kind,h.exit,h.ev,by show T.lk ++ _=S.lk ++ _;rw [h.lk],h.steps,h.gl,h.calls⟩
theorem SR.event (h:SR p nodes regs S T) (k a:Int):SR p nodes regs (qM S k a) (qM T k a):=⟨h.mem,h.used,h.kind,h.exit,by show T.ev ++ _=S.ev ++ _;rw [h.ev],h.lk,h.steps,h.gl,h.calls⟩
theorem SR.top {ini:List Fr} {c c' d':Fr} {ini2:List Fr} {d:Fr} (h:SR p nodes regs S T) (e:S.calls=ini ++ [c]) (e2:T.calls=ini2 ++ [d]) (r:FR p nodes regs c' d'):SR p nodes regs (Ei S c') (Ei T d'):=by
 refine ⟨h.mem,h.used,h.kind,h.exit,h.ev,h.lk,h.steps,h.gl,?_⟩
 show gY _ (S.calls.dropLast ++ [c']) (T.calls.dropLast ++ [d'])
 have a:=h.calls
 rw [e] at a
 obtain ⟨m2,d2,q1,q2,q3⟩:=a.inv
 rw [e,q1,aaI,aaI]
 exact .snoc q2 r
def Aa (p:Pg) (nodes regs:Bool) (a b:St × Bool):Prop:=SR p nodes regs a.1 b.1/\b.2=a.2
theorem sk (tp:TP nodes regs p q) (gp:GP p) (gg:F6 p) {W1 Z1:St} (h:SR p nodes regs W1 Z1) (n:Int) (al:List V):Aa p nodes regs (wh p W1 n al) (wh q Z1 n al):=by
 unfold wh
 rw [h.calls.len]
 by_cases hn:20000<=W1.calls.length
 ·rw [if_pos hn,if_pos hn];exact ⟨h,rfl⟩
 rw [if_neg hn,if_neg hn]
 cases hk:p.funcs[n.toNat]? with
 | none=>
   have:q.funcs[n.toNat]? = none:=by
    rw [List.getElem?_eq_none_iff] at hk ⊢
    rw [tp.len];exact hk
   rw [this];exact ⟨h,rfl⟩
 | some k=>
   obtain ⟨k2,hk2,tf⟩:=tp.fn _ _ hk
   rw [hk2]
   dsimp only
   rw [h.mem,tf.frame]
   by_cases ha:(y1 W1.mem k.frame).2.2=0
   ·rw [if_pos ha,if_pos ha]
    have km:=aaq hk
    refine ⟨⟨rfl,h.used,h.kind,h.exit,h.ev,h.lk,h.steps,h.gl,.snoc h.calls ⟨rfl,rfl,k,hk,(gg.entry k km).1,(gg.entry k km).2,tf.entry,?_⟩⟩,rfl⟩
    show RR _ _ (vX k.params al []) (vX k2.params al [])
    rw [tf.params]
    exact RR.given _ _ _ _ (gp k km).2 RR.nil
   ·rw [if_neg ha,if_neg ha]
    exact ⟨⟨rfl,h.used,h.kind,h.exit,h.ev,h.lk,h.steps,h.gl,h.calls⟩,rfl⟩
theorem NQ (tp:TP nodes regs p q) (gp:GP p) (gg:F6 p) (x:CM p S) {W Z:St} (r:SR p nodes regs W Z) (hW:W.calls=S.calls) (hM:W.mem=S.mem) {ini ini2:List Fr} (e:W.calls=ini ++ [c]) (e2:Z.calls=ini2 ++ [d]) (fr:FR p nodes regs c d) {f:Go.Rtl.Fn} {i j:yM} (hf:p.funcs[c.f]? = some f) (hm:i ∈ f.code) (hi:ZO p c=some i) (ti:TI (vW f.code.length nodes) (vW f.regs regs) i j) (rr:RR f.regs regs c.regs d.regs) :
  Aa p nodes regs (w4 p world none W c i) (w4 q world none Z d j):=by
 have fm:=aaq hf
 obtain ⟨gA,gB,gC,gD⟩:=(gp f fm).1 i hm
 have aG:j2 i.op=true->ye d.regs j.a=ye c.regs i.a:=fun h=>by rw [ti.a];exact rr.get (gA h)
 have bG:VH i.op=true->ye d.regs j.b=ye c.regs i.b:=fun h=>by rw [ti.b];exact rr.get (gB h)
 have oG:VH i.op=true->zY d j=zY c i:=fun h=>by
  unfold zY
  by_cases h1:i.b = -1
  ·rw [if_pos h1,if_pos (by rw [ti.b];exact We.2 h1),ti.k]
  ·rw [if_neg h1,if_neg (by rw [ti.b];exact fun q=>h1 (We.1 q)),bG h]
 have adG:j2 i.op=true->yB d j=yB c i:=fun h=>by
  unfold yB;rw [aG h,ti.k]
 have wd:Re f.regs (zA i):=by
  unfold zA
  split
  ·rename_i h;exact gD h
  ·exact .inr rfl
 have ptS:i.op ≠ 12->0<=i.s/\i.s < f.code.length:=gg.s f fm i hm
 have done:∀ {W' Z':St} (v:V),SR p nodes regs W' Z'->W'.calls=W.calls->Z'.calls=Z.calls->i.op ≠ 12->∀ b,Aa p nodes regs (ug W' c i v,b) (ug Z' d j v,b):=by
  intro W' Z' v h h1 h2 h12 b
  refine ⟨h.top (h1.trans e) (h2.trans e2) ⟨fr.f,fr.kM,f,hf,(ptS h12).1,(ptS h12).2,?_,?_⟩,rfl⟩
  ·exact ti.s
  ·show RR _ _ (v7 c.regs (zA i) v) (v7 d.regs (zA j) v)
   rw [ti.writes]
   exact rr.set wd v
 have D:∀ (v:V),i.op ≠ 12->∀ b,Aa p nodes regs (ug W c i v,b) (ug Z d j v,b):=fun v h b=>done v r rfl rfl h b
 have F:∀ b,Aa p nodes regs (W,b) (Z,b):=fun b=>⟨r,rfl⟩
 unfold w4
 rw [ti.op]
 by_cases h2:i.op=2
 ·rw [if_pos h2,if_pos h2,ti.k];exact D _ (by omega) _
 rw [if_neg h2,if_neg h2]
 by_cases h3:i.op=3
 ·rw [if_pos h3,if_pos h3,aG (by simp [j2,h3])];exact D _ (by omega) _
 rw [if_neg h3,if_neg h3]
 by_cases h4:i.op=4
 ·rw [if_pos h4,if_pos h4,aG (by simp [j2,h4]),ti.sub]
  cases nY i.sub (ye c.regs i.a) with
  | none=>exact F _
  | some v=>exact D v (by omega) _
 rw [if_neg h4,if_neg h4]
 by_cases h5:i.op=5
 ·rw [if_pos h5,if_pos h5,aG (by simp [j2,h5]),oG (by simp [VH,h5]),ti.sub]
  dsimp only
  by_cases hl:(i.sub=14\/i.sub=15)/\(ye c.regs i.a).k=1/\(zY c i).k=1
  ·rw [if_pos hl,if_pos hl]
   cases xp i.sub (ye c.regs i.a) (zY c i) with
   | none=>exact ⟨r.B4 _ _ _,rfl⟩
   | some v=>exact done v (r.B4 _ _ _) rfl rfl (by omega) _
  ·rw [if_neg hl,if_neg hl]
   cases xp i.sub (ye c.regs i.a) (zY c i) with
   | none=>exact F _
   | some v=>exact D v (by omega) _
 rw [if_neg h5,if_neg h5]
 by_cases h6:i.op=6
 ·rw [if_pos h6,if_pos h6,adG (by simp [j2,h6]),ti.sub,r.mem]
  cases yB c i with
  | none=>exact F _
  | some a=>
    dsimp only
    cases ZP W.mem i.sub a with
    | none=>exact ⟨r.B4 _ _ _,rfl⟩
    | some v=>exact done v (r.B4 _ _ _) rfl rfl (by omega) _
 rw [if_neg h6,if_neg h6]
 by_cases h7:i.op=7
 ·rw [if_pos h7,if_pos h7,adG (by simp [j2,h7]),bG (by simp [VH,h7]),ti.sub,r.mem]
  cases yB c i with
  | none=>exact F _
  | some a=>
    dsimp only
    cases jw W.mem i.sub a (ye c.regs i.b) with
    | none=>exact ⟨r.B4 _ _ _,rfl⟩
    | some M=>
      have h:=r.B4 2 a.b a.n
      exact done v0 (W':={ xC W 2 a.b a.n with mem:=M }) (Z':={ xC Z 2 a.b a.n with mem:=M }) ⟨rfl,h.used,h.kind,h.exit,h.ev,h.lk,h.steps,h.gl,h.calls⟩ rfl rfl (by omega) _
 rw [if_neg h7,if_neg h7]
 by_cases h8:i.op=8
 ·rw [if_pos h8,if_pos h8,ti.sub,ti.k,r.gl];exact D _ (by omega) _
 rw [if_neg h8,if_neg h8]
 by_cases h9:i.op=9
 ·rw [if_pos h9,if_pos h9,ti.k,fr.kM];exact D _ (by omega) _
 rw [if_neg h9,if_neg h9]
 by_cases h10:i.op=10
 ·rw [if_pos h10,if_pos h10,ti.sub,ti.args]
  have ea:(i.args.map (vW f.regs regs)).map (ye d.regs)=i.args.map (ye c.regs):=by
   rw [List.map_map]
   exact List.map_congr_left fun z hz=>rr z (gC h10 z hz)
  rw [ea]
  have h:=r.B4 4 i.sub 0
  exact sk tp gp gg h _ _
 rw [if_neg h10,if_neg h10]
 by_cases h11:i.op=11
 ·rw [if_pos h11,if_pos h11]
  unfold cI
  rw [aG (by simp [j2,h11]),oG (by simp [VH,h11]),ti.sub]
  cases xp i.sub (ye c.regs i.a) (zY c i) with
  | none=>exact F _
  | some v=>
    refine ⟨(r.B4 1 v.n 0).top e e2 ⟨fr.f,fr.kM,f,hf,?_⟩,rfl⟩
    show 0<=(if v.n=0 then i.t else i.s)/\(if v.n=0 then i.t else i.s) < _/\(if v.n=0 then j.t else j.s)=vW _ _ (if v.n=0 then i.t else i.s)/\_
    by_cases hv:v.n=0
    ·rw [if_pos hv,if_pos hv]
     have:=gg.t f fm i hm h11
     exact ⟨this.1,this.2,ti.t,rr⟩
    ·rw [if_neg hv,if_neg hv]
     have:=ptS (by omega)
     exact ⟨this.1,this.2,ti.s,rr⟩
 rw [if_neg h11,if_neg h11]
 by_cases h12:i.op=12
 ·rw [if_pos h12,if_pos h12,aG (by simp [j2,h12])]
  generalize ye c.regs i.a=v
  unfold uQ
  have rc:=r.calls
  rw [e] at rc
  obtain ⟨ini3,d3,q1,q2,q3⟩:=rc.inv
  have hd:ini3=ini2/\d3=d:=by
   obtain ⟨a,b⟩:=List.append_inj' (q1.symm.trans e2) rfl
   simp only [aa9,and_true] at b
   exact ⟨a,b⟩
  obtain ⟨rfl,rfl⟩:=hd
  rw [e,e2,abo,abo,aaI,aaI]
  dsimp only
  rw [r.mem,fr.kM]
  rcases abm ini with hini | ⟨in2,bk,hini⟩
  ·subst hini
   rw [q2.Sa]
   simp only [List.getLast?_nil]
   split
   ·exact ⟨⟨rfl,r.used,rfl,rfl,r.ev,r.lk,r.steps,r.gl,.nil⟩,rfl⟩
   ·exact ⟨⟨rfl,r.used,r.kind,r.exit,r.ev,r.lk,r.steps,r.gl,.nil⟩,rfl⟩
  ·simp only [abq] at hini
   subst hini
   obtain ⟨m4,bk2,rfl,q5,q6⟩:=q2.inv
   rw [abo,abo,aaI,aaI]
   dsimp only
   obtain ⟨fb,ib,jb,hfb,hfbm,hib,hibm,hjb,tib,rrb⟩:=q6.ins tp
   obtain ⟨i2,hi2,yF⟩:=x.low bk (by rw [<- hW,e,aaI];simp)
   have:i2=ib:=by rw [hib] at hi2;exact (abE hi2).symm
   subst this
   rw [hib,hjb]
   dsimp only
   have db:=((gp fb hfbm).1 _ hibm).d (by simp [wr,yF])
   have sb:=gg.s fb hfbm _ hibm (by omega)
   refine ⟨⟨rfl,r.used,r.kind,r.exit,r.ev,r.lk,r.steps,r.gl,.snoc q5 ⟨q6.f,q6.kM,fb,hfb,sb.1,sb.2,tib.s,?_⟩⟩,rfl⟩
   show RR _ _ (v7 bk.regs i2.d v) (v7 bk2.regs jb.d v)
   rw [tib.d]
   exact rrb.set db v
 rw [if_neg h12,if_neg h12]
 by_cases h13:i.op=13
 ·rw [if_pos h13,if_pos h13,r.used]
  have h:=r.event 1 (Xc world W.used)
  exact done _ (W':={ qM W 1 (Xc world W.used) with used:=W.used + 1 }) (Z':={ qM Z 1 (Xc world W.used) with used:=W.used + 1 }) ⟨h.mem,rfl,h.kind,h.exit,h.ev,h.lk,h.steps,h.gl,h.calls⟩ rfl rfl (by omega) _
 rw [if_neg h13,if_neg h13]
 by_cases h14:i.op=14
 ·rw [if_pos h14,if_pos h14,aG (by simp [j2,h14])]
  split
  ·exact done _ (r.event _ _) rfl rfl (by omega) _
  ·exact F _
 rw [if_neg h14,if_neg h14]
 exact D _ h12 _
theorem step_eq {P:Pg} {X:St} {ini:List Fr} {c:Fr} {i:yM} (e:X.calls=ini ++ [c]) (hi:ZO P c=some i):qY P world none X=w4 P world none X c i:=by
 unfold qY
 rw [e,abo]
 simp only [hi]
theorem Cz {P:Pg} {X:St} (e:X.calls = []):qY P world none X=(X,false):=by
 unfold qY
 rw [e];rfl
theorem MA (tp:TP nodes regs p q) (gp:GP p) (gg:F6 p) (x:CM p S) (r:SR p nodes regs S T) :
  Aa p nodes regs (qY p world none { S with steps:=S.steps + 1 }) (qY q world none { T with steps:=T.steps + 1 }):=by
 have r':SR p nodes regs { S with steps:=S.steps + 1 } { T with steps:=T.steps + 1 }:=⟨r.mem,r.used,r.kind,r.exit,r.ev,r.lk,by show T.steps + 1=S.steps + 1;rw [r.steps],r.gl,r.calls⟩
 rcases abm S.calls with e | ⟨ini,c,e⟩
 ·have a:=r.calls
  rw [e] at a
  have e2:=a.Sa
  rw [Cz (X:={ S with steps:=S.steps + 1 }) e,Cz (X:={ T with steps:=T.steps + 1 }) e2]
  exact ⟨r',rfl⟩
 ·simp only [abq] at e
  have a:=r.calls
  rw [e] at a
  obtain ⟨ini2,d,e2,q2,fr⟩:=a.inv
  obtain ⟨f,i,j,hf,_,hi,hm,hj,ti,rr⟩:=fr.ins tp
  rw [step_eq (X:={ S with steps:=S.steps + 1 }) e hi,step_eq (X:={ T with steps:=T.steps + 1 }) e2 hj]
  exact NQ tp gp gg x r' rfl rfl e e2 fr hf hm hi ti rr
theorem Cx (tp:TP nodes regs p q) (gp:GP p) (gg:F6 p):∀ (n:Nat) (S T:St) (ok:Bool),(ok=true->CM p S/\S.calls ≠ [])->SR p nodes regs S T->Aa p nodes regs (Vm p world none n (S,ok)) (Vm q world none n (T,ok))
 | 0,S,T,ok,_,r=>by
   unfold Vm
   by_cases h:ok=true/\S.kind=0
   ·rw [if_pos h,if_pos ⟨h.1,r.kind.trans h.2⟩]
    exact ⟨⟨r.mem,r.used,rfl,r.exit,r.ev,r.lk,r.steps,r.gl,r.calls⟩,rfl⟩
   ·rw [if_neg h,if_neg (by rw [r.kind];exact h)]
    exact ⟨r,rfl⟩
 | n + 1,S,T,ok,x,r=>by
   unfold Vm
   by_cases h:ok=true/\S.kind=0
   ·rw [if_pos h,if_pos ⟨h.1,r.kind.trans h.2⟩]
    obtain ⟨xi,hne⟩:=x h.1
    have b:=MA (world:=world) tp gp gg xi r
    have st:=MJ (world:=world) (kept:=none) gg xi hne
    have ne:=FM p world none { S with steps:=S.steps + 1 } h.2
    generalize qY p world none { S with steps:=S.steps + 1 } = u at b st ne
    generalize qY q world none { T with steps:=T.steps + 1 } = w at b
    obtain ⟨u1,u2⟩:=u
    obtain ⟨w1,w2⟩:=w
    obtain ⟨b1,b2⟩:=b
    dsimp only at b1 b2 st ne
    subst b2
    by_cases hk:u1.kind=0
    ·exact Cx tp gp gg n u1 w1 w2 (fun h2=>⟨st h2,ne h2 hk⟩) b1
    ·have e1:∀ (P:Pg) (X:St),X.kind ≠ 0->Vm P world none n (X,w2)=(X,w2):=by
      intro P X hX
      cases n with
      | zero=>unfold Vm;rw [if_neg (fun h=>hX h.2)]
      | succ n=>unfold Vm;rw [if_neg (fun h=>hX h.2)]
     rw [e1 p u1 hk,e1 q w1 (by rw [b1.kind];exact hk)]
     exact ⟨b1,rfl⟩
   ·rw [if_neg h,if_neg (by rw [r.kind];exact h)]
    exact ⟨r,rfl⟩
theorem MI (hok:(vm p args).2=true):(vm p args).1.calls ≠ []:=by
 unfold vm wh at hok ⊢
 repeat' split
 all_goals simp_all
structure Alike (S T:St):Prop where
 kind:T.kind=S.kind
 exit:T.exit=S.exit
 ev:T.ev=S.ev
 lk:T.lk=S.lk
 steps:T.steps=S.steps
theorem FJ (tp:TP nodes regs p q) (g:uH p=true) (n:Nat):Alike (runM p args world none n) (runM q args world none n):=by
 have gg:=iF g
 have gp:=R9 g
 have st:Aa p nodes regs (vm p args) (vm q args):=by
  unfold vm
  rw [tp.globals,tp.main]
  exact sk tp gp gg ⟨rfl,rfl,rfl,rfl,rfl,rfl,rfl,rfl,.nil⟩ _ _
 have si:=FL gg args
 have sn:=MI (p:=p) (args:=args)
 unfold runM
 generalize vm p args=a at st si sn
 generalize vm q args=b at st
 obtain ⟨a1,a2⟩:=a
 obtain ⟨b1,b2⟩:=b
 obtain ⟨s1,s2⟩:=st
 dsimp only at s1 s2 si sn
 subst s2
 obtain ⟨r,e⟩:=Cx (world:=world) tp gp gg n a1 b1 b2 (fun h=>⟨si h,sn h⟩) s1
 unfold G8
 rw [e]
 split
 ·exact ⟨r.kind,r.exit,r.ev,r.lk,r.steps⟩
 ·exact ⟨rfl,r.exit,r.ev,r.lk,r.steps⟩
end
end Go.Rn
namespace Go.Rtl
open Go.Ai Go.Proofs Go.Mem
open Go.Rm (xN yw wW ub uI VF xw vE y7 YS vZ dw Rd Rd.at Xe)
def jV (x:yM):HP:=xN 3 1 x.av (x.args.map yw)
def iD (f:Fn):HP:=vB [xN 3 1 f.pv (f.params.map yw),xN 53 9 f.cv (f.code.map yM.row),vB (f.code.map jV)]
def Ri (q:Pg):HP:=vB [xN 3 1 q.gv (q.globals.map yw),xN 45 6 q.fv (q.funcs.map Fn.row),vB (q.funcs.map iD)]
section
variable {lo:yE} {h h':za} {L:List HP}
theorem Ql {A:HP} (s:Sat lo h L) (hA:A ∈ L):Sat lo h [A]:=by
 obtain ⟨a,b,rfl⟩:=aaM hA
 exact (s.perm (List.perm_middle)).zB 1
theorem Qk {A:HP} {M:List HP} (s:Sat lo h (vB M :: L)) (hA:A ∈ M):Sat lo h [A]:=Ql s.open (List.mem_append_left _ hA)
theorem ZT {A:HP} {M:List HP} (s:Sat lo h (A :: vB M :: L)):Sat lo h (vB (M ++ [A]) :: L):=by
 apply Sat.close
 have s2:=Sat.open (s.f [1,0])
 rw [ace]
 exact s2
theorem Zj {A:HP} {M:List HP} (s:Sat lo h (vB (A :: M) :: L)):Sat lo h (A :: vB M :: L):=Sat.cons (fun _=>Sat.close) s.open
theorem XA (s:Sat lo h L):Sat lo h (vB [] :: L):=Sat.close (M:=[]) s
theorem sj (s:Sat lo h L) (e:Old h h') (hr:h'.ro<=h'.next) {b:Nat} {o:xE} (h1:h.next<=b) (h2:b < h'.next) (hg:h'.get b=some o):Sat lo h' (pt b o :: L):=by
 have rk:=s.base.sg
 have low:∀ y z,(yE.of h).get y=some z->y < h.next/\z=h.get y:=fun y z q=>by
  unfold yE.of at q
  dsimp only at q
  split at q
  ·cases q;exact ⟨by assumption,rfl⟩
  ·cases q
 refine s.join (L':=[pt b o]) ⟨fun y=>if y=b then some o else none,fun _=>rfl,fun y p q => ?_,fun y p q => ?_,⟨e.ro,hr,fun y z q => ?_⟩⟩
 ·dsimp only at q
  split at q
  ·rename_i q2;subst q2
   unfold yE.of;dsimp only;rw [if_neg (by omega)]
  ·cases q
 ·dsimp only at q
  split at q
  ·rename_i q2;subst q2
   show h.ro<=_;omega
  ·cases q
 ·by_cases q2:y=b
  ·subst q2
   rw [yE.wG (o:=o) (by rw [if_pos rfl])] at q
   cases q
   exact ⟨hg,h2⟩
  ·rw [yE.vf (by rw [if_neg q2])] at q
   obtain ⟨a,rfl⟩:=low y z q
   exact ⟨e.get y a,aai a e.next⟩
theorem rL:∀ (zs:List Int),ints zs=(zs.map yw).flatten
 | []=>rfl
 | z :: zs=>by
   have:=rL zs
   unfold ints at this ⊢
   rw [abv,abv,acw,this];rfl
theorem ME {v:Value} {zs:List Int} (W:uO h h' v zs) (e:Old h h') (hr:h'.ro<=h'.next) (s:Sat lo h L):Sat lo h' (xN 3 1 v (zs.map yw) :: L):=by
 rcases W with ⟨rfl,rfl⟩ | ⟨b,c,rfl,hc,h1,h2,h3,h4⟩
 ·exact ub _ _ (s.Pp e.next e.ro e.get)
 ·have:=uI (n:=1) (ty:=3) (rows:=zs.map yw) (c:=c) hc (vZ (f:=yw) (fun _=>rfl) zs) (rL zs) (sj s e hr h1 h2 h4)
  rwa [aak] at this
theorem PT {t:TypeId} {n:Nat} {v:Value} {rows:List (List Value)} (W:jA h h' t v rows) (hn:∀ r,r ∈ rows->r.length=n) (e:Old h h') (hr:h'.ro<=h'.next) (s:Sat lo h L):Sat lo h' (xN t n v rows :: L):=by
 rcases W with ⟨rfl,rfl⟩ | ⟨b,c,rfl,hc,h1,h2,h3,h4⟩
 ·exact ub _ _ (s.Pp e.next e.ro e.get)
 ·exact uI hc hn rfl (sj s e hr h1 h2 h4)
theorem HN {rows:List (List Value)} {n:Nat} {cs:List Value} {i k:Nat} {r:List Value} {v:Value} (hn:∀ r,r ∈ rows->r.length=n) (hl:rows.length * n<=cs.length) (ht:cs.take (rows.length * n)=rows.flatten) (hr:rows[i]? = some r) (hk:k < n) :
  (cs.set (i * n + k) v).take (rows.length * n)=(rows.set i (r.set k v)).flatten:=by
 have hi:i < rows.length:=(aa1.1 hr).1
 have rl:=hn r (aaq hr)
 have hm:=abu n (acf hi)
 rw [ach] at hm
 have e:=dw (cs:=cs) (row:=r.set k v) hi hn (by rw [aa3];exact rl) hl ht
 rw [<- e]
 congr 1
 refine abe fun j => ?_
 rw [Ko _ _ _ _ (by rw [aa3,rl];omega),abZ,aa3,rl]
 have hrow:∀ m,m < n->cs[i * n + m]? = r[m]?:=fun m hm2=>by
  rw [<- aaL (l:=cs) (i:=i * n + m) (j:=rows.length * n) (by omega),ht,j4 hn hr hm2]
 by_cases q:i * n<=j/\j < i * n + n
 ·rw [if_pos q,abZ]
  by_cases q2:i * n + k=j
  ·rw [if_pos q2,if_pos (by omega),if_pos (by omega),if_pos (by omega)]
  ·rw [if_neg q2,if_neg (by omega),<- hrow (j - i * n) (by omega)]
   congr 1;omega
 ·rw [if_neg q,if_neg (by omega)]
theorem Um {ty:TypeId} {n:Nat} {sv:Value} {rows:List (List Value)} (s:Sat lo h (xN ty n sv rows :: L)) (hn:∀ r,r ∈ rows->r.length=n) {i:Nat} {r:List Value} (hr:rows[i]? = some r) :
  ∃ b c cs,sv = .slice (some ⟨b,0,none⟩) rows.length c/\h.get b=some (.cells cs ty)/\b < h.next/\h.ro<=b/\rows.length * n<=cs.length/\(∀ k,k < n->cs[i * n + k]? = r[k]?)/\Sat lo h (pt b (.cells cs ty) :: L) /\ ∀ {h':za} {L':List HP} (k:Nat) (v:Value),k < n->Sat lo h' (pt b (.cells (cs.set (i * n + k) v) ty) :: L')->Sat lo h' (xN ty n sv (rows.set i (r.set k v)) :: L'):=by
 have hi:i < rows.length:=(aa1.1 hr).1
 rcases wW s with ⟨rfl,rfl,_⟩ | ⟨b,c,cs,rfl,hc,hl,ht,s1⟩
 ·cases hi
 ·have hm:=abu n (acf hi)
  rw [ach] at hm
  refine ⟨b,c,cs,rfl,s1.get,s1.lt,s1.wr,hl,fun k hk => ?_,s1,fun k v hk s2 => ?_⟩
  ·rw [<- aaL (l:=cs) (i:=i * n + k) (j:=rows.length * n) (by omega),ht,j4 hn hr hk]
  ·have:=VF (n:=n) (rows:=rows.set i (r.set k v)) (c:=c) hc (by rw [aa3,aa3];exact hl) (by rw [aa3];exact HN hn hl ht hr hk) s2
   rwa [aa3] at this
theorem tV (s:Sat lo h L) {v:Value} {zs:List Int} (hm:xN 3 1 v (zs.map yw) ∈ L):zN h v zs:=Xe (y7 (Ql s hm) (vZ (f:=yw) (fun _=>rfl) zs))
theorem Ki {f:Fn} (s:Sat lo h (iD f :: L)) (h1:f.params.length<=17592186043904) (h2:f.code.length * 88<=140737488351232) (h3:∀ x,x ∈ f.code->x.args.length<=17592186043904):v8 h f:=by
 have s1:=s.open
 refine ⟨tV s1 (by simp),h1,y7 (s1.p 1) (kL _),h2,fun x hx=>⟨?_,h3 x hx⟩⟩
 exact tV (Qk (s1.p 2) (List.mem_map_of_mem hx)) (by unfold jV;simp)
end
section
variable {h0 H:za} {L:List HP}
theorem TW {lo:yE} {bf:Nat} {cv a0 a1 a2 a3 a4:Value} {xs:List yM} (X:Rd lo fun h => ∀ x,x ∈ xs->xK h x) (J9:xs.length<=17592186043904) (s:Sat lo H (pt bf (.cells [a0,a1,a2,a3,a4,cv] 45) :: xN 53 9 cv (xs.map yM.row) :: L)) {j:List Value->za->Prop}
  (K:∀ (h:za) (ys:List yM),ys.map yM.core=xs.map yM.core->Sat lo h (pt bf (.cells [a0,a1,a2,a3,a4,cv] 45) :: xN 53 9 cv (ys.map yM.row) :: vB (ys.map jV) :: L)->j [] h):LP (aZ (.pointer (some ⟨bf,0,none⟩)) j) [.int .i64 0] H:=by
 refine kj (fun m vs h => ∃ (i:Nat) (ys:List yM),i<=xs.length/\m=xs.length - i/\vs = [.int .i64 (i:Nat)]/\ys.map yM.core=xs.map yM.core/\(∀ k,i<=k->ys[k]? = xs[k]?)/\Sat lo h (pt bf (.cells [a0,a1,a2,a3,a4,cv] 45) :: xN 53 9 cv (ys.map yM.row) :: vB ((ys.take i).map jV) :: L)) xs.length
  ⟨0,xs,aa0 _,rfl,rfl,rfl,fun _ _=>rfl,(XA s).f [1,2,0]⟩ ?_
 rintro m vs h ⟨i,ys,hi,rfl,rfl,hcore,htl,s⟩
 have hlen:ys.length=xs.length:=by simpa using congrArg List.length hcore
 have gbf:=s.get
 have lbf:=s.lt
 have cl:=(y7 (s.p 1) (kL ys)).Qu 3
 have cn:=xw (s.p 1)
 rw [aak] at cl
 by_cases hlt:i < xs.length
 ·have hx:xs[i]? = some xs[i]:=aab hlt
  have hy:ys[i]? = some xs[i]:=by rw [htl i (aah _)];exact hx
  have hlt':(i:Int) < (ys.length:Int):=by omega
  have h0':0<=(i:Int)/\(i:Int) < (ys.length:Int):=by omega
  have hinc:IntKind.wrap .i64 ((i:Int) + 1)=((i + 1:Nat):Int):=inc (by omega)
  have Y:=X.at s xs[i] (abN hlt)
  generalize xs[i]=y at hx hy Y
  have hrow:(ys.map yM.row)[i]? = some y.row:=by rw [aap,hy];rfl
  obtain ⟨cb,cc,cs,rfl,gcb,lcb,wcb,hcs,hat,s1,back⟩:=Um (s.p 1) (kL ys) hrow
  rw [aak] at *
  have gc1:∀ t,(cut (h.push (.cells [] 3)) h.next t).get bf=some (.cells [a0,a1,a2,a3,a4,.slice (some ⟨cb,0,none⟩) ys.length cc] 45):=fun t=>by rw [Wl lbf,zt lbf];exact gbf
  have gc2:∀ t,(cut (h.push (.cells [] 3)) h.next t).get cb=some (.cells cs 53):=fun t=>by rw [Wl lcb,zt lcb];exact gcb
  have hco:cs[i * 9 + 6]? = some y.av:=hat 6 (by decide)
  simp -implicitDefEqProofs only [EE,nth,↓BK,if_true,zC,xr,vK,mc,y9,uL,rM,tJ,Ak,Al,aZ,gbf,hlt',h0',gc1,gc2,hco,aau]
  refine Bp (h:=h) (Y.args.old (Old.push _ _)) Y.J9 s.base.sg (aaD _) ?_
  intro v h6 W e6 r6
  have s6:=ME W e6 r6 s1
  have g6:=(s6.p 1).get
  obtain ⟨va,vl,vc,rfl⟩:=W.shape
  simp -implicitDefEqProofs only [EE,nth,if_true,E7,uL,rM,Aj,h0',aau]
  refine yL (s6.p 1) (by simp;omega) (by rfl) fun h7 s7 => ?_
  have s8:=back 6 _ (by decide) s7
  refine ⟨xs.length - (i + 1),by omega,i + 1,ys.set i { y with av := .slice va vl vc },hlt,rfl,by rw [hinc],?_,?_,?_⟩
  ·rw [<- hcore]
   refine abe fun k => ?_
   rw [aap,aap,abZ]
   by_cases q:i=k
   ·subst q;rw [hy,if_pos rfl,if_pos (by omega)];rfl
   ·rw [if_neg q]
  ·intro k hk
   rw [abk (by omega)]
   exact htl k (by omega)
  ·have e1:(ys.set i { y with av := .slice va vl vc }).map yM.row=(ys.map yM.row).set i (y.row.set 6 (.slice va vl vc)):=by rw [acs];rfl
   have e2:(ys.set i { y with av := .slice va vl vc }).take (i + 1)=ys.take i ++ [{ y with av := .slice va vl vc }]:=by
    rw [abP,List.take_set_of_le (aah _),aaT (by omega)];rfl
   rw [e1,e2,aaU]
   have s9:=ZT (A:=jV { y with av := .slice va vl vc }) (s8.f [1,3,0,2])
   exact s9.f [2,1,0]
 ·have hlt':¬ (i:Int) < (ys.length:Int):=by omega
  simp -implicitDefEqProofs only [EE,nth,zC,vK,y9,aZ,gbf,cl,cn,hlt']
  have:ys.take i=ys:=abB (by omega)
  rw [this] at s
  exact K _ ys hcore s
end
theorem LL {f:Fn} {h:za} (p:cellOk f.pv=true) (c:cellOk f.cv=true):f.row.all cellOk=true:=by
 simp [p,c]
 exact ⟨rfl,rfl,rfl,rfl⟩
theorem TV {lo:yE} {h:za} {L:List HP} {b1 b3 i:Nat} {qg fv:Value} {m:Int} {p:Pg} {f:Fn} {qs:List Fn} (hf:p.funcs[i]? = some f) (RP:Rd lo (wQ · p)) (hlen:(qs.length + 1) * 88<=2 ^ 47) (s:Sat lo h (pt b1 (YI p) :: pt b3 (.cells [qg,fv,.int .i64 m] 25) :: xN 45 6 fv (qs.map Fn.row) :: vB (qs.map iD) :: L))
  {j:List Value->za->Prop}
  (K:∀ (h':za) (fv':Value) (q:Fn),q.core=f.core->Sat lo h' (pt b1 (YI p) :: pt b3 (.cells [qg,fv',.int .i64 m] 25) :: xN 45 6 fv' ((qs ++ [q]).map Fn.row) :: vB ((qs ++ [q]).map iD) :: L)->j [] h') :
  iP (.pointer (some ⟨b1,0,none⟩)) h [.int .i64 (i:Nat)] (.pointer (some ⟨b3,0,none⟩)) j:=by
 have P:=RP.at s
 have fl:=P.funcs.Jy 3
 obtain ⟨bb,oo,cc,tt,ha,hbb,hgt,hle,htk,_⟩:=P.funcs.cC (i:=i) (r:=f.row) (by rw [aap,hf];rfl) rfl
 have fm:=aaq hf
 have F:=P.fns f fm
 have pn:=F.params.vk
 have cn:=F.code.vk
 have pc:=F.params.gO
 have cc':=F.code.gO
 have g1:=s.get
 simp -implicitDefEqProofs only [EE,nth,Value.cells,if_true,zZ,zC,vA,Qq,gJ,y8,iP,g1,ha,hgt,hle,htk]
 refine uR s fun bf h2 s2 => ?_
 simp -implicitDefEqProofs only [EE,Nat.reduceAdd,lZ]
 refine yL s2 (by simp) (LL (h:=h) pc cc') fun h3 s3 => ?_
 have g3:=s3.get
 obtain ⟨v1,h4,a1,W1,e4,r4,l4⟩:=IY (h:=h3) (x:=f.pv) (zs:=f.params) ((RP.at s3).fns f fm |>.params.old (Old.push _ _)) F.tP s3.base.sg
 have g3':(h3.push (.cells [] 3)).get bf=some (.cells [.string f.nm,f.pv,.int .i64 f.regs,.int .i64 f.frame,.int .i64 f.entry,f.cv] 45):=by rw [zt s3.lt];exact g3
 have s4:=ME W1 e4 r4 s3
 have g4:=(s4.p 1).get
 obtain ⟨va,vl,vc,rfl⟩:=W1.shape
 simp -implicitDefEqProofs only [EE,zC,xr,E7,mc,uK,pn,g3',a1]
 refine yL (s4.p 1) (by simp [jr]) rfl fun h5 s5 => ?_
 have g5:=s5.get
 have P5:=RP.at s5
 have g5':(h5.push (.cells [] 53)).get bf=some (.cells [.string f.nm,.slice va vl vc,.int .i64 f.regs,.int .i64 f.frame,.int .i64 f.entry,f.cv] 45):=by rw [zt s5.lt];exact g5
 obtain ⟨v3,h6,a3,W3,e6,r6,l6⟩:=IZ (h:=h5) (x:=f.cv) (ys:=f.code) ((P5.fns f fm).code.old (Old.push _ _)) (fun y hy=>((P5.fns f fm).ins y hy).old (Old.push _ _)) F.nO s5.base.sg
 have s6:=PT W3 (kL _) e6 r6 s5
 obtain ⟨wa,wl,wc,rfl⟩:=W3.shape
 simp -implicitDefEqProofs only [EE,zC,vK,I7,Lh,y9,cn,g5',a3]
 refine yL (s6.p 1) (by simp [jr]) rfl fun h7 s7 => ?_
 simp -implicitDefEqProofs only [↓BK]
 refine TW (xs:=f.code) (fun h b x hx=>((RP h b).fns f fm).ins x hx) (by have:=F.nO;omega) s7 ?_
 intro h8 ys hcore s8
 have g8:=s8.get
 have gq:=(s8.p 5).get
 have fvn:=xw (s8.p 6)
 have fvl:=y7 (s8.p 6) (kr qs)
 have s9:=s8.push (.cells [.string f.nm,.slice va vl vc,.int .i64 f.regs,.int .i64 f.frame,.int .i64 f.entry,.slice wa wl wc] 45)
 obtain ⟨b',c',h10,a10,s10⟩:=YS (s9.p 7) (kr qs) [.string f.nm,.slice va vl vc,.int .i64 f.regs,.int .i64 f.frame,.int .i64 f.entry,.slice wa wl wc] rfl (by decide) 88 (by rw [aak];exact hlen)
 rw [aak] at a10 s10
 have hap:∀ r,zg Tryz.prog .append [23,23] r [fv,.slice (some ⟨h8.next,0,none⟩) 1 3] (h8.push (.cells [.string f.nm,.slice va vl vc,.int .i64 f.regs,.int .i64 f.frame,.int .i64 f.entry,.slice wa wl wc] 45))=some (.slice (some ⟨b',0,none⟩) (qs.length + 1) c',h10):=fun r=>by
  rw [RH r _ _ 1 [.string f.nm,.slice va vl vc,.int .i64 f.regs,.int .i64 f.frame,.int .i64 f.entry,.slice wa wl wc] _ rfl (by simp only [xA,zo];rfl) rfl rfl]
  exact a10
 have gq':=(s10.p 7).get
 simp -implicitDefEqProofs only [EE,if_true,Nat.reduceAdd,zZ,zC,vA,Qq,RS,eN,y8,Am,g8,gq,fvn,hap]
 refine yL (s10.p 7) (by simp) rfl fun h11 s11 => ?_
 have q:∃ q:Fn,q = { f with pv := .slice va vl vc,cv := .slice wa wl wc,code:=ys }:=⟨_,rfl⟩
 obtain ⟨q,hq⟩:=q
 refine K h11 (.slice (some ⟨b',0,none⟩) (qs.length + 1) c') q (by rw [hq];show Fn.mk _ _ _ _ _ _ _ (ys.map yM.core)=_;rw [hcore]) ?_
 have s12:=Sat.close (M:=[xN 3 1 (.slice va vl vc) (f.params.map yw),xN 53 9 (.slice wa wl wc) (ys.map yM.row),vB (ys.map jV)]) (s11.f [6,4,5])
 have s13:=ZT (A:=vB [xN 3 1 (.slice va vl vc) (f.params.map yw),xN 53 9 (.slice wa wl wc) (ys.map yM.row),vB (ys.map jV)]) (s12.f [0,6])
 have s14:=((s13.f [3,4]).drop.drop).f [3,1,2,0]
 have e1:(qs ++ [q]).map Fn.row=qs.map Fn.row ++ [[.string f.nm,.slice va vl vc,.int .i64 f.regs,.int .i64 f.frame,.int .i64 f.entry,.slice wa wl wc]]:=by rw [hq,aaU];rfl
 have e2:(qs ++ [q]).map iD=qs.map iD ++ [vB [xN 3 1 (.slice va vl vc) (f.params.map yw),xN 53 9 (.slice wa wl wc) (ys.map yM.row),vB (ys.map jV)]]:=by rw [hq,aaU];rfl
 rw [e1,e2]
 exact s14
theorem TX {lo:yE} {H:za} {L:List HP} {b1 b3:Nat} {qg:Value} {m:Int} {p:Pg} (RP:Rd lo (wQ · p)) (s:Sat lo H (pt b1 (YI p) :: pt b3 (.cells [qg,.slice none 0 0,.int .i64 m] 25) :: L))
  {j:List Value->za->Prop}
  (K:∀ (h:za) (fv:Value) (qs:List Fn),qs.map Fn.core=p.funcs.map Fn.core->Sat lo h (pt b1 (YI p) :: pt b3 (.cells [qg,fv,.int .i64 m] 25) :: xN 45 6 fv (qs.map Fn.row) :: vB (qs.map iD) :: L)->j [] h) :
  LP (bB (.pointer (some ⟨b1,0,none⟩)) j (.pointer (some ⟨b3,0,none⟩))) [.int .i64 0] H:=by
 refine kj (fun n vs h => ∃ (i:Nat) (fv:Value) (qs:List Fn),i<=p.funcs.length/\n=p.funcs.length - i/\vs = [.int .i64 (i:Nat)]/\qs.map Fn.core=(p.funcs.take i).map Fn.core/\Sat lo h (pt b1 (YI p) :: pt b3 (.cells [qg,fv,.int .i64 m] 25) :: xN 45 6 fv (qs.map Fn.row) :: vB (qs.map iD) :: L)) p.funcs.length
  ⟨0,.slice none 0 0,[],aa0 _,rfl,rfl,by simp,((ub _ _ (XA s)).f [2,3,0,1])⟩ ?_
 rintro n vs h ⟨i,fv,qs,hi,rfl,rfl,hcore,s⟩
 have P:=RP.at s
 have g1:=s.get
 have fn:=P.funcs.vk
 have fl:=P.funcs.Jy 3
 rw [aak] at fl
 have hlq:qs.length=i:=by have:=congrArg List.length hcore;simp at this;omega
 by_cases hlt:i < p.funcs.length
 ·obtain ⟨f,hf⟩:∃ f,p.funcs[i]? = some f:=⟨_,aab hlt⟩
  have hlt':(i:Int) < (p.funcs.length:Int):=by omega
  have hinc:IntKind.wrap .i64 ((i:Int) + 1)=((i + 1:Nat):Int):=inc (by have:=P.BQ;omega)
  simp -implicitDefEqProofs only [EE,nth,↓BK,zC,vA,y8,An,bB,g1,fl,fn,hlt']
  refine TV hf RP (by have:=P.BQ;omega) s ?_
  intro h' fv' q hc s'
  refine ⟨p.funcs.length - (i + 1),by omega,i + 1,fv',qs ++ [q],hlt,rfl,by simp -implicitDefEqProofs only [hinc],?_,s'⟩
  rw [aaU,hcore,abP,hf,aaU]
  simp only [abv,acD,hc,Option.toList_some]
 ·have hlt':¬ (i:Int) < (p.funcs.length:Int):=by omega
  simp -implicitDefEqProofs only [EE,nth,zC,vA,y8,bB,g1,fl,fn,hlt']
  refine K h fv qs ?_ s
  rw [hcore,abB (by omega)]
theorem J8 (p:Pg) (h:za) (P:wQ h p):DC Tryz.prog 8 [p.val] h (fun v h' => ∃ q:Pg,v=q.val/\q.core=p.core/\Sat (.of h) h' [Ri q]):=by
 refine jO fun wf => ?_
 apply Ge
 unfold H9
 have gn:=P.globals.vk
 have fn:=P.funcs.vk
 have s0:Sat (.of h) h []:=Sat.self wf.2
 have RP:Rd (.of h) (wQ · p):=Rd.of (yE.jq h) P fun h' o=>P.old o
 simp -implicitDefEqProofs only [EE,Value.cells,Fa,mc]
 refine uR s0 fun b1 h2 s2 => ?_
 simp -implicitDefEqProofs only [EE,zC,xr,xM]
 refine uR s2 fun b2 h4 s4 => ?_
 have g1:=(s4.p 1).get
 have l1:=(s4.p 1).lt
 have g2:=s4.get
 have l2:=s4.lt
 have gc1:∀ t,(cut (h4.push (.cells [] 3)) h4.next t).get b1=some (YI p):=fun t=>by rw [Wl l1,zt l1];exact g1
 simp -implicitDefEqProofs only [EE,gc1]
 refine Bp (h:=h4) ((RP.at s4).globals.old (Old.push _ _)) P.tB s4.base.sg (aaD _) ?_
 intro v h6 W e6 r6
 have s6:=ME W e6 r6 s4
 obtain ⟨va,vl,vc,rfl⟩:=W.shape
 have g61:=(s6.p 2).get
 have n6:=e6.next
 have gc2:∀ s t,(cut (cut h6 h4.next s) (h4.next + 1) t).get b1=some (YI p):=fun s t=>by
  rw [Wl (by omega),Wl l1];exact g61
 simp -implicitDefEqProofs only [EE,Value.cells,zC,zj,Fa,GW,Xw,Ao,gc2]
 refine uR s6 fun b3 h8 s8 => ?_
 simp -implicitDefEqProofs only [EE,Nat.reduceAdd,E8]
 refine yL s8 (by simp) rfl fun h10 s10 => ?_
 simp -implicitDefEqProofs only [↓BK]
 refine TX RP (s10.f [3,0,1,2]) ?_
 intro h11 fv qs hcore s11
 have g3:=(s11.p 1).get
 have fvn:=xw (s11.p 2)
 have fvc:=vE (s11.p 2)
 simp -implicitDefEqProofs only [EE,if_true,Nat.reduceAdd,zZ,ZX,E8,g3]
 refine yL (s11.p 5) (by simp) (by simp [fvc];exact ⟨rfl,rfl⟩) fun h12 s12 => ?_
 have g12:=s12.get
 simp -implicitDefEqProofs only [EE,zf,if_true,Nat.reduceAdd,zZ,ZX,g12]
 refine ⟨⟨.slice va vl vc,p.globals,fv,qs,p.main⟩,rfl,by show Pg.mk _ _ _ (qs.map Fn.core) _=_;rw [hcore],?_⟩
 exact Sat.close (M:=[xN 3 1 (.slice va vl vc) (p.globals.map yw),xN 45 6 fv (qs.map Fn.row),vB (qs.map iD)]) (L:=[]) (s12.k [5,3,4])
end Go.Rtl
namespace Go.Rl
open Go.Ai Go.Proofs
open Go.Rn (vW gI Y6 U0 J4 We TI TF TP)
open Go.Rtl (yM Pg wQ v8 xK zN zJ Old inc jV iD Ri Qk Ql ZT XA Um tV Ki J8 kL kr j4 v5)
open Go.Rm (xN yw wW ub uI VF xw vE y7 Vq Jg vZ Rd Rd.of Rd.at Xe)
abbrev OD (n:Int) (on:Bool):Value := .agg #[.int .i64 n,.bool on]
theorem m0 (n:Int) (on:Bool) (h:za):xx Tryz.prog 40 [.int .i64 n,.bool on] h (OD n on):=by
 refine xx.of rfl ?_
 apply jO;intro wf
 apply nE
 unfold lq
 have s0:Sat (.of h.lock) h.lock []:=Sat.self wf.2
 simp -implicitDefEqProofs only [EE,Value.cells,La,GY]
 refine uR s0 fun b h2 s2 => ?_
 simp -implicitDefEqProofs only [EE,Nat.reduceAdd,I8]
 refine yL s2 (by simp) rfl fun h3 s3 => ?_
 have g3:=s3.get
 simp -implicitDefEqProofs only [EE,zf,if_true,Nat.reduceAdd,zZ,Js,g3]
theorem ZV {n:Int} (h0 : -9223372036854775808<=n) (h1:n < 9223372036854775808):IntKind.wrap .i64 n=n:=Go.Mem.ZV h0 h1
theorem dx {n:Int} {on:Bool} {i:Int} (h0:n<=5000) (h:za):xx Tryz.prog 41 [OD n on,.int .i64 i] h (.int .i64 (vW n on i)):=by
 refine xx.of rfl ?_
 apply jO;intro wf
 apply Iw
 unfold Od
 have s0:Sat (.of h.lock) h.lock []:=Sat.self wf.2
 simp -implicitDefEqProofs only [EE,Value.cells]
 refine uR s0 fun b h2 s2 => ?_
 have g2:=s2.get
 cases on with
 | false=>
   simp -implicitDefEqProofs only [EE,zC,Yv,iB,bU,bV,bW,g2]
   rfl
 | true=>
   by_cases c1:i < 0
   ·simp -implicitDefEqProofs only [EE,zC,Yv,iB,bU,bV,bW,g2,c1]
    rw [U0 (by omega)]
   by_cases c2:i ≥ n
   ·simp -implicitDefEqProofs only [EE,zC,zj,Yv,Fj,iB,bU,bV,bW,g2,c1,c2]
    rw [U0 (by omega)]
   ·have e1:IntKind.wrap .i64 (n - 1)=n - 1:=ZV (by omega) (by omega)
    have e2:IntKind.wrap .i64 (n - 1 - i)=n - 1 - i:=ZV (by omega) (by omega)
    simp -implicitDefEqProofs only [EE,zC,zj,Yv,Fj,iB,EY,bU,bV,bW,g2,c1,c2,e1,e2]
    unfold vW
    rw [if_neg (by simp;omega)]
def aO {α:Type} (F:α->α) (i:Nat) (l:List α):List α:=(l.take i).map F ++ l.drop i
section
variable {α:Type} {F:α->α} {l:List α} {i:Nat} {x:α}
theorem sm:aO F 0 l=l:=by simp [aO]
theorem CC (h:l.length<=i):aO F i l=l.map F:=by
 unfold aO
 rw [abB h,List.drop_of_length_le h,abD]
theorem dy:(aO F i l).length=l.length:=by
 unfold aO
 simp;omega
theorem FP (h:l[i]? = some x):(aO F i l)[i]? = some x:=by
 have hi:=(aa1.1 h).1
 unfold aO
 rw [abb (by simp;omega),aak,abL,aaN,<- h]
 congr 1;omega
theorem CE (h:l[i]? = some x):(aO F i l).set i (F x)=aO F (i + 1) l:=by
 obtain ⟨hi,hx⟩:=aa1.1 h
 unfold aO
 rw [List.set_append_right _ _ (by simp;omega),aak,abL,show i - min i l.length=0 by omega,abP,h,show l.drop i=x :: l.drop (i + 1) by rw [ab9 hi,hx]]
 simp
end
section
variable {lo:yE} {h:za} {L:List HP} {n:Int} {on:Bool}
theorem Fq {sv:Value} {zs:List Int} {i:Nat} {z:Int} (s:Sat lo h (xN 3 1 sv (zs.map yw) :: L)) (hz:zs[i]? = some z) :
  ∃ b c cs,sv = .slice (some ⟨b,0,none⟩) zs.length c/\h.get b=some (.cells cs 3)/\i < cs.length/\cs[i]? = some (.int .i64 z)/\Sat lo h (pt b (.cells cs 3) :: L) /\ ∀ {h':za} {L':List HP} (w:Int),Sat lo h' (pt b (.cells (cs.set i (.int .i64 w)) 3) :: L')->Sat lo h' (xN 3 1 sv ((zs.set i w).map yw) :: L'):=by
 have hr:(zs.map yw)[i]? = some (yw z):=by rw [aap,hz];rfl
 have hi:=(aa1.1 hz).1
 obtain ⟨b,c,cs,e,g,_,_,hl,hat,s1,back⟩:=Um s (vZ (f:=yw) (fun _=>rfl) zs) hr
 rw [aak] at *
 have h0:=hat 0 (by decide)
 rw [aa6,abX] at h0
 refine ⟨b,c,cs,e,g,by omega,h0,s1,fun w s2 => ?_⟩
 have:=back 0 (.int .i64 w) (by decide) (by rw [aa6,abX];exact s2)
 rw [acs]
 exact this
theorem Mm {b7 b10:Nat} {nm:ByteArray} {pv cv:Value} {rg fr en:Int} {zs:List Int} (J9:zs.length<=17592186043904) (hn:n<=5000) (pn:zP cv=false) {j:List Value->za->Prop}
  (s:Sat lo h (pt b7 (.cells [.string nm,pv,.int .i64 rg,.int .i64 fr,.int .i64 en,cv] 45) :: pt b10 (.cells [.int .i64 n,.bool on] 92) :: xN 3 1 pv (zs.map yw) :: L))
  (K:∀ h',Sat lo h' (pt b7 (.cells [.string nm,pv,.int .i64 rg,.int .i64 fr,.int .i64 en,cv] 45) :: pt b10 (.cells [.int .i64 n,.bool on] 92) :: xN 3 1 pv ((zs.map (vW n on)).map yw) :: L)->j [] h') :
  LP (JY (.pointer (some ⟨b7,0,none⟩)) j (.pointer (some ⟨b10,0,none⟩))) [.int .i64 0] h:=by
 refine kj (fun m vs h' => ∃ i:Nat,i<=zs.length/\m=zs.length - i/\vs = [.int .i64 (i:Nat)]/\Sat lo h' (pt b7 (.cells [.string nm,pv,.int .i64 rg,.int .i64 fr,.int .i64 en,cv] 45) :: pt b10 (.cells [.int .i64 n,.bool on] 92) :: xN 3 1 pv ((aO (vW n on) i zs).map yw) :: L)) zs.length ⟨0,aa0 _,rfl,rfl,by rw [sm];exact s⟩ ?_
 rintro m vs h' ⟨i,hi,rfl,rfl,s⟩
 unfold JY
 have g7:=s.get
 have g10:=(s.p 1).get
 have len:=(tV s (v:=pv) (zs:=aO (vW n on) i zs) (by simp)).jM 3
 have vk:=xw (s.p 2)
 rw [dy] at len
 by_cases hc:i < zs.length
 ·have hz:zs[i]? = some zs[i]:=aab hc
  generalize zs[i]=z at hz
  obtain ⟨b,c,cs,rfl,gb,hb,hcs,s1,back⟩:=Fq (s.p 2) (FP (F:=vW n on) hz)
  rw [dy] at *
  have hlt':(i:Int) < (zs.length:Int):=by omega
  have h0':0<=(i:Int)/\(i:Int) < (zs.length:Int):=by omega
  have hinc:IntKind.wrap .i64 ((i:Int) + 1)=((i + 1:Nat):Int):=inc (by omega)
  simp -implicitDefEqProofs only [EE,nth,↓BK,if_true,Nat.reduceAdd,zZ,zC,xr,zj,Js,uK,mP,lK,lL,g7,g10,len,vk,hlt',h0',gb,hcs,aau,aa6]
  refine vn (by kernel_rfl) rfl (dx hn h') ?_
  simp -implicitDefEqProofs only [EE,nth,if_true,Wy,mP,hlt',h0',aau,aa6]
  refine yL s1 (by simp;omega) rfl fun h3 s3 => ?_
  have s4:=back _ s3
  rw [CE hz] at s4
  exact ⟨zs.length - (i + 1),by omega,i + 1,hc,rfl,by rw [hinc],s4.f [1,2,0]⟩
 ·have hlt':¬ (i:Int) < (zs.length:Int):=by omega
  simp -implicitDefEqProofs only [EE,nth,zC,xr,uK,g7,len,vk,hlt']
  rw [CC (by omega)] at s
  exact K h' s
theorem OT {b14 b10:Nat} {c0 c1 c2 c3 c4 c5 c7 c8 av:Value} {zs:List Int} (J9:zs.length<=17592186043904) (hn:n<=5000) {j:List Value->za->Prop}
  (s:Sat lo h (pt b14 (.cells [c0,c1,c2,c3,c4,c5,av,c7,c8] 53) :: pt b10 (.cells [.int .i64 n,.bool on] 92) :: xN 3 1 av (zs.map yw) :: L))
  (K:∀ h',Sat lo h' (pt b14 (.cells [c0,c1,c2,c3,c4,c5,av,c7,c8] 53) :: pt b10 (.cells [.int .i64 n,.bool on] 92) :: xN 3 1 av ((zs.map (vW n on)).map yw) :: L)->j [] h') :
  LP (JZ (.pointer (some ⟨b14,0,none⟩)) j (.pointer (some ⟨b10,0,none⟩))) [.int .i64 0] h:=by
 refine kj (fun m vs h' => ∃ i:Nat,i<=zs.length/\m=zs.length - i/\vs = [.int .i64 (i:Nat)]/\Sat lo h' (pt b14 (.cells [c0,c1,c2,c3,c4,c5,av,c7,c8] 53) :: pt b10 (.cells [.int .i64 n,.bool on] 92) :: xN 3 1 av ((aO (vW n on) i zs).map yw) :: L)) zs.length ⟨0,aa0 _,rfl,rfl,by rw [sm];exact s⟩ ?_
 rintro m vs h' ⟨i,hi,rfl,rfl,s⟩
 unfold JZ
 have g7:=s.get
 have g10:=(s.p 1).get
 have len:=(tV s (v:=av) (zs:=aO (vW n on) i zs) (by simp)).jM 3
 have vk:=xw (s.p 2)
 rw [dy] at len
 by_cases hc:i < zs.length
 ·have hz:zs[i]? = some zs[i]:=aab hc
  generalize zs[i]=z at hz
  obtain ⟨b,c,cs,rfl,gb,hb,hcs,s1,back⟩:=Fq (s.p 2) (FP (F:=vW n on) hz)
  rw [dy] at *
  have hlt':(i:Int) < (zs.length:Int):=by omega
  have h0':0<=(i:Int)/\(i:Int) < (zs.length:Int):=by omega
  have hinc:IntKind.wrap .i64 ((i:Int) + 1)=((i + 1:Nat):Int):=inc (by omega)
  simp -implicitDefEqProofs only [EE,nth,↓BK,if_true,Nat.reduceAdd,zZ,zC,xr,zj,Js,uL,mP,lM,lN,g7,g10,len,vk,hlt',h0',gb,hcs,aau,aa6]
  refine vn (by kernel_rfl) rfl (dx hn h') ?_
  simp -implicitDefEqProofs only [EE,nth,if_true,Wy,mP,hlt',h0',aau,aa6]
  refine yL s1 (by simp;omega) rfl fun h3 s3 => ?_
  have s4:=back _ s3
  rw [CE hz] at s4
  exact ⟨zs.length - (i + 1),by omega,i + 1,hc,rfl,by rw [hinc],s4.f [1,2,0]⟩
 ·have hlt':¬ (i:Int) < (zs.length:Int):=by omega
  simp -implicitDefEqProofs only [EE,nth,zC,xr,uL,g7,len,vk,hlt']
  rw [CC (by omega)] at s
  exact K h' s
end
open Go.Rtl (Zj)
def JA (nn nr:Int->Int) (x:yM):yM:={ x with a:=nr x.a,b:=nr x.b,d:=nr x.d,args:=x.args.map nr,s:=nn x.s,t:=nn x.t }
section
variable {lo:yE} {h:za} {L:List HP} {n rg fr en:Int} {nodes regs:Bool} {b7 b9 b10:Nat} {nm:ByteArray} {pv cv nv:Value} {xs:List yM}
def fE (lo:yE) (b7 b9 b10:Nat) (nm:ByteArray) (pv cv nv:Value) (rg fr en n:Int) (nodes regs:Bool) (xs:List yM) (L:List HP) (i:Nat) (ws:List yM) (h:za):Prop :=
 Sat lo h (pt b7 (.cells [.string nm,pv,.int .i64 rg,.int .i64 fr,.int .i64 en,cv] 45) :: pt b9 (.cells [.int .i64 n,.bool nodes] 92) :: pt b10 (.cells [.int .i64 rg,.bool regs] 92) :: xN 53 9 cv (xs.map yM.row) :: xN 53 9 nv (ws.map yM.row) :: vB ((xs.take i).map fun x=>jV (JA (vW n nodes) (vW rg regs) x)) :: vB ((xs.drop i).map jV) :: L)
theorem Pa {i:Nat} {x:yM} {ws:List yM} {j:List Value->za->Prop} (hx:xs[i]? = some x) (J9:x.args.length<=17592186043904) (hn:n=xs.length) (hn5:n<=5000) (hr5:rg<=5000) (hw:ws.length=xs.length) (s:fE lo b7 b9 b10 nm pv cv nv rg fr en n nodes regs xs L i ws h) (pn:zP pv=false)
  (K:∀ h',fE lo b7 b9 b10 nm pv cv nv rg fr en n nodes regs xs L (i + 1) (ws.set (vW n nodes i).toNat (JA (vW n nodes) (vW rg regs) x)) h'->j [] h') :
  Q8 (.pointer (some ⟨b7,0,none⟩)) h [.int .i64 (i:Nat)] (.pointer (some ⟨b10,0,none⟩)) (.pointer (some ⟨b9,0,none⟩)) nv j:=by
 unfold fE at s
 have hi:=(aa1.1 hx).1
 have g7:=s.get
 obtain ⟨bb,oo,cc,tt,ha,hbb,hgt,hle,htk,_⟩:=(y7 (s.p 3) (kL xs)).th (i:=i) (r:=x.row) (by rw [aap,hx];rfl) rfl
 have hd:xs.drop i=x :: xs.drop (i + 1):=by
  obtain ⟨_,e⟩:=aa1.1 hx
  rw [ab9 hi,e]
 rw [hd,abv] at s
 have s1:=Zj (s.p 6)
 have an:zP x.av=false:=xw s1
 have ac:cellOk x.av=true:=vE s1
 unfold Q8
 simp -implicitDefEqProofs only [EE,nth,Value.cells,if_true,zZ,zC,vK,ka,cE,y9,g7,ha,hgt,hle,htk]
 refine uR s1 fun b14 h4 s4 => ?_
 simp -implicitDefEqProofs only [EE,Nat.reduceAdd,gH]
 refine yL s4 (by simp) (by simp [ac];exact ⟨rfl,rfl,rfl,rfl,rfl,rfl,rfl,rfl⟩) fun h5 s5 => ?_
 have s5:Sat lo h5 (pt b14 (.cells [.int .i64 x.op,.int .i64 x.sub,.int .i64 x.a,.int .i64 x.b,.int .i64 x.d,.int .i64 x.k,x.av,.int .i64 x.s,.int .i64 x.t] 53) :: _):=s5
 have s5:=s5.f [0,4,5]
 have g14:=s5.get
 have gt:=(s5.p 2).get
 simp -implicitDefEqProofs only [EE,if_true,Nat.reduceAdd,zZ,zC,zj,Js,xe,g14,gt]
 refine zi (by kernel_rfl) rfl (dx (by omega) h5) ?_
 simp -implicitDefEqProofs only [EE,Wy,xe,fY]
 refine yL s5 (by simp) rfl fun h6 s6 => ?_
 have s6:Sat lo h6 (pt b14 (.cells [.int .i64 x.op,.int .i64 x.sub,.int .i64 (vW rg regs x.a),.int .i64 x.b,.int .i64 x.d,.int .i64 x.k,x.av,.int .i64 x.s,.int .i64 x.t] 53) :: _):=s6
 clear g14 gt
 have g14:=s6.get
 have gt:=(s6.p 2).get
 simp -implicitDefEqProofs only [EE,if_true,Nat.reduceAdd,zZ,zC,zj,Js,vC,g14,gt]
 refine zi (by kernel_rfl) rfl (dx (by omega) h6) ?_
 simp -implicitDefEqProofs only [EE,Wy,vC,fX]
 refine yL s6 (by simp) rfl fun h7 s7 => ?_
 have s7:Sat lo h7 (pt b14 (.cells [.int .i64 x.op,.int .i64 x.sub,.int .i64 (vW rg regs x.a),.int .i64 (vW rg regs x.b),.int .i64 x.d,.int .i64 x.k,x.av,.int .i64 x.s,.int .i64 x.t] 53) :: _):=s7
 clear g14 gt
 have g14:=s7.get
 have gt:=(s7.p 2).get
 simp -implicitDefEqProofs only [EE,if_true,Nat.reduceAdd,zZ,zC,zj,Js,xj,g14,gt]
 refine zi (by kernel_rfl) rfl (dx (by omega) h7) ?_
 simp -implicitDefEqProofs only [EE,Wy,xj,fW]
 refine yL s7 (by simp) rfl fun h8 s8 => ?_
 have s8:Sat lo h8 (pt b14 (.cells [.int .i64 x.op,.int .i64 x.sub,.int .i64 (vW rg regs x.a),.int .i64 (vW rg regs x.b),.int .i64 (vW rg regs x.d),.int .i64 x.k,x.av,.int .i64 x.s,.int .i64 x.t] 53) :: _):=s8
 clear g14 gt
 have g14:=s8.get
 have gt:=(s8.p 1).get
 simp -implicitDefEqProofs only [EE,if_true,Nat.reduceAdd,zZ,zC,zj,Js,kI,g14,gt]
 refine zi (by kernel_rfl) rfl (dx (by omega) h8) ?_
 simp -implicitDefEqProofs only [EE,Wy,kI,lQ]
 refine yL s8 (by simp) rfl fun h9 s9 => ?_
 have s9:Sat lo h9 (pt b14 (.cells [.int .i64 x.op,.int .i64 x.sub,.int .i64 (vW rg regs x.a),.int .i64 (vW rg regs x.b),.int .i64 (vW rg regs x.d),.int .i64 x.k,x.av,.int .i64 (vW n nodes x.s),.int .i64 x.t] 53) :: _):=s9
 clear g14 gt
 have g14:=s9.get
 have gt:=(s9.p 1).get
 simp -implicitDefEqProofs only [EE,if_true,Nat.reduceAdd,zZ,zC,zj,Js,YM,g14,gt]
 refine zi (by kernel_rfl) rfl (dx (by omega) h9) ?_
 simp -implicitDefEqProofs only [EE,Wy,YM,lP]
 refine yL s9 (by simp) rfl fun h10 s10 => ?_
 have s10:Sat lo h10 (pt b14 (.cells [.int .i64 x.op,.int .i64 x.sub,.int .i64 (vW rg regs x.a),.int .i64 (vW rg regs x.b),.int .i64 (vW rg regs x.d),.int .i64 x.k,x.av,.int .i64 (vW n nodes x.s),.int .i64 (vW n nodes x.t)] 53) :: _):=s10
 clear g14 gt
 refine OT J9 hr5 (s10.f [0,2,3]) fun h11 s11 => ?_
 have g14:=s11.get
 have gt:=(s11.p 3).get
 simp -implicitDefEqProofs only [EE,nth,if_true,Nat.reduceAdd,zZ,Js,gt]
 refine vn (by kernel_rfl) rfl (dx hn5 h11) ?_
 have ai:=Y6 (n:=n) (on:=nodes) (i:=(i:Int)) ⟨by omega,by omega⟩
 have hk:(vW n nodes i).toNat < (ws.map yM.row).length:=by rw [aak,hw];omega
 obtain ⟨b,c,cs,rfl,gb,wb,lb,s12⟩:=Vq (s11.p 7) (kL ws) hk
 rw [aak] at *
 have h0':0<=vW n nodes i/\vW n nodes i < (ws.length:Int):=by omega
 simp -implicitDefEqProofs only [EE,if_true,Nat.reduceAdd,zZ,ka,gH,rM,lO,g14,h0']
 refine Jg gb wb lb s12 (by simp) (by simp [ac];exact ⟨rfl,rfl,rfl,rfl,rfl,rfl,rfl,rfl⟩) fun h13 s13 => ?_
 refine K h13 ?_
 unfold fE
 have et:xs.take (i + 1)=xs.take i ++ [x]:=by rw [abP,hx];rfl
 rw [et,aaU,acs]
 have s14:=ZT (A:=jV (JA (vW n nodes) (vW rg regs) x)) (s13.f [3,8])
 exact ((s14.f [2]).drop).f [5,3,2,6,1,0,4]
end
section
variable {lo:yE} {h:za} {L:List HP} {n rg fr en:Int} {nodes regs:Bool} {b7 b9 b10:Nat} {nm:ByteArray} {pv cv nv:Value} {xs:List yM}
theorem Pb (J9:∀ x,x ∈ xs->x.args.length<=17592186043904) (hn:n=xs.length) (hn5:n<=5000) (hr5:rg<=5000) {ws0:List yM} (hw:ws0.length=xs.length) (s:fE lo b7 b9 b10 nm pv cv nv rg fr en n nodes regs xs L 0 ws0 h) (pn:zP pv=false) {j:List Value->za->Prop}
  (K:∀ h' ws,ws.length=xs.length->(∀ (k:Nat) x,xs[k]? = some x->ws[(vW n nodes k).toNat]? = some (JA (vW n nodes) (vW rg regs) x))->fE lo b7 b9 b10 nm pv cv nv rg fr en n nodes regs xs L xs.length ws h'->j [] h') :
  LP (Q9 (.int .i64 n) j (.pointer (some ⟨b7,0,none⟩)) (.pointer (some ⟨b10,0,none⟩)) (.pointer (some ⟨b9,0,none⟩)) nv) [.int .i64 0] h:=by
 refine kj (fun m vs h' => ∃ (i:Nat) (ws:List yM),i<=xs.length/\m=xs.length - i/\vs = [.int .i64 (i:Nat)]/\ws.length=xs.length/\(∀ (k:Nat) x,k < i->xs[k]? = some x->ws[(vW n nodes k).toNat]? = some (JA (vW n nodes) (vW rg regs) x))/\fE lo b7 b9 b10 nm pv cv nv rg fr en n nodes regs xs L i ws h') xs.length ⟨0,ws0,aa0 _,rfl,rfl,hw,fun k x hk=>absurd hk (acu _),s⟩ ?_
 rintro m vs h' ⟨i,ws,hi,rfl,rfl,hw,hk,s⟩
 unfold Q9
 by_cases hc:i < xs.length
 ·have hx:xs[i]? = some xs[i]:=aab hc
  have hm:xs[i] ∈ xs:=abN hc
  generalize xs[i]=x at hx hm
  have hlt':(i:Int) < n:=by omega
  have hinc:IntKind.wrap .i64 ((i:Int) + 1)=((i + 1:Nat):Int):=inc (by omega)
  simp -implicitDefEqProofs only [EE,nth,↓BK,fZ,hlt']
  refine Pa hx (J9 x hm) hn hn5 hr5 hw s pn fun h2 s2 => ?_
  refine ⟨xs.length - (i + 1),by omega,i + 1,_,hc,rfl,by simp -implicitDefEqProofs only [hinc],by rw [aa3];exact hw,fun k y hk2 hy => ?_,s2⟩
  have ai:=Y6 (n:=n) (on:=nodes) (i:=(i:Int)) ⟨by omega,by omega⟩
  by_cases e:k=i
  ·subst e
   rw [hx] at hy
   cases hy
   rw [aaT (by omega)]
  ·have ak:=Y6 (n:=n) (on:=nodes) (i:=(k:Int)) ⟨by omega,by omega⟩
   rw [abk fun q=>e (by have:=J4 (n:=n) (on:=nodes) (i:=(i:Int)) (j:=(k:Int)) (by omega);omega)]
   exact hk k y (by omega) hy
 ·have hlt':¬ (i:Int) < n:=by omega
  simp -implicitDefEqProofs only [EE,nth,hlt']
  have e:i=xs.length:=by omega
  subst e
  exact K h' ws hw (fun k x hx=>hk k x (aa1.1 hx).1 hx) s
end
theorem ry {α:Type} {n:Int} {nodes:Bool} {xs ws:List α} {F:α->α} (hn:n=xs.length) (hw:ws.length=xs.length) (hk:∀ (k:Nat) x,xs[k]? = some x->ws[(vW n nodes k).toNat]? = some (F x)):(xs.map F).Perm ws:=by
 have key:ws=if nodes=true then (xs.map F).reverse else xs.map F:=by
  refine abe fun j => ?_
  by_cases hj:j < xs.length
  ·have aj:=Y6 (n:=n) (on:=nodes) (i:=(j:Int)) ⟨by omega,by omega⟩
   obtain ⟨i,hi⟩:∃ i:Nat,(i:Int)=vW n nodes j:=⟨(vW n nodes j).toNat,by omega⟩
   have hil:i < xs.length:=by omega
   have e:=hk i _ (aab hil)
   rw [hi,gI,aau] at e
   rw [e]
   cases nodes with
   | true=>
     rw [if_pos rfl,List.getElem?_reverse (by simpa using hj),aak,aap]
     have:i=xs.length - 1 - j:=by unfold vW at hi;rw [if_neg (by simp;omega)] at hi;omega
     rw [<- this,aab hil];rfl
   | false=>
     have:i=j:=by unfold vW at hi;rw [if_pos (by simp)] at hi;omega
     subst this
     rw [if_neg (by simp),aap,aab hil];rfl
  ·rw [aaj (by omega),aaj]
   split <;> simp <;> omega
 rw [key]
 split
 ·exact (List.reverse_perm _).symm
 ·exact List.Perm.refl _
theorem OH:∀ n:Nat,uJ [.int .i64 0,.int .i64 0,.int .i64 0,.int .i64 0,.int .i64 0,.int .i64 0,.slice none 0 0,.int .i64 0,.int .i64 0] (n * 9)=((List.replicate n (⟨0,0,0,0,0,0,.slice none 0 0,[],0,0⟩:yM)).map yM.row).flatten
 | 0=>rfl
 | n + 1=>by
   have ih:=OH n
   rw [List.replicate_succ',aaU,aci,<- ih]
   unfold uJ
   rw [ach]
   rw [show n * 9 + 9=n * 9 + 1 + 1 + 1 + 1 + 1 + 1 + 1 + 1 + 1 from rfl]
   simp only [acr,aaU,ace]
   congr 1
   simp [Nat.mul_add_mod,ab6]
theorem MQ {h:za} {f:Go.Rtl.Fn} {nodes regs:Bool} (F:v8 h f) (hc:f.code.length<=5000) (hr:f.regs<=5000) :
  DC Tryz.prog 17 [f.val,.bool nodes,.bool regs] h (fun v h' => ∃ g:Go.Rtl.Fn,v=g.val/\TF nodes regs f g/\(∀ y,y ∈ g.code->y.args.length<=17592186043904)/\Sat (.of h) h' [iD g]):=by
 apply jO;intro wf
 apply A8
 unfold A7
 have s0:Sat (.of h) h []:=Sat.self wf.2
 have RF:Rd (.of h) (v8 · f):=Rd.of (yE.jq h) F fun h' o=>F.old o
 have Fo:=F
 obtain ⟨a1,n1,c1,e1⟩:=Go.Rm.zN.shape F.params
 obtain ⟨a2,n2,c2,e2⟩:=Go.Rm.zJ.shape F.code
 have fv:f.val = .agg #[.string f.nm,.slice a1 n1 c1,.int .i64 f.regs,.int .i64 f.frame,.int .i64 f.entry,.slice a2 n2 c2]:=by rw [<- e1,<- e2]
 have fr:f.row = [.string f.nm,.slice a1 n1 c1,.int .i64 f.regs,.int .i64 f.frame,.int .i64 f.entry,.slice a2 n2 c2]:=by rw [<- e1,<- e2]
 rw [fv]
 simp -implicitDefEqProofs only [EE,Value.cells,gJ]
 refine uR s0 fun b3 h2 s2 => ?_
 simp -implicitDefEqProofs only [EE,zZ,Qq]
 refine uR s2 fun b6 h4 s4 => ?_
 have g3:=(s4.p 1).get
 simp -implicitDefEqProofs only [EE,if_true,Nat.reduceAdd,Nh,eN,g3]
 rw [<- fr]
 have s5:=s4.push (.cells f.row 45)
 have P5:wQ (h4.push (.cells f.row 45)) ⟨.slice none 0 0,[],.slice (some ⟨h4.next,0,none⟩) 1 3,[f],0⟩:=by
  refine ⟨.inl ⟨rfl,rfl⟩,by simp,?_,by simp,fun f2 hf => ?_⟩
  ·exact y7 (uI (rows:=[f.row]) (c:=3) (by decide) (by simp) (by simp) s5) (by simp)
  ·simp only [aaS] at hf;subst hf;exact RF.at s5
 refine zT (by kernel_rfl) rfl (J8 _ _ P5) ?_
 rintro v h6 ⟨q,rfl,hcore,s6⟩
 have hq:q.funcs.map Go.Rtl.Fn.core = [f.core]:=congrArg Pg.funcs hcore
 obtain ⟨g0,hq2,hg0⟩:∃ g0,q.funcs = [g0]/\g0.core=f.core:=by
  cases e:q.funcs with
  | nil=>rw [e] at hq;cases hq
  | cons g0 l=>
    rw [e] at hq
    simp only [abv,aa9,List.map_eq_nil_iff] at hq
    exact ⟨g0,by rw [hq.2],hq.1⟩
 have s8:=(s5.join s6).open
 rw [hq2] at s8
 have s10:=(Zj (s8.p 2)).open
 have RF6:v8 h6 f:=RF.at s10
 obtain ⟨bb,oo,cc,tt,ha,hbb,hgt,hle,htk,_⟩:=(y7 (s10.p 5) (kr [g0])).cC (i:=0) (r:=g0.row) rfl rfl
 rw [show ((0:Nat):Int)=0 from rfl] at ha
 have pn:=xw s10
 have pc:=vE s10
 have cn:=xw (s10.p 1)
 have cc':=vE (s10.p 1)
 have len:=(y7 (s10.p 1) (kL g0.code)).Qu 3
 rw [aak] at len
 have hrg:g0.regs=f.regs:=by have:=congrArg Go.Rtl.Fn.regs hg0;exact this
 have hnm:g0.nm=f.nm:=by have:=congrArg Go.Rtl.Fn.nm hg0;exact this
 have hpa:g0.params=f.params:=by have:=congrArg Go.Rtl.Fn.params hg0;exact this
 have hfr:g0.frame=f.frame:=by have:=congrArg Go.Rtl.Fn.frame hg0;exact this
 have hen:g0.entry=f.entry:=by have:=congrArg Go.Rtl.Fn.entry hg0;exact this
 have hco:g0.code.map yM.core=f.code.map yM.core:=by have:=congrArg Go.Rtl.Fn.code hg0;exact this
 have hlen:g0.code.length=f.code.length:=by simpa using congrArg List.length hco
 have hfv:ON Tryz.prog 25 q.val 1=some q.fv:=by
  obtain ⟨a3,c3,e3⟩:=Go.Rm.Un (s10.p 4)
  obtain ⟨a4,c4,e4⟩:=Go.Rm.Un (s10.p 5)
  show ON Tryz.prog 25 (.agg #[q.gv,q.fv,.int .i64 q.main]) 1=_
  rw [e3,e4]
  exact Nx _ _ _ _ _ _ _
 unfold gx
 simp -implicitDefEqProofs only [EE,Value.cells,if_true,zZ,Qq,gJ,hfv,ha,hgt,hle,htk]
 refine uR s10 fun b7 h11 s11 => ?_
 simp -implicitDefEqProofs only [EE,Nat.reduceAdd,lZ]
 refine yL s11 (by simp) (by simp [pc,cc'];exact ⟨rfl,rfl,rfl,rfl⟩) fun h12 s12 => ?_
 have s12:Sat (.of h) h12 (pt b7 (.cells [.string g0.nm,g0.pv,.int .i64 g0.regs,.int .i64 g0.frame,.int .i64 g0.entry,g0.cv] 45) :: _):=s12
 have g7:=s12.get
 simp -implicitDefEqProofs only [EE,zC,vK,y9,cn,g7,len]
 refine zi (by kernel_rfl) rfl (m0 _ _ _) ?_
 unfold gu
 simp -implicitDefEqProofs only [EE,Value.cells,La]
 refine uR s12 fun b9 h13 s13 => ?_
 simp -implicitDefEqProofs only [EE,Nat.reduceAdd,I8]
 refine yL s13 (by simp) rfl fun h14 s14 => ?_
 have g7:=(s14.p 1).get
 simp -implicitDefEqProofs only [EE,zC,zj,wF,g7]
 refine zi (by kernel_rfl) rfl (m0 _ _ _) ?_
 unfold gk
 simp -implicitDefEqProofs only [EE,Value.cells,La]
 refine uR s14 fun b10 h15 s15 => ?_
 simp -implicitDefEqProofs only [EE,Nat.reduceAdd,I8]
 refine yL s15 (by simp) rfl fun h16 s16 => ?_
 simp -implicitDefEqProofs only [↓BK]
 refine Mm (n:=g0.regs) (on:=regs) (zs:=g0.params) (by rw [hpa];exact F.tP) (by omega) cn (s16.f [2,0,3]) fun h17 s17 => ?_
 have mk:=Sk .i64 .i64 (g0.code.length:Int) (g0.code.length:Int) h17 (by omega) (Int.le_refl _) (by omega)
 simp -implicitDefEqProofs only [EE,↓BK,mk]
 have s18:=s17.push (.cells (uJ [.int .i64 0,.int .i64 0,.int .i64 0,.int .i64 0,.int .i64 0,.int .i64 0,.slice none 0 0,.int .i64 0,.int .i64 0] ((g0.code.length:Int).toNat * 9)) 53)
 rw [aau] at s18 ⊢
 generalize h17.next=b52 at s18 ⊢
 generalize h17.push _=h18 at s18 ⊢
 obtain ⟨zs,hz⟩:∃ zs:List yM,zs=List.replicate g0.code.length ⟨0,0,0,0,0,0,.slice none 0 0,[],0,0⟩:=⟨_,rfl⟩
 have zl:zs.length=g0.code.length:=by rw [hz,ab8]
 have s19:=uI (n:=9) (rows:=zs.map yM.row) (c:=g0.code.length + 2) (by omega) (kL zs) (by rw [OH,hz]) s18
 rw [aak,zl] at s19
 have s20:=(XA s19).f [2,5,3,6,1,0,7]
 generalize hnv:Value.slice (some ⟨b52,0,none⟩) g0.code.length (g0.code.length + 2)=nv at s20 ⊢
 have nvn:zP nv=false:=by rw [<- hnv];rfl
 have nvc:cellOk nv=true:=by rw [<- hnv];rfl
 have few0:∀ x,x ∈ g0.code->x.args.length<=17592186043904:=by
  intro x hx
  obtain ⟨i,hi,rfl⟩:=abO hx
  have e:=congrArg (fun l=>l[i]?) hco
  simp only [aap,aab hi,aab (show i < f.code.length by omega),abz,aaa] at e
  have e2:(g0.code[i]).args=(f.code[i]'(by omega)).args:=by have:=congrArg yM.args e;exact this
  rw [e2]
  exact (F.ins _ (abN _)).J9
 refine Pb (xs:=g0.code) (rg:=g0.regs) (regs:=regs) few0 rfl (by omega) (by omega) zl s20 pn ?_
 intro h21 ws hw hk s21
 unfold fE at s21
 clear s20
 subst hnv
 unfold gj
 simp -implicitDefEqProofs only [EE,I7,y9,nvn]
 refine yL s21 (by simp) (by simp [nvc]) fun h22 s22 => ?_
 have s22:Sat (.of h) h22 (pt b7 (.cells [.string g0.nm,g0.pv,.int .i64 g0.regs,.int .i64 g0.frame,.int .i64 g0.entry,.slice (some ⟨b52,0,none⟩) g0.code.length (g0.code.length + 2)] 45) :: _):=s22
 have g7:=s22.get
 have g9:=(s22.p 1).get
 simp -implicitDefEqProofs only [EE,if_true,Nat.reduceAdd,zZ,zC,zj,Js,ZK,g7,g9]
 refine zi (by kernel_rfl) rfl (dx (by omega) h22) ?_
 unfold gi
 simp -implicitDefEqProofs only [EE,Wy,ZK]
 refine yL s22 (by simp) rfl fun h23 s23 => ?_
 have s23:Sat (.of h) h23 (pt b7 (.cells [.string g0.nm,g0.pv,.int .i64 g0.regs,.int .i64 g0.frame,.int .i64 (vW g0.code.length nodes g0.entry),.slice (some ⟨b52,0,none⟩) g0.code.length (g0.code.length + 2)] 45) :: _):=s23
 have g7:=s23.get
 simp -implicitDefEqProofs only [EE,if_true,Nat.reduceAdd,zZ,Qq,lZ,g7]
 refine yL (s23.p 12) (by simp) (by simp [pc,nvc];exact ⟨rfl,rfl,rfl,rfl⟩) fun h24 s24 => ?_
 have s24:Sat (.of h) h24 (pt b6 (.cells [.string g0.nm,g0.pv,.int .i64 g0.regs,.int .i64 g0.frame,.int .i64 (vW g0.code.length nodes g0.entry),.slice (some ⟨b52,0,none⟩) g0.code.length (g0.code.length + 2)] 45) :: _):=s24
 have g6:=s24.get
 simp -implicitDefEqProofs only [EE,if_true,Nat.reduceAdd,zZ,Qq,g6]
 refine ⟨⟨g0.nm,g0.pv,g0.params.map (vW g0.regs regs),g0.regs,g0.frame,vW g0.code.length nodes g0.entry,.slice (some ⟨b52,0,none⟩) g0.code.length (g0.code.length + 2),ws⟩,rfl,?_,?_,?_⟩
 ·refine ⟨by rw [<- hpa,<- hrg],hrg,hfr,by rw [<- hen,<- hlen],by rw [hw,hlen],fun i x hx => ?_⟩
  have hil:=(aa1.1 hx).1
  have e:=congrArg (fun l=>l[i]?) hco
  have hx0:g0.code[i]? = some (g0.code[i]'(by omega)):=aab (by omega)
  generalize g0.code[i]'(by omega)=x0 at hx0
  simp only [aap,hx,hx0,abz,aaa] at e
  refine ⟨_,by rw [<- hlen];exact hk i x0 hx0,?_⟩
  rw [<- hlen,<- hrg]
  have f1:=congrArg yM.op e
  have f2:=congrArg yM.sub e
  have f3:=congrArg yM.a e
  have f4:=congrArg yM.b e
  have f5:=congrArg yM.d e
  have f6:=congrArg yM.k e
  have f7:=congrArg yM.args e
  have f8:=congrArg yM.s e
  have f9:=congrArg yM.t e
  dsimp only at f1 f2 f3 f4 f5 f6 f7 f8 f9
  exact ⟨f1,f2,by rw [<- f3];rfl,by rw [<- f4];rfl,by rw [<- f5];rfl,f6,by rw [<- f7];rfl,by rw [<- f8];rfl,by rw [<- f9];rfl⟩
 ·intro y hy
  have hp:=ry (F:=JA (vW g0.code.length nodes) (vW g0.regs regs)) rfl hw hk
  have hy2:=hp.symm.subset hy
  simp only [aba] at hy2
  obtain ⟨x,hx,rfl⟩:=hy2
  have:=few0 x hx
  simpa [JA] using this
 ·have hp:=(ry (F:=JA (vW g0.code.length nodes) (vW g0.regs regs)) rfl hw hk).map jV
  rw [abB (aah _)] at s24
  have e1:(g0.code.map fun x=>jV (JA (vW g0.code.length nodes) (vW g0.regs regs) x))=(g0.code.map (JA (vW g0.code.length nodes) (vW g0.regs regs))).map jV:=by rw [List.map_map];rfl
  rw [e1] at s24
  have s25:=Sat.close (M:=ws.map jV) ((Sat.open (s24.p 6)).perm (hp.append_right _))
  exact Sat.close (M:=[xN 3 1 g0.pv ((g0.params.map (vW g0.regs regs)).map yw),xN 53 9 (.slice (some ⟨b52,0,none⟩) g0.code.length (g0.code.length + 2)) (ws.map yM.row),vB (ws.map jV)]) (L:=[]) (s25.k [8,6,0])
end Go.Rl
