/- A part of the proof. -/
import Derived.Test.YtfhacoddmpbgnaaGreatDoorTN
import Derived.Test.YtfhacoddmpbgnaaGreatDoorTM
set_option linter.unusedVariables false
set_option linter.unusedSimpArgs false
set_option maxRecDepth 100000
namespace Go.Rm
open Go.Ai Go.Proofs Go.Mem
open Go.Rtl (yM Pg zA wQ v8 xK zN zJ Old inc)
section
variable {lo:yE} {h:za} {L:List HP} {n:Nat} {sv:Value} {rows:List (List Value)} {row:List Value} {ty:TypeId}
theorem FK (s:Sat lo h (xN ty n sv (rows ++ [row]) :: L)) (hn:∀ r,r ∈ rows->r.length=n):∃ b c cs,sv = .slice (some ⟨b,0,none⟩) (rows.length + 1) c/\c ≠ 0/\h.get b=some (.cells cs ty)/\Sat lo h (xN ty n (.slice (some ⟨b,0,none⟩) rows.length c) rows :: L):=by
 have hlen:(rows ++ [row]).length=rows.length + 1:=by simp
 rcases wW s with ⟨_,e,_⟩ | ⟨b,c,cs,rfl,hc,hl,hf,s⟩
 ·simp at e
 ·rw [hlen,ach] at hl hf
  refine ⟨b,c,cs,by rw [hlen],hc,s.get,VF hc (by omega) ?_ s⟩
  have:=congrArg (List.take (rows.length * n)) hf
  rw [List.take_take,Nat.min_eq_left (by omega),aci] at this
  rw [this,List.take_left' (by rw [Go.Rtl.v5 hn])]
end
theorem Fb {c:Nat} (hc:c ≠ 0):J7 c 0=c:=by
 match c with
 | 0=>exact absurd rfl hc
 | 1=>rfl
 | k + 2=>rfl
theorem BB:Nat.beq (Tryz.prog.cellsOf 152) 1=true:=by kernel_rfl
def KV (kv:Value) (kept:Option (Int->Bool)):Prop:=match kept with
 | none=>kv = .nilFunc
 | some K => ∃ g,kv = .func (.func g) #[] #[]/\x9 Tryz.prog g=true /\ ∀ h n,xx Tryz.prog g [.int .i64 n] h (.bool (K n))
theorem NX {k:Nat} (h:k < 4611686018427387904):IntKind.wrap .i64 (((k + 1:Nat):Int) - 1)=(k:Int):=by
 rw [show (((k + 1:Nat):Int) - 1)=k by omega];exact Go.Mem.ZV (by omega) (by omega)
section
variable {lo:yE} {h:za} {L:List HP} {b mb wb fb:Nat} {p:Pg} {S:St} {ev lk gl cl kv:Value} {fbs:List Nat} {c bk:Fr} {init:List Fr} {kept:Option (Int->Bool)}
theorem cD {h:za} {bb:Nat} {cs:List Value} {fbs:List Nat} {fb:Nat} (hg:h.get bb=some (.cells cs 152)) (hl:(fbs ++ [fb]).length * 1<=cs.length) (ht:cs.take ((fbs ++ [fb]).length * 1)=((fbs ++ [fb]).map vd).flatten):cs[fbs.length]? = some (y6 fb):=by
 have h1:((fbs ++ [fb]).map vd).flatten[fbs.length * 1 + 0]? = (vd fb)[0]?:=Go.Rtl.j4 (iJ _) (i:=fbs.length) (r:=vd fb) (by simp) (by decide)
 rw [<- ht,aaL (by simp)] at h1
 rw [aa6,abX] at h1
 exact h1
theorem DQ (s:Sat lo h [pt b (yK p mb wb S ev lk gl cl kv),xN 152 1 cl (([] ++ [fb]).map vd),kE mb S.mem,jG p fb c]) (hc:S.calls = [c]) (hL:S.mem.length<=100000) (hb:c.kM < 9223372036854775808) (v:V) :
  DC Tryz.prog 88 [y6 b,v.val] h (fun r h'=>r = .bool (uQ p kept S v).2 /\ ∃ cl',Sat lo h' [pt b (yK p mb wb (uQ p kept S v).1 ev lk gl cl' kv),xN 152 1 cl' ([].map vd),kE mb (uQ p kept S v).1.mem]):=by
 apply lp
 unfold sF y6 V.val
 have el:uQ p kept S v=if v.k=1 then ({ S with mem:=(jL S.mem c.kM).getD S.mem,calls:=[],kind:=1,exit:=v.n },true) else ({ S with mem:=(jL S.mem c.kM).getD S.mem,calls:=[] },false):=by
  unfold uQ;rw [hc];rfl
 simp -implicitDefEqProofs only [EE,Value.cells,zC,Vw,jW]
 refine uR s fun b1 h1 s1 => ?_
 have gm:=(s1.p 1).get
 unfold yK y6 at gm
 rcases wW (s1.p 2) with ⟨_,e,_⟩ | ⟨bb,cc,cs,hcl,hcc,hll,htt,sc⟩
 ·simp at e
 have hcl':cl = .slice (some ⟨bb,0,none⟩) 1 cc:=hcl
 subst hcl'
 have gc:=sc.get
 have ac:=cD (fbs:=[]) (fb:=fb) gc hll htt
 unfold y6 at ac
 obtain ⟨fp,rv,hfp,sf⟩:=vL (s1.p 4)
 have gf:=sf.get
 unfold jX at gf
 have w1:IntKind.wrap .i64 (((1:Nat):Int) - 1)=0:=NX (k:=0) (by decide)
 have l1:(0:Int) < ((1:Nat):Int):=by decide
 rw [aaw] at ac
 simp -implicitDefEqProofs only [EE,if_true,Nat.reduceMul,Int.reduceLE,Int.reduceToNat,zC,J1,sY,zj,Wj,mw,tD,Xy,gm,gc,ac,gf,w1,l1]
 obtain ⟨lo1,le1,s2,fr⟩:=(s1.f [3]).call (L2:=[kE mb S.mem])
 refine qm (by kernel_rfl) rfl (LJ s2 hL hb) ?_
 rintro r h2 ⟨rfl,s3⟩
 have s4:=fr _ _ s3
 have gm2:=(s4.p 2).get
 unfold yK y6 at gm2
 obtain ⟨b2,c2,cs2,hcl2,hc2,gc2,sc2⟩:=FK (rows:=[]) (row:=vd fb) (s4.p 3) (by simp)
 obtain ⟨e1,e2⟩:bb=b2/\cc=c2:=by simpa using hcl2
 subst b2 c2
 have hw2:wide Tryz.prog h2 bb 1=true:=by rw [FQ gc2];exact BB
 have cs0:=Fb hcc
 have l01:(0:Int)<=((1:Nat):Int):=by decide
 simp -implicitDefEqProofs only [EE,cond_true,if_true,Nat.reduceMul,Int.reduceLE,Int.reduceToNat,zC,Vw,Dl,jW,Xy,MC,JQ,gm2,w1,hw2,cs0,l01,Nat.sub_zero]
 refine yL ((sc2.f [3])) (by simp) rfl fun h5 s5 => ?_
 have gm5:=s5.get
 simp -implicitDefEqProofs only [EE,zf,zC,Vw,jW,Xy,gm5]
 have gv:=(s5.p 3).get
 have z0:((0:Nat):Int)=0:=rfl
 simp -implicitDefEqProofs only []
 rw [el]
 by_cases hk:v.k=1
 ·rw [if_pos hk]
  have hne:=(s5.f [0,3]).ne
  simp -implicitDefEqProofs only [EE,Nat.reduceAdd,Nat.reduceLeDiff,ne_eq,zC,wj,zj,Wy,jo,Xx,xk,xo,pj,ee,gv,hk,z0,I3,hne]
  refine ⟨.inl trivial,?_⟩
  refine yL s5 (by simp [zf]) rfl fun h6 s6 => ?_
  simp -implicitDefEqProofs only [EE,Nat.reduceAdd,S3,jo,tn]
  refine yL s6 (by simp [zf]) rfl fun h7 s7 => ?_
  simp -implicitDefEqProofs only [EE]
  exact ⟨.slice (some ⟨bb,0,none⟩) 0 cc,s7.k [0,1,2]⟩
 ·rw [if_neg hk]
  simp -implicitDefEqProofs only [EE,zC,zj,xk,ee,gv,hk,z0]
  exact ⟨.slice (some ⟨bb,0,none⟩) 0 cc,s5.k [0,1,2]⟩
theorem Ph (x y:Operand):ze Tryz.prog .neq 95 x y .nilFunc .nilFunc=some (.bool false):=by kernel_rfl
theorem Nt (x y:Operand) (g:FuncId):ze Tryz.prog .neq 95 x y (.func (.func g) #[] #[]) .nilFunc=some (.bool true):=by kernel_rfl
def Ug (K:Int->Bool) (l:List V) (i:Nat):List V:=(List.range l.length).map fun (k:Nat)=>if k < i then (if K (k:Int)=true then l.getD k v0 else v0) else l.getD k v0
theorem DP (K:Int->Bool) (l:List V):Ug K l 0=l:=by
 apply abe
 intro k
 unfold Ug
 rw [aap]
 by_cases h:k < l.length
 ·rw [List.getElem?_range h];simp [aab h]
 ·rw [aaj (by simpa using h),aaj (by omega)];rfl
theorem Hh (K:Int->Bool) (l:List V):Ug K l l.length=Xa (some K) l:=by
 unfold Ug Xa
 apply List.map_congr_left
 intro k hk
 rw [if_pos (aa7.1 hk)]
theorem Uh (K:Int->Bool) (l:List V) (i:Nat):(Ug K l i).length=l.length:=by simp [Ug]
theorem Hi {K:Int->Bool} {l:List V} {i:Nat} (h:K (i:Int)=true):Ug K l (i + 1)=Ug K l i:=by
 unfold Ug
 apply List.map_congr_left
 intro k hk
 by_cases e:k=i
 ·subst e;simp [h]
 ·by_cases e2:k < i
  ·rw [if_pos (by omega),if_pos e2]
  ·rw [if_neg (by omega),if_neg e2]
theorem LY {K:Int->Bool} {l:List V} {i:Nat} (h:K (i:Int)=false):Ug K l (i + 1)=(Ug K l i).set i v0:=by
 apply abe
 intro k
 by_cases hk:k < l.length
 ·rw [abZ]
  unfold Ug
  simp only [aap,List.getElem?_range hk,abz,aak,List.length_range]
  by_cases e:i=k
  ·subst e;rw [if_pos (by omega),if_pos rfl,if_pos hk,h];simp
  ·rw [if_neg e]
   by_cases e2:k < i
   ·rw [if_pos (by omega),if_pos e2]
   ·rw [if_neg (by omega),if_neg e2]
 ·rw [aaj (by rw [Uh];omega),aaj (by rw [aa3,Uh];omega)]
theorem DR {fbb:Nat} {ini:List Fr} {fi:List Nat} {i:yM} (hp:Rd lo (wQ · p)) (s:Sat lo h [pt b (yK p mb wb S ev lk gl cl kv),xN 152 1 cl (((fi ++ [fbb]) ++ [fb]).map vd),kE mb S.mem,jG p fb c,jG p fbb bk]) (hc:S.calls=(ini ++ [bk]) ++ [c]) (hi:ZO p bk=some i) (hK:KV kv kept)
  (hfi:fi.length < 4611686018427387900) (hrl:bk.regs.length<=100000) (hd:i.d < 100000) (hL:S.mem.length<=100000) (hb:c.kM < 9223372036854775808) (v:V) :
  DC Tryz.prog 88 [y6 b,v.val] h (fun r h'=>r = .bool (uQ p kept S v).2 /\ ∃ cl',Sat lo h' [pt b (yK p mb wb (uQ p kept S v).1 ev lk gl cl' kv),xN 152 1 cl' ((fi ++ [fbb]).map vd),kE mb (uQ p kept S v).1.mem,jG p fbb { bk with regs:=v7 (Xa kept bk.regs) i.d v,pt:=i.s }]):=by
 apply lp
 unfold sF y6 V.val
 have el:uQ p kept S v=({ S with mem:=(jL S.mem c.kM).getD S.mem,calls:=ini ++ [{ bk with regs:=v7 (Xa kept bk.regs) i.d v,pt:=i.s }] },true):=by
  unfold uQ;rw [hc];simp only [abo,aaI,hi]
 rw [el]
 simp -implicitDefEqProofs only [EE,Value.cells,zC,Vw,jW]
 refine uR s fun b1 h1 s1 => ?_
 have gm:=(s1.p 1).get
 unfold yK y6 at gm
 rcases wW (s1.p 2) with ⟨_,e,_⟩ | ⟨bb,cc,cs,hcl,hcc,hll,htt,sc⟩
 ·simp at e
 have hl2:(((fi ++ [fbb]) ++ [fb]).map vd).length=fi.length + 1 + 1:=by simp
 have hl3:(fi ++ [fbb]).length=fi.length + 1:=by simp
 rw [hl2] at hcl
 subst hcl
 have gc:=sc.get
 rw [aak] at hll htt
 have ac:=cD (fbs:=fi ++ [fbb]) (fb:=fb) gc hll htt
 unfold y6 at ac
 rw [hl3] at ac
 obtain ⟨fp,rv,hfp,sf⟩:=vL (s1.p 4)
 have gf:=sf.get
 unfold jX at gf
 have w1:=NX (k:=fi.length + 1) (by omega)
 have l0:(0:Int)<=((fi.length + 1:Nat):Int):=by omega
 have l1:((fi.length + 1:Nat):Int) < ((fi.length + 1 + 1:Nat):Int):=by omega
 simp -implicitDefEqProofs only [EE,if_true,zC,J1,sY,zj,Wj,mw,tD,Xy,gm,gc,ac,gf,w1,l0,l1,aau,aa6]
 obtain ⟨lo1,le1,s2,fr⟩:=(s1.f [3]).call (L2:=[kE mb S.mem])
 refine qm (by kernel_rfl) rfl (LJ s2 hL hb) ?_
 rintro r h2 ⟨rfl,s3⟩
 have s4:=fr _ _ s3
 have gm2:=(s4.p 2).get
 unfold yK y6 at gm2
 have s4c:=s4.p 3
 rw [aaU (l₁:=fi ++ [fbb])] at s4c
 obtain ⟨b2,c2,cs2,hcl2,hc2,gc2,sc2⟩:=FK s4c (iJ _)
 have hl4:((fi ++ [fbb]).map vd).length=fi.length + 1:=by simp
 rw [hl4] at hcl2 sc2
 obtain ⟨e1,e2⟩:bb=b2/\cc=c2:=by simpa using hcl2
 subst b2 c2
 have hw2:wide Tryz.prog h2 bb 1=true:=by rw [FQ gc2];exact BB
 have cs0:=Fb hcc
 have l01:(0:Int)<=((fi.length + 1:Nat):Int)/\((fi.length + 1:Nat):Int)<=((fi.length + 1 + 1:Nat):Int):=by omega
 simp -implicitDefEqProofs only [EE,cond_true,if_true,Nat.reduceMul,zC,Vw,Dl,jW,Xy,MC,JQ,gm2,w1,hw2,cs0,l01,Nat.sub_zero,aau,and_self]
 refine yL ((sc2.f [3])) (by simp) rfl fun h5 s5 => ?_
 have gm5:=s5.get
 have nz:¬ ((fi.length + 1:Nat):Int)=0:=by omega
 have w2:=NX (k:=fi.length) (by omega)
 simp -implicitDefEqProofs only [EE,zf,zC,Vw,jW,tD,Xy,ll,gm5,nz]
 have s6:=s5.p 1
 rcases wW s6 with ⟨e,_,_⟩ | ⟨b6,c6,cs6,hcl6,hc6,hl6,ht6,sc6⟩
 ·cases e
 rw [hl4] at hcl6
 obtain ⟨e1,e2⟩:bb=b6/\cc=c6:=by simpa using hcl6
 subst b6 c6
 rw [aak] at hl6 ht6
 have ac6:=cD (fbs:=fi) (fb:=fbb) sc6.get hl6 ht6
 unfold y6 at ac6
 have gc6:=sc6.get
 have l5:(0:Int)<=(fi.length:Int):=by omega
 have l6:((fi.length:Nat):Int) < ((fi.length + 1:Nat):Int):=by omega
 obtain ⟨fpb,rvb,hfpb,sb⟩:=vL (s5.f [5])
 have gb:=sb.get
 unfold jX at gb
 obtain ⟨ff,hff,hin⟩:∃ ff,p.funcs[bk.f]? = some ff/\(0<=bk.pt/\ff.code[bk.pt.toNat]? = some i):=by
  unfold ZO at hi
  cases hff:p.funcs[bk.f]? with
  | none=>rw [hff] at hi;cases hi
  | some ff=>
    rw [hff] at hi
    simp only [aaC] at hi
    split at hi
    ·cases hi
    ·exact ⟨ff,rfl,by omega,hi⟩
 have hP:=hp.at s5
 obtain ⟨bf,o,cf,tf,hix,hbf,hgf,hof,htf,hkf⟩:=zJ.cC hP.funcs (i:=bk.f) (r:=ff.row) (by rw [aap,hff];rfl) rfl
 rw [hfpb] at hix
 obtain rfl:=abE hix
 have k5:=hkf 5 (by decide)
 have hfo:=hP.fns ff (aaq hff)
 obtain ⟨bi,oi,ci,ti,hii,hbi,hgi,hoi,hti,hki⟩:=zJ.th hfo.code (i:=bk.pt.toNat) (r:=i.row) (by rw [aap,hin.2];rfl) rfl
 have hpt:((bk.pt.toNat:Nat):Int)=bk.pt:=acj hin.1
 rw [hpt] at hii
 have cdn:=hfo.code.vk
 have hti':(ci.drop oi).take 9 = [.int .i64 i.op,.int .i64 i.sub,.int .i64 i.a,.int .i64 i.b,.int .i64 i.d,.int .i64 i.k,i.av,.int .i64 i.s,.int .i64 i.t]:=hti
 have hin9:=hfo.ins i (aaq hin.2)
 have ivn:=hin9.args.vk
 have ivc:=hin9.args.gO
 simp -implicitDefEqProofs only [EE,Value.cells,if_true,zZ,zC,IM,sY,zj,vK,ka,cE,BN,Uf,y9,gc6,ac6,w2,l5,l6,gb,hgf,k5,hii,hgi,hoi,hti',aau,aa6]
 refine uR s5 fun b7 h7 s7 => ?_
 simp -implicitDefEqProofs only [EE,Nat.reduceAdd,gH]
 refine yL s7 (by simp) (by simp only [aaX,abj,ivc,vS,aaZ]) fun h8 s8 => ?_
 obtain ⟨fpb8,rvb8,hfpb8,sb8⟩:=vL (s8.f [6])
 have g8:=s8.get
 have gm8:=(s8.p 1).get
 have gb8:=sb8.get
 unfold yK y6 at gm8
 unfold jX at gb8
 have fin:∀ (h9:za) (regs:List V) (rv9:Value),regs.length<=100000->regs=Xa kept bk.regs->Sat lo h9 [pt fbb (jX fpb8 rv9 bk.kM bk.pt),xN 69 3 rv9 (regs.map V.yJ),pt b7 (.cells i.row 53),pt b (yK p mb wb { S with mem:=(jL S.mem c.kM).getD S.mem,calls:=ini ++ [{ bk with regs:=v7 (Xa kept bk.regs) i.d v,pt:=i.s }] } ev lk gl (.slice (some ⟨bb,0,none⟩) (fi.length + 1) cc) kv),xN 152 1 (.slice (some ⟨bb,0,none⟩) (fi.length + 1) cc) ((fi ++ [fbb]).map vd),kE mb ((jL S.mem c.kM).getD S.mem),pt b1 (.cells v.yJ 69)] ->
   eg (.pointer (some ⟨b7,0,none⟩)) (.pointer (some ⟨b1,0,none⟩)) (.pointer (some ⟨fbb,0,none⟩)) (fun r h'=>r = .bool true /\ ∃ cl',Sat lo h' [pt b (yK p mb wb { S with mem:=(jL S.mem c.kM).getD S.mem,calls:=ini ++ [{ bk with regs:=v7 (Xa kept bk.regs) i.d v,pt:=i.s }] } ev lk gl cl' kv),xN 152 1 cl' ((fi ++ [fbb]).map vd),kE mb ((jL S.mem c.kM).getD S.mem),jG p fbb { bk with regs:=v7 (Xa kept bk.regs) i.d v,pt:=i.s }]) [] h9:=by
  intro h9 regs rv9 hlen hregs s9
  unfold eg
  have q2:=(s9.p 2).get
  have q6:=(s9.p 6).get
  unfold V.yJ at q6
  simp -implicitDefEqProofs only [EE,if_true,Nat.reduceAdd,zZ,zC,zj,zn,xj,q2,q6]
  obtain ⟨lo3,le3,s10,fr3⟩:=s9.call (L2:=[pt fbb (jX fpb8 rv9 bk.kM bk.pt),xN 69 3 rv9 (regs.map V.yJ)])
  refine zT (by kernel_rfl) rfl (Mz s10 i.d v hd hlen) ?_
  rintro r h10 ⟨rv',s11⟩
  have s12:=fr3 _ _ s11
  have q12:=(s12.p 2).get
  have qf:=s12.get
  unfold jX at qf
  simp -implicitDefEqProofs only [EE,zC,zj,Wy,Uf,kI,pz,q12]
  refine yL s12 (by simp) rfl fun h13 s13 => ?_
  simp -implicitDefEqProofs only [EE]
  have s14:=XI (p:=p) (fb:=fbb) (c:={ bk with regs:=v7 regs i.d v,pt:=i.s }) hfpb8 (s13.k [0,1,3,4,5])
  rw [hregs] at s14
  exact ⟨_,s14.f [1,2,3,0]⟩
 cases kept with
 | none=>
   have hkv:kv = .nilFunc:=hK
   subst hkv
   simp -implicitDefEqProofs only [EE,zf,zC,IP,mq,gm8,Ph]
   exact fin h8 bk.regs rvb8 hrl rfl (sb8.zB 7)
 | some K=>
   obtain ⟨g,rfl,hcal,hQ⟩:=hK
   simp -implicitDefEqProofs only [EE,zf,zC,p0,IP,mq,Ue,py,gm8,Nt]
   have SR8:=y7 (sb8.p 1) (jy _)
   have rn8:=SR8.vk
   have rl8:∀ r h',zg Tryz.prog .len [59] r [rvb8] h'=some (.int .i64 bk.regs.length,h'):=Pn SR8
   simp -implicitDefEqProofs only [EE,↓BK,gb8,rn8,rl8]
   refine kj (fun m vs h' => ∃ (k:Nat),k<=bk.regs.length/\m=bk.regs.length - k/\vs = [.int .i64 (k:Nat)]/\Sat lo h' [pt fbb (jX fpb8 rvb8 bk.kM bk.pt),xN 69 3 rvb8 ((Ug K bk.regs k).map V.yJ),pt b7 (.cells i.row 53),pt b (yK p mb wb { S with mem:=(jL S.mem c.kM).getD S.mem,calls:=ini ++ [{ bk with regs:=v7 (Xa (some K) bk.regs) i.d v,pt:=i.s }] } ev lk gl (.slice (some ⟨bb,0,none⟩) (fi.length + 1) cc) (.func (.func g) #[] #[])),xN 152 1 (.slice (some ⟨bb,0,none⟩) (fi.length + 1) cc) ((fi ++ [fbb]).map vd),kE mb ((jL S.mem c.kM).getD S.mem),pt b1 (.cells v.yJ 69)])
    bk.regs.length ⟨0,aa0 _,rfl,rfl,by rw [DP];exact sb8.zB 7⟩ ?_
   rintro m vs h' ⟨k,hk,rfl,rfl,s9⟩
   unfold px
   by_cases hkl:(k:Int) < (bk.regs.length:Int)
   ·have g9:=(s9.p 3).get
    unfold yK y6 at g9
    simp -implicitDefEqProofs only [EE,nth,↓BK,zC,IP,mq,pr,pw,hkl,g9]
    refine zi hcal rfl (hQ h' k) ?_
    have gf9:=s9.get
    unfold jX at gf9
    obtain ⟨b0,c0,cs0',hrv,gb0,wb0,lb0,s10⟩:=Vq (s9.p 1) (jy _) (i:=k) (by rw [aak,Uh];omega)
    have hrv':rvb8 = .slice (some ⟨b0,0,none⟩) bk.regs.length c0:=by rw [hrv,aak,Uh]
    cases hKk:K (k:Int) with
    | true=>
      simp -implicitDefEqProofs only [EE,nth,inc (show k < 4611686018427387904 by omega)]
      exact ⟨bk.regs.length - (k + 1),by omega,k + 1,by omega,rfl,rfl,by rw [Hi hKk];exact s9⟩
    | false=>
      have h0k:(0:Int)<=k:=by omega
      simp -implicitDefEqProofs only [EE,nth,if_true,Nat.reduceAdd,zC,p0,zI,yo,Ue,Ft,po,gf9,hrv',hkl,h0k,aau]
      refine Jg gb0 wb0 lb0 s10 (row:=v0.yJ) rfl rfl fun h11 s11 => ?_
      simp -implicitDefEqProofs only [EE,nth,inc (show k < 4611686018427387904 by omega)]
      refine ⟨bk.regs.length - (k + 1),by omega,k + 1,by omega,rfl,rfl,?_⟩
      rw [LY hKk,acs]
      exact s11.f [1,0,2,3,4,5,6]
   ·have hk2:k=bk.regs.length:=by omega
    subst hk2
    simp -implicitDefEqProofs only [EE,nth,hkl]
    exact fin h' _ rvb8 (by rw [Uh];exact hrl) (Hh K bk.regs) s9
end
section
variable {lo:yE} {h:za} {L:List HP} {b mb wb fb:Nat} {p:Pg} {S:St} {world:List Int} {ev lk gl cl kv wn:Value} {fi:List Nat} {c:Fr} {ini:List Fr} {i:yM} {kept:Option (Int->Bool)}
theorem PB {used:Int} (s:Sat lo h [pt wb (.cells [wn,.int .i64 used] 141),xN 2 1 wn (world.map yw)]) (h0:0<=used) (h1:used < 4611686018427387904) (hl:world.length < 4611686018427387904) :
  DC Tryz.prog 89 [y6 wb] h (fun v h'=>v = .int .i64 (Xc world used)/\Sat lo h' [pt wb (.cells [wn,.int .i64 (used + 1)] 141),xN 2 1 wn (world.map yw)]):=by
 apply Gg
 unfold Ib y6
 have gw:=s.get
 have hinc:IntKind.wrap .i64 (used + 1)=used + 1:=Go.Mem.ZV (by omega) (by omega)
 have hdec:IntKind.wrap .i64 (used + 1 - 1)=used:=by rw [show used + 1 - 1=used by omega];exact Go.Mem.ZV (by omega) (by omega)
 simp -implicitDefEqProofs only [EE,zC,zj,Wy,mr,gw,hinc]
 refine yL s (by simp) rfl fun h2 s2 => ?_
 have g2:=s2.get
 have SR:=y7 (s2.p 1) (vZ (f:=yw) (fun _=>rfl) world)
 have ws:=SR.vk
 have hlen:∀ h',zg Tryz.prog .len [26] 3 [wn] h'=some (.int .i64 world.length,h'):=fun h'=>by
  rcases SR with ⟨rfl,e⟩ | ⟨_,_,_,rfl,_⟩
  ·have:world = []:=by simpa using e
   subst this
   simp only [tI,aaw]
  ·simp only [tI,aak]
 by_cases hc:(world.length:Int) < used + 1
 ·have hc':used + 1 > (world.length:Int):=hc
  simp -implicitDefEqProofs only [EE,zf,zC,Of,zj,BL,mr,g2,ws,hlen,hc]
  refine ⟨?_,s2⟩
  unfold Xc
  rw [if_neg (by omega),aaB,aaj (by omega)];rfl
 ·obtain ⟨z,hz⟩:∃ z,world[used.toNat]? = some z:=⟨_,aab (by omega)⟩
  obtain ⟨bb,o,cs,t,⟨off,cp,rfl,rfl⟩,hi,hb,hgt,hle,htk,hat⟩:=SR.spot (i:=used.toNat) (r:=yw z) (by rw [aap,hz];rfl) rfl
  have hat0:cs[off + used.toNat * 1]? = some (.int .i64 z):=hat 0 (by decide)
  rw [aa6] at hat0
  have hu:used < (world.length:Int):=by omega
  rw [aak] at *
  simp -implicitDefEqProofs only [EE,zf,if_true,zC,wj,Of,zj,BL,mr,Ov,Ar,g2,ws,hlen,hc,hdec,h0,hu,hgt,hat0,aa6]
  refine ⟨?_,s2⟩
  unfold Xc
  rw [if_neg (by omega),aaB,hz];rfl
def xt (p:Pg) (b mb wb:Nat) (world:List Int) (S:St) (ev lk gl cl kv wn:Value) (fbs:List Nat):List HP :=
 [pt b (yK p mb wb S ev lk gl cl kv),xN 152 1 cl (fbs.map vd),kE mb S.mem,xN 74 3 lk (S.lk.map uh),xN 97 2 ev (S.ev.map kp),xN 3 1 gl (S.gl.map yw),pt wb (.cells [wn,.int .i64 S.used] 141),xN 2 1 wn (world.map yw)]
theorem MK (hp:Rd lo (wQ · p)) (s:Sat lo h (xt p b mb wb world S ev lk gl cl kv wn (fi ++ [fb]) ++ jG p fb c :: L)) (hi:ZO p c=some i) (hfi:fi.length < 4611686018427387900) {R:Value->za->Prop}
  (k:zP i.av=false->cellOk i.av=true->∀ b1 b2 h3,Sat lo h3 (pt b2 (.cells v0.yJ 69) :: pt b1 (.cells i.row 53) :: (xt p b mb wb world S ev lk gl cl kv wn (fi ++ [fb]) ++ jG p fb c :: L)) ->
   yG (.int .i64 i.op) (.pointer (some ⟨b1,0,none⟩)) h3 (.pointer (some ⟨b2,0,none⟩)) (.pointer (some ⟨fb,0,none⟩)) (.pointer (some ⟨b,0,none⟩)) R (fun vs9 h10=>opt (Wz Tryz.prog .not (nth vs9 1)) fun t244=>CD t244 (fun j183=>Ai.rv [.bool false] h10 R) (fun j183=>j183 [nth vs9 0] h10) (V2 (.pointer (some ⟨b1,0,none⟩)) (.pointer (some ⟨b2,0,none⟩)) (.pointer (some ⟨fb,0,none⟩)) R))):Da h (y6 b) R:=by
 unfold Da y6
 have gm:=s.get
 unfold yK y6 at gm
 rcases wW (s.p 1) with ⟨_,e,_⟩ | ⟨bb,cc,cs,hcl,hcc,hll,htt,sc⟩
 ·simp at e
 have hl2:((fi ++ [fb]).map vd).length=fi.length + 1:=by simp
 rw [hl2] at hcl
 subst hcl
 have gc:=sc.get
 rw [aak] at hll htt
 have ac:=cD (fbs:=fi) (fb:=fb) gc hll htt
 unfold y6 at ac
 obtain ⟨fp,rv,hfp,sf⟩:=vL (s.p 8)
 have gf:=sf.get
 unfold jX at gf
 have w1:=NX (k:=fi.length) (by omega)
 have l0:(0:Int)<=(fi.length:Int):=by omega
 have l1:((fi.length:Nat):Int) < ((fi.length + 1:Nat):Int):=by omega
 obtain ⟨ff,hff,hin⟩:∃ ff,p.funcs[c.f]? = some ff/\(0<=c.pt/\ff.code[c.pt.toNat]? = some i):=by
  unfold ZO at hi
  cases hff:p.funcs[c.f]? with
  | none=>rw [hff] at hi;cases hi
  | some ff=>
    rw [hff] at hi
    simp only [aaC] at hi
    split at hi
    ·cases hi
    ·exact ⟨ff,rfl,by omega,hi⟩
 have hP:=hp.at s
 obtain ⟨bf,o,cf,tf,hix,hbf,hgf,hof,htf,hkf⟩:=zJ.cC hP.funcs (i:=c.f) (r:=ff.row) (by rw [aap,hff];rfl) rfl
 rw [hfp] at hix
 obtain rfl:=abE hix
 have k5:=hkf 5 (by decide)
 have hfo:=hP.fns ff (aaq hff)
 obtain ⟨bi,oi,ci,ti,hii,hbi,hgi,hoi,hti,hki⟩:=zJ.th hfo.code (i:=c.pt.toNat) (r:=i.row) (by rw [aap,hin.2];rfl) rfl
 have hpt:((c.pt.toNat:Nat):Int)=c.pt:=acj hin.1
 rw [hpt] at hii
 have cdn:=hfo.code.vk
 have hti':(ci.drop oi).take 9 = [.int .i64 i.op,.int .i64 i.sub,.int .i64 i.a,.int .i64 i.b,.int .i64 i.d,.int .i64 i.k,i.av,.int .i64 i.s,.int .i64 i.t]:=hti
 have hin9:=hfo.ins i (aaq hin.2)
 have ivn:=hin9.args.vk
 have ivc:=hin9.args.gO
 simp -implicitDefEqProofs only [EE,Value.cells,if_true,zZ,zC,Vw,IM,sY,zj,vK,ka,cE,jW,BN,Uf,y9,tD,Xy,gm,gc,ac,w1,l0,l1,gf,hgf,k5,hii,hgi,hoi,hti',aau,aa6]
 refine uR s fun b1 h1 s1 => ?_
 simp -implicitDefEqProofs only [EE,Nat.reduceAdd,gH]
 refine yL s1 (by simp) (by simp only [aaX,abj,ivc,vS,aaZ]) fun h2 s2 => ?_
 have g2:=s2.get
 simp -implicitDefEqProofs only [EE,Value.cells,↓BK,zC,zj,xz,zq]
 refine uR s2 fun b2 h3 s3 => ?_
 have g3:=(s3.p 1).get
 simp -implicitDefEqProofs only [EE,zf,Nat.reduceAdd,g3]
 exact k ivn ivc b1 b2 h3 s3
theorem step_end {b1 b2:Nat} {v:V} {R:Value->za->Prop} (hn:zP i.av=false) (s:Sat lo h (pt b2 (.cells v.yJ 69) :: pt b1 (.cells i.row 53) :: jG p fb c :: L)) (hw:zA i < 100000) (hl:c.regs.length<=100000)
  (k:∀ h',Sat lo h' (jG p fb { c with regs:=v7 c.regs (zA i) v,pt:=i.s } :: L)->R (.bool true) h'):∀ vs,V2 (.pointer (some ⟨b1,0,none⟩)) (.pointer (some ⟨b2,0,none⟩)) (.pointer (some ⟨fb,0,none⟩)) R vs h:=by
 intro vs
 unfold V2
 have g1:=(s.p 1).get
 simp -implicitDefEqProofs only [EE,if_true,Nat.reduceAdd,zZ,ka,g1]
 refine vn (by kernel_rfl) (by simp only [yC,yc,cond_false]) (Go.Rtl.G4 i hn h) ?_
 have g2:=s.get
 unfold V.yJ at g2
 obtain ⟨fp,rv,hfp,sf⟩:=vL (s.p 2)
 simp -implicitDefEqProofs only [EE,if_true,Nat.reduceAdd,zZ,zn,g2]
 obtain ⟨lo1,le1,s1,fr⟩:=sf.call (L2:=[pt fb (jX fp rv c.kM c.pt),xN 69 3 rv (c.regs.map V.yJ)])
 refine qm (by kernel_rfl) rfl (Mz s1 (zA i) v hw hl) ?_
 rintro r h2 ⟨rv',s2⟩
 have s3:=fr _ _ s2
 have g3:=(s3.p 3).get
 have gf:=s3.get
 unfold jX at gf
 simp -implicitDefEqProofs only [EE,zC,zj,Wy,Uf,kI,pW,g3]
 refine yL s3 (by simp) rfl fun h4 s4 => ?_
 simp -implicitDefEqProofs only [EE]
 have s5:=XI (p:=p) (fb:=fb) (c:={ c with regs:=v7 c.regs (zA i) v,pt:=i.s }) hfp s4
 exact k h4 (s5.f [0] |>.perm (List.Perm.refl _) |> fun x=>(x.p 2).drop |> fun y=>(y.p 1).drop)
end
section
variable {lo:yE} {h:za} {L:List HP} {b mb wb fb b1 b2:Nat} {p:Pg} {S:St} {world:List Int} {ev lk gl cl kv wn:Value} {fi:List Nat} {c:Fr} {ini:List Fr} {i:yM} {kept:Option (Int->Bool)} {R:Value->za->Prop}
theorem Xe {h:za} {sv:Value} {zs:List Int} (S:zJ h sv 1 (zs.map yw)):zN h sv zs:=by
 have T:=S
 rcases S with ⟨e,e2⟩ | ⟨b,off,cp,rfl,hc⟩
 ·exact .inl ⟨e,by simpa using e2⟩
 ·refine .inr ⟨b,off,cp,by rw [aak],fun hz => ?_⟩
  obtain ⟨c,t,hb,hg,hat⟩:=hc (by simpa using hz)
  refine ⟨c,t,hb,hg,fun i z hiz => ?_⟩
  obtain ⟨b2,o,c2,t2,⟨off2,cp2,e1,e2⟩,_,_,hg2,_,_,h3⟩:=T.spot (i:=i) (r:=yw z) (by rw [aap,hiz];rfl) rfl
  simp only [Value.slice.injEq,aaa,Addr.mk.injEq] at e1
  obtain ⟨⟨rfl,rfl,_⟩,_,rfl⟩:=e1
  rw [hg] at hg2
  cases hg2
  have:=h3 0 (by decide)
  rw [e2,aa6,abX] at this
  exact this
def nu (b1 b2 fb:Nat) (R:Value->za->Prop) (vs9:List Value) (h10:za):Prop:=opt (Wz Tryz.prog .not (nth vs9 1)) fun t244=>CD t244 (fun j183=>Ai.rv [.bool false] h10 R) (fun j183=>j183 [nth vs9 0] h10) (V2 (.pointer (some ⟨b1,0,none⟩)) (.pointer (some ⟨b2,0,none⟩)) (.pointer (some ⟨fb,0,none⟩)) R)
theorem DO {x:Value} {h:za} (k:R (.bool false) h):nu b1 b2 fb R [x,.bool false] h:=by
 unfold nu
 simp -implicitDefEqProofs only [EE,nth]
 exact k
theorem Wn {x:Value} {h:za} {v:V} (hn:zP i.av=false) (hw:zA i < 100000) (hrl:c.regs.length<=100000) (s:Sat lo h (pt b2 (.cells v.yJ 69) :: pt b1 (.cells i.row 53) :: (xt p b mb wb world S ev lk gl cl kv wn (fi ++ [fb]) ++ jG p fb c :: L)))
  (k:∀ h' ,Sat lo h' (jG p fb { c with regs:=v7 c.regs (zA i) v,pt:=i.s } :: (xt p b mb wb world S ev lk gl cl kv wn (fi ++ [fb]) ++ L))->R (.bool true) h'):nu b1 b2 fb R [x,.bool true] h:=by
 unfold nu
 simp -implicitDefEqProofs only [EE,nth]
 exact step_end hn (s.f [0,1,10]) hw hrl k _
theorem Td (h0:i.op=2) (hn:zP i.av=false) (hco:cellOk i.av=true) (hw:zA i < 100000) (hrl:c.regs.length<=100000) (s:Sat lo h (pt b2 (.cells v0.yJ 69) :: pt b1 (.cells i.row 53) :: (xt p b mb wb world S ev lk gl cl kv wn (fi ++ [fb]) ++ jG p fb c :: L)))
  (k:∀ h' ,Sat lo h' (jG p fb { c with regs:=v7 c.regs (zA i) (j1 i.k),pt:=i.s } :: (xt p b mb wb world S ev lk gl cl kv wn (fi ++ [fb]) ++ L))->R (.bool true) h'):yG (.int .i64 i.op) (.pointer (some ⟨b1,0,none⟩)) h (.pointer (some ⟨b2,0,none⟩)) (.pointer (some ⟨fb,0,none⟩)) (.pointer (some ⟨b,0,none⟩)) R (nu b1 b2 fb R):=by
 rw [h0]
 unfold yG
 have g1:=(s.p 1).get
 have gm:=(s.p 2).get
 unfold yK y6 at gm
 simp -implicitDefEqProofs only [EE,zC,wj,vo,pV,g1]
 refine zi (by kernel_rfl) rfl (ZQ i.k h) ?_
 simp -implicitDefEqProofs only [EE,Nat.reduceAdd,zI,vv]
 refine yL s (by simp [V.yJ,v0]) rfl fun h1 s1 => ?_
 exact Wn hn hw hrl s1 k
theorem Tf (h0:i.op=3) (hn:zP i.av=false) (hco:cellOk i.av=true) (hw:zA i < 100000) (hrl:c.regs.length<=100000) (s:Sat lo h (pt b2 (.cells v0.yJ 69) :: pt b1 (.cells i.row 53) :: (xt p b mb wb world S ev lk gl cl kv wn (fi ++ [fb]) ++ jG p fb c :: L)))
  (k:∀ h' ,Sat lo h' (jG p fb { c with regs:=v7 c.regs (zA i) (ye c.regs i.a),pt:=i.s } :: (xt p b mb wb world S ev lk gl cl kv wn (fi ++ [fb]) ++ L))->R (.bool true) h'):yG (.int .i64 i.op) (.pointer (some ⟨b1,0,none⟩)) h (.pointer (some ⟨b2,0,none⟩)) (.pointer (some ⟨fb,0,none⟩)) (.pointer (some ⟨b,0,none⟩)) R (nu b1 b2 fb R):=by
 rw [h0]
 unfold yG
 have g1:=(s.p 1).get
 have gm:=(s.p 2).get
 unfold yK y6 at gm
 simp -implicitDefEqProofs only [EE,Int.reduceEq,zC,zj,xe,pU,vQ,g1]
 obtain ⟨fp,rv,hfp,sf⟩:=vL (s.p 10)
 refine zi (by kernel_rfl) rfl (cT sf i.a) ?_
 simp -implicitDefEqProofs only [EE,Nat.reduceAdd,zI,vv]
 refine yL s (by simp [V.yJ,v0]) rfl fun h1 s1 => ?_
 exact Wn hn hw hrl s1 k
theorem Th (h0:i.op=4) (hn:zP i.av=false) (hco:cellOk i.av=true) (hw:zA i < 100000) (hrl:c.regs.length<=100000) (s:Sat lo h (pt b2 (.cells v0.yJ 69) :: pt b1 (.cells i.row 53) :: (xt p b mb wb world S ev lk gl cl kv wn (fi ++ [fb]) ++ jG p fb c :: L)))
  (k:∀ h' ,Sat lo h' (jG p fb { c with regs:=v7 c.regs (zA i) ((nY i.sub (ye c.regs i.a)).getD v0),pt:=i.s } :: (xt p b mb wb world S ev lk gl cl kv wn (fi ++ [fb]) ++ L))->(nY i.sub (ye c.regs i.a)).isSome=true->R (.bool true) h')
  (k0:∀ h' ,Sat lo h' (xt p b mb wb world S ev lk gl cl kv wn (fi ++ [fb]) ++ jG p fb c :: L)->(nY i.sub (ye c.regs i.a)).isSome=false->R (.bool false) h'):yG (.int .i64 i.op) (.pointer (some ⟨b1,0,none⟩)) h (.pointer (some ⟨b2,0,none⟩)) (.pointer (some ⟨fb,0,none⟩)) (.pointer (some ⟨b,0,none⟩)) R (nu b1 b2 fb R):=by
 rw [h0]
 unfold yG
 have g1:=(s.p 1).get
 have gm:=(s.p 2).get
 unfold yK y6 at gm
 simp -implicitDefEqProofs only [EE,Int.reduceEq,zC,zj,zW,xe,pT,uj,vQ,g1]
 obtain ⟨fp,rv,hfp,sf⟩:=vL (s.p 10)
 refine vn (by kernel_rfl) rfl (cT sf i.a) ?_
 unfold A5
 refine vn (by kernel_rfl) rfl (TA i.sub _ h) ?_
 unfold w6
 cases hu:nY i.sub (ye c.regs i.a) with
 | none=>
   simp -implicitDefEqProofs only [EE,Nat.reduceAdd,zI,vv,ab4,abC,v0]
   refine yL s (by simp [V.yJ,v0]) rfl fun h1 s1 => ?_
   exact DO (k0 h1 (s1.drop.drop) (by rw [hu];rfl))
 | some u=>
   simp -implicitDefEqProofs only [EE,Nat.reduceAdd,zI,vv,abx,abJ]
   refine yL s (by simp [V.yJ,v0]) rfl fun h1 s1 => ?_
   exact Wn (v:=u) hn hw hrl s1 fun h' s'=>k h' (by rw [hu];exact s') (by rw [hu];rfl)
theorem Tn (h0:i.op=8) (hs0:0<=i.sub) (hs1:i.sub < S.gl.length) (hn:zP i.av=false) (hco:cellOk i.av=true) (hw:zA i < 100000) (hrl:c.regs.length<=100000) (s:Sat lo h (pt b2 (.cells v0.yJ 69) :: pt b1 (.cells i.row 53) :: (xt p b mb wb world S ev lk gl cl kv wn (fi ++ [fb]) ++ jG p fb c :: L)))
  (k:∀ h' ,Sat lo h' (jG p fb { c with regs:=v7 c.regs (zA i) (CN (S.gl.getD i.sub.toNat 0) i.k),pt:=i.s } :: (xt p b mb wb world S ev lk gl cl kv wn (fi ++ [fb]) ++ L))->R (.bool true) h'):yG (.int .i64 i.op) (.pointer (some ⟨b1,0,none⟩)) h (.pointer (some ⟨b2,0,none⟩)) (.pointer (some ⟨fb,0,none⟩)) (.pointer (some ⟨b,0,none⟩)) R (nu b1 b2 fb R):=by
 rw [h0]
 unfold yG
 have g1:=(s.p 1).get
 have gm:=(s.p 2).get
 unfold yK y6 at gm
 have SG:=Xe (y7 (s.p 7) (vZ (f:=yw) (fun _=>rfl) S.gl))
 obtain ⟨z,hz⟩:∃ z,S.gl[i.sub.toNat]? = some z:=⟨_,aab (by omega)⟩
 obtain ⟨bb,o,cs,t,hix,hb,hgt,hat0⟩:=SG.at hz
 rw [show ((i.sub.toNat:Nat):Int)=i.sub from acj hs0] at hix
 have gn:=SG.vk
 rw [show S.gl.getD i.sub.toNat 0=z by rw [aaB,hz];rfl] at k
 simp -implicitDefEqProofs only [EE,Int.reduceEq,zC,wj,xr,zj,BJ,zW,vo,pR,jE,kz,qU,uX,uj,vQ,g1,gm,hix,hgt,hat0]
 refine vn (by kernel_rfl) rfl (I9 z i.k h) ?_
 simp -implicitDefEqProofs only [EE,Nat.reduceAdd,zI,vv]
 refine yL s (by simp [V.yJ,v0]) rfl fun h1 s1 => ?_
 exact Wn (v:=CN z i.k) hn hw hrl s1 k
theorem To (h0:i.op=9) (hn:zP i.av=false) (hco:cellOk i.av=true) (hw:zA i < 100000) (hrl:c.regs.length<=100000) (s:Sat lo h (pt b2 (.cells v0.yJ 69) :: pt b1 (.cells i.row 53) :: (xt p b mb wb world S ev lk gl cl kv wn (fi ++ [fb]) ++ jG p fb c :: L)))
  (k:∀ h' ,Sat lo h' (jG p fb { c with regs:=v7 c.regs (zA i) (CN c.kM i.k),pt:=i.s } :: (xt p b mb wb world S ev lk gl cl kv wn (fi ++ [fb]) ++ L))->R (.bool true) h'):yG (.int .i64 i.op) (.pointer (some ⟨b1,0,none⟩)) h (.pointer (some ⟨b2,0,none⟩)) (.pointer (some ⟨fb,0,none⟩)) (.pointer (some ⟨b,0,none⟩)) R (nu b1 b2 fb R):=by
 rw [h0]
 unfold yG
 have g1:=(s.p 1).get
 have gm:=(s.p 2).get
 unfold yK y6 at gm
 obtain ⟨fp,rv,hfp,sf⟩:=vL (s.p 10)
 have gf:=sf.get
 unfold jX at gf
 simp -implicitDefEqProofs only [EE,Int.reduceEq,zC,wj,zj,mw,vo,pQ,Zx,jE,kz,qU,uX,uj,vQ,g1,gf]
 refine vn (by kernel_rfl) rfl (I9 c.kM i.k h) ?_
 simp -implicitDefEqProofs only [EE,Nat.reduceAdd,zI,vv]
 refine yL s (by simp [V.yJ,v0]) rfl fun h1 s1 => ?_
 exact Wn (v:=CN c.kM i.k) hn hw hrl s1 k
theorem Sp (h0:i.op=11) (hL:(S.lk.length + 1) * 24<=2 ^ 47) (hn:zP i.av=false) (hco:cellOk i.av=true) (hw:zA i < 100000) (hrl:c.regs.length<=100000) (s:Sat lo h (pt b2 (.cells v0.yJ 69) :: pt b1 (.cells i.row 53) :: (xt p b mb wb world S ev lk gl cl kv wn (fi ++ [fb]) ++ jG p fb c :: L)))
  (o:Option V) (ho:o=xp i.sub (ye c.regs i.a) (zY c i))
  (k:∀ h' lk',Sat lo h' (jG p fb { c with pt:=O1 c i o } :: (xt p b mb wb world (O2 S o) ev lk' gl cl kv wn (fi ++ [fb]) ++ L))->R (.bool o.isSome) h'):yG (.int .i64 i.op) (.pointer (some ⟨b1,0,none⟩)) h (.pointer (some ⟨b2,0,none⟩)) (.pointer (some ⟨fb,0,none⟩)) (.pointer (some ⟨b,0,none⟩)) R (nu b1 b2 fb R):=by
 rw [h0]
 unfold yG
 have g1:=(s.p 1).get
 have gm:=(s.p 2).get
 unfold yK y6 at gm
 simp -implicitDefEqProofs only [EE,if_true,Nat.reduceAdd,Int.reduceEq,zZ,ka,XH,Yr,Zx,jE,kz,qU,uX,uj,vQ,g1]
 obtain ⟨fp,rv,hfp,sf⟩:=vL (s.p 10)
 obtain ⟨lo1,le1,s1,fr⟩:=(sf.f [4,7,0,1]).call (L2:=[pt b (yK p mb wb S ev lk gl cl kv),xN 74 3 lk (S.lk.map uh),pt fb (jX fp rv c.kM c.pt),xN 69 3 rv (c.regs.map V.yJ)])
 refine zT (by kernel_rfl) (by simp only [yC,yc,yP,cond_false]) (Pc s1 hL i hn hco o ho) ?_
 rintro r h2 ⟨rfl,lk',s2⟩
 have s3:=fr _ _ s2
 simp -implicitDefEqProofs only [EE]
 have s4:=XI (p:=p) (fb:=fb) (c:={ c with pt:=O1 c i o }) hfp (s3.f [2,3])
 have em:(O2 S o).mem=S.mem/\(O2 S o).ev=S.ev/\(O2 S o).gl=S.gl/\(O2 S o).used=S.used:=by cases o <;> exact ⟨rfl,rfl,rfl,rfl⟩
 refine k h2 lk' ?_
 unfold xt
 rw [em.1,em.2.1,em.2.2.1,em.2.2.2]
 exact (s4.f [3,4]).drop.drop.f [0,1,3,4,2]
end
section
variable {lo:yE} {h:za} {L:List HP} {b mb wb fb b1 b2:Nat} {p:Pg} {S:St} {world:List Int} {ev lk gl cl kv wn:Value} {fi:List Nat} {c:Fr} {ini:List Fr} {i:yM} {kept:Option (Int->Bool)} {R:Value->za->Prop}
theorem Sr (h0:i.op=13) (hu0:0<=S.used) (hu1:S.used < 4611686018427387904) (hwl:world.length < 4611686018427387904) (hE:(S.ev.length + 1) * 16<=2 ^ 47) (hn:zP i.av=false) (hco:cellOk i.av=true) (hw:zA i < 100000) (hrl:c.regs.length<=100000) (s:Sat lo h (pt b2 (.cells v0.yJ 69) :: pt b1 (.cells i.row 53) :: (xt p b mb wb world S ev lk gl cl kv wn (fi ++ [fb]) ++ jG p fb c :: L)))
  (k:∀ h' ev',Sat lo h' (jG p fb { c with regs:=v7 c.regs (zA i) (j1 (Xc world S.used)),pt:=i.s } :: (xt p b mb wb world { qM S 1 (Xc world S.used) with used:=S.used + 1 } ev' lk gl cl kv wn (fi ++ [fb]) ++ L))->R (.bool true) h'):yG (.int .i64 i.op) (.pointer (some ⟨b1,0,none⟩)) h (.pointer (some ⟨b2,0,none⟩)) (.pointer (some ⟨fb,0,none⟩)) (.pointer (some ⟨b,0,none⟩)) R (nu b1 b2 fb R):=by
 rw [h0]
 unfold yG
 have g1:=(s.p 1).get
 have gm:=(s.p 2).get
 unfold yK y6 at gm
 simp -implicitDefEqProofs only [EE,Int.reduceEq,zC,OO,LB,pN,K5,V1,XH,Yr,Zx,jE,kz,qU,uX,uj,vQ,gm]
 obtain ⟨lo1,le1,s1,fr⟩:=(s.f [8,9]).call (L2:=[pt wb (.cells [wn,.int .i64 S.used] 141),xN 2 1 wn (world.map yw)])
 refine zT (by kernel_rfl) rfl (PB s1 hu0 hu1 hwl) ?_
 rintro r h2 ⟨rfl,s2⟩
 have s3:=fr _ _ s2
 simp -implicitDefEqProofs only [pJ]
 obtain ⟨lo2,le2,s4,fr2⟩:=(s3.f [4,8]).call (L2:=[pt b (yK p mb wb S ev lk gl cl kv),xN 97 2 ev (S.ev.map kp)])
 refine zT (by kernel_rfl) rfl (Fi s4 hE 1 (Xc world S.used)) ?_
 rintro r h5 ⟨ev',s5⟩
 have s6:=fr2 _ _ s5
 simp -implicitDefEqProofs only []
 refine zi (by kernel_rfl) rfl (ZQ (Xc world S.used) h5) ?_
 simp -implicitDefEqProofs only [EE,Nat.reduceAdd,zI,vv]
 refine yL (s6.f [4,5,0,6,7,8,1,9,2,3]) (by simp [V.yJ,v0]) rfl fun h7 s7 => ?_
 exact Wn (S:={ qM S 1 (Xc world S.used) with used:=S.used + 1 }) (v:=j1 (Xc world S.used)) hn hw hrl s7 fun h' s'=>k h' ev' s'
theorem Ss (h0:i.op=14) (hE:(S.ev.length + 1) * 16<=2 ^ 47) (hn:zP i.av=false) (hco:cellOk i.av=true) (hw:zA i < 100000) (hrl:c.regs.length<=100000) (s:Sat lo h (pt b2 (.cells v0.yJ 69) :: pt b1 (.cells i.row 53) :: (xt p b mb wb world S ev lk gl cl kv wn (fi ++ [fb]) ++ jG p fb c :: L)))
  (k:(ye c.regs i.a).k=1->∀ h' ev',Sat lo h' (jG p fb { c with regs:=v7 c.regs (zA i) v0,pt:=i.s } :: (xt p b mb wb world (qM S 2 (ye c.regs i.a).n) ev' lk gl cl kv wn (fi ++ [fb]) ++ L))->R (.bool true) h')
  (k0:¬ (ye c.regs i.a).k=1->∀ h',Sat lo h' (xt p b mb wb world S ev lk gl cl kv wn (fi ++ [fb]) ++ jG p fb c :: L)->R (.bool false) h'):yG (.int .i64 i.op) (.pointer (some ⟨b1,0,none⟩)) h (.pointer (some ⟨b2,0,none⟩)) (.pointer (some ⟨fb,0,none⟩)) (.pointer (some ⟨b,0,none⟩)) R (nu b1 b2 fb R):=by
 rw [h0]
 unfold yG
 have g1:=(s.p 1).get
 have gm:=(s.p 2).get
 unfold yK y6 at gm
 simp -implicitDefEqProofs only [EE,Int.reduceEq,zC,zj,xe,pM,eG,K5,V1,XH,Yr,Zx,jE,kz,qU,uX,uj,vQ,g1]
 obtain ⟨fp,rv,hfp,sf⟩:=vL (s.p 10)
 refine zi (by kernel_rfl) rfl (cT sf i.a) ?_
 simp -implicitDefEqProofs only [EE,Value.cells,xz,pL,vv]
 refine uR s fun b3 h1 s1 => ?_
 simp -implicitDefEqProofs only [EE,Nat.reduceAdd,zI]
 refine yL s1 (by simp) rfl fun h2 s2 => ?_
 have g2:=s2.get
 by_cases hk:(ye c.regs i.a).k=1
 ·simp -implicitDefEqProofs only [EE,zf,Nat.reduceAdd,zC,wj,zj,xk,xo,pK,g2,hk]
  obtain ⟨lo2,le2,s4,fr2⟩:=(s2.f [3,7]).call (L2:=[pt b (yK p mb wb S ev lk gl cl kv),xN 97 2 ev (S.ev.map kp)])
  refine zT (by kernel_rfl) rfl (Fi s4 hE 2 (ye c.regs i.a).n) ?_
  rintro r h5 ⟨ev',s5⟩
  have s6:=fr2 _ _ s5
  simp -implicitDefEqProofs only [nth]
  exact Wn (S:=qM S 2 (ye c.regs i.a).n) (v:=v0) hn hw hrl ((s6.p 2).drop.f [2,3,0,4,5,6,1]) fun h' s'=>k hk h' ev' s'
 ·simp -implicitDefEqProofs only [EE,zf,Nat.reduceAdd,zC,zj,xk,g2,hk]
  exact k0 hk h2 s2.drop.drop.drop
theorem Ti (h0:i.op=5) (hL:(S.lk.length + 1) * 24<=2 ^ 47) (hn:zP i.av=false) (hco:cellOk i.av=true) (hw:zA i < 100000) (hrl:c.regs.length<=100000) (s:Sat lo h (pt b2 (.cells v0.yJ 69) :: pt b1 (.cells i.row 53) :: (xt p b mb wb world S ev lk gl cl kv wn (fi ++ [fb]) ++ jG p fb c :: L)))
  (S1:St) (hS1:S1=if (i.sub=14\/i.sub=15)/\(ye c.regs i.a).k=1/\(zY c i).k=1 then xC S 3 (ye c.regs i.a).n (zY c i).n else S)
  (o:Option V) (ho:o=xp i.sub (ye c.regs i.a) (zY c i))
  (k:o.isSome=true->∀ h' lk',Sat lo h' (jG p fb { c with regs:=v7 c.regs (zA i) (o.getD v0),pt:=i.s } :: (xt p b mb wb world S1 ev lk' gl cl kv wn (fi ++ [fb]) ++ L))->R (.bool true) h')
  (k0:o.isSome=false->∀ h' lk',Sat lo h' (xt p b mb wb world S1 ev lk' gl cl kv wn (fi ++ [fb]) ++ jG p fb c :: L)->R (.bool false) h'):yG (.int .i64 i.op) (.pointer (some ⟨b1,0,none⟩)) h (.pointer (some ⟨b2,0,none⟩)) (.pointer (some ⟨fb,0,none⟩)) (.pointer (some ⟨b,0,none⟩)) R (nu b1 b2 fb R):=by
 rw [h0]
 unfold yG
 have g1:=(s.p 1).get
 have gm:=(s.p 2).get
 unfold yK y6 at gm
 simp -implicitDefEqProofs only [EE,Int.reduceEq,zC,zj,xe,pS,uX,uj,vQ,g1]
 obtain ⟨fp,rv,hfp,sf⟩:=vL (s.p 10)
 refine vn (by kernel_rfl) rfl (cT sf i.a) ?_
 simp -implicitDefEqProofs only [EE,if_true,Nat.reduceAdd,zZ,ka,g1]
 refine vn (by kernel_rfl) (by simp only [yC,yc,yP,cond_false]) (rZ sf i hn) ?_
 simp -implicitDefEqProofs only [EE,Value.cells,xz,A6,vv]
 refine uR s fun b3 h1 s1 => ?_
 simp -implicitDefEqProofs only [EE,Nat.reduceAdd,zI]
 refine uR s1 fun b4 h2 s2 => ?_
 simp -implicitDefEqProofs only []
 refine yL (s2.p 1) (by simp) rfl fun h3 s3 => ?_
 simp -implicitDefEqProofs only [EE,Nat.reduceAdd,zI]
 refine yL (s3.p 1) (by simp) rfl fun h4 s4 => ?_
 have q4:=(s4.p 3).get
 have q3:=(s4.p 1).get
 have q2:=s4.get
 have tail:∀ (h5:za) (S1:St) (lk':Value),S1.mem=S.mem->S1.ev=S.ev->S1.gl=S.gl->S1.used=S.used ->
   (∀ h' lk',o.isSome=true->Sat lo h' (jG p fb { c with regs:=v7 c.regs (zA i) (o.getD v0),pt:=i.s } :: (xt p b mb wb world S1 ev lk' gl cl kv wn (fi ++ [fb]) ++ L))->R (.bool true) h') ->
   (∀ h' lk',o.isSome=false->Sat lo h' (xt p b mb wb world S1 ev lk' gl cl kv wn (fi ++ [fb]) ++ jG p fb c :: L)->R (.bool false) h') ->
   Sat lo h5 (pt b4 (.cells (zY c i).yJ 69) :: pt b3 (.cells (ye c.regs i.a).yJ 69) :: pt b2 (.cells v0.yJ 69) :: pt b1 (.cells i.row 53) :: (xt p b mb wb world S1 ev lk' gl cl kv wn (fi ++ [fb]) ++ jG p fb c :: L)) ->
   ∀ vs,Q7 (.pointer (some ⟨b1,0,none⟩)) (.pointer (some ⟨b3,0,none⟩)) (.pointer (some ⟨b4,0,none⟩)) (.pointer (some ⟨b2,0,none⟩)) (fun vs31 h32=>nu b1 b2 fb R [nth vs31 0,nth vs31 1] h32) vs h5:=by
  intro h5 S1 lk' e1 e2 e3 e4 k k0 s5 vs
  unfold Q7
  have z1:=(s5.p 3).get
  have z3:=(s5.p 1).get
  have z4:=s5.get
  unfold V.yJ at z3 z4
  simp -implicitDefEqProofs only [EE,if_true,Nat.reduceAdd,zZ,zC,zj,zn,zW,z1,z3,z4]
  refine zi (by kernel_rfl) rfl (Lf i.sub _ _ h5) ?_
  rw [<- ho]
  unfold w6
  cases o with
  | none=>
    simp -implicitDefEqProofs only [EE,Nat.reduceAdd,zI,vv,ab4,abC,v0]
    refine yL (s5.p 2) (by simp [V.yJ,v0]) rfl fun h6 s6 => ?_
    exact DO (k0 h6 lk' rfl s6.drop.drop.drop.drop)
  | some u=>
    simp -implicitDefEqProofs only [EE,Nat.reduceAdd,zI,vv,abx,abJ]
    refine yL (s5.p 2) (by simp [V.yJ,v0]) rfl fun h6 s6 => ?_
    exact Wn (S:=S1) (v:=u) hn hw hrl ((s6.f [1,2,0,3]).drop.drop) fun h' s'=>k h' lk' rfl s'
 have gmL:=(s4.p 4).get
 unfold yK y6 at gmL
 have lkd:∀ (K:Value->za->Prop),(∀ v h5 lk',Sat lo h5 (pt b4 (.cells (zY c i).yJ 69) :: pt b3 (.cells (ye c.regs i.a).yJ 69) :: pt b2 (.cells v0.yJ 69) :: pt b1 (.cells i.row 53) :: (xt p b mb wb world (xC S 3 (ye c.regs i.a).n (zY c i).n) ev lk' gl cl kv wn (fi ++ [fb]) ++ jG p fb c :: L))->K v h5) ->
   zH Tryz.prog (.func (.func 81) #[] #[]) [.pointer (some ⟨b,0,none⟩),.int .i64 3,.int .i64 (ye c.regs i.a).n,.int .i64 (zY c i).n] h4 K:=by
  intro K hK
  obtain ⟨lo1,le1,s5,fr⟩:=(s4.f [4,7]).call (L2:=[pt b (yK p mb wb S ev lk gl cl kv),xN 74 3 lk (S.lk.map uh)])
  refine zT (by kernel_rfl) rfl (tH s5 hL 3 _ _) ?_
  rintro v h5 ⟨lk',s6⟩
  exact hK v h5 lk' ((fr _ _ s6).f [2,3,4,5,0,6,7,1])
 have q2':h4.get b4=some (.cells [.int .i64 (zY c i).k,.int .i64 (zY c i).n,.int .i64 (zY c i).b] 69):=q2
 have q3':h4.get b3=some (.cells [.int .i64 (ye c.regs i.a).k,.int .i64 (ye c.regs i.a).n,.int .i64 (ye c.regs i.a).b] 69):=q3
 have hsub:i.sub=14\/i.sub=15\/(¬ i.sub=14 /\ ¬ i.sub=15):=by omega
 have fin0:¬ ((i.sub=14\/i.sub=15)/\(ye c.regs i.a).k=1/\(zY c i).k=1)->∀ vs,Q7 (.pointer (some ⟨b1,0,none⟩)) (.pointer (some ⟨b3,0,none⟩)) (.pointer (some ⟨b4,0,none⟩)) (.pointer (some ⟨b2,0,none⟩)) (fun vs31 h32=>nu b1 b2 fb R [nth vs31 0,nth vs31 1] h32) vs h4:=by
  intro hc vs
  rw [if_neg hc] at hS1
  rw [hS1] at k k0
  exact tail h4 S lk rfl rfl rfl rfl (fun h' lk' e s'=>k e h' lk' s') (fun h' lk' e s'=>k0 e h' lk' s') s4 vs
 have fin1:((i.sub=14\/i.sub=15)/\(ye c.regs i.a).k=1/\(zY c i).k=1)->∀ (K:Value->za->Prop),(∀ v h5,(∀ vs,Q7 (.pointer (some ⟨b1,0,none⟩)) (.pointer (some ⟨b3,0,none⟩)) (.pointer (some ⟨b4,0,none⟩)) (.pointer (some ⟨b2,0,none⟩)) (fun vs31 h32=>nu b1 b2 fb R [nth vs31 0,nth vs31 1] h32) vs h5)->K v h5) ->
   zH Tryz.prog (.func (.func 81) #[] #[]) [.pointer (some ⟨b,0,none⟩),.int .i64 3,.int .i64 (ye c.regs i.a).n,.int .i64 (zY c i).n] h4 K:=by
  intro hc K hK
  rw [if_pos hc] at hS1
  rw [hS1] at k k0
  refine lkd K fun v h5 lk' s5=>hK v h5 fun vs=>tail h5 (xC S 3 (ye c.regs i.a).n (zY c i).n) lk' rfl rfl rfl rfl (fun h' lk' e s'=>k e h' lk' s') (fun h' lk' e s'=>k0 e h' lk' s') s5 vs
 by_cases ha:(ye c.regs i.a).k=1
 ·by_cases hb:(zY c i).k=1
  ·rcases hsub with h14 | h15 | ⟨h14,h15⟩
   ·simp -implicitDefEqProofs only [EE,zC,wj,zj,zW,xk,xo,lJ,jQ,jR,jS,jT,jU,q2',q3',q4,ha,hb,h14]
    exact fin1 ⟨.inl h14,ha,hb⟩ _ fun v h5 t=>t _
   ·simp -implicitDefEqProofs only [EE,Int.reduceEq,zC,wj,zj,zW,xk,xo,lJ,jQ,jR,jS,jT,jU,q2',q3',q4,ha,hb,h15]
    exact fin1 ⟨.inr h15,ha,hb⟩ _ fun v h5 t=>t _
   ·simp -implicitDefEqProofs only [EE,nth,zC,zj,zW,jQ,jR,jS,jT,jU,q4,h14,h15]
    exact fin0 (by omega) _
  ·rcases hsub with h14 | h15 | ⟨h14,h15⟩
   ·simp -implicitDefEqProofs only [EE,nth,zC,zj,zW,xk,jQ,jR,jS,jT,jU,q2',q3',q4,ha,hb,h14]
    exact fin0 (by omega) _
   ·simp -implicitDefEqProofs only [EE,nth,Int.reduceEq,zC,zj,zW,xk,jQ,jR,jS,jT,jU,q2',q3',q4,ha,hb,h15]
    exact fin0 (by omega) _
   ·simp -implicitDefEqProofs only [EE,nth,zC,zj,zW,jQ,jR,jS,jT,jU,q4,h14,h15]
    exact fin0 (by omega) _
 ·rcases hsub with h14 | h15 | ⟨h14,h15⟩
  ·simp -implicitDefEqProofs only [EE,nth,zC,zj,zW,xk,jQ,jR,jS,jT,jU,q3',q4,ha,h14]
   exact fin0 (by omega) _
  ·simp -implicitDefEqProofs only [EE,nth,Int.reduceEq,zC,zj,zW,xk,jQ,jR,jS,jT,jU,q3',q4,ha,h15]
   exact fin0 (by omega) _
  ·simp -implicitDefEqProofs only [EE,nth,zC,zj,zW,jQ,jR,jS,jT,jU,q4,h14,h15]
   exact fin0 (by omega) _
end
section
variable {lo:yE} {h:za} {L:List HP} {b mb wb fb b1 b2:Nat} {p:Pg} {S:St} {world:List Int} {ev lk gl cl kv wn:Value} {fi:List Nat} {c:Fr} {ini:List Fr} {i:yM} {kept:Option (Int->Bool)} {R:Value->za->Prop}
theorem Tj (h0:i.op=6) (hL:(S.lk.length + 1) * 24<=2 ^ 47) (hsm:small S.mem) (hsub:jZ i.sub) (hq:∀ q,yB c i=some q->q.ok) (hn:zP i.av=false) (hco:cellOk i.av=true) (hw:zA i < 100000) (hrl:c.regs.length<=100000) (s:Sat lo h (pt b2 (.cells v0.yJ 69) :: pt b1 (.cells i.row 53) :: (xt p b mb wb world S ev lk gl cl kv wn (fi ++ [fb]) ++ jG p fb c :: L)))
  (k:∀ q u,yB c i=some q->ZP S.mem i.sub q=some u->∀ h' lk',Sat lo h' (jG p fb { c with regs:=v7 c.regs (zA i) u,pt:=i.s } :: (xt p b mb wb world (xC S 2 q.b q.n) ev lk' gl cl kv wn (fi ++ [fb]) ++ L))->R (.bool true) h')
  (k0:(∀ q u,yB c i=some q->ZP S.mem i.sub q=some u->False)->∀ h' lk',Sat lo h' (xt p b mb wb world (Fu S (yB c i)) ev lk' gl cl kv wn (fi ++ [fb]) ++ jG p fb c :: L)->R (.bool false) h'):yG (.int .i64 i.op) (.pointer (some ⟨b1,0,none⟩)) h (.pointer (some ⟨b2,0,none⟩)) (.pointer (some ⟨fb,0,none⟩)) (.pointer (some ⟨b,0,none⟩)) R (nu b1 b2 fb R):=by
 rw [h0]
 unfold yG
 have g1:=(s.p 1).get
 have gm:=(s.p 2).get
 unfold yK y6 at gm
 simp -implicitDefEqProofs only [EE,if_true,Nat.reduceAdd,Int.reduceEq,zZ,ka,qU,uX,uj,vQ,g1]
 obtain ⟨fp,rv,hfp,sf⟩:=vL (s.p 10)
 obtain ⟨lo1,le1,s1,fr⟩:=(sf.f [4,7,0,1]).call (L2:=[pt b (yK p mb wb S ev lk gl cl kv),xN 74 3 lk (S.lk.map uh),pt fb (jX fp rv c.kM c.pt),xN 69 3 rv (c.regs.map V.yJ)])
 refine zT (by kernel_rfl) (by simp only [yC,yc,yP,cond_false]) (pZ s1 hL i hn hco) ?_
 rintro r h2 ⟨rfl,lk',s2⟩
 have s3:=fr _ _ s2
 have s4:=XI (p:=p) (fb:=fb) (c:=c) hfp (s3.f [2,3])
 have s5:=s4.f [3,4,1,5,6,2,7,8,9,10,0]
 unfold II
 cases hA:yB c i with
 | none=>
   rw [hA] at s5 k0
   simp -implicitDefEqProofs only [EE,Value.cells,xz,eh,vv,ab4,abC,v0]
   refine uR s5 fun b3 h3 s6 => ?_
   simp -implicitDefEqProofs only [EE,Nat.reduceAdd,zI]
   refine yL s6 (by simp) rfl fun h4 s7 => ?_
   simp -implicitDefEqProofs only [EE]
   exact k0 (fun q u e _=>by cases e) h4 lk' s7.drop.drop.drop
 | some q=>
   rw [hA] at s5 k0
   simp -implicitDefEqProofs only [EE,Value.cells,xz,eh,vv,abx,abJ]
   refine uR s5 fun b3 h3 s6 => ?_
   simp -implicitDefEqProofs only [EE,Nat.reduceAdd,zI]
   refine yL s6 (by simp) rfl fun h4 s7 => ?_
   have z1:=(s7.p 2).get
   have z3:=s7.get
   have zm:=(s7.p 3).get
   unfold yK y6 at zm
   simp -implicitDefEqProofs only [EE,zf,if_true,Nat.reduceAdd,zZ,zC,J1,zj,zn,Wj,zW,pC,z1,z3,zm]
   obtain ⟨lo2,le2,s8,fr2⟩:=(s7.f [5]).call (L2:=[kE mb S.mem])
   refine qm (by kernel_rfl) rfl (Pq s8 hsm hsub (hq q hA)) ?_
   rintro r h5 ⟨rfl,s9⟩
   have s10:=fr2 _ _ s9
   have s11:=s10.f [2,3,4,5,0]
   unfold w6
   cases hu:ZP S.mem i.sub q with
   | none=>
     simp -implicitDefEqProofs only [EE,Nat.reduceAdd,zI,vv,ab4,abC,v0]
     refine yL s11 (by simp [V.yJ,v0]) rfl fun h6 s12 => ?_
     exact DO (k0 (fun q' u e1 e2=>by cases e1;rw [hu] at e2;cases e2) h6 lk' ((s12.f [5]).drop.drop.drop))
   | some u=>
     simp -implicitDefEqProofs only [EE,Nat.reduceAdd,zI,vv,abx,abJ]
     refine yL s11 (by simp [V.yJ,v0]) rfl fun h6 s12 => ?_
     exact Wn (S:=xC S 2 q.b q.n) (v:=u) hn hw hrl ((s12.f [5]).drop) fun h' s'=>k q u hA hu h' lk' s'
theorem Tk (h0:i.op=7) (hL:(S.lk.length + 1) * 24<=2 ^ 47) (hsm:small S.mem) (hsub:jZ i.sub) (hq:∀ q,yB c i=some q->q.ok) (hn:zP i.av=false) (hco:cellOk i.av=true) (hw:zA i < 100000) (hrl:c.regs.length<=100000) (s:Sat lo h (pt b2 (.cells v0.yJ 69) :: pt b1 (.cells i.row 53) :: (xt p b mb wb world S ev lk gl cl kv wn (fi ++ [fb]) ++ jG p fb c :: L)))
  (k:∀ q M,yB c i=some q->jw S.mem i.sub q (ye c.regs i.b)=some M->∀ h' lk',Sat lo h' (jG p fb { c with regs:=v7 c.regs (zA i) v0,pt:=i.s } :: (xt p b mb wb world { xC S 2 q.b q.n with mem:=M } ev lk' gl cl kv wn (fi ++ [fb]) ++ L))->R (.bool true) h')
  (k0:(∀ q u,yB c i=some q->jw S.mem i.sub q (ye c.regs i.b)=some u->False)->∀ h' lk',Sat lo h' (xt p b mb wb world (Fu S (yB c i)) ev lk' gl cl kv wn (fi ++ [fb]) ++ jG p fb c :: L)->R (.bool false) h'):yG (.int .i64 i.op) (.pointer (some ⟨b1,0,none⟩)) h (.pointer (some ⟨b2,0,none⟩)) (.pointer (some ⟨fb,0,none⟩)) (.pointer (some ⟨b,0,none⟩)) R (nu b1 b2 fb R):=by
 rw [h0]
 unfold yG
 have g1:=(s.p 1).get
 have gm:=(s.p 2).get
 unfold yK y6 at gm
 simp -implicitDefEqProofs only [EE,if_true,Nat.reduceAdd,Int.reduceEq,zZ,ka,kz,qU,uX,uj,vQ,g1]
 obtain ⟨fp,rv,hfp,sf⟩:=vL (s.p 10)
 obtain ⟨lo1,le1,s1,fr⟩:=(sf.f [4,7,0,1]).call (L2:=[pt b (yK p mb wb S ev lk gl cl kv),xN 74 3 lk (S.lk.map uh),pt fb (jX fp rv c.kM c.pt),xN 69 3 rv (c.regs.map V.yJ)])
 refine zT (by kernel_rfl) (by simp only [yC,yc,yP,cond_false]) (pZ s1 hL i hn hco) ?_
 rintro r h2 ⟨rfl,lk',s2⟩
 have s3:=fr _ _ s2
 have s4:=XI (p:=p) (fb:=fb) (c:=c) hfp (s3.f [2,3])
 have s5:=s4.f [3,4,1,5,6,2,7,8,9,10,0]
 unfold II
 cases hA:yB c i with
 | none=>
   rw [hA] at s5 k0
   simp -implicitDefEqProofs only [EE,Value.cells,xz,eE,vv,ab4,abC,v0]
   refine uR s5 fun b3 h3 s6 => ?_
   simp -implicitDefEqProofs only [EE,Nat.reduceAdd,zI]
   refine yL s6 (by simp) rfl fun h4 s7 => ?_
   simp -implicitDefEqProofs only [EE,K4,ep,eu,ew,ey,eC,eD]
   exact k0 (fun q u e _=>by cases e) h4 lk' s7.drop.drop.drop
 | some q=>
   rw [hA] at s5 k0
   simp -implicitDefEqProofs only [EE,Value.cells,xz,eE,vv,abx,abJ]
   refine uR s5 fun b3 h3 s6 => ?_
   simp -implicitDefEqProofs only [EE,Nat.reduceAdd,zI]
   refine yL s6 (by simp) rfl fun h4 s7 => ?_
   have z1:=(s7.p 2).get
   have z3:=s7.get
   have zm:=(s7.p 3).get
   unfold yK y6 at zm
   obtain ⟨fp7,rv7,hfp7,TR⟩:=vL (s7.p 11)
   simp -implicitDefEqProofs only [EE,zf,if_true,Nat.reduceAdd,zZ,zC,J1,zj,zn,Wj,zW,vC,eu,ew,ey,eC,eD,z1,z3,zm]
   refine vn (by kernel_rfl) rfl (cT TR i.b) ?_
   simp -implicitDefEqProofs only [EE,ep]
   obtain ⟨lo2,le2,s8,fr2⟩:=(s7.f [5]).call (L2:=[kE mb S.mem])
   refine qm (by kernel_rfl) rfl (NR s8 hsm hsub (hq q hA)) ?_
   rintro r h5 ⟨rfl,s9⟩
   have s10:=fr2 _ _ s9
   have s11:=s10.f [2,3,4,5,0]
   cases hu:jw S.mem i.sub q (ye c.regs i.b) with
   | none=>
     rw [hu] at s11
     simp -implicitDefEqProofs only [EE,K4,abC]
     exact k0 (fun q' u e1 e2=>by cases e1;rw [hu] at e2;cases e2) h5 lk' ((s11.f [0,1,5]).drop.drop.drop)
   | some M=>
     rw [hu] at s11
     simp -implicitDefEqProofs only [EE,nth,K4,abJ]
     exact Wn (S:={ xC S 2 q.b q.n with mem:=M }) (v:=v0) hn hw hrl ((s11.f [5]).drop) fun h' s'=>k q M hA hu h' lk' s'
theorem NK (h0:∀ k:Nat,2<=k->k<=14->¬ i.op=k) (hn:zP i.av=false) (hco:cellOk i.av=true) (hw:zA i < 100000) (hrl:c.regs.length<=100000) (s:Sat lo h (pt b2 (.cells v0.yJ 69) :: pt b1 (.cells i.row 53) :: (xt p b mb wb world S ev lk gl cl kv wn (fi ++ [fb]) ++ jG p fb c :: L)))
  (k:∀ h',Sat lo h' (jG p fb { c with regs:=v7 c.regs (zA i) v0,pt:=i.s } :: (xt p b mb wb world S ev lk gl cl kv wn (fi ++ [fb]) ++ L))->R (.bool true) h'):yG (.int .i64 i.op) (.pointer (some ⟨b1,0,none⟩)) h (.pointer (some ⟨b2,0,none⟩)) (.pointer (some ⟨fb,0,none⟩)) (.pointer (some ⟨b,0,none⟩)) R (nu b1 b2 fb R):=by
 unfold yG
 have h2:=h0 2 (by decide) (by decide)
 have h3:=h0 3 (by decide) (by decide)
 have h4:=h0 4 (by decide) (by decide)
 have h5:=h0 5 (by decide) (by decide)
 have h6:=h0 6 (by decide) (by decide)
 have h7:=h0 7 (by decide) (by decide)
 have h8:=h0 8 (by decide) (by decide)
 have h9:=h0 9 (by decide) (by decide)
 have h10:=h0 10 (by decide) (by decide)
 have h11:=h0 11 (by decide) (by decide)
 have h12:=h0 12 (by decide) (by decide)
 have h13:=h0 13 (by decide) (by decide)
 have h14:=h0 14 (by decide) (by decide)
 simp only [Int.cast_ofNat_Int] at h2 h3 h4 h5 h6 h7 h8 h9 h10 h11 h12 h13 h14
 simp -implicitDefEqProofs only [EE,nth,eG,K5,V1,XH,Yr,Zx,jE,kz,qU,uX,uj,vQ,h2,h3,h4,h5,h6,h7,h8,h9,h10,h11,h12,h13,h14]
 exact Wn (v:=v0) hn hw hrl s k
theorem Sq (h0:i.op=12) (hn:zP i.av=false) (hco:cellOk i.av=true) (hw:zA i < 100000) (hrl:c.regs.length<=100000) (s:Sat lo h (pt b2 (.cells v0.yJ 69) :: pt b1 (.cells i.row 53) :: (xt p b mb wb world S ev lk gl cl kv wn (fi ++ [fb]) ++ jG p fb c :: L)))
  (k:∀ (h':za),Sat lo h' (xt p b mb wb world S ev lk gl cl kv wn (fi ++ [fb]) ++ jG p fb c :: L)->DC Tryz.prog 88 [y6 b,(ye c.regs i.a).val] h' (fun v h'' => ∃ bl:Bool,v = .bool bl/\R (.bool bl) h'')):yG (.int .i64 i.op) (.pointer (some ⟨b1,0,none⟩)) h (.pointer (some ⟨b2,0,none⟩)) (.pointer (some ⟨fb,0,none⟩)) (.pointer (some ⟨b,0,none⟩)) R (nu b1 b2 fb R):=by
 rw [h0]
 unfold yG
 have g1:=(s.p 1).get
 have gm:=(s.p 2).get
 unfold yK y6 at gm
 simp -implicitDefEqProofs only [EE,Int.reduceEq,zC,zj,xe,pO,V1,XH,Yr,Zx,jE,kz,qU,uX,uj,vQ,g1]
 obtain ⟨fp,rv,hfp,sf⟩:=vL (s.p 10)
 refine zi (by kernel_rfl) rfl (cT sf i.a) ?_
 refine zT (by kernel_rfl) rfl (k h s.drop.drop) ?_
 rintro v h2 ⟨bl,rfl,hR⟩
 rw [vO rfl]
 exact hR
theorem So (h0:i.op=10) (args:Rd lo (zN · i.av i.args)) (hal:i.args.length<=100000) (hL:(S.lk.length + 1) * 24<=2 ^ 47)
  (k:∀ lo1 h' lk' av,lo.Le lo1->Rd lo1 (zJ · av 3 ((i.args.map (ye c.regs)).map V.yJ))->(∀ h' L',Sat lo1 h' L'->Sat lo h' L')->Sat lo1 h' (xt p b mb wb world (xC S 4 i.sub 0) ev lk' gl cl kv wn (fi ++ [fb]) ++ jG p fb c :: L)->DC Tryz.prog 50 [y6 b,.int .i64 i.sub,av] h' (fun v h'' => ∃ bl:Bool,v = .bool bl/\R (.bool bl) h'')) (hn:zP i.av=false) (hco:cellOk i.av=true) (hw:zA i < 100000) (hrl:c.regs.length<=100000) (s:Sat lo h (pt b2 (.cells v0.yJ 69) :: pt b1 (.cells i.row 53) :: (xt p b mb wb world S ev lk gl cl kv wn (fi ++ [fb]) ++ jG p fb c :: L)))
  : yG (.int .i64 i.op) (.pointer (some ⟨b1,0,none⟩)) h (.pointer (some ⟨b2,0,none⟩)) (.pointer (some ⟨fb,0,none⟩)) (.pointer (some ⟨b,0,none⟩)) R (nu b1 b2 fb R):=by
 rw [h0]
 unfold yG
 have g1:=(s.p 1).get
 have gm:=(s.p 2).get
 unfold yK y6 at gm
 have al:∀ r h',zg Tryz.prog .len [22] r [i.av] h'=some (.int .i64 i.args.length,h'):=fun r h'=>by
  rcases args.at s with ⟨e,e2⟩ | ⟨_,_,_,e,_⟩
  ·rw [e,e2];simp only [Kr];rfl
  ·rw [e];simp only [Kr]
 simp -implicitDefEqProofs only [EE,↓BK,Int.reduceEq,zC,xr,uL,pP,Yr,Zx,jE,kz,qU,uX,uj,vQ,g1,hn,al]
 refine kj (fun m vs h' => ∃ (j:Nat) (av:Value),j<=i.args.length/\m=i.args.length - j/\vs = [av,.int .i64 (j:Nat)]/\Sat lo h' (xN 69 3 av (((i.args.take j).map (ye c.regs)).map V.yJ) :: pt b2 (.cells v0.yJ 69) :: pt b1 (.cells i.row 53) :: (xt p b mb wb world S ev lk gl cl kv wn (fi ++ [fb]) ++ jG p fb c :: L)))
  i.args.length ⟨0,.slice none 0 0,aa0 _,rfl,rfl,ub _ _ s⟩ ?_
 rintro m vs h' ⟨j,av,hj,rfl,rfl,s1⟩
 unfold pG
 have avn:=xw s1
 by_cases hc:(j:Int) < (i.args.length:Int)
 ·obtain ⟨z,hz⟩:∃ z,i.args[j]? = some z:=⟨_,aab (by omega)⟩
  obtain ⟨bb,o,cs,t,hix,hb,hgt,hat0⟩:=(args.at s1).at hz
  simp -implicitDefEqProofs only [EE,nth,↓BK,zC,zj,pE,hc,hix,hgt,hat0]
  obtain ⟨fp,rv,hfp,sf⟩:=vL (s1.p 11)
  refine zi (by kernel_rfl) rfl (cT sf z) ?_
  have s2:=s1.push (.cells (ye c.regs z).yJ 69)
  obtain ⟨b',c',h3,a1,s3⟩:=YS (s2.p 1) (jy _) (ye c.regs z).yJ rfl (by decide) 24 (by simp only [aak,abL];omega)
  have hlen:(((i.args.take j).map (ye c.regs)).map V.yJ).length=j:=by simp;omega
  rw [hlen] at a1 s3
  have hap:∀ r,zg Tryz.prog .append [59,59] r [av,.slice (some ⟨h'.next,0,none⟩) 1 3] (h'.push (.cells (ye c.regs z).yJ 69))=some (.slice (some ⟨b',0,none⟩) (j + 1) c',h3):=fun r=>
   (IW r _ _ 1 (ye c.regs z).yJ _ rfl (by simp only [xA,zo];rfl) rfl rfl).trans a1
  unfold V.yJ at hap
  simp -implicitDefEqProofs only [EE,nth,eO,pD,pF,vv,avn,hap,inc (show j < 4611686018427387904 by omega)]
  refine ⟨i.args.length - (j + 1),by omega,j + 1,.slice (some ⟨b',0,none⟩) (j + 1) c',by omega,rfl,rfl,?_⟩
  rw [abP,hz,show (some z).toList = [z] from rfl,aaU,aaU]
  exact (s3.p 1).drop
 ·have hj2:j=i.args.length:=by omega
  subst hj2
  rw [List.take_length] at s1
  simp -implicitDefEqProofs only [EE,nth,hc]
  unfold pI
  have z1:=(s1.p 2).get
  simp -implicitDefEqProofs only [EE,zC,zj,zW,z1]
  obtain ⟨lo2,le2,s4,fr2⟩:=(s1.f [3,6]).call (L2:=[pt b (yK p mb wb S ev lk gl cl kv),xN 74 3 lk (S.lk.map uh)])
  refine zT (by kernel_rfl) rfl (tH s4 hL 4 i.sub 0) ?_
  rintro r h5 ⟨lk',s5⟩
  have s6:=fr2 _ _ s5
  have z6:=(s6.p 4).get
  simp -implicitDefEqProofs only [EE,nth,zC,zj,zW,pH,z6]
  obtain ⟨lo3,le3,rd,s7,fr3⟩:=MG (s6.p 2) (jy _)
  refine zT (by kernel_rfl) (by simp only [yC,avn,yP,zQ,cond_false]) (k lo3 h5 lk' av le3 rd (fun h' L' s'=>(fr3 h' L' s').drop) ((s7.f [2,3]).drop.drop.f [0,2,3,1])) ?_
  rintro v h8 ⟨bl,rfl,hR⟩
  rw [vO rfl]
  exact hR
end
def aA (p:Pg):List Nat->List Fr->List HP
 | fb :: fbs,c :: cs=>jG p fb c :: aA p fbs cs
 | _,_=>[]
theorem YB (p:Pg) (fb:Nat) (c:Fr):∀ (fbs:List Nat) (cs:List Fr),fbs.length=cs.length->aA p (fbs ++ [fb]) (cs ++ [c])=aA p fbs cs ++ [jG p fb c]
 | [],[],_=>rfl
 | f :: fbs,d :: cs,h=>by
   simp only [abM,aA]
   rw [YB p fb c fbs cs (by simpa using h)]
 | [],_ :: _,h=>by simp at h
 | _ :: _,[],h=>by simp at h
def CQ (lo:yE) (h:za) (p:Pg) (b mb wb:Nat) (world:List Int) (gl kv wn:Value) (S:St):Prop := ∃ ev lk cl fbs,fbs.length=S.calls.length/\Sat lo h (xt p b mb wb world S ev lk gl cl kv wn fbs ++ aA p fbs S.calls)
structure Rq (p:Pg) (x:yM):Prop where
 w:zA x < 100000
 Ty:x.op=8->0<=x.sub/\x.sub < p.globals.length
 OB:x.op=6\/x.op=7->jZ x.sub
 call:x.op=10->∃ f,0<=x.sub/\p.funcs[x.sub.toNat]? = some f/\x.args.length=f.params.length/\f.params.length<=100000 /\ ∀ r,r ∈ f.params->r < 100000
structure Rv (p:Pg) (S:St):Prop where
 fr:∀ c,c ∈ S.calls->c.regs.length<=100000/\(∀ v,v ∈ c.regs->jZ v.b)/\jZ c.kM
 at_:∀ c,c ∈ S.calls->∃ i,ZO p c=some i/\Rq p i
 low:∀ c,c ∈ S.calls.dropLast->∃ i,ZO p c=some i/\i.op=10
 many:S.calls.length<=20000
 lk:S.lk.length<=20000000
 ev:S.ev.length<=20000000
 used:0<=S.used/\S.used<=20000000
 mem:small S.mem/\S.mem.length<=100000
 gl:S.gl.length=p.globals.length
section
variable {lo:yE} {h:za} {b mb wb:Nat} {p:Pg} {S:St} {world:List Int} {gl kv wn:Value} {kept:Option (Int->Bool)}
theorem E2 {c:Fr} {i:yM} (hr:∀ v,v ∈ c.regs->jZ v.b):∀ q,yB c i=some q->q.ok:=by
 intro q hq
 have hb:jZ (ye c.regs i.a).b:=by
  unfold ye
  split
  ·exact ⟨by decide,by decide⟩
  ·rw [aaB]
   cases e:c.regs[i.a.toNat]? with
   | none=>exact ⟨by decide,by decide⟩
   | some v=>exact hr v (aaq e)
 have w64_in:∀ n:Int,jZ (ZV n):=fun n=>by
  unfold ZV jZ
  simp only [IntKind.wrap,IntKind.bits,IntKind.signed]
  constructor <;> simp <;> omega
 unfold yB at hq
 generalize ye c.regs i.a=a at hq hb
 unfold xp at hq
 have hi:isInt (j1 i.k)=true:=rfl
 cases ha:isInt a with
 | true=>
   rw [ha,hi] at hq
   simp only [acF,if_true,ks] at hq
   simp [j1] at hq
 | false=>
   rw [ha,hi] at hq
   cases hp:wZ a with
   | true=>
     rw [hp] at hq
     simp only [acA,aa8,if_false,decide_true,acF,if_true] at hq
     split at hq
     ·simp only [aaa] at hq
      subst hq
      unfold CN
      split
      ·exact ⟨⟨by decide,by decide⟩,⟨by decide,by decide⟩,⟨by decide,by decide⟩⟩
      ·exact ⟨⟨by show (-9223372036854775808:Int)<=2;decide,by show (2:Int) < 9223372036854775808;decide⟩,w64_in _,hb⟩
     ·cases hq
   | false=>
     rw [hp] at hq
     have hpi:wZ (j1 i.k)=false:=rfl
     simp [hpi] at hq
theorem PU (hp:Rd lo (wQ · p)) (hK:KV kv kept) (hwl:world.length < 4611686018427387904) (x:CQ lo h p b mb wb world gl kv wn S) (ok:Rv p S) (hne:S.calls ≠ []) :
  DC Tryz.prog 51 [y6 b] h (fun v h'=>v = .bool (qY p world kept S).2/\CQ lo h' p b mb wb world gl kv wn (qY p world kept S).1):=by
 apply GA
 obtain ⟨ev,lk,cl,fbs,hlen,s⟩:=x
 rcases abm S.calls with e | ⟨ini,c,e⟩
 ·exact absurd e hne
 rcases abm fbs with rfl | ⟨fi,fb,rfl⟩
 ·rw [e] at hlen;simp at hlen
 simp only [abq] at *
 have hl:fi.length=ini.length:=by rw [e] at hlen;simpa using hlen
 have hcm:c ∈ S.calls:=by rw [e];simp
 obtain ⟨i,hi,ig⟩:=ok.at_ c hcm
 obtain ⟨hrl,hrb,hblk⟩:=ok.fr c hcm
 have hmany:=ok.many
 have hil:ini.length < 20000:=by rw [e] at hmany;simp at hmany;omega
 have est:qY p world kept S=w4 p world kept S c i:=by
  unfold qY;rw [e,abo];simp only [hi]
 rw [est]
 rw [e,YB p fb c fi ini hl] at s
 have sx:Sat lo h (xt p b mb wb world S ev lk gl cl kv wn (fi ++ [fb]) ++ jG p fb c :: aA p fi ini):=s.perm (by
  rw [<- ace]
  refine List.Perm.trans abr ?_
  rw [List.singleton_append]
  exact List.perm_middle.symm)
 have hL:(S.lk.length + 1) * 24<=2 ^ 47:=by have:=ok.lk;omega
 have hE:(S.ev.length + 1) * 16<=2 ^ 47:=by have:=ok.ev;omega
 have back:∀ {S':St} {h':za} {ev' lk':Value} {c':Fr},S'.calls=ini ++ [c']->Sat lo h' (jG p fb c' :: (xt p b mb wb world S' ev' lk' gl cl kv wn (fi ++ [fb]) ++ aA p fi ini))->CQ lo h' p b mb wb world gl kv wn S':=by
  intro S' h' ev' lk' c' e' s'
  refine ⟨ev',lk',cl,fi ++ [fb],by rw [e'];simp [hl],?_⟩
  rw [e',YB p fb c' fi ini hl]
  refine s'.perm ?_
  rw [<- ace]
  exact (abr (l₁:=[jG p fb c']))
 have done:∀ (S':St) (v:V),(S'.calls=S.calls)->(ug S' c i v).calls=ini ++ [{ c with regs:=v7 c.regs (zA i) v,pt:=i.s }]:=by
  intro S' v e'
  unfold ug Ei
  rw [show ({ S' with calls:=S'.calls.dropLast ++ [{ c with regs:=v7 c.regs (zA i) v,pt:=i.s }] }:St).calls=S'.calls.dropLast ++ [{ c with regs:=v7 c.regs (zA i) v,pt:=i.s }] from rfl,e',e,aaI]
 have back0:∀ {S':St} {h':za} {ev' lk':Value},S'.calls=S.calls->Sat lo h' (xt p b mb wb world S' ev' lk' gl cl kv wn (fi ++ [fb]) ++ jG p fb c :: aA p fi ini)->CQ lo h' p b mb wb world gl kv wn S':=by
  intro S' h' ev' lk' e' s'
  refine back (c':=c) (by rw [e',e]) (s'.perm List.perm_middle)
 refine MK hp sx hi (by omega) fun hn hco b1 b2 h3 s3 => ?_
 have hw:=ig.w
 show yG (.int .i64 i.op) _ h3 _ _ _ _ (nu b1 b2 fb _)
 by_cases h2:i.op=2
 ·refine Td h2 hn hco hw hrl s3 fun h' s' => ?_
  have es:w4 p world kept S c i=(ug S c i (j1 i.k),true):=by unfold w4;rw [if_pos h2]
  rw [es]
  exact ⟨rfl,back (done S _ rfl) s'⟩
 by_cases h3':i.op=3
 ·refine Tf h3' hn hco hw hrl s3 fun h' s' => ?_
  have es:w4 p world kept S c i=(ug S c i (ye c.regs i.a),true):=by unfold w4;rw [if_neg h2,if_pos h3']
  rw [es]
  exact ⟨rfl,back (done S _ rfl) s'⟩
 by_cases h4:i.op=4
 ·have es:w4 p world kept S c i=(match nY i.sub (ye c.regs i.a) with
   | none=>(S,false)
   | some v=>(ug S c i v,true)):=by unfold w4;rw [if_neg h2,if_neg h3',if_pos h4];rfl
  refine Th h4 hn hco hw hrl s3 (fun h' s' q => ?_) (fun h' s' q => ?_)
  ·cases hu:nY i.sub (ye c.regs i.a) with
   | none=>rw [hu] at q;cases q
   | some u=>rw [hu] at es s';rw [es];exact ⟨rfl,back (done S _ rfl) s'⟩
  ·cases hu:nY i.sub (ye c.regs i.a) with
   | some u=>rw [hu] at q;cases q
   | none=>rw [hu] at es;rw [es];exact ⟨rfl,back0 rfl s'⟩
 by_cases h5:i.op=5
 ·obtain ⟨S1,hS1⟩:∃ S1,S1=if (i.sub=14\/i.sub=15)/\(ye c.regs i.a).k=1/\(zY c i).k=1 then xC S 3 (ye c.regs i.a).n (zY c i).n else S:=⟨_,rfl⟩
  have hS1c:S1.calls=S.calls:=by rw [hS1];split <;> rfl
  have es:w4 p world kept S c i=(match xp i.sub (ye c.regs i.a) (zY c i) with
   | none=>(S1,false)
   | some v=>(ug S1 c i v,true)):=by unfold w4;rw [if_neg h2,if_neg h3',if_neg h4,if_pos h5,hS1];rfl
  obtain ⟨o,ho⟩:∃ o,o=xp i.sub (ye c.regs i.a) (zY c i):=⟨_,rfl⟩
  rw [<- ho] at es
  refine Ti h5 hL hn hco hw hrl s3 S1 hS1 o ho (fun q h' lk' s' => ?_) (fun q h' lk' s' => ?_)
  ·cases o with
   | none=>cases q
   | some u=>rw [es];exact ⟨rfl,back (done S1 _ hS1c) s'⟩
  ·cases o with
   | some u=>cases q
   | none=>rw [es];exact ⟨rfl,back0 hS1c s'⟩
 by_cases h6:i.op=6
 ·have es:w4 p world kept S c i=(match yB c i with
   | none=>(S,false)
   | some q=>(match ZP S.mem i.sub q with
     | none=>(xC S 2 q.b q.n,false)
     | some v=>(ug (xC S 2 q.b q.n) c i v,true))):=by unfold w4;rw [if_neg h2,if_neg h3',if_neg h4,if_neg h5,if_pos h6];rfl
  refine Tj h6 hL ok.mem.1 (ig.OB (.inl h6)) (E2 hrb) hn hco hw hrl s3 (fun q u e1 e2 h' lk' s' => ?_) (fun q0 h' lk' s' => ?_)
  ·rw [e1] at es
   simp only [e2] at es
   rw [es];exact ⟨rfl,back (done (xC S 2 q.b q.n) _ rfl) s'⟩
  ·cases hA:yB c i with
   | none=>rw [hA] at es s';rw [es];exact ⟨rfl,back0 rfl s'⟩
   | some q=>
     rw [hA] at es s'
     cases hu:ZP S.mem i.sub q with
     | some u=>exact (q0 q u hA hu).elim
     | none=>simp only [hu] at es;rw [es];exact ⟨rfl,back0 (S':=xC S 2 q.b q.n) rfl s'⟩
 by_cases h7:i.op=7
 ·have es:w4 p world kept S c i=(match yB c i with
   | none=>(S,false)
   | some q=>(match jw S.mem i.sub q (ye c.regs i.b) with
     | none=>(xC S 2 q.b q.n,false)
     | some M=>(ug { xC S 2 q.b q.n with mem:=M } c i v0,true))):=by unfold w4;rw [if_neg h2,if_neg h3',if_neg h4,if_neg h5,if_neg h6,if_pos h7];rfl
  refine Tk h7 hL ok.mem.1 (ig.OB (.inr h7)) (E2 hrb) hn hco hw hrl s3 (fun q M e1 e2 h' lk' s' => ?_) (fun q0 h' lk' s' => ?_)
  ·rw [e1] at es
   simp only [e2] at es
   rw [es];exact ⟨rfl,back (done { xC S 2 q.b q.n with mem:=M } _ rfl) s'⟩
  ·cases hA:yB c i with
   | none=>rw [hA] at es s';rw [es];exact ⟨rfl,back0 rfl s'⟩
   | some q=>
     rw [hA] at es s'
     cases hu:jw S.mem i.sub q (ye c.regs i.b) with
     | some u=>exact (q0 q u hA hu).elim
     | none=>simp only [hu] at es;rw [es];exact ⟨rfl,back0 (S':=xC S 2 q.b q.n) rfl s'⟩
 by_cases h8:i.op=8
 ·have es:w4 p world kept S c i=(ug S c i (CN (S.gl.getD i.sub.toNat 0) i.k),true):=by unfold w4;rw [if_neg h2,if_neg h3',if_neg h4,if_neg h5,if_neg h6,if_neg h7,if_pos h8]
  obtain ⟨g0,g1⟩:=ig.Ty h8
  refine Tn h8 g0 (by rw [ok.gl];exact g1) hn hco hw hrl s3 fun h' s' => ?_
  rw [es];exact ⟨rfl,back (done S _ rfl) s'⟩
 by_cases h9:i.op=9
 ·have es:w4 p world kept S c i=(ug S c i (CN c.kM i.k),true):=by unfold w4;rw [if_neg h2,if_neg h3',if_neg h4,if_neg h5,if_neg h6,if_neg h7,if_neg h8,if_pos h9]
  refine To h9 hn hco hw hrl s3 fun h' s' => ?_
  rw [es];exact ⟨rfl,back (done S _ rfl) s'⟩
 by_cases h10:i.op=10
 ·have es:w4 p world kept S c i=wh p (xC S 4 i.sub 0) i.sub (i.args.map (ye c.regs)):=by unfold w4;rw [if_neg h2,if_neg h3',if_neg h4,if_neg h5,if_neg h6,if_neg h7,if_neg h8,if_neg h9,if_pos h10]
  obtain ⟨f,f0,f1,f2,f3,f4⟩:=ig.call h10
  have hf:∀ h,wQ h p->zN h i.av i.args:=fun h P=>by
   unfold ZO at hi
   cases hff:p.funcs[c.f]? with
   | none=>rw [hff] at hi;cases hi
   | some ff=>
     rw [hff] at hi
     simp only [aaC] at hi
     split at hi
     ·cases hi
     ·exact ((P.fns ff (aaq hff)).ins i (aaq hi)).args
  refine So h10 (fun h b=>hf h (hp h b)) (by rw [f2];exact f3) hL (fun lo1 h' lk' av le rd fr s' => ?_) hn hco hw hrl s3
  rw [es]
  have en:i.sub=((i.sub.toNat:Nat):Int):=(acj f0).symm
  obtain ⟨lo2,le2,s5,fr2⟩:=(s'.f [0,1,2]).call (L2:=[pt b (yK p mb wb (xC S 4 i.sub 0) ev lk' gl cl kv),xN 152 1 cl ((fi ++ [fb]).map vd),kE mb (xC S 4 i.sub 0).mem])
  have hfb:(fi ++ [fb]).length=(xC S 4 i.sub 0).calls.length:=by show _=S.calls.length;rw [e];simp [hl]
  have:=Fg (lo:=lo2) (n:=i.sub.toNat) (f:=f) (args:=i.args.map (ye c.regs)) ((hp.mono le).mono le2) (rd.mono le2) s5 f1 (by rw [aak];exact f2) hfb f4 f3
  rw [<- en] at this
  refine this.mono ?_
  rintro v h6 ⟨rfl,hq⟩
  refine ⟨_,rfl,rfl,?_⟩
  obtain ⟨E,hE'⟩:∃ E,E=wh p (xC S 4 i.sub 0) i.sub (i.args.map (ye c.regs)):=⟨_,rfl⟩
  rw [<- hE'] at hq ⊢
  have EM:E=if 20000<=S.calls.length then (xC S 4 i.sub 0,false) else (if (y1 S.mem f.frame).2.2=0 then ({ xC S 4 i.sub 0 with mem:=(y1 S.mem f.frame).1,calls:=S.calls ++ [⟨i.sub.toNat,vX f.params (i.args.map (ye c.regs)) [],(y1 S.mem f.frame).2.1,f.entry⟩] },true) else ({ xC S 4 i.sub 0 with mem:=(y1 S.mem f.frame).1 },false)):=by
   rw [hE'];unfold wh;simp only [f1];rfl
  by_cases hb:E.2=true
  ·rw [if_pos hb] at hq
   obtain ⟨fb2,cl2,s6⟩:=hq
   have s7:=fr _ _ (fr2 _ _ s6)
   split at EM
   ·rw [EM] at hb;cases hb
   split at EM
   ·subst EM
    refine ⟨ev,lk',cl2,(fi ++ [fb]) ++ [fb2],by show _=(S.calls ++ [_]).length;rw [e];simp [hl],?_⟩
    show Sat lo h6 (_ ++ aA p ((fi ++ [fb]) ++ [fb2]) (S.calls ++ [_]))
    rw [YB p fb2 _ _ S.calls (by rw [e];simp [hl]),e,YB p fb c fi ini hl]
    have s8:=s7.f [0,1,2,4,5,6,7,8,3,9]
    refine s8.perm ?_
    simp only [xt,abM,abA]
    refine List.Perm.cons _ (List.Perm.cons _ (List.Perm.cons _ (List.Perm.cons _ (List.Perm.cons _ (List.Perm.cons _ (List.Perm.cons _ (List.Perm.cons _ ?_)))))))
    have:(jG p fb2 ⟨i.sub.toNat,vX f.params (i.args.map (ye c.regs)) [],(y1 S.mem f.frame).2.1,f.entry⟩ :: jG p fb c :: aA p fi ini).Perm ((aA p fi ini ++ [jG p fb c]) ++ [jG p fb2 ⟨i.sub.toNat,vX f.params (i.args.map (ye c.regs)) [],(y1 S.mem f.frame).2.1,f.entry⟩]) :=
     (List.Perm.cons _ (abr (l₁:=[jG p fb c]))).trans (abr (l₁:=[_]))
    exact this
   ·rw [EM] at hb;cases hb
  ·rw [if_neg hb] at hq
   have s7:=fr _ _ (fr2 _ _ hq)
   have hcl:E.1.calls=S.calls/\E.1.lk=(xC S 4 i.sub 0).lk/\E.1.ev=S.ev/\E.1.gl=S.gl/\E.1.used=S.used:=by
    split at EM
    ·subst EM;exact ⟨rfl,rfl,rfl,rfl,rfl⟩
    split at EM
    ·subst EM;exact absurd rfl hb
    ·subst EM;exact ⟨rfl,rfl,rfl,rfl,rfl⟩
   refine back0 hcl.1 (ev':=ev) (lk':=lk') ?_
   unfold xt
   rw [hcl.2.1,hcl.2.2.1,hcl.2.2.2.1,hcl.2.2.2.2]
   exact s7
 by_cases h11:i.op=11
 ·obtain ⟨o,ho⟩:∃ o,o=xp i.sub (ye c.regs i.a) (zY c i):=⟨_,rfl⟩
  have es:w4 p world kept S c i=cI S c i:=by unfold w4;rw [if_neg h2,if_neg h3',if_neg h4,if_neg h5,if_neg h6,if_neg h7,if_neg h8,if_neg h9,if_neg h10,if_pos h11]
  unfold cI at es
  rw [<- ho] at es
  refine Sp h11 hL hn hco hw hrl s3 o ho fun h' lk' s' => ?_
  cases o with
  | none=>rw [es];exact ⟨rfl,back (S':=S) (c':=c) e s'⟩
  | some w=>
    rw [es]
    refine ⟨rfl,back (c':={ c with pt:=if w.n=0 then i.t else i.s }) (ev':=ev) (lk':=lk') ?_ s'⟩
    unfold Ei
    show (S.calls.dropLast ++ [_])=_
    rw [e,aaI]
 by_cases h12:i.op=12
 ·have es:w4 p world kept S c i=uQ p kept S (ye c.regs i.a):=by unfold w4;rw [if_neg h2,if_neg h3',if_neg h4,if_neg h5,if_neg h6,if_neg h7,if_neg h8,if_neg h9,if_neg h10,if_neg h11,if_pos h12]
  refine Sq h12 hn hco hw hrl s3 fun h' s' => ?_
  rw [es]
  have eF:∀ (r:List Fr) (E:St × Bool),E.1.lk=S.lk->E.1.ev=S.ev->E.1.gl=S.gl->E.1.used=S.used->True:=fun _ _ _ _ _ _=>trivial
  rcases abm ini with hini | ⟨in2,bk,hini⟩
  ·subst hini
   have hfi:fi = []:=by cases fi with
    | nil=>rfl
    | cons _ _=>simp at hl
   subst hfi
   obtain ⟨lo2,le2,s5,fr2⟩:=(s'.f [0,1,2,8]).call (L2:=[pt b (yK p mb wb S ev lk gl cl kv),xN 152 1 cl (([] ++ [fb]).map vd),kE mb S.mem,jG p fb c])
   refine (DQ (kept:=kept) s5 (by simpa using e) ok.mem.2 hblk.2 (ye c.regs i.a)).mono ?_
   rintro v h6 ⟨rfl,cl',s6⟩
   refine ⟨_,rfl,rfl,?_⟩
   have s7:=fr2 _ _ s6
   obtain ⟨E,hE'⟩:∃ E,E=uQ p kept S (ye c.regs i.a):=⟨_,rfl⟩
   rw [<- hE'] at s7 ⊢
   have hcl:E.1.calls = []/\E.1.lk=S.lk/\E.1.ev=S.ev/\E.1.gl=S.gl/\E.1.used=S.used:=by
    rw [hE'];unfold uQ
    rw [show S.calls = [c] by simpa using e]
    simp only [List.getLast?_singleton,List.dropLast_singleton,List.getLast?_nil]
    split <;> exact ⟨rfl,rfl,rfl,rfl,rfl⟩
   refine ⟨ev,lk,cl',[],by rw [hcl.1];rfl,?_⟩
   unfold xt
   rw [hcl.2.1,hcl.2.2.1,hcl.2.2.2.1,hcl.2.2.2.2,hcl.1]
   exact s7.zB 8
  ·simp only [abq] at hini
   subst hini
   rcases abm fi with rfl | ⟨fi2,fbb,hfi⟩
   ·simp at hl
   simp only [abq] at hfi
   subst hfi
   have hl2:fi2.length=in2.length:=by simpa using hl
   have hbm:bk ∈ S.calls:=by rw [e];simp
   obtain ⟨bi,hbi,hb10⟩:=ok.low bk (by rw [e,aaI];simp)
   obtain ⟨bi2,hbi2,hbg⟩:=ok.at_ bk hbm
   have:bi2=bi:=by rw [hbi] at hbi2;exact (abE hbi2).symm
   subst this
   have hwd:bi2.d < 100000:=by
    have:=hbg.w
    unfold Go.Rtl.zA Go.Rtl.wr at this
    rw [hb10] at this
    simpa using this
   rw [YB p fbb bk fi2 in2 hl2] at s'
   have s4:Sat lo h' (xt p b mb wb world S ev lk gl cl kv wn ((fi2 ++ [fbb]) ++ [fb]) ++ jG p fb c :: jG p fbb bk :: aA p fi2 in2):=s'.perm (List.Perm.append_left _ (List.Perm.cons _ (abr (l₂:=[jG p fbb bk]))))
   obtain ⟨lo2,le2,s5,fr2⟩:=(s4.f [0,1,2,8,9]).call (L2:=[pt b (yK p mb wb S ev lk gl cl kv),xN 152 1 cl (((fi2 ++ [fbb]) ++ [fb]).map vd),kE mb S.mem,jG p fb c,jG p fbb bk])
   refine (DR (hp.mono le2) s5 e hbi hK (by simp only [abT,List.length_singleton] at hil;omega) (ok.fr bk hbm).1 hwd ok.mem.2 hblk.2 (ye c.regs i.a)).mono ?_
   rintro v h6 ⟨rfl,cl',s6⟩
   refine ⟨_,rfl,rfl,?_⟩
   have s7:=fr2 _ _ s6
   obtain ⟨E,hE'⟩:∃ E,E=uQ p kept S (ye c.regs i.a):=⟨_,rfl⟩
   rw [<- hE'] at s7 ⊢
   have hcl:E.1.calls=in2 ++ [{ bk with regs:=v7 (Xa kept bk.regs) bi2.d (ye c.regs i.a),pt:=bi2.s }]/\E.1.lk=S.lk/\E.1.ev=S.ev/\E.1.gl=S.gl/\E.1.used=S.used:=by
    rw [hE'];unfold uQ
    rw [e]
    simp only [abo,aaI,hbi]
    exact ⟨trivial,trivial,trivial,trivial,trivial⟩
   refine ⟨ev,lk,cl',fi2 ++ [fbb],by rw [hcl.1];simp [hl2],?_⟩
   unfold xt
   rw [hcl.2.1,hcl.2.2.1,hcl.2.2.2.1,hcl.2.2.2.2,hcl.1,YB p fbb _ fi2 in2 hl2]
   have s8:=s7.f [0,1,2,4,5,6,7,8,3]
   refine s8.perm ?_
   simp only [abM,abA]
   refine List.Perm.cons _ (List.Perm.cons _ (List.Perm.cons _ (List.Perm.cons _ (List.Perm.cons _ (List.Perm.cons _ (List.Perm.cons _ (List.Perm.cons _ ?_)))))))
   exact (abr (l₁:=[_]))
 by_cases h13:i.op=13
 ·have es:w4 p world kept S c i=(ug { qM S 1 (Xc world S.used) with used:=S.used + 1 } c i (j1 (Xc world S.used)),true):=by unfold w4;rw [if_neg h2,if_neg h3',if_neg h4,if_neg h5,if_neg h6,if_neg h7,if_neg h8,if_neg h9,if_neg h10,if_neg h11,if_neg h12,if_pos h13]
  refine Sr h13 ok.used.1 (by have:=ok.used.2;omega) hwl hE hn hco hw hrl s3 fun h' ev' s' => ?_
  rw [es];exact ⟨rfl,back (done { qM S 1 (Xc world S.used) with used:=S.used + 1 } _ rfl) s'⟩
 by_cases h14:i.op=14
 ·have es:w4 p world kept S c i=(if (ye c.regs i.a).k=1 then (ug (qM S 2 (ye c.regs i.a).n) c i v0,true) else (S,false)):=by unfold w4;rw [if_neg h2,if_neg h3',if_neg h4,if_neg h5,if_neg h6,if_neg h7,if_neg h8,if_neg h9,if_neg h10,if_neg h11,if_neg h12,if_neg h13,if_pos h14]
  refine Ss h14 hE hn hco hw hrl s3 (fun hk h' ev' s' => ?_) (fun hk h' s' => ?_)
  ·rw [if_pos hk] at es;rw [es];exact ⟨rfl,back (done (qM S 2 (ye c.regs i.a).n) _ rfl) s'⟩
  ·rw [if_neg hk] at es;rw [es];exact ⟨rfl,back0 rfl s'⟩
 have es:w4 p world kept S c i=(ug S c i v0,true):=by unfold w4;rw [if_neg h2,if_neg h3',if_neg h4,if_neg h5,if_neg h6,if_neg h7,if_neg h8,if_neg h9,if_neg h10,if_neg h11,if_neg h12,if_neg h13,if_neg h14]
 refine NK (fun k k2 k14 hk => ?_) hn hco hw hrl s3 fun h' s' => ?_
 ·have:k=2\/k=3\/k=4\/k=5\/k=6\/k=7\/k=8\/k=9\/k=10\/k=11\/k=12\/k=13\/k=14:=by omega
  omega
 ·rw [es];exact ⟨rfl,back (done S _ rfl) s'⟩
end
section
variable {lo:yE} {h:za} {L:List HP} {ty:TypeId} {n:Nat} {sv:Value} {rows:List (List Value)}
theorem MF (s:Sat lo h (xN ty n sv rows :: L)) (hn:∀ r,r ∈ rows->r.length=n) (rows2:List (List Value)) (hn2:∀ r,r ∈ rows2->r.length=n) (bz:Nat) (hb:(rows.length + rows2.length) * bz<=2 ^ 47) (hne:rows2 ≠ []) :
  ∃ b' c' h',Ze h ty n bz rows2.length rows2.flatten sv=some (.slice (some ⟨b',0,none⟩) (rows.length + rows2.length) c',h')/\Sat lo h' (xN ty n (.slice (some ⟨b',0,none⟩) (rows.length + rows2.length) c') (rows ++ rows2) :: L):=by
 have hn3:∀ r,r ∈ rows ++ rows2->r.length=n:=fun r q=>by
  rcases aaP.1 q with q | q
  ·exact hn r q
  ·exact hn2 r q
 have hlen:(rows ++ rows2).length=rows.length + rows2.length:=by simp
 have h0:¬ rows2.length=0:=fun e=>hne (abp.1 e)
 rcases wW s with ⟨rfl,rfl,s'⟩ | ⟨b,c,cs,rfl,hc,hl,hf,s⟩
 ·refine ⟨h.next,1,h.push (.cells rows2.flatten ty),?_,?_⟩
  ·simp only [Ze]
   rw [if_neg h0,if_pos (by simp at hb;omega)];simp
  ·have q:=uI (cs:=rows2.flatten) (rows:=[] ++ rows2) (c:=1) (by decide) hn3 (by simp) (s'.push (.cells rows2.flatten ty))
   rw [hlen] at q
   exact q
 ·have hroom:roomFor c (rows.length + rows2.length) bz=true:=by
   unfold roomFor
   cases Nat.beq c 2 <;> simp only [cond_true,cond_false,abY] <;> omega
  refine ⟨h.next,w8 c (rows.length + rows2.length),(h.set b none).push (.cells (((cs.drop 0).take (rows.length * n)) ++ rows2.flatten) ty),?_,?_⟩
  ·simp only [Ze,s.get]
   rw [if_neg h0,if_pos ⟨hc,trivial,s.wr,by omega,hroom,by simp⟩]
  ·have q:=uI (rows:=rows ++ rows2) (c:=w8 c (rows.length + rows2.length)) (eR _ _) hn3 (by rw [abh,hf,aci]) ((s.forget none).push (.cells (((cs.drop 0).take (rows.length * n)) ++ rows2.flatten) ty))
   rw [hlen] at q
   exact q
end
theorem Cy {h:za} {sv:Value} {zs:List Int} (S:zN h sv zs):zJ h sv 1 (zs.map yw):=by
 rcases S with ⟨e,e2⟩ | ⟨b,off,cp,rfl,hc⟩
 ·exact .inl ⟨e,by rw [e2];rfl⟩
 ·refine .inr ⟨b,off,cp,by rw [aak],fun hz => ?_⟩
  obtain ⟨c,t,hb,hg,hat⟩:=hc (by simpa using hz)
  refine ⟨c,t,hb,hg,fun i r hr => ?_⟩
  rw [aap] at hr
  cases hz:zs[i]? with
  | none=>rw [hz] at hr;cases hr
  | some z=>
    rw [hz] at hr
    cases hr
    have:=hat i z hz
    have hlt:off + i < c.length:=by
     rcases aar (off + i) c.length with q | q
     ·exact q
     ·rw [aaj q] at this;cases this
    refine ⟨by omega,?_⟩
    rw [aa6,ab9 hlt]
    rw [aab hlt] at this
    rw [abE this]
    rfl
section
variable {lo:yE} {h:za} {L:List HP} {wv:Value} {world:List Int}
theorem Nl (hw:zN h wv world) (hl:world.length * 8<=2 ^ 47) (s:Sat lo h L):DC Tryz.prog 74 [wv] h (fun v h'=>zP v=false/\cellOk v=true/\Sat lo h' (xN 2 1 v (world.map yw) :: L)):=by
 apply sw
 unfold oc
 have SR:=Cy hw
 rcases hw with ⟨rfl,rfl⟩ | ⟨b,off,cp,rfl,hc⟩
 ·simp -implicitDefEqProofs only [EE,Np]
  exact ub _ _ s
 ·simp -implicitDefEqProofs only [EE,Lg,Pe]
  have s1:=s.push (.cells [] 2)
  have s2:Sat lo (h.push (.cells [] 2)) (xN 2 1 (.slice (some ⟨h.next,0,none⟩) 0 2) [] :: L):=uI (rows:=[]) (c:=2) (by decide) (by simp) (by simp) s1
  have hap:∀ r,zg Tryz.prog .append [26,26] r [.slice (some ⟨h.next,0,none⟩) 0 2,.slice (some ⟨b,off,none⟩) world.length cp] (h.push (.cells [] 2))=Ze (h.push (.cells [] 2)) 2 1 8 world.length (world.map yw).flatten (.slice (some ⟨h.next,0,none⟩) 0 2):=fun r=>by
   have f:=(SR.old (Old.push h (.cells [] 2))).first (by decide) (vZ (f:=yw) (fun _=>rfl) world)
   rw [aak] at f
   exact RI r _ _ world.length _ _ rfl f (by simp [yw,List.all_flatten];exact fun _ _=>rfl) (by rw [Go.Rtl.v5 (vZ (f:=yw) (fun _=>rfl) world),aak])
  by_cases h0:world = []
  ·subst h0
   have:Ze (h.push (.cells [] 2)) 2 1 8 ([]:List Int).length (([]:List Int).map yw).flatten (.slice (some ⟨h.next,0,none⟩) 0 2)=some (.slice (some ⟨h.next,0,none⟩) 0 2,h.push (.cells [] 2)):=rfl
   simp -implicitDefEqProofs only [EE]
   first | exact s2 | exact ⟨rfl,rfl,s2⟩ | exact ⟨rfl,rfl,rfl,s2⟩
  ·obtain ⟨b',c',h3,a1,s3⟩:=MF s2 (by simp) (world.map yw) (vZ (f:=yw) (fun _=>rfl) world) 8 (by simp;omega) (by simpa using h0)
   rw [aak] at a1 s3
   simp -implicitDefEqProofs only [EE,hap,a1]
   rw [aaw,aav,abA] at s3
   first | exact s3 | exact ⟨rfl,rfl,s3⟩
theorem PW (hw:zN h wv world) (hl:world.length * 8<=2 ^ 47) (s:Sat lo h L):DC Tryz.prog 46 [wv] h (fun v h' => ∃ wb wn,v=y6 wb/\Sat lo h' (pt wb (.cells [wn,.int .i64 0] 141) :: xN 2 1 wn (world.map yw) :: L)):=by
 apply GB
 unfold Iv
 refine zT (by kernel_rfl) (by simp only [yC,hw.vk,cond_false]) (Nl hw hl s) ?_
 rintro v h1 ⟨n1,c1,s1⟩
 obtain ⟨a,c,rfl⟩:=Un s1
 rw [aak] at s1
 simp -implicitDefEqProofs only [EE,Value.cells,Lb]
 refine uR s1 fun wb h2 s2 => ?_
 simp -implicitDefEqProofs only [EE]
 exact ⟨wb,_,rfl,s2⟩
end
theorem Ed {M:MM} {B:MB} (h:small M) (hb:B.size < 2147483648):small (M ++ [B]):=fun i C hC=>by
 rw [List.getElem?_append] at hC
 split at hC
 ·exact h i C hC
 ·cases hq:i - M.length with
  | zero=>rw [hq] at hC;simp at hC;subst hC;exact hb
  | succ k=>rw [hq] at hC;simp at hC
def vb (v:V):Prop:=jZ v.b
theorem Kq:jZ 0:=⟨by decide,by decide⟩
theorem fC:vb v0:=Kq
theorem so (n:Int):vb (j1 n):=Kq
theorem CF {b n:Int} (h:jZ b):vb (CN b n):=by
 unfold CN;split
 ·exact Kq
 ·exact h
theorem CG (t:Bool):vb (Xq t):=by unfold Xq;split <;> exact Kq
theorem P6 {c:Prop} [Decidable c] {x y:Option V} {v:V} (hx:x=some v->vb v) (hy:y=some v->vb v):(if c then x else y)=some v->vb v:=by
 intro h
 by_cases hc:c
 ·rw [if_pos hc] at h;exact hx h
 ·rw [if_neg hc] at h;exact hy h
theorem NV {op a b:Int} {v:V} (h:ks op a b=some v):vb v:=by
 revert h
 unfold ks
 repeat' apply P6
 all_goals intro h
 all_goals first
  | (cases h;done)
  | (have e:=abE h;rw [<- e];first | exact so _ | exact CG _)
theorem MT {op:Int} {a b v:V} (ha:vb a) (hb:vb b) (h:xp op a b=some v):vb v:=by
 unfold xp at h
 split at h
 ·exact NV h
 split at h
 ·simp only [aaa] at h;subst h;exact CF ha
 split at h
 ·simp only [aaa] at h;subst h;exact CF hb
 split at h
 ·simp only [aaa] at h;subst h;exact CF ha
 split at h
 ·unfold vV at h
  split at h
  ·simp only [aaa] at h;subst h;exact CG _
  ·cases h
 ·cases h
theorem SK {op:Int} {a v:V} (h:nY op a=some v):vb v:=by
 unfold nY at h
 repeat' (split at h)
 all_goals first
  | (cases h;done)
  | (simp only [aaa] at h;subst h;exact so _)
theorem P0 {l:List V} (h:∀ v,v ∈ l->vb v) (r:Int):vb (ye l r):=by
 unfold ye;split
 ·exact fC
 ·rw [aaB]
  cases e:l[r.toNat]? with
  | none=>exact fC
  | some v=>exact h v (aaq e)
theorem MU {l:List V} (h:∀ v,v ∈ l->vb v) (r:Int) {w:V} (hw:vb w):∀ v,v ∈ v7 l r w->vb v:=by
 intro v hv
 unfold v7 at hv
 split at hv
 ·exact h v hv
 ·rcases List.mem_or_eq_of_mem_set hv with q | rfl
  ·rcases aaP.1 q with q | q
   ·exact h v q
   ·rw [List.eq_of_mem_replicate q];exact fC
  ·exact hw
theorem np:∀ (ps:List Int) (al l:List V),(∀ v,v ∈ al->vb v)->(∀ v,v ∈ l->vb v)->∀ v,v ∈ vX ps al l->vb v
 | [],al,l,_,h=>by cases al <;> exact h
 | p :: ps,[],l,_,h=>h
 | p :: ps,a :: al,l,ha,h=>np ps al _ (fun v hv=>ha v (by simp [hv])) (MU h p (ha a (by simp)))
theorem NW (kept:Option (Int->Bool)) {l:List V} (h:∀ v,v ∈ l->vb v):∀ v,v ∈ Xa kept l->vb v:=by
 intro v hv
 cases kept with
 | none=>exact h v hv
 | some K=>
   unfold Xa at hv
   simp only [aba] at hv
   obtain ⟨k,_,rfl⟩:=hv
   split
   ·rw [aaB]
    cases e:l[k]? with
    | none=>exact fC
    | some w=>exact h w (aaq e)
   ·exact fC
theorem LZ (kept:Option (Int->Bool)) (l:List V):(Xa kept l).length=l.length:=by
 cases kept with
 | none=>rfl
 | some K=>simp [Xa]
def VC (M:MM):Prop:=small M/\M.length<=100000 /\ ∀ (i:Nat) B,M[i]? = some B->∀ a,vb (B.byte a).p
theorem Hl {M:MM} {c:Int} {p v:V} (h:VC M) (e:ZP M c p=some v):vb v:=by
 unfold ZP at e
 split at e
 ·cases e
 ·rename_i i hi
  simp only [aao] at e
  obtain ⟨B,hB,rfl⟩:=e
  unfold cX
  split
  ·exact Kq
  split
  ·exact h.2.2 i B hB _
  ·exact fC
theorem mS {M:MM} {i:Nat} {B:MB} (h:VC M) (hs:B.size < 2147483648) (hp:∀ a,vb (B.byte a).p):VC (M.set i B):=by
 refine ⟨fun j C hC => ?_,by rw [aa3];exact h.2.1,fun j C hC a => ?_⟩
 ·rw [abZ] at hC
  split at hC
  ·split at hC
   ·cases hC;exact hs
   ·cases hC
  ·exact h.1 j C hC
 ·rw [abZ] at hC
  split at hC
  ·split at hC
   ·cases hC;exact hp a
   ·cases hC
  ·exact h.2.2 j C hC a
theorem DY {M M':MM} {c:Int} {p v:V} (h:VC M) (hv:vb v) (e:jw M c p v=some M'):VC M':=by
 unfold jw at e
 split at e
 ·cases e
 split at e
 ·cases e
 ·rename_i i hi
  simp only [aao] at e
  obtain ⟨B,hB,rfl⟩:=e
  refine mS h (h.1 i B hB) fun a => ?_
  show vb ((if _ then cellOf (norm v) _ else B.byte a).p)
  split
  ·unfold cellOf norm
   repeat' split
   all_goals first | exact hv | exact fC
  ·exact h.2.2 i B hB a
theorem rQ {M:MM} {n:Int} (h:VC M):VC ((jL M n).getD M):=by
 cases e:jL M n with
 | none=>exact h
 | some M'=>
   unfold jL at e
   simp only [abV,aao] at e
   obtain ⟨i,hi,B,hB,rfl⟩:=e
   exact mS h (h.1 i B hB) fun a=>fC
theorem Hm {M:MM} {n:Int} (h:VC M):VC ((Ur M n).getD M):=by
 cases e:Ur M n with
 | none=>exact h
 | some M'=>
   unfold Ur at e
   simp only [abV,aao] at e
   obtain ⟨i,hi,B,hB,rfl⟩:=e
   refine mS h (h.1 i B hB) fun a => ?_
   show vb ((if a < _ then zc else B.byte a).p)
   split
   ·exact fC
   ·exact h.2.2 i B hB a
theorem Qd {M:MM} (n:Int) (h:VC M):VC (y1 M n).1/\jZ (y1 M n).2.1:=by
 unfold y1
 split
 ·exact ⟨h,Kq⟩
 split
 ·exact ⟨h,Kq⟩
 ·refine ⟨⟨?_,by simp;omega,fun i B hB a => ?_⟩,?_⟩
  ·exact Ed h.1 (by show n.toNat < _;omega)
  ·rw [List.getElem?_append] at hB
   split at hB
   ·exact h.2.2 i B hB a
   ·cases hq:i - M.length with
    | zero=>rw [hq] at hB;simp at hB;subst hB;exact fC
    | succ k=>rw [hq] at hB;simp at hB
  ·show jZ ((M.length:Int) + 1);constructor <;> omega
structure F6 (p:Pg):Prop where
 ins:∀ f,f ∈ p.funcs->∀ x,x ∈ f.code->Rq p x
 s:∀ f,f ∈ p.funcs->∀ x,x ∈ f.code->x.op ≠ 12->0<=x.s/\x.s < f.code.length
 t:∀ f,f ∈ p.funcs->∀ x,x ∈ f.code->x.op=11->0<=x.t/\x.t < f.code.length
 entry:∀ f,f ∈ p.funcs->0<=f.entry/\f.entry < f.code.length
 par:∀ f,f ∈ p.funcs->f.params.length<=100000 /\ ∀ r,r ∈ f.params->r < 100000
 main:0<=p.main/\p.main < p.funcs.length
 globals:p.globals.length<=200
structure M4 (p:Pg) (c:Fr):Prop where
 len:c.regs.length<=100000
 regs:∀ v,v ∈ c.regs->vb v
 kM:jZ c.kM
 at_:∃ f,p.funcs[c.f]? = some f/\0<=c.pt/\c.pt < f.code.length
structure CM (p:Pg) (S:St):Prop where
 fr:∀ c,c ∈ S.calls->M4 p c
 low:∀ c,c ∈ S.calls.dropLast->∃ i,ZO p c=some i/\i.op=10
 many:S.calls.length<=20000
 lk:(S.lk.length:Int)<=S.steps
 ev:(S.ev.length:Int)<=S.steps
 used:0<=S.used/\S.used<=S.steps
 mem:VC S.mem
 gl:S.gl.length=p.globals.length
 Rc:∀ z,z ∈ S.gl->jZ z
theorem mM {p:Pg} {c:Fr} (h:M4 p c):∃ f i,p.funcs[c.f]? = some f/\f ∈ p.funcs/\ZO p c=some i/\i ∈ f.code:=by
 obtain ⟨f,hf,h0,h1⟩:=h.at_
 refine ⟨f,f.code[c.pt.toNat]'(by omega),hf,aaq hf,?_,abN _⟩
 unfold ZO
 rw [hf]
 simp only [aaC]
 rw [if_neg (by omega),aab]
theorem CM.ok {p:Pg} {S:St} (g:F6 p) (x:CM p S) (hs:S.steps<=20000000):Rv p S where
 fr c hc:=⟨(x.fr c hc).len,(x.fr c hc).regs,(x.fr c hc).kM⟩
 at_ c hc:=by
  obtain ⟨f,i,_,hf,hi,hic⟩:=mM (x.fr c hc)
  exact ⟨i,hi,g.ins f hf i hic⟩
 low:=x.low
 many:=x.many
 lk:=by have:=x.lk;omega
 ev:=by have:=x.ev;omega
 used:=⟨x.used.1,by have:=x.used.2;omega⟩
 mem:=⟨x.mem.1,x.mem.2.1⟩
 gl:=x.gl
section
variable {p:Pg} {S:St} {world:List Int} {kept:Option (Int->Bool)} {ini:List Fr} {c:Fr}
theorem CM.top {S':St} {c':Fr} (x:CM p S) (e:S.calls=ini ++ [c]) (e':S'.calls=ini ++ [c']) (hc:M4 p c') (hs:S'.steps=S.steps + 1) (hlk:S'.lk.length<=S.lk.length + 1) (hev:S'.ev.length<=S.ev.length + 1) (hu:0<=S'.used/\S'.used<=S.used + 1) (hm:VC S'.mem) (hg:S'.gl=S.gl):CM p S' where
 fr d hd:=by
  rw [e'] at hd
  rcases aaP.1 hd with q | q
  ·exact x.fr d (by rw [e];simp [q])
  ·simp only [aaS] at q;subst q;exact hc
 low d hd:=by
  rw [e',aaI] at hd
  exact x.low d (by rw [e,aaI];exact hd)
 many:=by have:=x.many;rw [e] at this;rw [e'];simpa using this
 lk:=by have:=x.lk;omega
 ev:=by have:=x.ev;omega
 used:=⟨hu.1,by have:=x.used.2;omega⟩
 mem:=hm
 gl:=by rw [hg];exact x.gl
 Rc:=by rw [hg];exact x.Rc
theorem M4.set {c:Fr} {i:yM} {f:Go.Rtl.Fn} (g:F6 p) (x:M4 p c) (hf:p.funcs[c.f]? = some f) (hi:i ∈ f.code) (h12:i.op ≠ 12) {v:V} (hv:vb v) {r:Int} (hr:r < 100000) {l:List V} (hl:l.length<=100000) (hlv:∀ v,v ∈ l->vb v):M4 p { c with regs:=v7 l r v,pt:=i.s }:=by
 refine ⟨?_,MU hlv r hv,x.kM,f,hf,g.s f (aaq hf) i hi h12⟩
 have:=Cv l r v
 show (v7 l r v).length<=100000
 omega
theorem MJ (g:F6 p) (x:CM p S) (hne:S.calls ≠ []) (hok:(qY p world kept { S with steps:=S.steps + 1 }).2=true):CM p (qY p world kept { S with steps:=S.steps + 1 }).1:=by
 rcases abm S.calls with e | ⟨ini,c,e⟩
 ·exact absurd e hne
 simp only [abq] at e
 have hcm:c ∈ S.calls:=by rw [e];simp
 have xc:=x.fr c hcm
 obtain ⟨f,i,hf,hfm,hi,hic⟩:=mM xc
 obtain ⟨T,hT⟩:∃ T:St,T = { S with steps:=S.steps + 1 }:=⟨_,rfl⟩
 have Tc:T.calls=ini ++ [c]:=by rw [hT];exact e
 have est:qY p world kept { S with steps:=S.steps + 1 } = w4 p world kept T c i:=by
  rw [<- hT];unfold qY;rw [Tc,abo];simp only [hi]
 rw [est] at hok ⊢
 have ig:=g.ins f hfm i hic
 have ga:∀ r,vb (ye c.regs r):=P0 xc.regs
 have done:∀ (T':St) (v:V),T'.calls=ini ++ [c]->T'.steps=S.steps + 1->T'.lk.length<=S.lk.length + 1->T'.ev.length<=S.ev.length + 1->(0<=T'.used/\T'.used<=S.used + 1)->VC T'.mem->T'.gl=S.gl->i.op ≠ 12->vb v->CM p (ug T' c i v):=by
  intro T' v h1 h2 h3 h4 h5 h6 h7 h8 h9
  refine x.top (c':={ c with regs:=v7 c.regs (zA i) v,pt:=i.s }) e ?_ (M4.set g xc hf hic h8 h9 ig.w xc.len xc.regs) h2 h3 h4 h5 h6 h7
  show (T'.calls.dropLast ++ [_])=_
  rw [h1,aaI]
 have Ts:T.steps=S.steps + 1:=by rw [hT]
 have Tl:T.lk=S.lk:=by rw [hT]
 have Te:T.ev=S.ev:=by rw [hT]
 have Tu:T.used=S.used:=by rw [hT]
 have Tm:T.mem=S.mem:=by rw [hT]
 have Tg:T.gl=S.gl:=by rw [hT]
 have u0:0<=T.used/\T.used<=S.used + 1:=by rw [Tu];exact ⟨x.used.1,by omega⟩
 have T1:∀ v,i.op ≠ 12->vb v->CM p (ug T c i v):=fun v h8 hv=>done T v Tc Ts (by rw [Tl];omega) (by rw [Te];omega) u0 (by rw [Tm];exact x.mem) Tg h8 hv
 have L1:∀ k a b v,i.op ≠ 12->vb v->CM p (ug (xC T k a b) c i v):=fun k a b v h8 hv=>done (xC T k a b) v Tc Ts (by show (T.lk ++ [_]).length<=_;rw [Tl];simp) (by show T.ev.length<=_;rw [Te];omega) u0 (by show VC T.mem;rw [Tm];exact x.mem) Tg h8 hv
 unfold w4 at hok ⊢
 by_cases h2:i.op=2
 ·have h:=h2;rw [if_pos h] at hok ⊢;exact T1 _ (by omega) (so _)
 rw [if_neg h2] at hok ⊢
 by_cases h3:i.op=3
 ·have h:=h3;rw [if_pos h] at hok ⊢;exact T1 _ (by omega) (ga _)
 rw [if_neg h3] at hok ⊢
 by_cases h4:i.op=4
 ·have h:=h4;rw [if_pos h] at hok ⊢
  cases hu:nY i.sub (ye c.regs i.a) with
  | none=>rw [hu] at hok;cases hok
  | some u=>exact T1 u (by omega) (SK hu)
 rw [if_neg h4] at hok ⊢
 by_cases h5:i.op=5
 ·have h:=h5;rw [if_pos h] at hok ⊢
  have go:vb (zY c i):=by unfold zY;split;exact so _;exact ga _
  cases hu:xp i.sub (ye c.regs i.a) (zY c i) with
  | none=>simp only [hu] at hok;cases hok
  | some u=>
    simp only [hu]
    split
    ·exact L1 _ _ _ u (by omega) (MT (ga _) go hu)
    ·exact T1 u (by omega) (MT (ga _) go hu)
 rw [if_neg h5] at hok ⊢
 by_cases h6:i.op=6
 ·have h:=h6;rw [if_pos h] at hok ⊢
  cases hA:yB c i with
  | none=>rw [hA] at hok;cases hok
  | some q=>
    rw [hA] at hok
    simp only at hok ⊢
    rw [Tm] at hok ⊢
    cases hu:ZP S.mem i.sub q with
    | none=>rw [hu] at hok;cases hok
    | some u=>exact L1 _ _ _ u (by omega) (Hl x.mem hu)
 rw [if_neg h6] at hok ⊢
 by_cases h7:i.op=7
 ·have h:=h7;rw [if_pos h] at hok ⊢
  cases hA:yB c i with
  | none=>rw [hA] at hok;cases hok
  | some q=>
    rw [hA] at hok
    simp only at hok ⊢
    rw [Tm] at hok ⊢
    cases hu:jw S.mem i.sub q (ye c.regs i.b) with
    | none=>rw [hu] at hok;cases hok
    | some M=>exact done { xC T 2 q.b q.n with mem:=M } v0 Tc Ts (by show (T.lk ++ [_]).length<=_;rw [Tl];simp) (by show T.ev.length<=_;rw [Te];omega) u0 (DY x.mem (ga _) hu) Tg (by omega) fC
 rw [if_neg h7] at hok ⊢
 by_cases h8:i.op=8
 ·have h:=h8;rw [if_pos h] at hok ⊢
  refine T1 _ (by omega) (CF ?_)
  rw [Tg,aaB]
  cases hz:S.gl[i.sub.toNat]? with
  | none=>exact Kq
  | some z=>exact x.Rc z (aaq hz)
 rw [if_neg h8] at hok ⊢
 by_cases h9:i.op=9
 ·have h:=h9;rw [if_pos h] at hok ⊢;exact T1 _ (by omega) (CF xc.kM)
 rw [if_neg h9] at hok ⊢
 by_cases h10:i.op=10
 ·have h:=h10;rw [if_pos h] at hok ⊢
  obtain ⟨f2,f0,f1,f2',f3,f4⟩:=ig.call h
  unfold wh at hok ⊢
  split at hok
  ·cases hok
  rename_i hmany
  rw [if_neg hmany]
  simp only [f1] at hok ⊢
  split at hok
  ·rename_i hal
   rw [if_pos hal]
   have hm:=Qd f2.frame x.mem
   have hTm:(xC T 4 i.sub 0).mem=S.mem:=Tm
   have hTc:(xC T 4 i.sub 0).calls=S.calls:=Tc.trans e.symm
   have fI:M4 p ⟨i.sub.toNat,vX f2.params (i.args.map (ye c.regs)) [],(y1 S.mem f2.frame).2.1,f2.entry⟩ :=
    ⟨Qa _ _ _ (by simp) fun r hr=>by have:=f4 r hr;omega,np _ _ _ (fun v hv=>by simp only [aba] at hv;obtain ⟨r,_,rfl⟩:=hv;exact ga r) (fun v hv=>by cases hv),hm.2,f2,f1,g.entry f2 (aaq f1)⟩
   have hm':¬ 20000<=S.calls.length:=by have q:=hmany;rw [hTc] at q;exact q
   clear hmany
   rw [hTm,hTc] at *
   refine ⟨fun d hd => ?_,fun d hd => ?_,?_,?_,?_,⟨u0.1,?_⟩,hm.1,by show T.gl.length=_;rw [Tg];exact x.gl,by show ∀ z,z ∈ T.gl->_;rw [Tg];exact x.Rc⟩
   ·rcases aaP.1 hd with q | q
    ·exact x.fr d q
    ·simp only [aaS] at q;subst q;exact fI
   ·have hd:d ∈ (S.calls ++ [(⟨i.sub.toNat,vX f2.params (i.args.map (ye c.regs)) [],(y1 S.mem f2.frame).2.1,f2.entry⟩:Fr)]).dropLast:=hd
    rw [aaI,e] at hd
    rcases aaP.1 hd with q | q
    ·exact x.low d (by rw [e,aaI];exact q)
    ·simp only [aaS] at q;subst q;exact ⟨i,hi,h⟩
   ·show (S.calls ++ [_]).length<=20000
    simp;omega
   ·show (((T.lk ++ [_]).length:Nat):Int)<=T.steps
    rw [Tl,Ts];have:=x.lk;simp;omega
   ·show ((T.ev.length:Nat):Int)<=T.steps
    rw [Te,Ts];have:=x.ev;omega
   ·show T.used<=T.steps
    rw [Tu,Ts];have:=x.used.2;omega
  ·cases hok
 rw [if_neg h10] at hok ⊢
 by_cases h11:i.op=11
 ·have h:=h11;rw [if_pos h] at hok ⊢
  unfold cI at hok ⊢
  cases hu:xp i.sub (ye c.regs i.a) (zY c i) with
  | none=>rw [hu] at hok;cases hok
  | some w=>
    simp only
    refine x.top (c':={ c with pt:=if w.n=0 then i.t else i.s }) e ?_ ⟨xc.len,xc.regs,xc.kM,f,hf,?_⟩ Ts (by show (T.lk ++ [_]).length<=_;rw [Tl];simp) (by show T.ev.length<=_;rw [Te];omega) u0 (by show VC T.mem;rw [Tm];exact x.mem) Tg
    ·show (T.calls.dropLast ++ [_])=_
     rw [Tc,aaI]
    ·show 0<=(if w.n=0 then i.t else i.s)/\(if w.n=0 then i.t else i.s) < _
     split
     ·exact g.t f hfm i hic h
     ·exact g.s f hfm i hic (by omega)
 rw [if_neg h11] at hok ⊢
 by_cases h12:i.op=12
 ·have h:=h12;rw [if_pos h] at hok ⊢
  unfold uQ at hok ⊢
  rw [Tc,abo,aaI] at hok ⊢
  simp only at hok ⊢
  rw [Tm] at hok ⊢
  rcases abm ini with hini | ⟨in2,bk,hini⟩
  ·subst hini
   simp only [List.getLast?_nil] at hok ⊢
   split at hok
   ·rename_i hk;rw [if_pos hk]
    refine ⟨fun d hd=>(by cases hd),fun d hd=>(by cases hd),by show ([]:List Fr).length<=_;simp,?_,?_,⟨u0.1,?_⟩,rQ x.mem,by show T.gl.length=_;rw [Tg];exact x.gl,by show ∀ z,z ∈ T.gl->_;rw [Tg];exact x.Rc⟩
    ·show ((T.lk.length:Nat):Int)<=T.steps;rw [Tl,Ts];have:=x.lk;omega
    ·show ((T.ev.length:Nat):Int)<=T.steps;rw [Te,Ts];have:=x.ev;omega
    ·show T.used<=T.steps;rw [Tu,Ts];have:=x.used.2;omega
   ·cases hok
  ·simp only [abq] at hini
   subst hini
   rw [abo] at hok ⊢
   simp only at hok ⊢
   have hbm:bk ∈ S.calls:=by rw [e];simp
   have xb:=x.fr bk hbm
   obtain ⟨fb,bi,hfb,hfbm,hbi,hbic⟩:=mM xb
   obtain ⟨bi2,hbi2,h10'⟩:=x.low bk (by rw [e,aaI];simp)
   have:bi2=bi:=by rw [hbi] at hbi2;exact (abE hbi2).symm
   subst this
   simp only [hbi,aaI] at hok ⊢
   have hwd:bi2.d < 100000:=by
    have:=(g.ins fb hfbm bi2 hbic).w
    unfold Go.Rtl.zA Go.Rtl.wr at this
    rw [h10'] at this
    simpa using this
   have fI:=M4.set (r:=bi2.d) (v:=ye c.regs i.a) (l:=Xa kept bk.regs) g xb hfb hbic (by omega) (ga _) hwd (by rw [LZ];exact xb.len) (NW kept xb.regs)
   refine ⟨fun d hd => ?_,fun d hd => ?_,?_,?_,?_,⟨u0.1,?_⟩,rQ x.mem,by show T.gl.length=_;rw [Tg];exact x.gl,by show ∀ z,z ∈ T.gl->_;rw [Tg];exact x.Rc⟩
   ·rcases aaP.1 hd with q | q
    ·exact x.fr d (by rw [e];simp [q])
    ·simp only [aaS] at q;subst q;exact fI
   ·have hd:d ∈ (in2 ++ [({ bk with regs:=v7 (Xa kept bk.regs) bi2.d (ye c.regs i.a),pt:=bi2.s }:Fr)]).dropLast:=hd
    rw [aaI] at hd
    exact x.low d (by rw [e,aaI];simp [hd])
   ·show (in2 ++ [_]).length<=20000
    have:=x.many;rw [e] at this;simp at this ⊢;omega
   ·show ((T.lk.length:Nat):Int)<=T.steps;rw [Tl,Ts];have:=x.lk;omega
   ·show ((T.ev.length:Nat):Int)<=T.steps;rw [Te,Ts];have:=x.ev;omega
   ·show T.used<=T.steps;rw [Tu,Ts];have:=x.used.2;omega
 rw [if_neg h12] at hok ⊢
 by_cases h13:i.op=13
 ·have h:=h13;rw [if_pos h] at hok ⊢
  exact done _ _ Tc Ts (by show T.lk.length<=_;rw [Tl];omega) (by show (T.ev ++ [_]).length<=_;rw [Te];simp) (by show 0<=T.used + 1/\T.used + 1<=_;rw [Tu];have:=x.used.1;omega) (by show VC T.mem;rw [Tm];exact x.mem) Tg (by omega) (so _)
 rw [if_neg h13] at hok ⊢
 by_cases h14:i.op=14
 ·have h:=h14;rw [if_pos h] at hok ⊢
  split at hok
  ·rename_i hk;rw [if_pos hk]
   exact done (qM T 2 _) _ Tc Ts (by show T.lk.length<=_;rw [Tl];omega) (by show (T.ev ++ [_]).length<=_;rw [Te];simp) u0 (by show VC T.mem;rw [Tm];exact x.mem) Tg (by omega) fC
  ·cases hok
 rw [if_neg h14] at hok ⊢
 exact T1 _ h12 fC
end
theorem rG:∀ (n:Nat) (l:List Int),l.Nodup->(∀ x,x ∈ l->0<=x/\x < n)->l.length<=n
 | 0,l,_,h=>by
   cases l with
   | nil=>exact aah _
   | cons a l=>have:=h a (by simp);omega
 | n + 1,l,hd,h=>by
   have:=rG n (l.erase (n:Int)) (hd.erase _) fun x hx=>by
    rw [hd.mem_erase_iff] at hx
    have:=h x hx.2
    omega
   rw [List.length_erase] at this
   split at this <;> omega
theorem Ww {n m:Int} (h:Go.Rtl.yp n m=true):0<=n/\n < m:=by
 unfold Go.Rtl.yp at h
 simpa using h
theorem fj {l:List Int} {regs:Int} (h:Go.Rtl.Qw l regs=true):l.Nodup /\ ∀ x,x ∈ l->0<=x/\x < regs:=by
 unfold Go.Rtl.Qw at h
 rw [aas] at h
 have at_:∀ i,(hi:i < l.length)->(0<=l[i]/\l[i] < regs) /\ ∀ k,(hk:k < i)->l[k] ≠ l[i]:=by
  intro i hi
  have:=h i (aa7.2 hi)
  unfold Go.Rtl.Ui at this
  rw [aac,aas] at this
  obtain ⟨a,b⟩:=this
  have e:l.getD i 0=l[i]:=by rw [aaB,aab hi];rfl
  rw [e] at a b
  refine ⟨Ww a,fun k hk q => ?_⟩
  have:=b k (aa7.2 hk)
  have e2:l.getD k 0=l[k]'(by omega):=by rw [aaB,aab (by omega)];rfl
  rw [e2] at this
  simp [q] at this
 refine ⟨?_,fun x hx => ?_⟩
 ·rw [ab1,List.pairwise_iff_getElem]
  intro i j hi hj hij
  exact (at_ j hj).2 i hij
 ·obtain ⟨i,hi,rfl⟩:=abO hx
  exact (at_ i hi).1
theorem Lm {n:Int} (h:Go.Rtl.Kf n=true):jZ n:=by
 unfold Go.Rtl.Kf at h
 simp at h
 unfold jZ
 omega
theorem iF {p:Pg} (h:Go.Rtl.uH p=true):F6 p:=by
 unfold Go.Rtl.uH at h
 rw [aac,aac,aas,aas] at h
 obtain ⟨hs,hg,hf⟩:=h
 unfold Go.Rtl.Qm at hs
 simp only [aac,aat,decide_eq_false_iff_not] at hs
 have fn:∀ f,f ∈ p.funcs->((f.regs<=5000/\0<=f.entry/\f.entry < f.code.length)/\(f.params.Nodup /\ ∀ x,x ∈ f.params->0<=x/\x < f.regs)) /\ ∀ x,x ∈ f.code->Go.Rtl.ju f x=true/\Go.Rtl.kD p x=true:=by
  intro f hm
  have:=hf f hm
  rw [aac,aas] at this
  obtain ⟨r,i⟩:=this
  unfold Go.Rtl.vD at r
  rw [aac,aac,aas] at r
  obtain ⟨r1,r2,r3⟩:=r
  unfold Go.Rtl.Wv at r1
  simp only [aac,aat,decide_eq_false_iff_not] at r1
  exact ⟨⟨by omega,fj r2⟩,fun x hx=>⟨r3 x hx,i x hx⟩⟩
 have par:∀ f,f ∈ p.funcs->f.params.length<=100000 /\ ∀ r,r ∈ f.params->r < 100000:=by
  intro f hm
  obtain ⟨⟨⟨a,_⟩,b,c⟩,_⟩:=fn f hm
  refine ⟨?_,fun r hr=>by have:=c r hr;omega⟩
  have:=rG f.regs.toNat f.params b fun x hx=>by have:=c x hx;omega
  omega
 have ins:∀ f,f ∈ p.funcs->∀ x,x ∈ f.code->(∀ s,s ∈ Go.Rtl.wu x->0<=s/\s < f.code.length)/\Go.Rtl.Wo f x=true/\Go.Rtl.kD p x=true:=by
  intro f hm x hx
  obtain ⟨_,q⟩:=fn f hm
  obtain ⟨q1,q2⟩:=q x hx
  unfold Go.Rtl.ju at q1
  simp only [aac,aas] at q1
  exact ⟨fun s hs=>Ww (q1.2.2.1 s hs),q1.2.2.2.2,q2⟩
 refine ⟨fun f hm x hx => ?_,fun f hm x hx h12 => ?_,fun f hm x hx h11 => ?_,fun f hm=>(fn f hm).1.1.2,par,by omega,by omega⟩
 ·obtain ⟨_,m,ip⟩:=ins f hm x hx
  obtain ⟨⟨⟨hregs,_⟩,_⟩,_⟩:=fn f hm
  unfold Go.Rtl.Wo at m
  simp only [aac,aaV,decide_eq_true_eq] at m
  obtain ⟨_,_,m⟩:=m
  unfold Go.Rtl.kD at ip
  rw [aac] at ip
  obtain ⟨i1,i2⟩:=ip
  refine ⟨?_,fun h8 => ?_,fun h67 => ?_,fun h10 => ?_⟩
  ·unfold zA
   split
   ·rename_i hw
    rcases m with ⟨_,m⟩ | m
    ·omega
    ·unfold Go.Rtl.Vj Go.Rtl.XB at m
     rw [hw] at m
     simp only [aac,aa4,acE] at m
     have:=Ww m.2
     omega
   ·omega
  ·unfold Go.Rtl.He at i2
   rw [h8] at i2
   simp only [decide_true,aa4,acE,aac] at i2
   have:=Ww i2.1
   omega
  ·rcases m with ⟨m,_⟩ | m
   ·omega
   ·unfold Go.Rtl.Vj Go.Rtl.Zi at m
    rw [aac] at m
    have m:=m.1
    rw [if_neg (by omega),if_neg (by omega),if_neg (by omega),if_neg (by omega),if_pos (by omega)] at m
    exact Lm m
  ·unfold Go.Rtl.eP at i1
   rw [h10] at i1
   simp only [decide_true,aa4,acE,aac,decide_eq_true_eq] at i1
   have w:=Ww i1.1
   obtain ⟨g,hg⟩:∃ g,p.funcs[x.sub.toNat]? = some g:=⟨_,aab (by omega)⟩
   have hpa:Go.Rtl.Wr p x.sub=g.params.length:=by simp only [Go.Rtl.Wr,hg]
   rw [hpa] at i1
   have gm:=aaq hg
   exact ⟨g,w.1,hg,by omega,par g gm⟩
 ·refine (ins f hm x hx).1 x.s ?_
  unfold Go.Rtl.wu
  rw [if_neg h12]
  split <;> simp
 ·refine (ins f hm x hx).1 x.t ?_
  unfold Go.Rtl.wu
  rw [if_neg (by omega),if_pos h11]
  simp
theorem tC:∀ (ns:List Int) (M:MM) (l:List Int),VC M->(∀ z,z ∈ l->jZ z)->VC (wR ns M l).1/\(wR ns M l).2.length=l.length + ns.length /\ ∀ z,z ∈ (wR ns M l).2->jZ z
 | [],M,l,h,hl=>⟨h,by simp [wR],hl⟩
 | n :: ns,M,l,h,hl=>by
   have a:=Qd n h
   obtain ⟨b,c,d⟩:=tC ns ((Ur (y1 M n).1 (y1 M n).2.1).getD (y1 M n).1) (l ++ [(y1 M n).2.1]) (Hm a.1) fun z hz=>by
    rcases aaP.1 hz with q | q
    ·exact hl z q
    ·simp only [aaS] at q;subst q;exact a.2
   refine ⟨b,?_,d⟩
   show (wR ns _ _).2.length=_
   rw [c];simp;omega
theorem mH:∀ (ns:List Int) (n:Int) (M:MM) (l:List Int),wR (ns ++ [n]) M l=(((Ur (y1 (wR ns M l).1 n).1 (y1 (wR ns M l).1 n).2.1).getD (y1 (wR ns M l).1 n).1),(wR ns M l).2 ++ [(y1 (wR ns M l).1 n).2.1])
 | [],n,M,l=>rfl
 | m :: ns,n,M,l=>mH ns n _ _
theorem B7:VC []:=⟨fun i B h=>(by cases h),by decide,fun i B h=>(by cases h)⟩
def KC (p:Pg):St:=⟨(wR p.globals [] []).1,0,0,0,[],[],0,(wR p.globals [] []).2,[]⟩
theorem FL {p:Pg} (g:F6 p) (args:List Int) (hok:(vm p args).2=true):CM p (vm p args).1:=by
 obtain ⟨gm,gl,gb⟩:=tC p.globals [] [] B7 (fun z h=>by cases h)
 have e:vm p args=wh p (KC p) p.main (args.map j1):=rfl
 rw [e] at hok ⊢
 unfold wh at hok ⊢
 rw [if_neg (by show ¬ 20000<=0;omega)] at hok ⊢
 obtain ⟨f,hf⟩:∃ f,p.funcs[p.main.toNat]? = some f:=⟨_,aab (by have:=g.main;omega)⟩
 have fm:=aaq hf
 simp only [hf] at hok ⊢
 split at hok
 ·rename_i hal
  rw [if_pos hal]
  have a:=Qd f.frame gm
  refine ⟨fun c hc => ?_,fun c hc=>(by cases hc),?_,?_,?_,⟨Int.le_refl _,Int.le_refl _⟩,a.1,?_,gb⟩
  ·have hc:c ∈ [(⟨p.main.toNat,vX f.params (args.map j1) [],(y1 (KC p).mem f.frame).2.1,f.entry⟩:Fr)]:=hc
   simp only [aaS] at hc
   subst hc
   refine ⟨?_,np _ _ _ (fun v hv => ?_) (fun v hv=>by cases hv),a.2,f,hf,g.entry f fm⟩
   ·exact Qa _ _ _ (by simp) fun r hr=>by have:=(g.par f fm).2 r hr;omega
   ·simp only [aba] at hv
    obtain ⟨n,_,rfl⟩:=hv
    exact so n
  ·show ([] ++ [_]).length<=20000
   simp
  ·show ((0:Nat):Int)<=0;omega
  ·show ((0:Nat):Int)<=0;omega
  ·show (wR p.globals [] []).2.length=_
   rw [gl];simp
 ·cases hok
structure Ext (S S':St):Prop where
 ev:S.ev <+: S'.ev
 lk:S.lk <+: S'.lk
theorem Ext.refl (S:St):Ext S S:=⟨ab3 _,ab3 _⟩
theorem Ext.trans {a b c:St} (x:Ext a b) (y:Ext b c):Ext a c:=⟨x.ev.trans y.ev,x.lk.trans y.lk⟩
theorem U7 {S S':St} (h1:S'.ev=S.ev) (h2:S'.lk=S.lk):Ext S S':=⟨h1 ▸ ab3 _,h2 ▸ ab3 _⟩
theorem BH (S:St) (k a b:Int):Ext S (xC S k a b):=⟨ab3 _,List.prefix_append _ _⟩
theorem rF (S:St) (k v:Int):Ext S (qM S k v):=⟨List.prefix_append _ _,ab3 _⟩
structure aS (S:St) (r:St × Bool):Prop where
 ext:Ext S r.1
 steps:r.1.steps=S.steps
 kind:r.1.kind=S.kind\/r.1.kind=1
theorem aS.refl (S:St) (b:Bool):aS S (S,b):=⟨Ext.refl S,rfl,.inl rfl⟩
theorem jx {S S':St} (c:Fr) (i:yM) (v:V) (b:Bool) (x:aS S (S',b)):aS S (ug S' c i v,b):=⟨x.ext.trans (U7 rfl rfl),x.steps,x.kind⟩
theorem Uq (S:St) (k a b:Int) (o:Bool):aS S (xC S k a b,o):=⟨BH S k a b,rfl,.inl rfl⟩
theorem HJ (S:St) (k v:Int) (o:Bool):aS S (qM S k v,o):=⟨rF S k v,rfl,.inl rfl⟩
theorem HI {S S0:St} (p:Pg) (n:Int) (args:List V) (x:aS S0 (S,true)):aS S0 (wh p S n args):=by
 have y:∀ b,aS S0 (S,b):=fun b=>⟨x.ext,x.steps,x.kind⟩
 unfold wh
 split
 ·exact y _
 ·split
  ·exact y _
  ·split
   ·exact ⟨x.ext.trans (U7 rfl rfl),x.steps,x.kind⟩
   ·exact ⟨x.ext.trans (U7 rfl rfl),x.steps,x.kind⟩
theorem HK (p:Pg) (kept:Option (Int->Bool)) (S:St) (v:V):aS S (uQ p kept S v):=by
 unfold uQ
 split
 ·exact aS.refl _ _
 ·split
  ·split
   ·exact ⟨U7 rfl rfl,rfl,.inr rfl⟩
   ·exact ⟨U7 rfl rfl,rfl,.inl rfl⟩
  ·split
   ·exact aS.refl _ _
   ·exact ⟨U7 rfl rfl,rfl,.inl rfl⟩
theorem MN (S:St) (c:Fr) (i:yM):aS S (cI S c i):=by
 unfold cI
 split
 ·exact aS.refl _ _
 ·exact ⟨(BH S 1 _ 0).trans (U7 rfl rfl),rfl,.inl rfl⟩
theorem HL (p:Pg) (world:List Int) (kept:Option (Int->Bool)) (S:St) (c:Fr) (i:yM):aS S (w4 p world kept S c i):=by
 unfold w4
 by_cases h2:i.op=2
 ·rw [if_pos h2];exact jx _ _ _ _ (aS.refl _ _)
 rw [if_neg h2]
 by_cases h3:i.op=3
 ·rw [if_pos h3];exact jx _ _ _ _ (aS.refl _ _)
 rw [if_neg h3]
 by_cases h4:i.op=4
 ·rw [if_pos h4]
  cases nY i.sub (ye c.regs i.a) with
  | none=>exact aS.refl _ _
  | some v=>exact jx _ _ _ _ (aS.refl _ _)
 rw [if_neg h4]
 by_cases h5:i.op=5
 ·rw [if_pos h5]
  have h:∀ o,aS S ((if (i.sub=14\/i.sub=15)/\(ye c.regs i.a).k=1/\(zY c i).k=1 then xC S 3 (ye c.regs i.a).n (zY c i).n else S),o):=by
   intro o
   split
   ·exact Uq _ _ _ _ _
   ·exact aS.refl _ _
  cases xp i.sub (ye c.regs i.a) (zY c i) with
  | none=>exact h _
  | some v=>exact jx _ _ _ _ (h _)
 rw [if_neg h5]
 by_cases h6:i.op=6
 ·rw [if_pos h6]
  cases yB c i with
  | none=>exact aS.refl _ _
  | some q=>
    simp only []
    cases ZP S.mem i.sub q with
    | none=>exact Uq _ _ _ _ _
    | some v=>exact jx _ _ _ _ (Uq _ _ _ _ _)
 rw [if_neg h6]
 by_cases h7:i.op=7
 ·rw [if_pos h7]
  cases yB c i with
  | none=>exact aS.refl _ _
  | some q=>
    simp only []
    cases jw S.mem i.sub q (ye c.regs i.b) with
    | none=>exact Uq _ _ _ _ _
    | some M=>
      have:=Uq S 2 q.b q.n true
      exact jx _ _ _ _ ⟨this.ext.trans (U7 rfl rfl),rfl,.inl rfl⟩
 rw [if_neg h7]
 by_cases h8:i.op=8
 ·rw [if_pos h8];exact jx _ _ _ _ (aS.refl _ _)
 rw [if_neg h8]
 by_cases h9:i.op=9
 ·rw [if_pos h9];exact jx _ _ _ _ (aS.refl _ _)
 rw [if_neg h9]
 by_cases h10:i.op=10
 ·rw [if_pos h10];exact HI _ _ _ (Uq _ _ _ _ _)
 rw [if_neg h10]
 by_cases h11:i.op=11
 ·rw [if_pos h11];exact MN _ _ _
 rw [if_neg h11]
 by_cases h12:i.op=12
 ·rw [if_pos h12];exact HK _ _ _ _
 rw [if_neg h12]
 by_cases h13:i.op=13
 ·rw [if_pos h13];exact jx _ _ _ _ ⟨(rF S 1 _).trans (U7 rfl rfl),rfl,.inl rfl⟩
 rw [if_neg h13]
 by_cases h14:i.op=14
 ·rw [if_pos h14]
  by_cases hk:(ye c.regs i.a).k=1
  ·rw [if_pos hk];exact jx _ _ _ _ (HJ _ _ _ _)
  ·rw [if_neg hk];exact aS.refl _ _
 rw [if_neg h14];exact jx _ _ _ _ (aS.refl _ _)
theorem MO (p:Pg) (world:List Int) (kept:Option (Int->Bool)) (S:St):aS S (qY p world kept S):=by
 unfold qY
 split
 ·exact aS.refl _ _
 ·split
  ·exact aS.refl _ _
  ·exact HL _ _ _ _ _ _
def goes (r:St × Bool):Prop:=r.2=true/\r.1.kind=0
instance (r:St × Bool):Decidable (goes r):=by unfold goes;infer_instance
section
variable (p:Pg) (world:List Int) (kept:Option (Int->Bool))
def m3 (r:St × Bool):St × Bool:=if goes r then qY p world kept { r.1 with steps:=r.1.steps + 1 } else r
def cY:Nat->St × Bool->St × Bool
 | 0,r=>r
 | n + 1,r=>cY n (m3 p world kept r)
def rP (r:St × Bool):St × Bool:=if goes r then ({ r.1 with kind:=2 },r.2) else r
theorem rO:∀ (n:Nat) (r:St × Bool),¬ goes r->cY p world kept n r=r
 | 0,r,h=>rfl
 | n + 1,r,h=>by
   unfold cY m3
   rw [if_neg h]
   exact rO n r h
theorem rN:∀ (n:Nat) (r:St × Bool),Vm p world kept n r=rP (cY p world kept n r)
 | 0,(S,ok)=>rfl
 | n + 1,(S,ok)=>by
   show (if ok=true/\S.kind=0 then Vm p world kept n (qY p world kept { S with steps:=S.steps + 1 }) else (S,ok))=rP (cY p world kept n (m3 p world kept (S,ok)))
   by_cases h:ok=true/\S.kind=0
   ·have g:goes (S,ok):=h
    rw [if_pos h,rN n]
    unfold m3
    rw [if_pos g]
   ·have g:¬ goes (S,ok):=h
    rw [if_neg h]
    unfold m3
    rw [if_neg g,rO p world kept n _ g]
    unfold rP
    rw [if_neg g]
end
theorem gW (p:Pg) (args:List Int):(vm p args).1.kind=0/\(vm p args).1.steps=0/\(vm p args).1.ev = []/\(vm p args).1.lk = []:=by
 unfold vm wh
 split
 ·exact ⟨rfl,rfl,rfl,rfl⟩
 ·split
  ·exact ⟨rfl,rfl,rfl,rfl⟩
  ·split <;> exact ⟨rfl,rfl,rfl,rfl⟩
end Go.Rm
