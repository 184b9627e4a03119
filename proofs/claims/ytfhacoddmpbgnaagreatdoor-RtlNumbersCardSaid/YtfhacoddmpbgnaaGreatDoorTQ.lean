/- A part of the proof. -/
import Derived.Test.YtfhacoddmpbgnaaGreatDoorTP
import Derived.Test.YtfhacoddmpbgnaaGreatDoorTO
import Derived.Test.YtfhacoddmpbgnaaGreatDoorTJ
import Derived.Test.YtfhacoddmpbgnaaGreatDoorTL
import Derived.Test.YtfhacoddmpbgnaaGreatDoorTD
set_option linter.unusedVariables false
set_option linter.unusedSimpArgs false
set_option maxRecDepth 100000
namespace Go.Rl
open Go.Ai Go.Proofs
open Go.Rn (vW gI Y6 U0 J4 We TI TF TP)
open Go.Rtl (yM Pg wQ v8 xK zN zJ Old inc jV iD Ri Qk Ql ZT XA Zj Um tV Ki J8 kL kr j4 v5 wf_set)
open Go.Rm (xN yw wW ub uI VF xw vE y7 Vq Jg vZ Rd Rd.of Rd.at Xe)
theorem TF.tO {nodes regs:Bool} {f f0 g:Go.Rtl.Fn} (e:f0.core=f.core) (t:TF nodes regs f0 g):TF nodes regs f g:=by
 have hrg:f0.regs=f.regs:=by have:=congrArg Go.Rtl.Fn.regs e;exact this
 have hpa:f0.params=f.params:=by have:=congrArg Go.Rtl.Fn.params e;exact this
 have hfr:f0.frame=f.frame:=by have:=congrArg Go.Rtl.Fn.frame e;exact this
 have hen:f0.entry=f.entry:=by have:=congrArg Go.Rtl.Fn.entry e;exact this
 have hco:f0.code.map yM.core=f.code.map yM.core:=by have:=congrArg Go.Rtl.Fn.code e;exact this
 have hlen:f0.code.length=f.code.length:=by simpa using congrArg List.length hco
 refine ⟨by rw [t.params,hpa,hrg],t.regs.trans hrg,t.frame.trans hfr,by rw [t.entry,hen,hlen],t.len.trans hlen,fun i x hx => ?_⟩
 have hil:=(aa1.1 hx).1
 have e2:=congrArg (fun l=>l[i]?) hco
 have hx0:f0.code[i]? = some (f0.code[i]'(by omega)):=aab (by omega)
 generalize f0.code[i]'(by omega)=x0 at hx0
 simp only [aap,hx,hx0,abz,aaa] at e2
 obtain ⟨y,hy,ti⟩:=t.code i x0 hx0
 rw [hlen] at hy ti
 rw [hrg] at ti
 have f1:=congrArg yM.op e2
 have f2:=congrArg yM.sub e2
 have f3:=congrArg yM.a e2
 have f4:=congrArg yM.b e2
 have f5:=congrArg yM.d e2
 have f6:=congrArg yM.k e2
 have f7:=congrArg yM.args e2
 have f8:=congrArg yM.s e2
 have f9:=congrArg yM.t e2
 dsimp only at f1 f2 f3 f4 f5 f6 f7 f8 f9
 exact ⟨y,hy,ti.op.trans f1,ti.sub.trans f2,by rw [ti.a,f3],by rw [ti.b,f4],by rw [ti.d,f5],ti.k.trans f6,by rw [ti.args,f7],by rw [ti.s,f8],by rw [ti.t,f9]⟩
structure nC (g:Go.Rtl.Fn):Prop where
 params:g.params.length<=17592186043904
 code:g.code.length<=5000
 args:∀ y,y ∈ g.code->y.args.length<=17592186043904
theorem nC.tO {f f0:Go.Rtl.Fn} (e:f0.core=f.core) (t:nC f):nC f0:=by
 have hpa:f0.params=f.params:=by have:=congrArg Go.Rtl.Fn.params e;exact this
 have hco:f0.code.map yM.core=f.code.map yM.core:=by have:=congrArg Go.Rtl.Fn.code e;exact this
 have hlen:f0.code.length=f.code.length:=by simpa using congrArg List.length hco
 refine ⟨by rw [hpa];exact t.params,by rw [hlen];exact t.code,fun y hy => ?_⟩
 obtain ⟨i,hi,rfl⟩:=abO hy
 have e:=congrArg (fun l=>l[i]?) hco
 simp only [aap,aab hi,aab (show i < f.code.length by omega),abz,aaa] at e
 have e2:(f0.code[i]).args=(f.code[i]'(by omega)).args:=by have:=congrArg yM.args e;exact this
 rw [e2]
 exact t.args _ (abN _)
section
variable {lo:yE} {h:za} {L:List HP}
theorem DG {f:Go.Rtl.Fn} (s:Sat lo h (iD f :: L)) (w:nC f):v8 h f:=Ki s w.params (by have:=w.code;omega) w.args
theorem Sx {q:Pg} (s:Sat lo h (xN 45 6 q.fv (q.funcs.map Go.Rtl.Fn.row) :: vB (q.funcs.map iD) :: xN 3 1 q.gv (q.globals.map yw) :: L)) (h1:q.globals.length<=17592186043904) (h2:q.funcs.length * 88<=140737488351232) (h3:∀ f,f ∈ q.funcs->nC f):wQ h q :=
 ⟨tV s (by simp),h1,y7 s (kr _),h2,fun f hf=>DG (Qk (s.p 1) (List.mem_map_of_mem hf)) (h3 f hf)⟩
theorem PV {b off:Nat} {cs vs:List Value} {t:TypeId} {K:za->Prop} (s:Sat lo h (pt b (.cells cs t) :: L)) (wf:VJ h) (hl:off + vs.length<=cs.length) (hc:vs.all cellOk=true) (k:∀ h',VJ h'->Sat lo h' (pt b (.cells (zf cs off vs) t) :: L)->K h'):opt (yU h b off vs) K:=by
 rw [tW s.get,if_pos ⟨hl,s.wr,hc⟩]
 exact k _ (wf_set wf s.lt _) (s.set _)
theorem PY {b13:Nat} {nodes regs:Bool} {p q:Pg} (wf:VJ h) (hcore:q.funcs.map Go.Rtl.Fn.core=p.funcs.map Go.Rtl.Fn.core) (hf:∀ f,f ∈ p.funcs->nC f/\f.regs<=5000) (hmany:p.funcs.length<=5000) (gn:zP q.gv=false)
  (s:Sat lo h (pt b13 (.cells q.row 25) :: xN 45 6 q.fv (q.funcs.map Go.Rtl.Fn.row) :: vB (q.funcs.map iD) :: L)) {j:List Value->za->Prop}
  (K:∀ h' (ts:List Go.Rtl.Fn),ts.length=p.funcs.length->(∀ (k:Nat) f,p.funcs[k]? = some f->∃ g,ts[k]? = some g/\TF nodes regs f g)->(∀ g,g ∈ ts->nC g)->Sat lo h' (pt b13 (.cells q.row 25) :: xN 45 6 q.fv (ts.map Go.Rtl.Fn.row) :: vB (ts.map iD) :: L)->j [] h') :
  LP (XU (.pointer (some ⟨b13,0,none⟩)) j (.bool nodes) (.bool regs)) [.int .i64 0] h:=by
 have hlq:q.funcs.length=p.funcs.length:=by simpa using congrArg List.length hcore
 refine kj (fun m vs h' => ∃ (i:Nat) (ts:List Go.Rtl.Fn),i<=p.funcs.length/\m=p.funcs.length - i/\vs = [.int .i64 (i:Nat)]/\ts.length=i/\VJ h'/\(∀ (k:Nat) f,k < i->p.funcs[k]? = some f->∃ g,ts[k]? = some g/\TF nodes regs f g)/\(∀ g,g ∈ ts->nC g)/\Sat lo h' (pt b13 (.cells q.row 25) :: xN 45 6 q.fv ((ts ++ q.funcs.drop i).map Go.Rtl.Fn.row) :: vB (ts.map iD) :: vB ((q.funcs.drop i).map iD) :: L)) p.funcs.length
  ⟨0,[],aa0 _,rfl,rfl,rfl,wf,fun k f hk=>absurd hk (acu _),fun g hg=>(by cases hg),(XA s).f [1,2,0]⟩ ?_
 rintro m vs h' ⟨i,ts,hi,rfl,rfl,hl,wf,hk,hF,s⟩
 unfold XU
 have g13:=s.get
 have fn:=xw (s.p 1)
 have len:=(y7 (s.p 1) (kr _)).Jy 3
 rw [aak,abT,abU,show ts.length + (q.funcs.length - i)=p.funcs.length by omega] at len
 by_cases hc:i < p.funcs.length
 ·obtain ⟨f,hpf⟩:∃ f,p.funcs[i]? = some f:=⟨_,aab hc⟩
  obtain ⟨f0,hqf⟩:∃ f0,q.funcs[i]? = some f0:=⟨_,aab (by omega)⟩
  have hff:f0.core=f.core:=by
   have:=congrArg (fun l=>l[i]?) hcore
   simpa only [aap,hqf,hpf,abz,aaa] using this
  have ff:=hf f (aaq hpf)
  have w0:=ff.1.tO hff
  have hd:q.funcs.drop i=f0 :: q.funcs.drop (i + 1):=by
   obtain ⟨_,e⟩:=aa1.1 hqf
   rw [ab9 (by omega),e]
  rw [hd,abv] at s
  have hrow:((ts ++ f0 :: q.funcs.drop (i + 1)).map Go.Rtl.Fn.row)[i]? = some f0.row:=by
   rw [aap,abb (by omega),hl];simp
  obtain ⟨bb,oo,cc,tt,ha,hbb,hgt,hle,htk,_⟩:=(y7 (s.p 1) (kr _)).cC hrow rfl
  have s1:=Zj (s.p 3)
  have F0:v8 h' f0:=DG s1 w0
  have pn:=F0.params.vk
  have cn:=F0.code.vk
  have hlt':(i:Int) < (p.funcs.length:Int):=by omega
  have hinc:IntKind.wrap .i64 ((i:Int) + 1)=((i + 1:Nat):Int):=inc (by omega)
  simp -implicitDefEqProofs only [EE,nth,↓BK,if_true,zZ,zC,vA,Qq,y8,QB,QC,g13,fn,len,hlt',ha,hgt,hle,htk]
  refine tk (by kernel_rfl) (by simp only [yC,yc,zF,cond_false]) wf s1 (MQ F0.lock w0.code (by have:=congrArg Go.Rtl.Fn.regs hff;have:f0.regs=f.regs:=this;omega)) ?_
  rintro v h2 ⟨g,rfl,tf,tB,s2⟩ back wf2
  have s3:=back _ s2
  clear back s2
  generalize wY h' h2=h3 at s3 wf2 ⊢
  have gw:nC g:=⟨by rw [tf.params,aak];exact w0.params,by rw [tf.len];exact w0.code,tB⟩
  have G:=DG s3 gw
  have gpn:=G.params.vk
  have gpc:=G.params.gO
  have gcn:=G.code.vk
  have gcc:=G.code.gO
  have hlen2:((ts ++ f0 :: q.funcs.drop (i + 1)).map Go.Rtl.Fn.row).length=p.funcs.length:=by
   rw [aak,abT,aaz,abU];omega
  have hir:i < ((ts ++ f0 :: q.funcs.drop (i + 1)).map Go.Rtl.Fn.row).length:=by rw [hlen2];exact hc
  obtain ⟨b,c,cs,hsv,gb,wb,lb,s4⟩:=Vq (s3.p 4) (kr _) hir
  rw [hlen2] at hsv
  have h0':0<=(i:Int)/\(i:Int) < (p.funcs.length:Int):=by omega
  have ha2:zw Tryz.prog 23 q.fv (.int .i64 (i:Nat))=some (.pointer (some ⟨b,i * 6,none⟩)):=by rw [hsv];simp only [Fs,h0',aau,and_self,if_true,aav]
  clear ha
  simp -implicitDefEqProofs only [EE,nth,Nat.reduceAdd,lZ,ha2]
  rw [tW gb,if_pos ⟨by simp;omega,wb,by simp [gpc,gcc];exact ⟨rfl,rfl,rfl,rfl⟩⟩]
  have s5:=s4 g.row rfl
  have hbn:b < h3.next:=by
   rcases aar b h3.next with a | a
   ·exact a
   ·exact wf2.1 b _ gb
  have wf5:=wf_set wf2 hbn (some (.cells (zf cs (i * 6) g.row) 45))
  have e1:((ts ++ f0 :: q.funcs.drop (i + 1)).map Go.Rtl.Fn.row).set i g.row=((ts ++ [g]) ++ q.funcs.drop (i + 1)).map Go.Rtl.Fn.row:=by
   rw [aaU,List.set_append_right _ _ (by simp;omega),aak,hl,Nat.sub_self,abv,aaY]
   simp
  rw [e1] at s5
  refine ⟨p.funcs.length - (i + 1),by omega,i + 1,ts ++ [g],hc,rfl,by rw [hinc],by simp [hl],wf5,fun k f2 hk2 hf2 => ?_,fun y hy => ?_,?_⟩
  ·by_cases e:k=i
   ·subst e
    rw [hpf] at hf2
    cases hf2
    exact ⟨g,by rw [abb (by omega),hl];simp,TF.tO hff tf⟩
   ·obtain ⟨g2,a,b⟩:=hk k f2 (by omega) hf2
    exact ⟨g2,by rw [abl (by omega)];exact a,b⟩
  ·rcases aaP.1 hy with a | a
   ·exact hF y a
   ·simp only [aaS] at a;subst a;exact gw
  ·rw [aaU (f:=iD)]
   have s6:=ZT (A:=iD g) (s5.f [1,5])
   exact ((s6.f [2]).drop).f [3,1,0,2]
 ·have hlt':¬ (i:Int) < (p.funcs.length:Int):=by omega
  simp -implicitDefEqProofs only [EE,nth,zC,vA,y8,g13,fn,len,hlt']
  have:q.funcs.drop i = []:=List.drop_of_length_le (by omega)
  rw [this,abD] at s
  have e:i=p.funcs.length:=by omega
  subst e
  exact K h' ts hl (fun k f hf2=>hk k f (aa1.1 hf2).1 hf2) hF (((s.f [3]).drop))
end
end Go.Rl
namespace Go.Rm
open Go.Ai Go.Proofs Go.Mem
open Go.Rtl (yM Pg zA)
def N1 (S:St) (r:St × Bool):Prop:=r.1.ev.length<=S.ev.length + 1/\r.1.lk.length<=S.lk.length + 1
theorem N1.same {S S':St} {b:Bool} (h1:S'.ev=S.ev) (h2:S'.lk=S.lk):N1 S (S',b):=⟨by rw [h1];exact abn _,by rw [h2];exact abn _⟩
theorem N1.lk {S S':St} {b:Bool} {x:Int × Int × Int} (h1:S'.ev=S.ev) (h2:S'.lk=S.lk ++ [x]):N1 S (S',b):=⟨by rw [h1];exact abn _,by rw [h2];simp⟩
theorem N1.ev {S S':St} {b:Bool} {x:Int × Int} (h1:S'.ev=S.ev ++ [x]) (h2:S'.lk=S.lk):N1 S (S',b):=⟨by rw [h1];simp,by rw [h2];exact abn _⟩
theorem LF (p:Pg) (world:List Int) (kept:Option (Int->Bool)) (S:St):N1 S (qY p world kept S):=by
 unfold qY
 split
 ·exact .same rfl rfl
 split
 ·exact .same rfl rfl
 rename_i c _ _ i _
 generalize hc:c=c'
 clear hc
 unfold w4
 by_cases h2:i.op=2
 ·rw [if_pos h2];exact .same rfl rfl
 rw [if_neg h2]
 by_cases h3:i.op=3
 ·rw [if_pos h3];exact .same rfl rfl
 rw [if_neg h3]
 by_cases h4:i.op=4
 ·rw [if_pos h4]
  split
  ·exact .same rfl rfl
  ·exact .same rfl rfl
 rw [if_neg h4]
 by_cases h5:i.op=5
 ·rw [if_pos h5]
  have q:∀ o,N1 S ((if (i.sub=14\/i.sub=15)/\(ye c'.regs i.a).k=1/\(zY c' i).k=1 then xC S 3 (ye c'.regs i.a).n (zY c' i).n else S),o):=by
   intro o
   split
   ·exact .lk rfl rfl
   ·exact .same rfl rfl
  dsimp only
  split
  ·exact q false
  ·exact q true
 rw [if_neg h5]
 by_cases h6:i.op=6
 ·rw [if_pos h6]
  split
  ·exact .same rfl rfl
  ·split
   ·exact .lk rfl rfl
   ·exact .lk rfl rfl
 rw [if_neg h6]
 by_cases h7:i.op=7
 ·rw [if_pos h7]
  split
  ·exact .same rfl rfl
  ·split
   ·exact .lk rfl rfl
   ·exact .lk rfl rfl
 rw [if_neg h7]
 by_cases h8:i.op=8
 ·rw [if_pos h8];exact .same rfl rfl
 rw [if_neg h8]
 by_cases h9:i.op=9
 ·rw [if_pos h9];exact .same rfl rfl
 rw [if_neg h9]
 by_cases h10:i.op=10
 ·rw [if_pos h10]
  unfold wh
  split
  ·exact .lk rfl rfl
  split
  ·exact .lk rfl rfl
  split
  ·exact .lk rfl rfl
  ·exact .lk rfl rfl
 rw [if_neg h10]
 by_cases h11:i.op=11
 ·rw [if_pos h11]
  unfold cI
  split
  ·exact .same rfl rfl
  ·exact .lk rfl rfl
 rw [if_neg h11]
 by_cases h12:i.op=12
 ·rw [if_pos h12]
  unfold uQ
  split
  ·exact .same rfl rfl
  split
  ·split
   ·exact .same rfl rfl
   ·exact .same rfl rfl
  ·split
   ·exact .same rfl rfl
   ·exact .same rfl rfl
 rw [if_neg h12]
 by_cases h13:i.op=13
 ·rw [if_pos h13];exact .ev rfl rfl
 rw [if_neg h13]
 by_cases h14:i.op=14
 ·rw [if_pos h14]
  split
  ·exact .ev rfl rfl
  ·exact .same rfl rfl
 rw [if_neg h14];exact .same rfl rfl
theorem BP (p:Pg) (world:List Int) (kept:Option (Int->Bool)):∀ (n:Nat) (r:St × Bool),(cY p world kept n r).1.ev.length<=r.1.ev.length + n/\(cY p world kept n r).1.lk.length<=r.1.lk.length + n
 | 0,r=>⟨aah _,aah _⟩
 | n + 1,r=>by
   obtain ⟨a,b⟩:=BP p world kept n (m3 p world kept r)
   have q:(m3 p world kept r).1.ev.length<=r.1.ev.length + 1/\(m3 p world kept r).1.lk.length<=r.1.lk.length + 1:=by
    unfold m3
    split
    ·exact LF p world kept { r.1 with steps:=r.1.steps + 1 }
    ·exact ⟨abn _,abn _⟩
   show (cY p world kept n (m3 p world kept r)).1.ev.length<=_/\(cY p world kept n (m3 p world kept r)).1.lk.length<=_
   omega
theorem Fk (p:Pg) (args world:List Int) (kept:Option (Int->Bool)) (n:Nat):(runM p args world kept n).ev.length<=n/\(runM p args world kept n).lk.length<=n:=by
 obtain ⟨a,b⟩:=BP p world kept n (vm p args)
 obtain ⟨_,_,e,l⟩:=gW p args
 rw [e] at a
 rw [l] at b
 unfold runM
 rw [rN]
 have f:∀ x:St × Bool,(G8 (rP x)).ev=x.1.ev/\(G8 (rP x)).lk=x.1.lk:=by
  intro x
  unfold G8 rP
  repeat' split
  all_goals exact ⟨rfl,rfl⟩
 rw [(f _).1,(f _).2]
 simp only [aaw,aav] at a b
 exact ⟨a,b⟩
end Go.Rm
namespace Go.Rl
open Go.Ai Go.Proofs
open Go.Rn (vW TI TF TP FJ Alike)
open Go.Rtl (yM Pg wQ v8 xK zN zJ Old inc jV iD Ri Qk Ql ZT XA Zj J8 kr eS Fe Ck uH dr)
open Go.Rm (xN yw xw vE y7 vZ Rd Rd.of Rd.at kp uh Xs F8 F7 nV runM FG Fk)
def yes (v:Value) (_:za):Prop:=v = .bool true
theorem LS {h:za} {p:Pg} (P:wQ h p) (g:uH p=true):∀ f,f ∈ p.funcs->nC f/\f.regs<=5000:=by
 intro f hf
 unfold uH at g
 rw [aac,aac,aas,aas] at g
 have r:=g.2.2 f hf
 rw [aac] at r
 have r1:=r.1
 unfold Go.Rtl.vD Go.Rtl.Wv at r1
 simp only [aac,aat,decide_eq_false_iff_not] at r1
 have F:=P.fns f hf
 exact ⟨⟨F.tP,by omega,fun y hy=>(F.ins y hy).J9⟩,by omega⟩
theorem NO {nodes regs:Bool} {p q:Pg} (tp:TP nodes regs p q) (g:uH p=true) (args:List Int) (fuel:Int):nV q args fuel ↔ nV p args fuel:=by
 have gq:=tp.R8 g
 have e:(Go.Rm.Kt q).params.length=(Go.Rm.Kt p).params.length:=by
  have gg:=Go.Rm.iF g
  obtain ⟨f2,h1,h2⟩:=tp.fn _ _ gg.Kt
  have gq2:=(Go.Rm.iF gq).Kt
  rw [tp.main] at gq2
  rw [h1] at gq2
  have:f2=Go.Rm.Kt q:=abE gq2
  rw [<- this,h2.params,aak]
 unfold nV Go.Rm.ie
 rw [e,gq,g]
section
variable {h:za} {p:Pg} {av wv:Value} {args world:List Int} {fuel:Int} {nodes regs:Bool}
theorem D3 (P:wQ h p) (ha:zN h av args) (hw:zN h wv world) (hwl:world.length * 8<=2 ^ 47) (aw:∀ h',Old h h'->xx Tryz.prog 6 [] h' (.bool true)) :
  DC Tryz.prog 5 [p.val,av,wv,.int .i64 fuel,.bool nodes,.bool regs] h yes:=by
 apply jO;intro wf
 apply ic
 unfold bD
 have s0:Sat (.of h) h []:=Sat.self wf.2
 have RP:Rd (.of h) (wQ · p):=Rd.of (yE.jq h) P fun h' o=>P.old o
 have RA:Rd (.of h) (zN · av args):=Rd.of (yE.jq h) ha fun h' o=>ha.old o
 have RW:Rd (.of h) (zN · wv world):=Rd.of (yE.jq h) hw fun h' o=>hw.old o
 have RQ:Rd (.of h) (fun h'=>xx Tryz.prog 6 [] h' (.bool true)):=fun h' b=>aw h' (by obtain ⟨a,c,d⟩:=(yE.jq h).old b;exact ⟨a,c,d⟩)
 have gvn:=P.globals.vk
 have gvc:=P.globals.gO
 have fvn:=P.funcs.vk
 have fvc:=P.funcs.gO
 have avn:=ha.vk
 have wvn:=hw.vk
 simp -implicitDefEqProofs only [EE,Value.cells]
 refine FA s0 wf fun b6 h2 wf2 s2 => ?_
 have g2:=s2.get
 refine zi (by kernel_rfl) rfl (RQ.at s2) ?_
 simp -implicitDefEqProofs only [EE,if_true,Nat.reduceAdd,zZ,ZX,Qp,g2]
 obtain ⟨B,hB⟩:=R7 (RP.at s2) wf2
 refine zi (by kernel_rfl) (by simp only [yC];rfl) hB ?_
 have yes':∀ (v:Value) (h':za),yes v h'=(v = .bool true):=fun _ _=>rfl
 cases B with
 | false=>
   simp -implicitDefEqProofs only [EE,uS,uT,uU,uV,Xl]
   rfl
 | true=>
 simp -implicitDefEqProofs only [EE,if_true,Nat.reduceAdd,zZ,ZX,Xl,g2]
 refine zi (by kernel_rfl) (by simp only [yC];rfl) (Fe p _ (RP.at s2)) ?_
 cases hg:eS p with
 | false=>
   simp -implicitDefEqProofs only [EE,uS,uT,uU,uV]
   rfl
 | true=>
 have gp:uH p=true:=by rw [Ck];exact hg
 by_cases c1:fuel < 0
 ·simp -implicitDefEqProofs only [EE,uS,uT,uU,uV,c1]
  rfl
 by_cases c2:fuel > 1000
 ·simp -implicitDefEqProofs only [EE,uS,uT,uU,uV,c1,c2]
  rfl
 simp -implicitDefEqProofs only [EE,if_true,Nat.reduceAdd,zZ,ZX,uS,uT,uU,uV,g2,c1,c2]
 have P2:=RP.at s2
 refine zT (by kernel_rfl) (by simp only [yC];rfl) ((J8 p _ P2).Sm fun v h1 r w=>And.intro r w) ?_
 rintro v h3 ⟨⟨q,rfl,hcore,s3⟩,wf3⟩
 have hq:q.funcs.map Go.Rtl.Fn.core=p.funcs.map Go.Rtl.Fn.core:=congrArg Pg.funcs hcore
 have hgl:q.globals=p.globals:=by have:=congrArg Pg.globals hcore;exact this
 have hmn:q.main=p.main:=by have:=congrArg Pg.main hcore;exact this
 have s4:=(s2.join s3).open
 have qgn:=xw s4
 have qgc:=vE s4
 have qfn:=xw (s4.p 1)
 have qfc:=vE (s4.p 1)
 unfold Qo
 simp -implicitDefEqProofs only [EE,Value.cells,Fa]
 refine FA s4 wf3 fun b13 h5 wf5 s5 => ?_
 simp -implicitDefEqProofs only [EE,Nat.reduceAdd,E8]
 refine PV s5 wf5 (by simp) (by simp [qgc,qfc];exact rfl) fun h6 wf6 s6 => ?_
 have s6:Sat (.of h) h6 (pt b13 (.cells q.row 25) :: _):=s6
 have hmany:p.funcs.length<=5000:=by
  have g:=gp
  unfold uH Go.Rtl.Qm at g
  simp only [aac,aat,decide_eq_false_iff_not] at g
  omega
 refine PY (p:=p) (q:=q) wf6 hq (LS P gp) hmany qgn (s6.f [0,2,3]) ?_
 intro h7 ts htl htf hfew s7
 have tp:TP nodes regs p ⟨q.gv,q.globals,q.fv,ts,q.main⟩:=⟨hgl,htl,htf,hmn⟩
 have hqlen:q.globals.length<=17592186043904:=by rw [hgl];exact P.tB
 have htl2:ts.length * 88<=140737488351232:=by rw [htl];exact P.BQ
 have PQ:∀ {h':za} {L:List HP},Sat (.of h) h' (xN 45 6 q.fv (ts.map Go.Rtl.Fn.row) :: vB (ts.map iD) :: xN 3 1 q.gv (q.globals.map yw) :: L)->wQ h' ⟨q.gv,q.globals,q.fv,ts,q.main⟩:=fun s=>Sx (q:=⟨q.gv,q.globals,q.fv,ts,q.main⟩) s hqlen htl2 hfew
 have g6:=(s7.p 4).get
 simp -implicitDefEqProofs only [EE,if_true,Nat.reduceAdd,zZ,ZX,g6]
 have gq:=tp.R8 gp
 have rb:=NO tp gp args fuel
 have qv:Pg.val ⟨q.gv,q.globals,q.fv,ts,q.main⟩=q.val:=rfl
 refine zT (by kernel_rfl) (by simp only [yC,avn,wvn,cond_false];rfl) (FG (RP.at s7) (RA.at s7) (RW.at s7) hwl) ?_
 rintro v h8 hv
 by_cases hb:nV p args fuel
 ·rw [if_pos hb] at hv
  obtain ⟨ev1,lk1,rfl,s8⟩:=hv
  have s9:=s7.join s8
  have e1n:=xw s8
  have e1c:=vE s8
  have l1n:=xw (s8.p 1)
  have l1c:=vE (s8.p 1)
  unfold Xs
  have al:=FJ (args:=args) (world:=world) tp gp fuel.toNat
  have fa:=Fk p args world none fuel.toNat
  generalize runM p args world none fuel.toNat=A at s8 s9 al fa
  simp -implicitDefEqProofs only [EE,Value.cells,l9,Xk]
  refine uR s9 fun b15 h10 s10 => ?_
  simp -implicitDefEqProofs only [EE,Nat.reduceAdd,Ju]
  refine yL s10 (by simp) (by simp [e1c,l1c];exact ⟨rfl,rfl,rfl⟩) fun h11 s11 => ?_
  have g13:=(s11.p 3).get
  simp -implicitDefEqProofs only [EE,if_true,Nat.reduceAdd,zZ,ZX,g13]
  refine zT (by kernel_rfl) (by simp only [yC,avn,wvn,cond_false];rfl) (FG (p:=⟨q.gv,q.globals,q.fv,ts,q.main⟩) (PQ (s11.f [4,5,6])) (RA.at s11) (RW.at s11) hwl) ?_
  rintro v h12 hv
  rw [if_pos (rb.2 hb)] at hv
  obtain ⟨ev2,lk2,rfl,s12⟩:=hv
  have s13:=s11.join s12
  have e2n:=xw s12
  have e2c:=vE s12
  have l2n:=xw (s12.p 1)
  have l2c:=vE (s12.p 1)
  unfold Xs
  generalize runM ⟨q.gv,q.globals,q.fv,ts,q.main⟩ args world none fuel.toNat=B at s12 s13 al
  simp -implicitDefEqProofs only [EE,Value.cells,l9,Xj]
  refine uR s13 fun b17 h14 s14 => ?_
  simp -implicitDefEqProofs only [EE,Nat.reduceAdd,Ju]
  refine yL s14 (by simp) (by simp [e2c,l2c];exact ⟨rfl,rfl,rfl⟩) fun h15 s15 => ?_
  have g13:=(s15.p 6).get
  have g15:=(s15.p 3).get
  have g17:=s15.get
  have gqd:=dr ⟨q.gv,q.globals,q.fv,ts,q.main⟩ h15 (PQ (s15.f [7,8,9]))
  rw [gq] at gqd
  have RE1:=y7 (s15.p 4) (vZ (f:=kp) (fun _=>rfl) _)
  have RL1:=y7 (s15.p 5) (vZ (f:=uh) (fun _=>rfl) _)
  have RE2:=y7 (s15.p 1) (vZ (f:=kp) (fun _=>rfl) _)
  have RL2:=y7 (s15.p 2) (vZ (f:=uh) (fun _=>rfl) _)
  simp -implicitDefEqProofs only [EE,if_true,Nat.reduceAdd,zZ,ZX,g13]
  refine zi (by kernel_rfl) (by simp only [yC];rfl) gqd ?_
  simp -implicitDefEqProofs only [EE,zf,if_true,Nat.reduceAdd,zZ,Kb,XZ,X0,Xi,g15,g17]
  refine zi (by kernel_rfl) (by simp only [yC];rfl) (Mx RE1 RE2 (by omega) al.kind.symm al.exit.symm al.ev.symm l1n l2n) ?_
  simp -implicitDefEqProofs only [EE,zf,if_true,Nat.reduceAdd,zZ,Kb,XY,g15,g17]
  refine zi (by kernel_rfl) (by simp only [yC];rfl) (Fv RL1 RL2 (by omega) al.kind.symm al.lk.symm e1n e2n) ?_
  have st:=al.steps
  simp -implicitDefEqProofs only [EE,zf,Nat.reduceAdd,zC,zj,Jb,XV,XW,XX,g15,g17,st]
  rfl
 ·rw [if_neg hb] at hv
  obtain ⟨rfl,s8⟩:=hv
  have s9:=s7.join s8
  unfold Xs
  simp -implicitDefEqProofs only [EE,Value.cells,l9,Xk]
  refine uR s9 fun b15 h10 s10 => ?_
  simp -implicitDefEqProofs only [EE,Nat.reduceAdd,Ju]
  refine yL s10 (by simp) rfl fun h11 s11 => ?_
  have g13:=(s11.p 1).get
  simp -implicitDefEqProofs only [EE,if_true,Nat.reduceAdd,zZ,ZX,g13]
  refine zT (by kernel_rfl) (by simp only [yC,avn,wvn,cond_false];rfl) (FG (p:=⟨q.gv,q.globals,q.fv,ts,q.main⟩) (PQ (s11.f [2,3,4])) (RA.at s11) (RW.at s11) hwl) ?_
  rintro v h12 hv
  rw [if_neg (fun z=>hb (rb.1 z))] at hv
  obtain ⟨rfl,s12⟩:=hv
  have s13:=s11.join s12
  unfold Xs
  simp -implicitDefEqProofs only [EE,Value.cells,l9,Xj]
  refine uR s13 fun b17 h14 s14 => ?_
  simp -implicitDefEqProofs only [EE,Nat.reduceAdd,Ju]
  refine yL s14 (by simp) rfl fun h15 s15 => ?_
  have g13:=(s15.p 2).get
  have g15:=(s15.p 1).get
  have g17:=s15.get
  have gqd:=dr ⟨q.gv,q.globals,q.fv,ts,q.main⟩ h15 (PQ (s15.f [3,4,5]))
  rw [gq] at gqd
  have RE:zJ h15 (.slice none 0 0) 2 (([]:List (Int × Int)).map kp) := .inl ⟨rfl,rfl⟩
  have RL:zJ h15 (.slice none 0 0) 3 (([]:List (Int × Int × Int)).map uh) := .inl ⟨rfl,rfl⟩
  simp -implicitDefEqProofs only [EE,if_true,Nat.reduceAdd,zZ,ZX,g13]
  refine zi (by kernel_rfl) (by simp only [yC];rfl) gqd ?_
  simp -implicitDefEqProofs only [EE,zf,if_true,Nat.reduceAdd,zZ,Kb,XZ,X0,Xi,g15,g17]
  refine zi (by kernel_rfl) rfl (Mx RE RE (by simp) rfl rfl rfl rfl rfl) ?_
  simp -implicitDefEqProofs only [EE,zf,if_true,Nat.reduceAdd,zZ,Kb,XY,g15,g17]
  refine zi (by kernel_rfl) rfl (Fv RL RL (by simp) rfl rfl rfl rfl) ?_
  simp -implicitDefEqProofs only [EE,zf,Nat.reduceAdd,zC,zj,Jb,XV,XW,XX,g15,g17]
  rfl
end
def zs:List Int:=[1,10,100,1000,10000,100000,1000000,10000000,100000000,1000000000,10000000000,100000000000,1000000000000,10000000000000,100000000000000,1000000000000000,10000000000000000,100000000000000000,1000000000000000000,10000000000000000000]
def tabs:List (Nat × List Value):=[(0,zs.map fun z => .int .u64 z)]
def TabH (h:za):Prop:=0 < h.next /\ ∃ c t,h.get 0=some (.cells c t) /\ ∀ (i:Nat) y,(zs.map fun z=>Value.int .u64 z)[i]? = some y->c[i]? = some y
theorem TabH.old {h h':za} (t:TabH h) (e:Old h h'):TabH h':=by
 obtain ⟨h0,c,t,hg,hc⟩:=t
 exact ⟨aai h0 e.next,c,t,by rw [e.get 0 h0];exact hg,hc⟩
theorem TabH.lock {h:za} (t:TabH h):TabH h.lock:=t
def cls:List Nat:=[0,0,1,1,1,1,1,1,1,1,1,1,1,1,1,1,1,1,1,1,1,1,1,1,1,1,1,1,1,1,1,1,1,1,2,2,2,2,1,1,1,1,1,1,1,1,1,1,1,1,1,1,1,1,1,1,1,1,1,1,1,1,1,1,1,1,1,1,1,1,1,1,1,1,1,1,1,1,1,1,1,1,1,1,1,1,1,1,1,1,1,1,1,1,1,1,1,1,1,1,1,1,1,1,1,0,1,1,1,1,1,1,1,1,1,1,1,1,1,1,1,1,1,1,1,1,1,1,1,1,1,1,0,1,1,1,1,1,1,1,1,1,1,0,0,0,0,0,0,0,0,0,0,0,0,0,0,0,0,0,0,0,0,0,0,0,0,0,0,0,0,0,0,0,0,1]
set_option maxRecDepth 100000 in
theorem fits:j3 Tryz.prog cls=true:=by decide +kernel
set_option maxRecDepth 100000 in
theorem GR:PM (run Tryz.prog cls 4000 (.call 6 []) (tX 100 tabs))=true:=by kernel_rfl
theorem Nd (h:za) (ht:TabH h):xx Tryz.prog 6 [] h (.bool true):=by
 refine ⟨rfl,?_⟩
 obtain ⟨h',he⟩:=NJ GR
 have:=CR (P:=Tryz.prog) (m:=100) (tabs:=tabs) (v := .bool true) (f:=6) rfl (aaA (by kernel_rfl)) (fun x hx=>by
  simp only [tabs,aaS] at hx
  subst hx
  exact ⟨by decide,aaA (n:=1) (by kernel_rfl),by decide +kernel⟩) ((F9 fits mixed he).mono (fun v h1 q=>q.1)) (h:=h.lock) (fun x hx=>by
  simp only [tabs,aaS] at hx
  subst hx
  exact ht.lock.2)
 exact this.mono (fun v h1 q=>q.1)
end Go.Rl
namespace Go.Rtl
open Go.Ai Go.Proofs
theorem absH_lt (w:World) (b:Nat) (o:xE) (h:(absH Tryz.prog w).get b=some o):b < (absH Tryz.prog w).next:=(Co Tryz.prog w).Qs b o h
theorem c2:Tryz.prog.cellsOf 2=1:=by kernel_rfl
theorem c3:Tryz.prog.cellsOf 3=1:=by kernel_rfl
theorem c9:Tryz.prog.cellsOf 9=1:=by kernel_rfl
theorem S4:Tryz.prog.cellsOf 22=1:=by kernel_rfl
theorem TS:Tryz.prog.cellsOf 23=1:=by kernel_rfl
theorem TT:Tryz.prog.cellsOf 25=3:=by kernel_rfl
theorem TU:Tryz.prog.cellsOf 43=1:=by kernel_rfl
theorem O3:Tryz.prog.cellsOf 45=6:=by kernel_rfl
theorem TJ:Tryz.prog.cellsOf 53=9:=by kernel_rfl
theorem y3:Tryz.prog.bytesOf 3=8:=by kernel_rfl
theorem y45:Tryz.prog.bytesOf 45=88:=by kernel_rfl
theorem y50:Tryz.prog.bytesOf 53=88:=by kernel_rfl
theorem na:reachBytes=140737488351232:=rfl
theorem tK {α:Type} {n:Nat} {Q:Nat->α->Prop} (h:∀ i,i < n->∃ z,Q i z):∃ l:List α,l.length=n /\ ∀ i z,l[i]? = some z->Q i z:=by
 obtain ⟨f,hf⟩:=Classical.axiomOfChoice (r:=fun (i:Fin n) z=>Q i.1 z) fun i=>h i.1 i.2
 refine ⟨List.ofFn f,by simp,fun i z hz => ?_⟩
 rw [List.getElem?_ofFn] at hz
 split at hz
 ·rename_i hi
  simp only [aaa] at hz
  subst hz
  exact hf ⟨i,hi⟩
 ·cases hz
theorem Cg {c:List Value} {n:Nat} {v:Value} (h:(c.drop n).take 1 = [v]):c[n]? = some v:=by
 have:=congrArg (fun l=>l[0]?) h
 simpa [List.getElem?_take,aaN] using this
section
variable {h:za} (hw:∀ b o,h.get b=some o->b < h.next)
include hw
theorem tS {a:Value} (r:Qy Tryz.prog h 22 [a]):∃ zs,zN h a zs/\zs.length<=17592186043904:=by
 rcases nj Tryz.underlying22 c3 y3 (by decide) r with e | ⟨b,off,len,e,hl,hc⟩
 ·simp only [aa9,and_true] at e
  exact ⟨[],.inl ⟨e,rfl⟩,aa0 _⟩
 ·simp only [aa9,and_true] at e
  subst e
  rw [na] at hl
  by_cases h0:0 < len
  ·obtain ⟨c,t,hg,hat⟩:=hc h0
   obtain ⟨l,e1,e2⟩:=tK (n:=len) (Q:=fun i (z:Int)=>c[off + i]? = some (.int .i64 z)) fun i hi=>by
    obtain ⟨h1,h2⟩:=hat i hi
    obtain ⟨z,hz,_⟩:=rw_int Tryz.underlying3 h2
    rw [aa6] at hz
    exact ⟨z,Cg hz⟩
   refine ⟨l,.inr ⟨b,off,0,by rw [e1],fun _=>⟨c,t,hw b _ hg,hg,e2⟩⟩,by omega⟩
  ·have:len=0:=by omega
   subst this
   exact ⟨[],.inr ⟨b,off,0,rfl,fun q=>absurd rfl q⟩,aa0 _⟩
theorem PK {cs:List Value} (r:Qy Tryz.prog h 53 cs):∃ x:yM,cs=x.row/\xK h x:=by
 obtain ⟨hl,hf⟩:=fw Tryz.underlying53 r
 rw [TJ] at hl
 match cs,hl with
 | [a0,a1,a2,a3,a4,a5,a6,a7,a8],_=>
   have f0:Qy Tryz.prog h 3 (([a0,a1,a2,a3,a4,a5,a6,a7,a8].drop 0).take (Tryz.prog.cellsOf 3)):=hf _ (aaQ (i:=0) rfl)
   have f1:Qy Tryz.prog h 3 (([a0,a1,a2,a3,a4,a5,a6,a7,a8].drop 1).take (Tryz.prog.cellsOf 3)):=hf _ (aaQ (i:=1) rfl)
   have f2:Qy Tryz.prog h 3 (([a0,a1,a2,a3,a4,a5,a6,a7,a8].drop 2).take (Tryz.prog.cellsOf 3)):=hf _ (aaQ (i:=2) rfl)
   have f3:Qy Tryz.prog h 3 (([a0,a1,a2,a3,a4,a5,a6,a7,a8].drop 3).take (Tryz.prog.cellsOf 3)):=hf _ (aaQ (i:=3) rfl)
   have f4:Qy Tryz.prog h 3 (([a0,a1,a2,a3,a4,a5,a6,a7,a8].drop 4).take (Tryz.prog.cellsOf 3)):=hf _ (aaQ (i:=4) rfl)
   have f5:Qy Tryz.prog h 2 (([a0,a1,a2,a3,a4,a5,a6,a7,a8].drop 5).take (Tryz.prog.cellsOf 2)):=hf _ (aaQ (i:=5) rfl)
   have f6:Qy Tryz.prog h 22 (([a0,a1,a2,a3,a4,a5,a6,a7,a8].drop 6).take (Tryz.prog.cellsOf 22)):=hf _ (aaQ (i:=6) rfl)
   have f7:Qy Tryz.prog h 3 (([a0,a1,a2,a3,a4,a5,a6,a7,a8].drop 7).take (Tryz.prog.cellsOf 3)):=hf _ (aaQ (i:=7) rfl)
   have f8:Qy Tryz.prog h 3 (([a0,a1,a2,a3,a4,a5,a6,a7,a8].drop 8).take (Tryz.prog.cellsOf 3)):=hf _ (aaQ (i:=8) rfl)
   simp only [c2,c3,S4,abh,ab0,aaK,acy] at f0 f1 f2 f3 f4 f5 f6 f7 f8
   obtain ⟨z0,e0,_⟩:=rw_int Tryz.underlying3 f0
   obtain ⟨z1,e1,_⟩:=rw_int Tryz.underlying3 f1
   obtain ⟨z2,e2,_⟩:=rw_int Tryz.underlying3 f2
   obtain ⟨z3,e3,_⟩:=rw_int Tryz.underlying3 f3
   obtain ⟨z4,e4,_⟩:=rw_int Tryz.underlying3 f4
   obtain ⟨z5,e5,_⟩:=rw_int Tryz.underlying2 f5
   obtain ⟨z7,e7,_⟩:=rw_int Tryz.underlying3 f7
   obtain ⟨z8,e8,_⟩:=rw_int Tryz.underlying3 f8
   obtain ⟨l,S,hl⟩:=tS hw f6
   simp only [aa9,and_true] at e0 e1 e2 e3 e4 e5 e7 e8
   subst e0 e1 e2 e3 e4 e5 e7 e8
   exact ⟨⟨z0,z1,z2,z3,z4,z5,a6,l,z7,z8⟩,rfl,S,hl⟩
theorem FD {α:Type} {row:α->List Value} {ok:α->Prop} {ts te:TypeId} {n bz:Nat} (hu:Tryz.prog.underlying ts=some (.slice te)) (hs:Tryz.prog.cellsOf te=n) (hb:Tryz.prog.bytesOf te=bz) (h0n:0 < n) (h8:8<=bz)
  (hrow:∀ cs,Qy Tryz.prog h te cs->∃ x,cs=row x/\ok x) {a:Value} (r:Qy Tryz.prog h ts [a]):∃ l:List α,zJ h a n (l.map row)/\l.length * bz<=140737488351232 /\ ∀ x,x ∈ l->ok x:=by
 rcases nj hu hs hb h0n r with e | ⟨b,off,len,e,hl,hc⟩
 ·simp only [aa9,and_true] at e
  exact ⟨[],.inl ⟨e,rfl⟩,by simp,fun x hx=>by cases hx⟩
 ·simp only [aa9,and_true] at e
  subst e
  rw [na] at hl
  by_cases h0:0 < len
  ·obtain ⟨c,t,hg,hat⟩:=hc h0
   obtain ⟨l,e1,e2⟩:=tK (n:=len) (Q:=fun i x=>off + i * n + n<=c.length/\(c.drop (off + i * n)).take n=row x/\ok x) fun i hi=>by
    obtain ⟨h1,h2⟩:=hat i hi
    obtain ⟨x,hx,hok⟩:=hrow _ h2
    exact ⟨x,h1,hx,hok⟩
   refine ⟨l,.inr ⟨b,off,0,by rw [aak,e1],fun _=>⟨c,t,hw b _ hg,hg,fun i r hr => ?_⟩⟩,?_,fun x hx => ?_⟩
   ·rw [aap] at hr
    cases hx:l[i]? with
    | none=>rw [hx] at hr;cases hr
    | some x=>
      rw [hx] at hr
      simp only [abz,aaa] at hr
      subst hr
      exact ⟨(e2 i x hx).1,(e2 i x hx).2.1⟩
   ·rw [e1];exact hl
   ·obtain ⟨k,hk,rfl⟩:=abO hx
    exact (e2 k _ (aab hk)).2.2
  ·have:len=0:=by omega
   subst this
   exact ⟨[],.inr ⟨b,off,0,rfl,fun q=>absurd rfl q⟩,by simp,fun x hx=>by cases hx⟩
theorem Sy {cs:List Value} (r:Qy Tryz.prog h 45 cs):∃ f:Fn,cs=f.row/\v8 h f:=by
 obtain ⟨hl,hf⟩:=fw Tryz.underlying45 r
 rw [O3] at hl
 match cs,hl with
 | [a0,a1,a2,a3,a4,a5],_=>
   have f0:Qy Tryz.prog h 9 (([a0,a1,a2,a3,a4,a5].drop 0).take (Tryz.prog.cellsOf 9)):=hf _ (aaQ (i:=0) rfl)
   have f1:Qy Tryz.prog h 22 (([a0,a1,a2,a3,a4,a5].drop 1).take (Tryz.prog.cellsOf 22)):=hf _ (aaQ (i:=1) rfl)
   have f2:Qy Tryz.prog h 3 (([a0,a1,a2,a3,a4,a5].drop 2).take (Tryz.prog.cellsOf 3)):=hf _ (aaQ (i:=2) rfl)
   have f3:Qy Tryz.prog h 3 (([a0,a1,a2,a3,a4,a5].drop 3).take (Tryz.prog.cellsOf 3)):=hf _ (aaQ (i:=3) rfl)
   have f4:Qy Tryz.prog h 3 (([a0,a1,a2,a3,a4,a5].drop 4).take (Tryz.prog.cellsOf 3)):=hf _ (aaQ (i:=4) rfl)
   have f5:Qy Tryz.prog h 43 (([a0,a1,a2,a3,a4,a5].drop 5).take (Tryz.prog.cellsOf 43)):=hf _ (aaQ (i:=5) rfl)
   simp only [c3,c9,S4,TU,abh,ab0,aaK,acy] at f0 f1 f2 f3 f4 f5
   obtain ⟨s,e0,_⟩:=HD Tryz.underlying9 f0
   obtain ⟨z2,e2,_⟩:=rw_int Tryz.underlying3 f2
   obtain ⟨z3,e3,_⟩:=rw_int Tryz.underlying3 f3
   obtain ⟨z4,e4,_⟩:=rw_int Tryz.underlying3 f4
   obtain ⟨l,S,hl⟩:=tS hw f1
   obtain ⟨code,C,hc,hi⟩:=FD hw Tryz.underlying43 TJ y50 (by decide) (by decide) (fun cs r=>PK hw r) f5
   simp only [aa9,and_true] at e0 e2 e3 e4
   subst e0 e2 e3 e4
   exact ⟨⟨s,a1,l,z2,z3,z4,a5,code⟩,rfl,S,hl,C,hc,hi⟩
theorem rd_pg {cs:List Value} (r:Qy Tryz.prog h 25 cs):∃ p:Pg,cs=p.row/\wQ h p:=by
 obtain ⟨hl,hf⟩:=fw Tryz.underlying25 r
 rw [TT] at hl
 match cs,hl with
 | [a0,a1,a2],_=>
   have f0:Qy Tryz.prog h 22 (([a0,a1,a2].drop 0).take (Tryz.prog.cellsOf 22)):=hf _ (aaQ (i:=0) rfl)
   have f1:Qy Tryz.prog h 23 (([a0,a1,a2].drop 1).take (Tryz.prog.cellsOf 23)):=hf _ (aaQ (i:=1) rfl)
   have f2:Qy Tryz.prog h 3 (([a0,a1,a2].drop 2).take (Tryz.prog.cellsOf 3)):=hf _ (aaQ (i:=2) rfl)
   simp only [c3,S4,TS,abh,ab0,aaK,acy] at f0 f1 f2
   obtain ⟨l,S,hl⟩:=tS hw f0
   obtain ⟨fs,C,hc,hi⟩:=FD hw Tryz.underlying23 O3 y45 (by decide) (by decide) (fun cs r=>Sy hw r) f1
   obtain ⟨z2,e2,_⟩:=rw_int Tryz.underlying3 f2
   simp only [aa9,and_true] at e2
   subst e2
   exact ⟨⟨a0,l,a1,fs,z2⟩,rfl,S,hl,C,hc,hi⟩
end
theorem y2:Tryz.prog.bytesOf 2=8:=by kernel_rfl
section
variable {h:za} (hw:∀ b o,h.get b=some o->b < h.next)
include hw
theorem rd_i64s {a:Value} (r:Qy Tryz.prog h 26 [a]):∃ l:List Int,zN h a l/\l.length * 8<=140737488351232:=by
 rcases nj Tryz.underlying26 c2 y2 (by decide) r with e | ⟨b,off,len,e,hl,hc⟩
 ·simp only [aa9,and_true] at e
  exact ⟨[],.inl ⟨e,rfl⟩,aa0 _⟩
 ·simp only [aa9,and_true] at e
  subst e
  rw [na] at hl
  by_cases h0:0 < len
  ·obtain ⟨c,t,hg,hat⟩:=hc h0
   obtain ⟨l,e1,e2⟩:=tK (n:=len) (Q:=fun i (z:Int)=>c[off + i]? = some (.int .i64 z)) fun i hi=>by
    obtain ⟨h1,h2⟩:=hat i hi
    obtain ⟨z,hz,_⟩:=rw_int Tryz.underlying2 h2
    rw [aa6] at hz
    exact ⟨z,Cg hz⟩
   refine ⟨l,.inr ⟨b,off,0,by rw [e1],fun _=>⟨c,t,hw b _ hg,hg,e2⟩⟩,by omega⟩
  ·have:len=0:=by omega
   subst this
   exact ⟨[],.inr ⟨b,off,0,rfl,fun q=>absurd rfl q⟩,aa0 _⟩
end
end Go.Rtl
namespace Go.Rl
open Go.Ai Go.Proofs
open Go.Rtl (Pg wQ zN)
theorem law_ok {h:za} {p:Pg} {av wv:Value} {args world:List Int} {fuel:Int} {nodes regs:Bool} (P:wQ h p) (ha:zN h av args) (hw:zN h wv world) (hwl:world.length * 8<=2 ^ 47) (ht:TabH h) :
  DC Tryz.prog 5 [p.val,av,wv,.int .i64 fuel,.bool nodes,.bool regs] h yes:=D3 P ha hw hwl fun h' e=>Nd h' (ht.old e)
end Go.Rl
