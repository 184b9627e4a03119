/- A part of the proof. -/
import Derived.Test.YtcecapkbglnejaaDoorTB
import Derived.Orders
set_option linter.unusedVariables false
set_option linter.unusedSimpArgs false
set_option maxRecDepth 100000
namespace Go.Ai
noncomputable section
variable {P:Program}
theorem jH {s s':Env}:∀ {xs:List Operand},(∀ x,x ∈ xs->uN s x=uN s' x)->YU s xs=YU s' xs
 | [],_=>rfl
 | x :: xs,h=>by simp only [YU];rw [h x (by simp),jH (fun y hy=>h y (by simp [hy]))]
theorem Xt {s s':Env}:∀ {ps:List (Nat × Operand)},(∀ x,x ∈ ps->uN s x.2=uN s' x.2)->ZT s ps=ZT s' ps
 | [],_=>rfl
 | (i,x) :: ps,h=>by simp only [ZT];rw [h (i,x) (by simp),Xt (fun y hy=>h y (by simp [hy]))]
theorem tY {s s':Env} {o:Oper} {g:za} (h:∀ x,x ∈ o.op.operands->uN s x=uN s' x):Vf P s o g=Vf P s' o g:=by
 obtain ⟨dst,op,type,pos,after,guard⟩:=o
 have one:∀ x,x ∈ op.operands->uN s x=uN s' x:=h
 have opt:∀ x:Option Operand,(∀ y,x=some y->y ∈ op.operands)->cT s x=cT s' x:=by
  intro x hx
  cases x with
  | none=>rfl
  | some y=>simp only [cT];rw [one y (hx y rfl)]
 unfold Vf
 cases op <;> simp only [] <;> first
  | rfl
  | (rw [one _ (by simp [Op.operands])];done)
  | (rw [one _ (by simp [Op.operands]),one _ (by simp [Op.operands])];done)
  | skip
 case pick c a b=>rw [one c (by simp [Op.operands]),one a (by simp [Op.operands]),one b (by simp [Op.operands])]
 case build t parts=>rw [Xt (fun x hx=>one _ (by simp only [Op.operands,List.mem_toArray,NY];exact ⟨x,hx,rfl⟩))]
 case buildSlice t n parts=>rw [Xt (fun x hx=>one _ (by simp only [Op.operands,List.mem_toArray,NY];exact ⟨x,hx,rfl⟩))]
 case makeFunc fn first captured=>
  cases fn <;> simp only []
  rw [jH (s:=s) (s':=s') (xs:=first.toList) (fun x hx=>one x (by simp [Op.operands];exact .inl (by simpa using hx))),jH (s:=s) (s':=s') (xs:=captured.toList) (fun x hx=>one x (by simp [Op.operands];exact .inr (by simpa using hx)))]
 case slice t x lo hi mx=>
  cases mx <;> simp only []
  rw [one x (by simp [Op.operands]),opt lo (fun y e=>by subst e;simp [Op.operands]),opt hi (fun y e=>by subst e;simp [Op.operands])]
 case makeMap t r=>cases r <;> rfl
 case mapUpdate t m k x=>rw [one m (by simp [Op.operands]),one k (by simp [Op.operands]),one x (by simp [Op.operands])]
 case call c=>
  obtain ⟨callee,args,ts⟩:=c
  cases callee <;> simp only []
  rw [jH (s:=s) (s':=s') (fun x hx=>one x (by simp [Op.operands,Call.operands];simpa using hx))]
def Env.only (s:Env) (l:List Nat):Env:={ t:=l.foldl (fun t i=>t.set i (some (s.get i))) .e,size:=s.size }
theorem Env.CN (s:Env) (l:List Nat) (i:Nat):(s.only l).get i=if i ∈ l then s.get i else undef:=by
 have key:∀ (l:List Nat) (t:Tr Value),(l.foldl (fun t i=>t.set i (some (s.get i))) t).get i=if i ∈ l then some (s.get i) else t.get i:=by
  intro l
  induction l with
  | nil=>intro t;simp
  | cons j l ih=>
    intro t
    rw [List.foldl_cons,ih,Tr.yo]
    by_cases hi:i ∈ l
    ·simp [hi]
    ·by_cases e:i=j
     ·subst e;simp [hi]
     ·simp [hi,e]
 have:=key l .e
 simp only [Env.get_eq,Env.only] at this ⊢
 rw [this]
 split <;> simp
theorem gQ {s s':Env} {ops:Array Oper} {o:Oper} (h:∀ t,t ∈ o.looksAt ops->s.get t=s'.get t):∀ x,x ∈ o.op.operands->uN s x=uN s' x:=by
 intro x hx
 cases x with
 | tmp t=>
   simp only [uN]
   rw [h t (by simp only [Oper.looksAt,Ns,List.mem_filterMap];exact .inl ⟨.tmp t,by simpa using hx,rfl⟩)]
 | _=>rfl
theorem YG {tm tm':Array Value} {ds:List Deferred} {ops:Array Oper} {o:Oper} (h:∀ t,t ∈ o.looksAt ops->tm.getD t undef=tm'.getD t undef):∀ x,x ∈ o.op.operands->Act.eval ⟨tm,ds⟩ x=Act.eval ⟨tm',ds⟩ x:=by
 intro x hx
 cases x with
 | tmp t=>exact h t (by simp only [Oper.looksAt,Ns,List.mem_filterMap];exact .inl ⟨.tmp t,by simpa using hx,rfl⟩)
 | _=>rfl
theorem cV {s s':Env} {ops:Array Oper} {o:Oper} (h:∀ t,t ∈ o.looksAt ops->s.get t=s'.get t):yg ops s o=yg ops s' o:=by
 unfold yg
 split
 ·rfl
 ·rename_i j want e
  split
  ·rfl
  ·rename_i d hd
   rw [h d (by simp only [Oper.looksAt,Ns];right;rw [e];simp [hd])]
def qz (P:Program) (ops:Array Oper) (s:Env) (o:Oper) (g:za) (v:Value) (g':za):Prop :=
 (yg ops s o=false/\v=undef/\g'=g) \/
 (yg ops s o=true/\(Vf P s o g=some (v,g') \/
  (∃ f cargs ts fid fa fc vs,o.op = .call { callee := .value f,args:=cargs,argTypes:=ts } /\ uN s f=some (.func (.func fid) fa fc)/\YU s cargs.toList=some vs/\wK P fid=true /\
   TC P fid (fa.toList ++ vs ++ fc.toList) g (fun v1 h1=>v1=v/\h1=g')) \/
  (∃ f cargs ts fid fa fc vs,o.op = .call { callee := .value f,args:=cargs,argTypes:=ts } /\ uN s f=some (.func (.func fid) fa fc)/\YU s cargs.toList=some vs/\gR P fid (fa.toList ++ vs ++ fc.toList) g=some (v,g'))))
theorem qz.congr {ops:Array Oper} {s s':Env} {o:Oper} {g g':za} {v:Value} (hs:qz P ops s o g v g') (h:∀ t,t ∈ o.looksAt ops->s.get t=s'.get t):qz P ops s' o g v g':=by
 have e1:=gQ h
 unfold qz at *
 rw [<- cV h]
 rcases hs with hs | ⟨hw,hs | ⟨f,cargs,ts,fid,fa,fc,vs,h1,h2,h3,h4,h5⟩ | ⟨f,cargs,ts,fid,fa,fc,vs,h1,h2,h3,h4⟩⟩
 ·exact .inl hs
 ·exact .inr ⟨hw,.inl (by rw [<- tY e1];exact hs)⟩
 ·refine .inr ⟨hw,.inr (.inl ⟨f,cargs,ts,fid,fa,fc,vs,h1,?_,?_,h4,h5⟩)⟩
  ·rw [<- e1 f (by rw [h1];simp [Op.operands,Call.operands])];exact h2
  ·rw [<- jH (s:=s) (s':=s') (xs:=cargs.toList) (fun x hx=>e1 x (by rw [h1];simp only [Op.operands,Call.operands];simp;right;simpa using hx))];exact h3
 ·refine .inr ⟨hw,.inr (.inr ⟨f,cargs,ts,fid,fa,fc,vs,h1,?_,?_,h4⟩)⟩
  ·rw [<- e1 f (by rw [h1];simp [Op.operands,Call.operands])];exact h2
  ·rw [<- jH (s:=s) (s':=s') (xs:=cargs.toList) (fun x hx=>e1 x (by rw [h1];simp only [Op.operands,Call.operands];simp;right;simpa using hx))];exact h3
theorem Ws {ops:Array Oper} {s:Env} {o:Oper} {g g':za} {v:Value} {j:Nat} {ρ:yP} {w:World} {tm:Array Value} (ho:ops[j]? = some o) (hsem:qz P ops s o g v g') (hr:Rel P ρ g w)
  (hsz:s.size=tm.size) (hl:∀ t,t ∈ o.looksAt ops->zD ρ (s.get t) (tm.getD t undef)) (ds:List Deferred) (rest:List Nat) (b:Frame) (k:List Item) (cs:List Frame) :
  ∃ v' w' ρ',Step P ρ g w ρ' g' w'/\zD ρ' v v' /\
    Steps P (lone (wj b tm ds (.inRegion ops (j :: rest) :: k)) cs w) (lone (wj b (vC tm o.dst v') ds (.inRegion ops rest :: k)) cs w'):=by
 let L:=o.looksAt ops
 let s2:=s.only L
 let tm2:Array Value:=(Array.range tm.size).map fun t=>if t ∈ L then tm.getD t undef else undef
 have hg2:∀ t,s2.get t=if t ∈ L then s.get t else undef:=Env.CN s L
 have ht2:∀ t,t ∈ L->tm2.getD t undef=tm.getD t undef:=by
  intro t ht
  simp only [tm2,MW,Array.getElem?_map]
  by_cases hlt:t < tm.size
  ·rw [Array.getElem?_range,MK hlt];simp [ht]
  ·rw [Array.getElem?_range,MJ hlt];simp [M9 (Oz hlt)]
 have ht2':∀ t,t ∉ L->tm2.getD t undef=undef:=by
  intro t ht
  simp only [tm2,MW,Array.getElem?_map]
  by_cases hlt:t < tm.size
  ·rw [Array.getElem?_range,MK hlt];simp [ht]
  ·rw [Array.getElem?_range,MJ hlt];rfl
 have hs2:wA ρ s2 tm2:=by
  refine ⟨by show s.size=_;simp [tm2,hsz],fun t => ?_⟩
  rw [hg2]
  by_cases ht:t ∈ L
  ·rw [MK ht,ht2 t ht];exact hl t ht
  ·rw [MJ ht,ht2' t ht];exact .qD ρ rfl
 have hsem2:qz P ops s2 o g v g':=hsem.congr (fun t ht=>by rw [hg2,MK ht])
 have hwant:Region.wanted o (yielded ops tm)=yg ops s2 o:=by
  rw [<- jL hs2 ops o]
  unfold Region.wanted
  cases hgd:o.guard with
  | none=>rfl
  | some gw=>
    obtain ⟨q,want⟩:=gw
    simp only []
    have:yielded ops tm q=yielded ops tm2 q:=by
     unfold yielded
     cases hd:(ops[q]?).bind (·.dst) with
     | none=>rfl
     | some d=>
       have hdl:d ∈ L:=by simp only [L,Oper.looksAt,Ns];right;rw [hgd];simp [hd]
       simp only [Nd]
       have e:=ht2 d hdl
       simp only [MW] at e
       have sr:tm2.size=tm.size:=by simp [tm2]
       by_cases hlt:d < tm.size
       ·rw [Na hlt,Na (sr ▸ hlt)] at e ⊢
        simp only [Ol] at e
        rw [e]
       ·rw [M9 (Oz hlt),M9 (by rw [sr];exact Oz hlt)]
    rw [this]
 rcases hsem2 with ⟨hw,rfl,rfl⟩ | ⟨hw,hs | ⟨f,cargs,ts,fid,fa,fc,vs,h1,h2,h3,h4,h5⟩ | ⟨f,cargs,ts,fid,fa,fc,vs,h1,h2,h3,h4⟩⟩
 ·refine ⟨undef,w,ρ,.refl hr,.qD ρ rfl,.one ?_⟩
  rw [Vi (by rw [ho];exact hwant.trans hw),qc,ho]
  rfl
 ·obtain ⟨n,w1,ρ1,v',e,hn,st,hv⟩:=ft (a:=⟨tm2,[]⟩) hs hr hs2
  refine ⟨v',w1,ρ1,st,hv,.one ?_⟩
  have hnd:=Z3 hs
  have hnsel:∀ cs' b',o.op ≠ .select cs' b':=by intro cs' b' e;unfold Vf at hs;rw [e] at hs;cases hs
  have e':(execOp (Act.eval ⟨tm,ds⟩) o).run P w = .ok n w1:=by
   rw [<- e]
   congr 1
   refine execOp_congr o hnsel (fun x hx => ?_)
   exact (YG (ds:=ds) (fun t ht=>(ht2 t ht).symm) x hx).trans (by cases x <;> rfl)
  have hfin:(wj b tm ds (.inRegion ops (j :: rest) :: k)).finish v'=wj b (vC tm o.dst v') ds (.inRegion ops rest :: k):=by rw [qc,ho];rfl
  rw [<- hfin]
  rcases hn with rfl | ⟨rfl,rfl⟩
  ·exact jm ho (hwant.trans hw) hnd e'
  ·exact jX ho (hwant.trans hw) hnd e'
 ·have e1:=zP (a:=⟨tm2,[]⟩) hs2 h2
  have e2:=u9 (a:=⟨tm2,[]⟩) hs2 h3
  have hlook:∀ (ds:List Deferred) x,x ∈ o.op.operands->Act.eval ⟨tm2,[]⟩ x=Act.eval ⟨tm,ds⟩ x:=fun ds x hx=>
   (show Act.eval ⟨tm2,[]⟩ x=Act.eval ⟨tm2,ds⟩ x by cases x <;> rfl).trans (YG (ds:=ds) (fun t ht=>ht2 t ht) x hx)
  generalize hfv:Act.eval ⟨tm2,[]⟩ f=fv at e1
  cases e1 with
  | func ha hcs q1 q2=>
    rename_i fa' fc'
    let full:=fa'.toList ++ cargs.toList.map (Act.eval ⟨tm2,[]⟩) ++ fc'.toList
    have hfull:xp ρ (fa.toList ++ vs ++ fc.toList) full :=
     (xp.append ⟨by simpa using ha,fun i x y hx hy=>q1 i x y (by simpa using hx) (by simpa using hy)⟩ e2).append ⟨by simpa using hcs,fun i x y hx hy=>q2 i x y (by simpa using hx) (by simpa using hy)⟩
    have hrun:(execOp (Act.eval ⟨tm,ds⟩) o).run P w = .ok (.enter fid full.toArray) w:=by
     have hnsel:∀ cs' b',o.op ≠ .select cs' b':=by intro cs' b' e;rw [h1] at e;cases e
     rw [<- execOp_congr o hnsel (hlook ds)]
     have hargs':fa' ++ cargs.map (Act.eval ⟨tm2,[]⟩) ++ fc'=full.toArray:=by apply Om;simp [full]
     simp only [execOp,h1,resolve,hfv,Deferred.ofValue,ME,MN,Mz,invoke,callFunc,run_program,hargs']
     unfold wK at h4
     cases hfn:P.funcs[fid]? with
     | none=>rw [hfn] at h4;cases h4
     | some fn=>
       rw [hfn] at h4
       simp only [MG,MU] at h4
       simp only [h4.2,Nz,MS]
       rw [MJ (by cases hb:fn.body <;> simp_all)]
       rfl
    obtain ⟨e,w1,fr,⟨v0,v',h',ρ',rfl,⟨rfl,rfl⟩,st,hv⟩,hcomes,_,hleave⟩:=h5 ρ w full hr hfull (wj b tm ds (.inRegion ops (j :: rest) :: k) :: cs)
    refine ⟨v',w1,ρ',st,hv,.head (Wj ho (hwant.trans hw) (by rw [h1];rfl) hrun) (Oj hcomes (.one ?_))⟩
    rw [step_leave_returned hleave,qc,ho]
    rfl
 ·obtain ⟨n,w1,ρ1,v',e,hn,st,hv⟩:=gS (a:=⟨tm2,[]⟩) h1 h2 h3 h4 hr hs2
  refine ⟨v',w1,ρ1,st,hv,.one ?_⟩
  have hnd:jY o.op=false:=by rw [h1];rfl
  have hnsel:∀ cs' b',o.op ≠ .select cs' b':=by intro cs' b' e;rw [h1] at e;cases e
  have e':(execOp (Act.eval ⟨tm,ds⟩) o).run P w = .ok n w1:=by
   rw [<- e]
   congr 1
   refine execOp_congr o hnsel (fun x hx => ?_)
   exact (YG (ds:=ds) (fun t ht=>(ht2 t ht).symm) x hx).trans (by cases x <;> rfl)
  have hfin:(wj b tm ds (.inRegion ops (j :: rest) :: k)).finish v'=wj b (vC tm o.dst v') ds (.inRegion ops rest :: k):=by rw [qc,ho];rfl
  rw [<- hfin]
  rcases hn with rfl | ⟨rfl,rfl⟩
  ·exact jm ho (hwant.trans hw) hnd e'
  ·exact jX ho (hwant.trans hw) hnd e'
end
noncomputable section
variable {P:Program}
def yP.cut (ρ:yP) (n:Nat):yP:={ ρ with next:=n }
theorem zD.ext {ρ ρ':yP} (hn:ρ.next<=ρ'.next) (hm:∀ b pl,b < ρ.next->ρ.m b=some pl->ρ'.m b=some pl) {v v':Value} (h:zD ρ v v'):zD ρ' v v':=by
 induction h with
 | iN h=>exact .iN h
 | bool b=>exact .bool b
 | int k n=>exact .int k n
 | float k n=>exact .float k n
 | string s=>exact .string s
 | ptrNil=>exact .ptrNil
 | ptr hb hm0=>exact .ptr (ML hb hn) (hm _ _ hb hm0)
 | kx=>exact .kx
 | sliceNil c=>exact .sliceNil c
 | slice hb hm0 hl hc=>exact .slice (ML hb hn) (hm _ _ hb hm0) hl hc
 | sliceOut hb hc=>exact .sliceOut (ML hb hn) hc
 | nilFunc=>exact .nilFunc
 | nilIface=>exact .nilIface
 | mapNil=>exact .mapNil
 | map hb hm0=>exact .map (ML hb hn) (hm _ _ hb hm0)
 | yield hb hm0=>exact .yield (ML hb hn) (hm _ _ hb hm0)
 | iface _ ih=>exact .iface ih
 | func ha hc _ _ ih ih'=>exact .func ha hc ih ih'
 | agg ha _ ih=>exact .agg ha ih
 | tuple ha _ ih=>exact .tuple ha ih
theorem zD.down {ρ ρ2:yP} (hm:∀ b,b < ρ.next->ρ2.m b=ρ.m b) {v v':Value} (h:zD ρ v v'):∀ {u:Value},zD ρ2 v u->zD ρ v u:=by
 induction h with
 | iN h=>intro u hu;cases hu with | iN h2=>exact .iN h2
 | bool b=>intro u hu;cases hu;exact .bool b
 | int k n=>intro u hu;cases hu;exact .int k n
 | float k n=>intro u hu;cases hu;exact .float k n
 | string s=>intro u hu;cases hu;exact .string s
 | ptrNil=>intro u hu;cases hu;exact .ptrNil
 | ptr hb hm0=>intro u hu;cases hu with | ptr hb2 hm2=>exact .ptr hb ((hm _ hb).symm.trans hm2)
 | kx=>intro u hu;cases hu;exact .kx
 | sliceNil c=>intro u hu;cases hu;exact .sliceNil c
 | slice hb hm0 hl hc=>
   intro u hu
   cases hu with
   | slice hb2 hm2 hl2 hc2=>exact .slice hb ((hm _ hb).symm.trans hm2) hl2 hc2
   | sliceOut hb2 hc2=>exact .sliceOut hb hc2
 | sliceOut hb hc=>
   intro u hu
   cases hu with
   | slice hb2 hm2 hl2 hc2=>exact .slice hb ((hm _ hb).symm.trans hm2) hl2 hc2
   | sliceOut hb2 hc2=>exact .sliceOut hb hc2
 | nilFunc=>intro u hu;cases hu;exact .nilFunc
 | nilIface=>intro u hu;cases hu;exact .nilIface
 | mapNil=>intro u hu;cases hu;exact .mapNil
 | map hb hm0=>intro u hu;cases hu with | map hb2 hm2=>exact .map hb ((hm _ hb).symm.trans hm2)
 | yield hb hm0=>intro u hu;cases hu with | yield hb2 hm2=>exact .yield hb ((hm _ hb).symm.trans hm2)
 | iface _ ih=>intro u hu;cases hu with | iface h2=>exact .iface (ih h2)
 | func ha hc h1 h2 ih ih'=>
   rename_i f a c a' c'
   intro u hu
   cases hu with
   | func ha2 hc2 k1 k2=>
     refine .func ha2 hc2 (fun i x y hx hy => ?_) (fun i x y hx hy => ?_)
     ·obtain ⟨z,hz⟩:∃ z,a'[i]? = some z:=by
       have hlt:i < a.size:=by
        rcases MX i a.size with h | h
        ·exact h
        ·rw [M9 h] at hx;cases hx
       exact ⟨_,Na (ha ▸ hlt)⟩
      exact ih i x z hx hz (k1 i x y hx hy)
     ·obtain ⟨z,hz⟩:∃ z,c'[i]? = some z:=by
       have hlt:i < c.size:=by
        rcases MX i c.size with h | h
        ·exact h
        ·rw [M9 h] at hx;cases hx
       exact ⟨_,Na (hc ▸ hlt)⟩
      exact ih' i x z hx hz (k2 i x y hx hy)
 | agg ha h1 ih=>
   rename_i a a'
   intro u hu
   cases hu with
   | agg ha2 k1=>
     refine .agg ha2 (fun i x y hx hy => ?_)
     obtain ⟨z,hz⟩:∃ z,a'[i]? = some z:=by
      have hlt:i < a.size:=by
       rcases MX i a.size with h | h
       ·exact h
       ·rw [M9 h] at hx;cases hx
      exact ⟨_,Na (ha ▸ hlt)⟩
     exact ih i x z hx hz (k1 i x y hx hy)
 | tuple ha h1 ih=>
   rename_i a a'
   intro u hu
   cases hu with
   | tuple ha2 k1=>
     refine .tuple ha2 (fun i x y hx hy => ?_)
     obtain ⟨z,hz⟩:∃ z,a'[i]? = some z:=by
      have hlt:i < a.size:=by
       rcases MX i a.size with h | h
       ·exact h
       ·rw [M9 h] at hx;cases hx
      exact ⟨_,Na (ha ▸ hlt)⟩
     exact ih i x z hx hz (k1 i x y hx hy)
theorem yT.ext {ρ ρ':yP} (hn:ρ.next<=ρ'.next) (hm:∀ b pl,b < ρ.next->ρ.m b=some pl->ρ'.m b=some pl) {wr:Bool} {c:List Value} {t:TypeId} {pl:Place} {w:World} (hc:yT P ρ wr c t pl w):yT P ρ' wr c t pl w:=by
 obtain ⟨cs,fz,h1,h2,h3,h4,h5,h6⟩:=hc
 exact ⟨cs,fz,h1,h2,h3,h4,h5,fun i x hx=>by obtain ⟨y,hy,hv⟩:=h6 i x hx;exact ⟨y,hy,hv.ext hn hm⟩⟩
theorem yT.down {ρ ρ2:yP} (hm:∀ b,b < ρ.next->ρ2.m b=ρ.m b) {wr wr2:Bool} {c:List Value} {t:TypeId} {pl:Place} {w w2:World} (h:yT P ρ wr c t pl w) (h2:yT P ρ2 wr2 c t pl w2):yT P ρ wr2 c t pl w2:=by
 obtain ⟨cs,fz,a1,a2,a3,a4,a5,a6⟩:=h
 obtain ⟨cs2,fz2,b1,b2,b3,b4,b5,b6⟩:=h2
 exact ⟨cs2,fz2,b1,b2,b3,b4,b5,fun i x hx=>by
  obtain ⟨y,hy,hv⟩:=a6 i x hx
  obtain ⟨y2,hy2,hv2⟩:=b6 i x hx
  exact ⟨y2,hy2,hv.down hm hv2⟩⟩
theorem wE.ext {ρ ρ':yP} (hn:ρ.next<=ρ'.next) (hm:∀ b pl,b < ρ.next->ρ.m b=some pl->ρ'.m b=some pl) {wr:Bool} {o:xS} {pl:Place} {w:World} (hc:wE P ρ wr o pl w):wE P ρ' wr o pl w:=by
 cases o with
 | cells c t=>exact yT.ext hn hm hc
 | map es q=>obtain ⟨ms,h1,h2,h3⟩:=hc;exact ⟨ms,h1,h2,fun i x m hx hm0=>⟨(h3 i x m hx hm0).1.ext hn hm,(h3 i x m hx hm0).2.1.ext hn hm,(h3 i x m hx hm0).2.2⟩⟩
 | iter m a b c=>obtain ⟨m',h1,h0,h2⟩:=hc;exact ⟨m',h1,h0,h2.ext hn hm⟩
 | tab c=>obtain ⟨t,h1⟩:=hc;exact ⟨t,yT.ext hn hm h1⟩
 | siter s pos=>exact hc
 | loop l=>obtain ⟨tm,d,fn,h1,h2⟩:=hc;exact ⟨tm,d,fn,h1,h2.size,fun i=>(h2.get i).ext hn hm⟩
theorem wE.down {ρ ρ2:yP} (hm:∀ b,b < ρ.next->ρ2.m b=ρ.m b) {wr wr2:Bool} {o:xS} {pl:Place} {w w2:World} (h:wE P ρ wr o pl w) (h2:wE P ρ2 wr2 o pl w2):wE P ρ wr2 o pl w2:=by
 cases o with
 | cells c t=>exact yT.down hm h h2
 | iter m a b c=>
   obtain ⟨m1,a1,_,a2⟩:=h
   obtain ⟨m2,b1,b0,b2⟩:=h2
   exact ⟨m2,b1,b0,a2.down hm b2⟩
 | siter s pos=>exact h2
 | tab c=>
   obtain ⟨t,cs,fz,a1,a2,a3,a4,a5,a6⟩:=h
   obtain ⟨t2,cs2,fz2,b1,b2,b3,b4,b5,b6⟩:=h2
   exact ⟨t2,cs2,fz2,b1,b2,b3,b4,b5,fun i x hx=>by
    obtain ⟨y,hy,hv⟩:=a6 i x hx
    obtain ⟨y2,hy2,hv2⟩:=b6 i x hx
    exact ⟨y2,hy2,hv.down hm hv2⟩⟩
 | map es q=>
   obtain ⟨ms,a1,a2,a3⟩:=h
   obtain ⟨ms2,b1,b2,b3⟩:=h2
   refine ⟨ms2,b1,b2,fun i x m hx hm0 => ?_⟩
   obtain ⟨z,hz⟩:∃ z,ms[i]? = some z:=by
    have hlt:i < ms.size:=by
     rcases MX i es.length with h | h
     ·omega
     ·rw [MO h] at hx;cases hx
    exact ⟨_,Na hlt⟩
   exact ⟨(a3 i x z hx hz).1.down hm (b3 i x m hx hm0).1,(a3 i x z hx hz).2.1.down hm (b3 i x m hx hm0).2.1,(b3 i x m hx hm0).2.2⟩
 | loop l=>
   obtain ⟨tm,d,fn,a1,a2⟩:=h
   obtain ⟨tm2,d2,fn2,b1,b2⟩:=h2
   exact ⟨tm2,d2,fn2,b1,b2.size,fun i=>(a2.get i).down hm (b2.get i)⟩
theorem wE.Wf {ρ:yP} {n m:Nat} (h:n<=m) {wr:Bool} {o:xS} {pl:Place} {w:World} (hc:wE P (ρ.cut n) wr o pl w):wE P (ρ.cut m) wr o pl w:=wE.ext (ρ:=ρ.cut n) (ρ':=ρ.cut m) h (fun _ _ _ h=>h) hc
theorem wE.J6 {ρ ρ':yP} {n:Nat} (hm:∀ b pl,ρ.m b=some pl->ρ'.m b=some pl) {wr:Bool} {o:xS} {pl:Place} {w:World} (hc:wE P (ρ.cut n) wr o pl w):wE P (ρ'.cut n) wr o pl w:=wE.ext (ρ:=ρ.cut n) (ρ':=ρ'.cut n) (MI _) (fun b pl _ h=>hm b pl h) hc
theorem zD.Wf {ρ:yP} {n m:Nat} (h:n<=m) {v v':Value} (hv:zD (ρ.cut n) v v'):zD (ρ.cut m) v v':=zD.ext (ρ:=ρ.cut n) (ρ':=ρ.cut m) h (fun _ _ _ h=>h) hv
theorem zD.J6 {ρ ρ':yP} {n:Nat} (hm:∀ b pl,ρ.m b=some pl->ρ'.m b=some pl) {v v':Value} (hv:zD (ρ.cut n) v v'):zD (ρ'.cut n) v v':=zD.ext (ρ:=ρ.cut n) (ρ':=ρ'.cut n) (MI _) (fun b pl _ h=>hm b pl h) hv
structure yp where
 j:Nat
 o:Oper
 v:Value
 s:Env
 g:za
 g':za
 rd:Nat->Bool
 tc:Nat->Bool
def wa (T:List yp) (p:yp->Bool):Option yp:=(T.filter p).getLast?
def YN (t:Nat) (r:yp):Bool:=decide (r.o.dst=some t)
def YE (T:List yp) (s0:Env) (t:Nat):Value:=match wa T (YN t) with | some r=>r.v | none=>s0.get t
def Uw (T:List yp) (n0:Nat) (t:Nat):Nat:=match wa T (YN t) with | some r=>r.g'.next | none=>n0
def jo (T:List yp) (h0:za) (b:Nat):Option xS:=match wa T (fun r=>r.tc b) with | some r=>r.g'.get b | none=>h0.get b
def QP (T:List yp) (n0:Nat) (b:Nat):Nat:=match wa T (fun r=>r.tc b) with | some r=>r.g'.next | none=>n0
inductive Prec (ops:Array Oper):Nat->Nat->Prop
 | one {j:Nat} {o:Oper} {e:Edge} (ho:ops[j]? = some o) (he:e ∈ o.after) (hb:Region.binds .any e=true):Prec ops e.on j
 | more {i j:Nat} {o:Oper} {e:Edge} (ho:ops[j]? = some o) (he:e ∈ o.after) (hb:Region.binds .any e=true) (h:Prec ops i e.on):Prec ops i j
structure K7 (ops:Array Oper) (x y:yp):Prop where
 d1:∀ d,x.o.dst=some d->d ∉ y.o.looksAt ops/\y.o.dst ≠ some d
 d2:∀ d,y.o.dst=some d->d ∉ x.o.looksAt ops
 b1:∀ b,x.tc b=true->y.rd b=false/\y.tc b=false
 b2:∀ b,y.tc b=true->x.rd b=false
structure Told (P:Program) (ops:Array Oper) (s0:Env) (h0:za) (A:List yp) (r:yp):Prop where
 op:ops[r.j]? = some r.o
 env:∀ t,r.s.get t=YE A s0 t
 size:r.s.size=s0.size
 heap:∀ b,r.g.get b=if r.rd b=true then jo A h0 b else none
 ro:r.g.ro=h0.ro
 n0:h0.next<=r.g.next
 nA:∀ x,x ∈ A->x.g'.next<=r.g.next
 n1:r.g.next<=r.g'.next
 I3:qz P ops r.s r.o r.g r.v r.g'
 put:∀ d,r.o.dst=some d->d < s0.size
 Mw:∀ b,r.tc b=true->r.rd b=true\/(r.g.next<=b/\b < r.g'.next)
 Ll:∀ b,r.tc b=false->r.g'.get b=r.g.get b
 Lm:∀ b o,r.tc b=true->b < r.g.next->r.g'.get b=some o->r.g.get b ≠ none
structure Valid (P:Program) (ops:Array Oper) (s0:Env) (h0:za) (tr:List yp):Prop where
 nodup:(tr.map (·.j)).Nodup
 all:∀ i,i < ops.size->∃ r,r ∈ tr/\r.j=i
 told:∀ A r B,tr=A ++ r :: B->Told P ops s0 h0 A r
 YY:∀ A r B,tr=A ++ r :: B->∀ e,e ∈ r.o.after->Region.binds .any e=true->∃ x,x ∈ A/\x.j=e.on
 apart:∀ A x B y C,tr=A ++ x :: (B ++ y :: C)->Prec ops x.j y.j\/K7 ops x y
theorem ZH {tr A B:List yp} {r x:yp} (hn:(tr.map (·.j)).Nodup) (e:tr=A ++ r :: B) (hx:x ∈ A\/x ∈ B):x.j ≠ r.j:=by
 subst e
 rw [Ov,N6] at hn
 have h1:=List.nodup_append.1 hn
 intro ej
 rcases hx with hx | hx
 ·exact h1.2.2 x.j (List.mem_map_of_mem hx) r.j (by simp) ej
 ·have:=(List.nodup_cons.1 h1.2.1).1
  exact this (ej ▸ List.mem_map_of_mem hx)
theorem Cd {ops:Array Oper} {s0:Env} {h0:za} {tr:List yp} (V:Valid P ops s0 h0 tr) {S:Nat->Bool} (hdown:∀ i j,Prec ops i j->S j=true->S i=true) {A B:List yp} {r:yp} (e:tr=A ++ r :: B)
  (hready:∀ i,Prec ops i r.j->S i=true) (hnot:S r.j=false) {p:yp->Bool} (hp:∀ x,(x ∈ A->p x=true->Prec ops x.j r.j)/\(x ∈ B->p x=true->Prec ops r.j x.j)) :
  (A.filter (fun x=>S x.j)).filter p=A.filter p/\(B.filter (fun x=>S x.j)).filter p = []:=by
 constructor
 ·rw [Oe]
  apply N0
  intro x hx
  cases hpx:p x with
  | false=>simp
  | true=>rw [hready _ ((hp x).1 hx hpx)];rfl
 ·rw [Oe,OE]
  intro x hx hc
  simp only [MG] at hc
  have:=hdown _ _ ((hp x).2 hx hc.1) hc.2
  rw [hnot] at this
  cases this
theorem Valid.order {ops:Array Oper} {s0:Env} {h0:za} {tr A B:List yp} {r:yp} (V:Valid P ops s0 h0 tr) (e:tr=A ++ r :: B) {p:yp->Bool} (hA:∀ x,K7 ops x r->p x=false) (hB:∀ x,K7 ops r x->p x=false) :
  ∀ x,(x ∈ A->p x=true->Prec ops x.j r.j)/\(x ∈ B->p x=true->Prec ops r.j x.j):=by
 intro x
 constructor
 ·intro hx hpx
  obtain ⟨A1,A2,rfl⟩:=Nl hx
  rcases V.apart A1 x A2 r B (by simp [e]) with h | h
  ·exact h
  ·rw [hA x h] at hpx;cases hpx
 ·intro hx hpx
  obtain ⟨B1,B2,rfl⟩:=Nl hx
  rcases V.apart A r B1 x B2 e with h | h
  ·exact h
  ·rw [hB x h] at hpx;cases hpx
end
noncomputable section
variable {P:Program}
structure W4 (P:Program) (tr:List yp) (s0:Env) (h0:za) (N:Nat) (ρ0:yP) (w0:World) (S:Nat->Bool) (ρ:yP) (w:World) (tm:Array Value):Prop where
 next:ρ.next=N
 old:∀ b,b < h0.next->ρ.m b=ρ0.m b
 size:s0.size=tm.size
 env:∀ t,zD (ρ.cut (Uw (tr.filter fun r=>S r.j) h0.next t)) (YE (tr.filter fun r=>S r.j) s0 t) (tm.getD t undef)
 heap:∀ b o,jo (tr.filter fun r=>S r.j) h0 b=some o->b < QP (tr.filter fun r=>S r.j) h0.next b /\
  ∃ pl,ρ.m b=some pl/\wE P (ρ.cut (QP (tr.filter fun r=>S r.j) h0.next b)) (decide (h0.ro<=b)) o pl w
 inj:∀ b1 b2 o1 o2 p1 p2,jo (tr.filter fun r=>S r.j) h0 b1=some o1->jo (tr.filter fun r=>S r.j) h0 b2=some o2->ρ.m b1=some p1->ρ.m b2=some p2->p1.c=p2.c->b1=b2
 fresh:∀ x,x ∈ tr->S x.j=false->∀ b,x.g.next<=b->b < x.g'.next->ρ.m b=none
 os:w.os=w0.os
 tape:w.tape=w0.tape
 output:w.output=w0.output
 Vl:w0.heap.size<=w.heap.size
 frame:∀ c,c < w0.heap.size->¬ VY ρ0 h0 c->w.heap[c]? = w0.heap[c]?
 KI:∀ b o pl,jo (tr.filter fun r=>S r.j) h0 b=some o->h0.ro<=b->ρ.m b=some pl->pl.c < w0.heap.size->VY ρ0 h0 pl.c
 QO:P.globals.size<=h0.ro
 gl:∀ b pl,b < P.globals.size->ρ.m b=some pl->pl.c=b/\pl.base=0
def vY (S:Nat->Bool) (j:Nat):Nat->Bool:=fun i=>S i || decide (i=j)
section
variable {ops:Array Oper} {s0:Env} {h0:za} {tr A B:List yp} {r:yp} {S:Nat->Bool}
theorem UE (e:tr=A ++ r :: B) (hnot:S r.j=false):tr.filter (fun x=>S x.j)=A.filter (fun x=>S x.j) ++ B.filter (fun x=>S x.j):=by
 subst e;simp [hnot]
theorem aF (V:Valid P ops s0 h0 tr) (e:tr=A ++ r :: B):tr.filter (fun x=>vY S r.j x.j)=A.filter (fun x=>S x.j) ++ r :: B.filter (fun x=>S x.j):=by
 have hA:A.filter (fun x=>vY S r.j x.j)=A.filter (fun x=>S x.j):=N0 fun x hx=>by simp [vY,ZH V.nodup e (.inl hx)]
 have hB:B.filter (fun x=>vY S r.j x.j)=B.filter (fun x=>S x.j):=N0 fun x hx=>by simp [vY,ZH V.nodup e (.inr hx)]
 rw [e,Ng,NW,hA,hB,MK (by simp [vY])]
theorem Kv (V:Valid P ops s0 h0 tr) (hdown:∀ i j,Prec ops i j->S j=true->S i=true) (e:tr=A ++ r :: B) (hready:∀ i,Prec ops i r.j->S i=true) (hnot:S r.j=false) {p:yp->Bool}
  (hA:∀ x,K7 ops x r->p x=false) (hB:∀ x,K7 ops r x->p x=false):wa (tr.filter fun x=>S x.j) p=wa A p:=by
 obtain ⟨h1,h2⟩:=Cd V hdown e hready hnot (V.order e hA hB)
 rw [wa,UE e hnot,Ng,h1,h2,List.append_nil];rfl
theorem VI (V:Valid P ops s0 h0 tr) (hdown:∀ i j,Prec ops i j->S j=true->S i=true) (e:tr=A ++ r :: B) (hready:∀ i,Prec ops i r.j->S i=true) (hnot:S r.j=false) {p:yp->Bool} (hr:p r=true)
  (hA:∀ x,K7 ops x r->p x=false) (hB:∀ x,K7 ops r x->p x=false):wa (tr.filter fun x=>vY S r.j x.j) p=some r:=by
 obtain ⟨h1,h2⟩:=Cd V hdown e hready hnot (V.order e hA hB)
 rw [wa,aF V e,Ng,NW,MK hr,h1,h2]
 simp
theorem VJ (V:Valid P ops s0 h0 tr) (e:tr=A ++ r :: B) (hnot:S r.j=false) {p:yp->Bool} (hr:p r=false):wa (tr.filter fun x=>vY S r.j x.j) p=wa (tr.filter fun x=>S x.j) p:=by
 rw [wa,wa,aF V e,UE e hnot,Ng,NW,hr,MJ (by simp),Ng]
theorem jQ {T:List yp} {p:yp->Bool} {x:yp} (h:wa T p=some x):x ∈ T/\p x=true:=by
 have:=List.mem_of_getLast? h
 exact Oc.1 this
theorem Au (hro0:h0.ro<=h0.next) (V:Valid P ops s0 h0 tr) (hdown:∀ i j,Prec ops i j->S j=true->S i=true) (e:tr=A ++ r :: B) (hready:∀ i,Prec ops i r.j->S i=true) (hnot:S r.j=false)
  {N:Nat} (hN:∀ x,x ∈ tr->x.g'.next<=N) {ρ0 ρ:yP} {w0 w:World} {tm:Array Value} (I:W4 P tr s0 h0 N ρ0 w0 S ρ w tm) (ds:List Deferred) (rest:List Nat) (b:Frame) (k:List Item) (cs:List Frame) :
  ∃ ρ' w' tm',W4 P tr s0 h0 N ρ0 w0 (vY S r.j) ρ' w' tm'/\Steps P (lone (wj b tm ds (.inRegion ops (r.j :: rest) :: k)) cs w) (lone (wj b tm' ds (.inRegion ops rest :: k)) cs w'):=by
 have D:=V.told A r B e
 have hrm:r ∈ tr:=by rw [e];simp
 have lookEnv:∀ t,t ∈ r.o.looksAt ops->wa (tr.filter fun x=>S x.j) (YN t)=wa A (YN t):=fun t ht=>
  Kv V hdown e hready hnot (fun x hx=>by
   cases hw:YN t x with
   | false=>rfl
   | true=>exact absurd ht (hx.d1 t (NH hw)).1) (fun x hx=>by
   cases hw:YN t x with
   | false=>rfl
   | true=>exact absurd ht (hx.d2 t (NH hw)))
 have lookHeap:∀ bb,r.rd bb=true->wa (tr.filter fun x=>S x.j) (fun x=>x.tc bb)=wa A (fun x=>x.tc bb):=fun bb hb=>
  Kv V hdown e hready hnot (fun x hx=>by
   cases hw:x.tc bb with
   | false=>rfl
   | true=>have:=(hx.b1 bb hw).1;rw [hb] at this;cases this) (fun x hx=>by
   cases hw:x.tc bb with
   | false=>rfl
   | true=>have:=hx.b2 bb hw;rw [hb] at this;cases this)
 have hpVeq:∀ bb,r.rd bb=true->jo (tr.filter fun x=>S x.j) h0 bb=r.g.get bb:=fun bb hb=>by
  rw [D.heap,MK hb];simp only [jo,lookHeap bb hb]
 have hpNle:∀ bb,r.rd bb=true->QP (tr.filter fun x=>S x.j) h0.next bb<=r.g.next:=fun bb hb=>by
  simp only [QP,lookHeap bb hb]
  split
  ·rename_i x hx;exact D.nA x (jQ hx).1
  ·exact D.n0
 have galive:∀ bb o,r.g.get bb=some o->r.rd bb=true/\jo (tr.filter fun x=>S x.j) h0 bb=some o:=fun bb o hg=>by
  rw [D.heap] at hg
  cases hb:r.rd bb with
  | false=>rw [hb] at hg;simp at hg
  | true=>exact ⟨rfl,by rw [hpVeq bb hb,D.heap];exact hg⟩
 let ρr:=ρ.cut r.g.next
 have hrel:Rel P ρr r.g w:=by
  refine ⟨rfl,?_,?_,?_,?_,by rw [D.ro];exact I.QO,I.gl⟩
  ·have h1:=D.ro;have h2:=D.n0
   show r.g.ro<=r.g.next
   omega
  ·intro bb o hg
   obtain ⟨h1,h2⟩:=galive bb o hg
   exact ML (I.heap bb o h2).1 (hpNle bb h1)
  ·intro bb o hg
   obtain ⟨h1,h2⟩:=galive bb _ hg
   obtain ⟨_,pl,hp,hc⟩:=I.heap bb o h2
   refine ⟨pl,hp,?_⟩
   rw [D.ro]
   exact hc.Wf (hpNle bb h1)
  ·intro b1 b2 o1 o2 p1 p2 g1 g2
   exact I.inj b1 b2 o1 o2 p1 p2 (galive b1 o1 g1).2 (galive b2 o2 g2).2
 have hlook:∀ t,t ∈ r.o.looksAt ops->zD ρr (r.s.get t) (tm.getD t undef):=by
  intro t ht
  have h1:=I.env t
  have e1:YE (tr.filter fun x=>S x.j) s0 t=r.s.get t:=by rw [D.env t];simp only [YE,lookEnv t ht]
  have e2:Uw (tr.filter fun x=>S x.j) h0.next t<=r.g.next:=by
   simp only [Uw,lookEnv t ht]
   split
   ·rename_i x hx;exact D.nA x (jQ hx).1
   ·exact D.n0
  rw [e1] at h1
  exact h1.Wf e2
 obtain ⟨v',w',ρq,st,hv,sx⟩:=Ws D.op D.I3 hrel (D.size.trans I.size) hlook ds rest b k cs
 let ρ':yP:={ next:=N,m:=fun bb=>if r.g.next<=bb/\bb < r.g'.next then ρq.m bb else ρ.m bb }
 have qnext:ρq.next=r.g'.next:=st.rel.next
 have qlow:∀ bb,bb < r.g.next->ρq.m bb=ρ.m bb:=fun bb hb=>st.le.2 bb hb
 have pq:∀ bb,bb < r.g'.next->ρ'.m bb=ρq.m bb:=by
  intro bb hb
  by_cases hl:r.g.next<=bb
  ·exact MK ⟨hl,hb⟩
  ·rw [show ρ'.m bb=ρ.m bb from MJ (by omega),qlow bb (by omega)]
 have rfresh:=I.fresh r hrm hnot
 have pext:∀ bb pl,ρ.m bb=some pl->ρ'.m bb=some pl:=by
  intro bb pl hm
  rw [show ρ'.m bb=ρ.m bb from MJ (by
   rintro ⟨h1,h2⟩
   rw [rfresh bb h1 h2] at hm;cases hm)]
  exact hm
 have hn1N:r.g'.next<=N:=hN r hrm
 have notMine:∀ bb o pl,jo (tr.filter fun x=>S x.j) h0 bb=some o->ρ.m bb=some pl->r.rd bb=false->¬ VY ρr r.g pl.c:=by
  rintro bb o pl hg hm hb ⟨b1,o1,p1,g1,_,m1,e1⟩
  obtain ⟨k1,k2⟩:=galive b1 o1 g1
  have:=I.inj b1 bb o1 o p1 pl k2 hg m1 hm e1
  subst this
  rw [hb] at k1;cases k1
 have hpVnew:∀ bb,jo (tr.filter fun x=>vY S r.j x.j) h0 bb=if r.tc bb=true then r.g'.get bb else jo (tr.filter fun x=>S x.j) h0 bb:=by
  intro bb
  cases ht:r.tc bb with
  | true=>
    rw [MK rfl]
    simp only [jo]
    rw [VI V hdown e hready hnot ht (fun x hx=>by
     cases hw:x.tc bb with
     | false=>rfl
     | true=>have:=(hx.b1 bb hw).2;rw [ht] at this;cases this) (fun x hx=>by
     cases hw:x.tc bb with
     | false=>rfl
     | true=>have:=(hx.b1 bb ht).2;rw [hw] at this;cases this)]
  | false=>
    rw [MJ (by simp)]
    simp only [jo]
    rw [VJ V e hnot (p:=fun x=>x.tc bb) ht]
 have hpNnew:∀ bb,QP (tr.filter fun x=>vY S r.j x.j) h0.next bb=if r.tc bb=true then r.g'.next else QP (tr.filter fun x=>S x.j) h0.next bb:=by
  intro bb
  cases ht:r.tc bb with
  | true=>
    rw [MK rfl]
    simp only [QP]
    rw [VI V hdown e hready hnot ht (fun x hx=>by
     cases hw:x.tc bb with
     | false=>rfl
     | true=>have:=(hx.b1 bb hw).2;rw [ht] at this;cases this) (fun x hx=>by
     cases hw:x.tc bb with
     | false=>rfl
     | true=>have:=(hx.b1 bb ht).2;rw [hw] at this;cases this)]
  | false=>
    rw [MJ (by simp)]
    simp only [QP]
    rw [VJ V e hnot (p:=fun x=>x.tc bb) ht]
 have cases':∀ bb o,jo (tr.filter fun x=>vY S r.j x.j) h0 bb=some o->(r.tc bb=true/\r.g'.get bb=some o)\/(r.tc bb=false/\jo (tr.filter fun x=>S x.j) h0 bb=some o):=by
  intro bb o h
  rw [hpVnew] at h
  cases ht:r.tc bb with
  | true=>rw [ht,MK rfl] at h;exact .inl ⟨rfl,h⟩
  | false=>rw [ht,MJ (by simp)] at h;exact .inr ⟨rfl,h⟩
 refine ⟨ρ',w',vC tm r.o.dst v',⟨rfl,?_,?_,?_,?_,?_,?_,st.os.trans I.os,st.tape.trans I.tape,st.output.trans I.output,Nm I.Vl st.size,?_,?_,I.QO,fun b pl hb hm=>I.gl b pl hb (by
  rw [show ρ'.m b=ρ.m b from MJ (by have:=D.n0;have:=I.QO;omega)] at hm;exact hm)⟩,sx⟩
 ·intro bb hb
  rw [show ρ'.m bb=ρ.m bb from MJ (by have:=D.n0;omega)]
  exact I.old bb hb
 ·cases r.o.dst with
  | none=>exact I.size
  | some d=>simp only [vC,Array.size_setIfInBounds];exact I.size
 ·
  intro t
  by_cases ht:r.o.dst=some t
  ·have e1:wa (tr.filter fun x=>vY S r.j x.j) (YN t)=some r:=VI V hdown e hready hnot (p:=YN t) (by simp [YN,ht]) (fun x hx=>by
    cases hw:YN t x with
    | false=>rfl
    | true=>exact absurd ht (hx.d1 t (NH hw)).2) (fun x hx=>by
    cases hw:YN t x with
    | false=>rfl
    | true=>exact absurd (NH hw) (hx.d1 t ht).2)
   simp only [YE,Uw,e1]
   have e2:(vC tm r.o.dst v').getD t undef=v':=by
    have hlt:t < tm.size:=by rw [<- I.size];exact D.put t ht
    rw [ht];simp [vC,MW,hlt]
   rw [e2]
   refine hv.ext (by show ρq.next<=r.g'.next;rw [qnext];exact MI _) (fun bb pl hb hm => ?_)
   show ρ'.m bb=some pl
   rw [pq bb (by rw [<- qnext];exact hb)];exact hm
  ·have e1:wa (tr.filter fun x=>vY S r.j x.j) (YN t)=wa (tr.filter fun x=>S x.j) (YN t):=VJ V e hnot (p:=YN t) (by simp [YN,ht])
   have e2:(vC tm r.o.dst v').getD t undef=tm.getD t undef:=by
    cases hd:r.o.dst with
    | none=>rfl
    | some d=>
      have:d ≠ t:=fun h=>ht (by rw [hd,h])
      simp [vC,MW,this]
   have h1:=I.env t
   simp only [YE,Uw] at h1 ⊢
   rw [e1,e2]
   exact h1.J6 (ρ':=ρ') pext
 ·
  intro bb o hg
  rcases cases' bb _ hg with ⟨ht,hg'⟩ | ⟨ht,hg'⟩
  ·rw [hpNnew,MK ht]
   obtain ⟨pl,hp,hc⟩:=st.rel.ok bb o hg'
   have hlt:=st.rel.XU bb _ hg'
   refine ⟨hlt,pl,by rw [pq bb hlt];exact hp,?_⟩
   have hro:r.g'.ro=h0.ro:=st.ro.trans D.ro
   rw [hro] at hc
   exact hc.ext (by show ρq.next<=r.g'.next;rw [qnext];exact MI _) (fun b2 p2 hb hm=>by show ρ'.m b2=some p2;rw [pq b2 (by rw [<- qnext];exact hb)];exact hm)
  ·rw [hpNnew,ht,MJ (by simp)]
   obtain ⟨hlt,pl,hp,hc⟩:=I.heap bb o hg'
   refine ⟨hlt,pl,pext bb pl hp,?_⟩
   have hdone:wE P (ρ.cut (QP (tr.filter fun x=>S x.j) h0.next bb)) (decide (h0.ro<=bb)) o pl w':=by
    cases hb:r.rd bb with
    | true=>
      have hgg:r.g'.get bb=some o:=by rw [D.Ll bb ht,<- hpVeq bb hb];exact hg'
      obtain ⟨p2,hp2,hc2⟩:=st.rel.ok bb o hgg
      have hbl:bb < r.g.next:=ML hlt (hpNle bb hb)
      rw [qlow bb hbl,hp] at hp2
      cases hp2
      have hro:r.g'.ro=h0.ro:=st.ro.trans D.ro
      rw [hro] at hc2
      exact wE.down (ρ:=ρ.cut (QP (tr.filter fun x=>S x.j) h0.next bb)) (ρ2:=ρq) (fun b2 hb2=>qlow b2 (ML hb2 (hpNle bb hb))) hc hc2
    | false=>exact hc.other (st.frame pl.c hc.lt (notMine bb _ pl hg' hp hb))
   exact hdone.J6 (ρ':=ρ') pext
 ·
  have key:∀ b1 b2 o1 o2 p1 p2,r.tc b1=true->r.g'.get b1=some o1->r.tc b2=false->jo (tr.filter fun x=>S x.j) h0 b2=some o2->ρ'.m b1=some p1->ρ'.m b2=some p2->p1.c=p2.c->b1=b2:=by
   intro b1 b2 o1 o2 p1 p2 t1 g1 t2 g2 m1 m2 ec
   obtain ⟨hlt2,q2,hq2,hc2⟩:=I.heap b2 o2 g2
   rw [pext b2 q2 hq2] at m2
   cases m2
   have hl1:=st.rel.XU b1 o1 g1
   rw [pq b1 hl1] at m1
   cases hb2:r.rd b2 with
   | true=>
     have hgg:r.g'.get b2=some o2:=by rw [D.Ll b2 t2,<- hpVeq b2 hb2];exact g2
     have hbl:b2 < r.g.next:=ML hlt2 (hpNle b2 hb2)
     exact st.rel.inj b1 b2 o1 _ p1 p2 g1 hgg m1 (by rw [qlow b2 hbl];exact hq2) ec
   | false=>
     by_cases hw:h0.ro<=b1
     ·have hM:VY ρq r.g' p1.c:=⟨b1,o1,p1,g1,by rw [st.ro,D.ro];exact hw,m1,rfl⟩
      have hlt:p1.c < w.heap.size:=by rw [ec];exact hc2.lt
      have:=st.KI p1.c hlt hM
      rw [ec] at this
      exact absurd this (notMine b2 _ p2 g2 hq2 hb2)
     ·have hb1:b1 < r.g.next:=by have:=D.n0;omega
      have hne:=D.Lm b1 o1 t1 hb1 g1
      obtain ⟨o1',ho1'⟩:∃ o,r.g.get b1=some o:=by cases hh:r.g.get b1 with | none=>exact absurd hh hne | some o=>exact ⟨o,rfl⟩
      rw [qlow b1 hb1] at m1
      exact I.inj b1 b2 o1' _ p1 p2 (galive b1 o1' ho1').2 g2 m1 hq2 ec
  intro b1 b2 o1 o2 p1 p2 g1 g2 m1 m2 ec
  rcases cases' b1 o1 g1 with ⟨t1,k1⟩ | ⟨t1,k1⟩ <;> rcases cases' b2 o2 g2 with ⟨t2,k2⟩ | ⟨t2,k2⟩
  ·have l1:=st.rel.XU b1 o1 k1
   have l2:=st.rel.XU b2 o2 k2
   rw [pq b1 l1] at m1;rw [pq b2 l2] at m2
   exact st.rel.inj b1 b2 o1 o2 p1 p2 k1 k2 m1 m2 ec
  ·exact key b1 b2 o1 o2 p1 p2 t1 k1 t2 k2 m1 m2 ec
  ·exact (key b2 b1 o2 o1 p2 p1 t2 k2 t1 k1 m2 m1 ec.symm).symm
  ·obtain ⟨_,q1,hq1,_⟩:=I.heap b1 o1 k1
   obtain ⟨_,q2,hq2,_⟩:=I.heap b2 o2 k2
   rw [pext b1 q1 hq1] at m1;rw [pext b2 q2 hq2] at m2
   cases m1;cases m2
   exact I.inj b1 b2 _ _ p1 p2 k1 k2 hq1 hq2 ec
 ·
  intro x hx hS bb h1 h2
  simp only [vY,Ou,M6] at hS
  have h3:=I.fresh x hx hS.1 bb h1 h2
  have hne:x ≠ r:=fun h=>hS.2 (by rw [h])
  have hdis:¬ (r.g.next<=bb/\bb < r.g'.next):=by
   rw [e] at hx
   rcases Ns.1 hx with hxA | hxB
   ·have:=D.nA x hxA;omega
   ·rcases NJ.1 hxB with hxr | hxB
    ·exact absurd hxr hne
    ·obtain ⟨B1,B2,rfl⟩:=Nl hxB
     have:=(V.told (A ++ r :: B1) x B2 (by simp [e])).nA r (by simp)
     omega
  rw [show ρ'.m bb=ρ.m bb from MJ hdis]
  exact h3
 ·intro c hc hn
  rw [st.frame c (ML hc I.Vl) (by
   rintro ⟨b1,o1,p1,g1,hro1,m1,rfl⟩
   exact hn (I.KI b1 o1 p1 (galive b1 o1 g1).2 (by rw [<- D.ro];exact hro1) m1 hc))]
  exact I.frame c hc hn
 ·intro bb o pl hg hro hm hc
  rcases cases' bb o hg with ⟨ht,hg'⟩ | ⟨ht,hg'⟩
  ·rw [pq bb (st.rel.XU bb o hg')] at hm
   obtain ⟨b1,o1,p1,g1,hro1,m1,e1⟩:=st.KI pl.c (ML hc I.Vl) ⟨bb,o,pl,hg',by rw [st.ro,D.ro];exact hro,hm,rfl⟩
   rw [<- e1]
   exact I.KI b1 o1 p1 (galive b1 o1 g1).2 (by rw [<- D.ro];exact hro1) m1 (by rw [e1];exact hc)
  ·obtain ⟨_,q,hq,_⟩:=I.heap bb o hg'
   rw [pext bb q hq] at hm
   cases hm
   exact I.KI bb _ pl hg' hro hq hc
end
end
noncomputable section
variable {P:Program}
section
variable {ops:Array Oper} {s0:Env} {h0:za} {tr:List yp}
theorem W0 {listed:Array Bool} {i:Nat} (h:i ∈ Region.ready .any ops listed):i < ops.size/\listed.getD i true=false /\ ∀ o,ops[i]? = some o->∀ e,e ∈ o.after->Region.binds .any e=true->listed.getD e.on false=true:=by
 simp only [Region.ready,Oc,NV,MG,MU] at h
 refine ⟨h.1,h.2.1,fun o ho e he hb => ?_⟩
 have:=h.2.2
 rw [ho] at this
 simp only [NX,Ol,Array.all_eq_true_iff_forall_mem,Nt,MU] at this
 rcases this e he with h1 | h1
 ·rw [hb] at h1;cases h1
 ·exact h1
theorem nq {listed:Array Bool} {i:Nat} (hi:i < ops.size) (hl:listed.getD i true=false) (h:∀ o,ops[i]? = some o->∀ e,e ∈ o.after->Region.binds .any e=true->listed.getD e.on false=true):i ∈ Region.ready .any ops listed:=by
 simp only [Region.ready,Oc,NV,MG,MU]
 refine ⟨hi,hl,?_⟩
 rw [Na hi]
 simp only [NX,Ol,Array.all_eq_true_iff_forall_mem,Nt,MU]
 intro e he
 cases hb:Region.binds .any e with
 | false=>exact .inl rfl
 | true=>exact .inr (h _ (Na hi) e he hb)
theorem D9 (hro0:h0.ro<=h0.next) (V:Valid P ops s0 h0 tr) {N:Nat} (hN:∀ x,x ∈ tr->x.g'.next<=N) {ρ0:yP} {w0:World} (ds:List Deferred) (b:Frame) (k:List Item) (cs:List Frame) :
  ∀ (fuel t:Nat) (listed:Array Bool) (ρ:yP) (w:World) (tm:Array Value),listed.size=ops.size->((List.range ops.size).filter fun i => !listed.getD i false).length<=fuel ->
    (∀ i j,Prec ops i j->listed.getD j false=true->listed.getD i false=true)->W4 P tr s0 h0 N ρ0 w0 (fun j=>listed.getD j false) ρ w tm ->
    ∃ S ρ' w' tm',(∀ r,r ∈ tr->S r.j=true)/\W4 P tr s0 h0 N ρ0 w0 S ρ' w' tm' /\
      Steps P (lone (wj b tm ds (.inRegion ops (Region.linearise.go .any ops fuel t listed []) :: k)) cs w) (lone (wj b tm' ds (.inRegion ops [] :: k)) cs w'):=by
 intro fuel
 induction fuel with
 | zero=>
   intro t listed ρ w tm hsz hcount hdown I
   refine ⟨_,ρ,w,tm,?_,I,.refl P _⟩
   intro r hr
   have hnil:=NQ (Nat.le_zero.1 hcount)
   obtain ⟨A,B,e⟩:=Nl hr
   have yB:=(V.told A r B e).op
   have hlt:r.j < ops.size:=by
    rcases MX r.j ops.size with h | h
    ·exact h
    ·rw [M9 h] at yB;cases yB
   cases hl:listed.getD r.j false with
   | true=>rfl
   | false=>
     have:r.j ∈ (List.range ops.size).filter fun i => !listed.getD i false:=Oc.2 ⟨NV.2 hlt,by rw [hl];rfl⟩
     rw [hnil] at this;cases this
 | succ fuel ih=>
   intro t listed ρ w tm hsz hcount hdown I
   simp only [Region.linearise.go]
   change ∃ S ρ' w' tm',(∀ r,r ∈ tr->S r.j=true)/\W4 P tr s0 h0 N ρ0 w0 S ρ' w' tm'/\Steps P (lone (wj b tm ds (.inRegion ops (match (Region.ready .any ops listed)[t % (Region.ready .any ops listed).length]? with
    | some i=>Region.linearise.go .any ops fuel (t / (Region.ready .any ops listed).length) (listed.setIfInBounds i true) [i]
    | none=>[].reverse) :: k)) cs w) _
   have getTF:∀ i,i < ops.size->listed.getD i true=listed.getD i false:=by
    intro i hi
    simp [MW,Na (hsz ▸ hi)]
   by_cases hall:∀ r,r ∈ tr->listed.getD r.j false=true
   ·
    have hnone:Region.ready .any ops listed = []:=by
     rw [List.eq_nil_iff_forall_not_mem]
     intro i hi
     obtain ⟨h1,h2,_⟩:=W0 hi
     obtain ⟨r,hr,hrj⟩:=V.all i h1
     have:=hall r hr
     rw [hrj,<- getTF i h1,h2] at this
     cases this
    rw [hnone]
    exact ⟨_,ρ,w,tm,hall,I,.refl P _⟩
   ·
    have hex:∃ i,i ∈ Region.ready .any ops listed:=by
     have:∃ A r B,tr=A ++ r :: B/\listed.getD r.j false=false /\ ∀ x,x ∈ A->listed.getD x.j false=true:=by
      clear ih I hN V
      induction tr with
      | nil=>exact absurd (fun r hr=>by cases hr) hall
      | cons x tr iht=>
        cases hx:listed.getD x.j false with
        | false=>exact ⟨[],x,tr,rfl,hx,fun y hy=>by cases hy⟩
        | true=>
          obtain ⟨A,r,B,e,h1,h2⟩:=iht (fun h=>hall (fun r hr=>by rcases NJ.1 hr with rfl | hr;exact hx;exact h r hr))
          exact ⟨x :: A,r,B,by rw [e];rfl,h1,fun y hy=>by rcases NJ.1 hy with rfl | hy;exact hx;exact h2 y hy⟩
     obtain ⟨A,r,B,e,h1,h2⟩:=this
     have yB:=(V.told A r B e).op
     have hlt:r.j < ops.size:=by
      rcases MX r.j ops.size with h | h
      ·exact h
      ·rw [M9 h] at yB;cases yB
     refine ⟨r.j,nq hlt (by rw [getTF _ hlt];exact h1) (fun o ho ed hed hb => ?_)⟩
     rw [yB] at ho
     cases ho
     obtain ⟨x,hx,hxe⟩:=V.YY A r B e ed hed hb
     rw [<- hxe];exact h2 x hx
    cases hi:(Region.ready .any ops listed)[t % (Region.ready .any ops listed).length]? with
    | none=>
      obtain ⟨i,hmem⟩:=hex
      have hpos:0 < (Region.ready .any ops listed).length:=List.length_pos_of_mem hmem
      rw [MF (Nat.mod_lt _ hpos)] at hi
      cases hi
    | some i=>
      simp only []
      rw [linearise_go_acc,List.reverse_singleton,List.singleton_append]
      obtain ⟨hlt,hl,hed⟩:=W0 (Np hi)
      obtain ⟨r,hr,hrj⟩:=V.all i hlt
      obtain ⟨A,B,e⟩:=Nl hr
      subst hrj
      have yB:=(V.told A r B e).op
      have hready:∀ q,Prec ops q r.j->listed.getD q false=true:=by
       intro q hq
       cases hq with
       | one ho he hb=>exact hed _ ho _ he hb
       | more ho he hb hp=>exact hdown _ _ hp (hed _ ho _ he hb)
      have hnot:listed.getD r.j false=false:=by rw [<- getTF _ hlt];exact hl
      obtain ⟨ρ1,w1,tm1,I1,sx⟩:=Au hro0 V hdown e hready hnot hN I ds (Region.linearise.go .any ops fuel (t / (Region.ready .any ops listed).length) (listed.setIfInBounds r.j true) []) b k cs
      have hadd:(fun j=>(listed.setIfInBounds r.j true).getD j false)=vY (fun j=>listed.getD j false) r.j:=by
       funext j
       simp only [vY,MW,Nu]
       by_cases ej:r.j=j
       ·subst ej
        rw [MK rfl,MK (by omega)];simp
       ·rw [MJ ej]
        have:decide (j=r.j)=false:=decide_eq_false (fun h=>ej h.symm)
        rw [this,Bool.or_false]
      rw [<- hadd] at I1
      have hcnt:((List.range ops.size).filter fun i => !(listed.setIfInBounds r.j true).getD i false).length<=fuel:=by
       have hmem:r.j ∈ (List.range ops.size).filter fun i => !listed.getD i false:=Oc.2 ⟨NV.2 hlt,by rw [hnot];rfl⟩
       have hsub:(List.range ops.size).filter (fun i => !(listed.setIfInBounds r.j true).getD i false)=((List.range ops.size).filter fun i => !listed.getD i false).filter (fun i=>decide (i ≠ r.j)):=by
        rw [Oe]
        apply N0
        intro i _
        have:=congrFun hadd i
        simp only [vY] at this
        rw [this]
        by_cases ei:i=r.j <;> simp [ei]
       rw [hsub]
       have hlen:∀ (l:List Nat),r.j ∈ l->(l.filter fun i=>decide (i ≠ r.j)).length < l.length:=by
        intro l hl
        apply List.length_filter_lt_length_iff_exists.2
        exact ⟨r.j,hl,by simp⟩
       have:=hlen _ hmem
       omega
      have hdn:∀ q j,Prec ops q j->(listed.setIfInBounds r.j true).getD j false=true->(listed.setIfInBounds r.j true).getD q false=true:=by
       intro q j hq hj
       have h1:=congrFun hadd j
       have h2:=congrFun hadd q
       rw [h1] at hj
       rw [h2]
       simp only [vY,Nt,Nj] at hj ⊢
       rcases hj with hj | rfl
       ·exact .inl (hdown q j hq hj)
       ·exact .inl (hready q hq)
      obtain ⟨S,ρ2,w2,tm2,hS,I2,sx2⟩:=ih (t / (Region.ready .any ops listed).length) (listed.setIfInBounds r.j true) ρ1 w1 tm1 (by simpa using hsz) hcnt hdn I1
      exact ⟨S,ρ2,w2,tm2,hS,I2,sx.trans sx2⟩
theorem Xe (hmix:P.follows .mixedOrders=true) {id:Nat} {rd:Option Nat} {Q:Ex->Env->za->Prop} (V:Valid P ops s0 h0 tr) {sf:Env} {hf:za} (hs:∀ t,sf.get t=YE tr s0 t) (hsz:sf.size=s0.size)
  (hh:∀ b,hf.get b=jo tr h0 b) (hro:hf.ro=h0.ro) (hn:h0.next<=hf.next) (hN:∀ x,x ∈ tr->x.g'.next<=hf.next) (hq:Q .normal sf hf):T P rd (.region id ops true) s0 h0 Q:=by
 intro ρ w tm ds hr hse b hb k cs
 let w1:World:={ w with drawn:=w.drawn + 1 }
 let ρ1:yP:={ next:=hf.next,m:=fun bb=>if bb < h0.next then ρ.m bb else none }
 have hm1:∀ bb pl,bb < ρ.next->ρ.m bb=some pl->ρ1.m bb=some pl:=fun bb pl hb hm=>by
  rw [show ρ1.m bb=ρ.m bb from MK (by rw [<- hr.next];exact hb)];exact hm
 have hnil:tr.filter (fun r=>(Array.replicate ops.size false).getD r.j false) = []:=by
  rw [OE]
  intro r _ h
  simp only [MW,Od] at h
  split at h <;> simp at h
 have I:W4 P tr s0 h0 hf.next ρ w (fun j=>(Array.replicate ops.size false).getD j false) ρ1 w1 tm:=by
  refine ⟨rfl,fun bb hb=>MK hb,hse.size,?_,?_,?_,?_,rfl,rfl,rfl,MI _,fun _ _ _=>rfl,?_,hr.QO,fun bb pl hb hm=>hr.kx bb pl hb (by
   rw [show ρ1.m bb=ρ.m bb from MK (ML hb (Nm hr.QO hr.ro))] at hm;exact hm)⟩
  ·intro t
   rw [hnil]
   exact (hse.get t).ext (ρ':=ρ1.cut h0.next) (by rw [hr.next];exact MI _) hm1
  ·intro bb o hg
   rw [hnil] at hg ⊢
   have hb:=hr.XU bb _ hg
   obtain ⟨pl,hp,hc⟩:=hr.ok bb o hg
   refine ⟨hb,pl,hm1 bb pl (by rw [hr.next];exact hb) hp,?_⟩
   exact wE.other (wE.ext (ρ:=ρ) (ρ':=ρ1.cut h0.next) (by rw [hr.next];exact MI _) hm1 hc) rfl
  ·intro b1 b2 o1 o2 p1 p2 g1 g2 m1 m2 e
   rw [hnil] at g1 g2
   have l1:=hr.XU b1 o1 g1
   have l2:=hr.XU b2 o2 g2
   rw [show ρ1.m b1=ρ.m b1 from MK l1] at m1
   rw [show ρ1.m b2=ρ.m b2 from MK l2] at m2
   exact hr.inj b1 b2 o1 o2 p1 p2 g1 g2 m1 m2 e
  ·intro x hx _ bb h1 h2
   obtain ⟨A,B,e⟩:=Nl hx
   have:=(V.told A x B e).n0
   exact MJ (by omega)
  ·intro bb o pl hg hro' hm hc
   rw [hnil] at hg
   have l:=hr.XU bb o hg
   rw [show ρ1.m bb=ρ.m bb from MK l] at hm
   exact ⟨bb,o,pl,hg,hro',hm,rfl⟩
 have hcount:((List.range ops.size).filter fun i => !(Array.replicate ops.size false).getD i false).length<=ops.size:=by
  have:=List.length_filter_le (fun i => !(Array.replicate ops.size false).getD i false) (List.range ops.size)
  simpa using this
 obtain ⟨S,ρ2,w2,tm2,hS,I2,sx⟩:=D9 hr.ro V hN ds b k cs ops.size (w.tape w.drawn (.order b.fn id)) (Array.replicate ops.size false) ρ1 w1 tm (by simp) hcount (fun i j _ hj=>by
  simp only [MW,Od] at hj
  split at hj <;> simp at hj) I
 have hfull:tr.filter (fun r=>S r.j)=tr:=List.filter_eq_self.2 hS
 have lastn:∀ (p:yp->Bool) x,wa tr p=some x->x.g'.next<=hf.next:=fun p x hx=>hN x (jQ hx).1
 have hcut:ρ2=ρ2.cut hf.next:=by have:=I2.next;cases ρ2;simp only at this;subst this;rfl
 have hrel:Rel P ρ2 hf w2:=by
  refine ⟨I2.next,by rw [hro];exact Nm hr.ro hn,?_,?_,?_,by rw [hro];exact hr.QO,I2.gl⟩
  ·intro bb o hg
   rw [hh] at hg
   have:=(I2.heap bb o (by rw [hfull];exact hg)).1
   rw [hfull] at this
   refine ML this ?_
   simp only [QP]
   split
   ·rename_i x hx;exact lastn _ x hx
   ·exact hn
  ·intro bb o hg
   rw [hh] at hg
   obtain ⟨_,pl,hp,hc⟩:=I2.heap bb o (by rw [hfull];exact hg)
   refine ⟨pl,hp,?_⟩
   rw [hro]
   rw [hfull] at hc
   rw [hcut]
   refine wE.Wf ?_ hc
   simp only [QP]
   split
   ·rename_i x hx;exact lastn _ x hx
   ·exact hn
  ·intro b1 b2 o1 o2 p1 p2 g1 g2
   rw [hh] at g1 g2
   exact I2.inj b1 b2 o1 o2 p1 p2 (by rw [hfull];exact g1) (by rw [hfull];exact g2)
 refine ⟨.normal,sf,hf,ρ2,w2,tm2,ds,hq,⟨⟨by rw [I2.next,hr.next];exact hn,fun bb hb=>I2.old bb (by rw [<- hr.next];exact hb)⟩,hrel,hro,I2.os,I2.tape,I2.output,I2.Vl,I2.frame,?_⟩,⟨hsz.trans I2.size,fun t => ?_⟩,.refl _ _ _,?_⟩
 ·rintro c hc ⟨bb,o,pl,hg,hrb,hm,rfl⟩
  rw [hh] at hg
  exact I2.KI bb o pl (by rw [hfull];exact hg) (by rw [<- hro];exact hrb) hm hc
 ·have:=I2.env t
  rw [hfull] at this
  rw [hs t]
  rw [hcut]
  refine zD.Wf ?_ this
  simp only [Uw]
  split
  ·rename_i x hx;exact lastn _ x hx
  ·exact hn
 ·refine .head Yt ?_
  have:Region.schedule (P.follows .mixedOrders) ops (w.tape w.drawn (.order b.fn id))=Region.linearise .any ops (w.tape w.drawn (.order b.fn id)):=by
   simp only [Region.schedule,hmix,Bool.true_or,MA]
  rw [this]
  exact sx.trans (.one jN)
end
end
noncomputable section
variable {P:Program}
def Zf:List Tmp->List Value->Env->Option Env
 | [],[],s=>some s
 | t :: ts,v :: vs,s=>(match s.put (some t) v with
   | some s1=>Zf ts vs s1
   | none=>none)
 | _,_,_=>none
theorem Wv {ρ:yP}:∀ {ts:List Tmp} {vs vs':List Value} {s s':Env} {tm:Array Value},Zf ts vs s=some s'->wA ρ s tm->xp ρ vs vs' ->
  ts.length=vs'.length/\wA ρ s' ((ts.zip vs').foldl (fun tm x=>tm.setIfInBounds x.1 x.2) tm)
 | [],[],vs',s,s',tm,he,hs,hv=>by
   cases hv.wX
   simp only [Zf,My] at he
   subst he
   exact ⟨rfl,hs⟩
 | t :: ts,v :: vs,vs',s,s',tm,he,hs,hv=>by
   obtain ⟨y,ys,rfl,h1,h2⟩:=hv.cons_inv
   simp only [Zf] at he
   split at he
   ·rename_i s1 hp
    have:=Wv he (hs.put h1 hp) h2
    exact ⟨by simp [this.1],by simpa [vC] using this.2⟩
   ·cases he
 | [],_ :: _,_,_,_,_,he,_,_=>by simp [Zf] at he
 | _ :: _,[],_,_,_,_,he,_,_=>by simp [Zf] at he
def YK (l:W7) (tm:Array Value) (d:Nat) (fn:FuncId):Loop:={ state:=l.state,pending:=l.pending,fn:=fn,tmps:=tm,params:=l.params,assign:=l.assign,body:=l.body,defers:=d }
theorem Rel.loop {ρ:yP} {h:za} {w:World} (hr:Rel P ρ h w) {b:Nat} {A:W7} {pl:Place} (hg:h.get b=some (.loop A)) (hm:ρ.m b=some pl) :
  ∃ tm d fn,w.heap[pl.c]? = some (.loop (YK A tm d fn))/\wA ρ A.s tm:=hr.C9 hg hm
theorem mY (w:World) (l k:Nat) (o:Obj) (hk:k ≠ l):(w.heap.setIfInBounds l o)[k]? = w.heap[k]?:=by rw [Nu,MJ (Ne.symm hk)]
theorem mX (w:World) (l:Nat) (o:Obj) (hl:l < w.heap.size):(w.heap.setIfInBounds l o)[l]? = some o:=by rw [Nu,MK rfl,MK hl]
theorem Step.Hd {ρ:yP} {h:za} {w:World} (hr:Rel P ρ h w) {b:Nat} {A A':W7} {pl:Place} (hg:h.get b=some (.loop A)) (hm:ρ.m b=some pl) (hro:h.ro<=b) {tm:Array Value} {d fn:Nat}
  (ho:w.heap[pl.c]? = some (.loop (YK A tm d fn))) (hs:wA ρ A'.s tm) :
  Step P ρ h w ρ (h.set b (some (.loop A'))) { w with heap:=w.heap.setIfInBounds pl.c (.loop (YK A' tm d fn)) } :=
 Step.pZ hr hg hm hro (ob' := .loop A') ⟨tm,d,fn,mX w pl.c _ (k8 ho),hs⟩ rfl rfl rfl (by simp) (fun k hk=>mY w pl.c k _ hk)
theorem Zg {w:World} {l:Nat} {r:Loop} (h:w.heap[l]? = some (.loop r)):(Instr.getLoop l).run P w = .ok r w:=by
 simp only [Instr.getLoop,getObj,ME]
 simp only [Sem.run,h,Mz]
 rfl
theorem Ww {w:World} {l:Nat} {r:Loop} (h:w.heap[l]? = some (.loop r)) (o:Obj):(setObj l o).run P w = .ok () { w with heap:=w.heap.setIfInBounds l o }:=by
 simp only [setObj,Sem.run,h]
theorem AY {w:World} {l:Nat} {r:Loop} {args:Array Value} (h:w.heap[l]? = some (.loop r)) (hn:args.size=r.params.size) :
  (Instr.yield l args).run P w = .ok (.round l r.fn ((r.params.toList.zip args.toList).foldl (fun tm x=>tm.setIfInBounds x.1 x.2) r.tmps) r.assign r.body) w:=by
 simp only [Instr.yield,ME,Zg h,Mz]
 rw [MJ (by simp [hn])]
 simp only [MN]
 rw [<- Array.foldl_toList,Array.toList_zip]
theorem bW {w:World} {l:Nat} {r:Loop} (h:w.heap[l]? = some (.loop r)) (hr:r.state = .ready) :
  (Instr.beginRound l).run P w = .ok () { w with heap:=w.heap.setIfInBounds l (.loop { r with state := .busy }) }:=by
 simp only [Instr.beginRound,ME,Zg h,Mz,Ww h,hr,MN]
theorem XN {w:World} {l:Nat} {r:Loop} (h:w.heap[l]? = some (.loop r)) (jump:Option Code) :
  (Instr.endRound l jump).run P w = .ok (.bool jump.isNone) { w with heap:=w.heap.setIfInBounds l (.loop { r with state:=if jump.isNone then .ready else .done,pending:=jump }) }:=by
 simp only [Instr.endRound,ME,Zg h,Mz,Ww h,MN]
theorem nB {w:World} {l:Nat} {r:Loop} (h:w.heap[l]? = some (.loop r)) (hb:(r.state == .busy)=false) :
  (Instr.endLoop l).run P w = .ok r.pending { w with heap:=w.heap.setIfInBounds l (.loop { r with state := .exhausted }) }:=by
 simp only [Instr.endLoop,ME,Zg h,Mz,hb,Nz,MS,Ww h,MN]
section moves
variable {b:Frame} {tm:Array Value} {ds:List Deferred} {k:List Item} {cs:List Frame} {w w':World}
theorem QL {l:Nat} (hb:b.roundOf=some l) (hrun:(Instr.beginRound l).run P w = .ok () w'):step P (lone (wj b tm ds (.beginRound :: k)) cs w) = .next (lone (wj b tm ds k) cs w') :=
 step_lone_go (by
  simp only [stepG,wj,stepG.exec,hb,stepG.apply]
  simp [hrun,Frame.finish])
def jP:Ex->Option Code
 | .normal=>none
 | .ret=>some .ret
 | .exit id=>some (.exit id)
theorem Wi {l:Nat} {fr:Frame} (hb:b.roundOf=some l) (hk:b.kind = .normal) {e:Ex} (todo:List Item)
  (htodo:match e with | .normal=>todo = [] | .ret => ∃ t,todo = .code .ret :: t | .exit id => ∃ t,todo = .code (.exit id) :: t/\exitTo id t=none) {v:Value}
  (hrun:(Instr.endRound l (jP e)).run P w = .ok v w') :
  step P (lone (wj b tm ds todo) (fr :: cs) w) = .next (lone (fr.finish v) cs w') :=
 step_lone_go (by
  cases e with
  | normal=>subst htodo;simp only [jP] at hrun;simp [stepG,wj,stepG.exec,hb,hrun,doReturn,hk]
  | ret=>obtain ⟨t,rfl⟩:=htodo;simp only [jP] at hrun;simp [stepG,wj,stepG.exec,hb,hrun,doReturn,hk]
  | exit id=>obtain ⟨t,rfl,ht⟩:=htodo;simp only [jP] at hrun;simp [stepG,wj,stepG.exec,hb,ht,hrun,doReturn,hk])
theorem aK {ops:Array Oper} {i:Nat} {rest:List Nat} {o:Oper} (ho:ops[i]? = some o) (hw:Region.wanted o (yielded ops tm)=true) (hd:jY o.op=false) {l:Nat} {f:FuncId} {tm':Array Value} {as bd:Code} {w':World}
  (hr:(execOp (Act.eval ⟨tm,ds⟩) o).run P w = .ok (.round l f tm' as bd) w') :
  step P (lone (wj b tm ds (.inRegion ops (i :: rest) :: k)) cs w) = .next (lone (Frame.round l f tm' as bd .normal) (wj b tm ds (.inRegion ops (i :: rest) :: k) :: cs) w') :=
 step_lone_go (by rw [W3 ho hw hd];simp [stepG.apply,hr,wj])
theorem VE {l:Nat} {jump:Option Code} (hrun:(Instr.endLoop l).run P w = .ok jump w') :
  step P (lone (wj b tm ds (.endRangeFunc l :: k)) cs w) = .next (lone (wj b tm ds ((jump.map Item.code).toList ++ k)) cs w') :=
 step_lone_go (by simp [stepG,wj,stepG.exec,hrun])
theorem KG {f:Operand} {params:Array Tmp} {as bd:Code} {l:Nat} {mark:List Deferred} {w1 w2:World} {g:FuncId} {args:Array Value}
  (hrun:(Instr.enterLoop b.fn tm params as bd b.roundOf).run P w = .ok (l,mark) w1)
  (hcall:(do let d <- resolve (Act.eval ⟨tm,ds⟩) { callee := .value f,args := #[.const (.func (.yield l) #[] #[])],argTypes := #[] } 0;invoke d.target d.args:Sem Next).run P w1 = .ok (.enter g args) w2) :
  step P (lone (wj b tm ds (.code (.rangeFunc f params as bd) :: k)) cs w) = .next (lone (Frame.enter P g args .normal) (wj b tm (mark ++ ds) (.inRangeFunc l :: k) :: cs) w2) :=
 step_lone_go (by
  have he:=aE b tm (mark ++ ds) (.inRangeFunc l :: k)
  have he':(Act.eval ⟨tm,mark ++ ds⟩)=(Act.eval ⟨tm,ds⟩):=by funext x;cases x <;> rfl
  rw [he'] at he
  simp only [wj] at he
  simp only [stepG,wj,stepG.exec]
  simp only [Sem.runT_eq,hrun,GStep.bare_after]
  simp only [stepG.apply,he,Sem.runT_eq,hcall]
  simp [GStep.bare,GStep.after])
end moves
def TY (P:Program) (L:Nat) (args:List Value) (h:za) (R:Value->za->Prop):Prop :=
 ∀ (ρ:yP) (w:World) (cargs:List Value) (pl:Place),Rel P ρ h w->xp ρ args cargs->L < ρ.next->ρ.m L=some pl ->
   ∃ f tm as bd,(Instr.yield pl.c cargs.toArray).run P w = .ok (.round pl.c f tm as bd) w /\
     ∀ (fr:Frame) (cs:List Frame),∃ v v' h' ρ' w',R v h'/\Step P ρ h w ρ' h' w'/\zD ρ' v v'/\Steps P (lone (Frame.round pl.c f tm as bd .normal) (fr :: cs) w) (lone (fr.finish v') cs w')
def W7.left (A:W7) (e:Ex):W7:={ A with state:=if (jP e).isNone then .ready else .done,pending:=jP e }
theorem DN {L:Nat} {A:W7} {args:List Value} {h:za} {s0:Env} {R:Value->za->Prop} (hg:h.get L=some (.loop A)) (he:Zf A.params.toList args A.s=some s0)
  (ht:T P (some L) A.assign s0 h (fun e s1 h1=>e = .normal /\ ∃ A1,h1.get L=some (.loop A1)/\A1.state = .ready/\h1.ro<=L /\
   T P (some L) A.body s1 (h1.set L (some (.loop { A1 with state := .busy }))) (fun e s2 h2 => ∃ A2,h2.get L=some (.loop A2)/\h2.ro<=L /\
     R (.bool (jP e).isNone) (h2.set L (some (.loop (A2.left e))))))):TY P L args h R:=by
 intro ρ w cargs pl hr hv hL hm
 obtain ⟨tm,d,fn,ho,hs⟩:=hr.loop hg hm
 obtain ⟨hlen,hs0⟩:=Wv he hs hv
 refine ⟨fn,_,A.assign,A.body,AY ho (by simpa [YK] using hlen.symm),fun fr cs => ?_⟩
 let b:Frame:={ (default:Frame) with fn:=fn,kind := .normal,roundOf:=some pl.c }
 have hrd:Rd ρ (some L) b:=⟨hL,pl,hm,rfl⟩
 obtain ⟨e,s1,h1,ρ1,w1,tm1,ds1,⟨rfl,A1,g1,a1,ro1,q⟩,st1,hs1,_,ha⟩:=ht ρ w _ [] hr hs0 b hrd [.beginRound,.code A.body] (fr :: cs)
 have hm1:ρ1.m L=some pl:=(st1.le.2 L hL).trans hm
 obtain ⟨tmA,dA,fnA,hoA,hsA⟩:=st1.rel.loop g1 hm1
 have sb:=Step.Hd st1.rel g1 hm1 ro1 (A':={ A1 with state := .busy }) hoA hsA
 obtain ⟨e,s2,h2,ρ2,w2,tm2,ds2,⟨A2,g2,ro2,hR⟩,st2,hs2,_,ha2⟩:=q ρ1 _ tm1 ds1 sb.rel hs1 b (hrd.mono st1.le) [] (fr :: cs)
 have hm2:ρ2.m L=some pl:=(st2.le.2 L (ML hL st1.le.1)).trans hm1
 obtain ⟨tmB,dB,pj,hoB,hsB⟩:=st2.rel.loop g2 hm2
 have se:=Step.Hd st2.rel g2 hm2 ro2 (A':=A2.left e) hoB hsB
 refine ⟨_,.bool (jP e).isNone,_,ρ2,_,hR,((st1.trans sb).trans st2).trans se,.bool _,?_⟩
 refine Oj ha (.head (QL rfl (bW hoA a1)) ?_)
 cases e with
 | normal=>exact Oj ha2 (.one (Wi (e := .normal) rfl rfl [] rfl (XN hoB _)))
 | ret=>obtain ⟨t,sx⟩:=ha2;exact sx.trans (.one (Wi (e := .ret) rfl rfl _ ⟨t,rfl⟩ (XN hoB _)))
 | exit id=>obtain ⟨t,et,sx⟩:=ha2;exact sx.trans (.one (Wi (e := .exit id) rfl rfl _ ⟨t,rfl,et.trans rfl⟩ (XN hoB _)))
theorem iU {s:Env} {h:za} {Q:Env->za->Prop} {ops:Array Oper} {i:Nat} {rest:List Nat} {o:Oper} {f:Operand} {cargs:Array Operand} {ts:Array TypeId} {L:Nat} {vs:List Value} {R:Value->za->Prop}
  (ho:ops[i]? = some o) (hw:yg ops s o=true) (yB:o.op = .call { callee := .value f,args:=cargs,argTypes:=ts }) (hf:uN s f=some (.func (.yield L) #[] #[])) (hargs:YU s cargs.toList=some vs)
  (hc:TY P L vs h R) (ht:∀ v h1,R v h1->∃ s1,s.put o.dst v=some s1/\TO P ops rest s1 h1 Q):TO P ops (i :: rest) s h Q:=by
 intro ρ w tm ds hr hs b k cs
 have hw':Region.wanted o (yielded ops tm)=true:=(jL hs ops o).trans hw
 have e1:=zP (a:=⟨tm,ds⟩) hs hf
 have e2:=u9 (a:=⟨tm,ds⟩) hs hargs
 generalize hfv:Act.eval ⟨tm,ds⟩ f=fv at e1
 cases e1 with
 | yield hb hm=>
   rename_i pl
   obtain ⟨fn,tmr,as,bd,hy,hgo⟩:=hc ρ w _ pl hr e2 hb hm
   have hrun:(execOp (Act.eval ⟨tm,ds⟩) o).run P w = .ok (.round pl.c fn tmr as bd) w:=by
    have hargs':(#[]:Array Value) ++ cargs.map (Act.eval ⟨tm,ds⟩)=(cargs.toList.map (Act.eval ⟨tm,ds⟩)).toArray:=by apply Om;simp
    simp only [execOp,yB,resolve,hfv,Deferred.ofValue,ME,MN,Mz,invoke,hargs',hy]
   obtain ⟨v,v',h',ρ',w1,hR,st,hv,hgo⟩:=hgo (wj b tm ds (.inRegion ops (i :: rest) :: k)) cs
   obtain ⟨s1,hp,hrest⟩:=ht v h' hR
   have hs1:wA ρ' s1 (vC tm o.dst v'):=(hs.mono st.le).put hv hp
   obtain ⟨s2,h2,ρ2,w2,tm2,q,st2,hs2,sx⟩:=hrest ρ' w1 _ ds st.rel hs1 b k cs
   have hd:jY o.op=false:=by rw [yB];rfl
   refine ⟨s2,h2,ρ2,w2,tm2,q,st.trans st2,hs2,.head (aK ho hw' hd hrun) (Oj hgo ?_)⟩
   rw [qc,ho]
   exact sx
theorem Step.more {ρ:yP} {h:za} {w w':World} (hr:Rel P ρ h w) {o:Obj} (hw:w' = { w with heap:=w.heap.push o }):Step P ρ h w ρ h w':=by
 subst hw
 have hold:∀ k,k < w.heap.size->(w.heap.push o)[k]? = w.heap[k]?:=fun k hk=>by rw [Array.getElem?_push,MJ (by omega)]
 exact ⟨yP.le_refl _,hr.grow hold,rfl,rfl,rfl,rfl,by simp,fun k hk _=>hold k hk,fun _ _ h=>h⟩
theorem run_newObj (w:World) (o:Obj):(newObj o).run P w = .ok w.heap.size { w with heap:=w.heap.push o }:=rfl
theorem Q6 {rd:Option Nat} {f:Operand} {params:Array Tmp} {as bd:Code} {s:Env} {h:za} {g:FuncId} {fa fc:Array Value} {Q:Ex->Env->za->Prop}
  (hf:uN s f=some (.func (.func g) fa fc)) (hcall:wK P g=true) (hrd:∀ L,rd=some L->∃ A,h.get L=some (.loop A))
  (hc:TC P g (fa.toList ++ [.func (.yield h.next) #[] #[]] ++ fc.toList) (h.push (.loop { state := .ready,pending:=none,s:=s,params:=params,assign:=as,body:=bd }))
   (fun _ h1 => ∃ A,h1.get h.next=some (.loop A)/\(A.state == .busy)=false/\h1.ro<=h.next /\ ∃ e,jP e=A.pending/\Q e s (h1.set h.next none))):T P rd (.rangeFunc f params as bd) s h Q:=by
 intro ρ w tm ds hr hs b hb k cs
 let A0:W7:={ state := .ready,pending:=none,s:=s,params:=params,assign:=as,body:=bd }
 obtain ⟨mark,d,w1,hrun,st1,hd1⟩:∃ mark d w1,(Instr.enterLoop b.fn tm params as bd b.roundOf).run P w = .ok (w1.heap.size,mark) { w1 with heap:=w1.heap.push (.loop (YK A0 tm d b.fn)) } /\ Step P ρ h w ρ h w1/\X3 w ds w1 (mark ++ ds):=by
  cases rd with
  | none=>
    have hb:b.roundOf=none:=hb
    refine ⟨[m7 w.heap.size],w.heap.size,{ w with heap:=w.heap.push (.deferred (some [])) },?_,Step.more hr rfl,[w.heap.size],rfl,by simp,fun r hr' => ?_⟩
    ·simp only [Instr.enterLoop,hb,ME,run_newObj,Mz,MN]
     rfl
    ·simp only [NZ] at hr'
     subst hr'
     exact ⟨MI _,by simp⟩
  | some L0=>
    obtain ⟨hL,pl,hm,hb⟩:=hb
    obtain ⟨A,gA⟩:=hrd L0 rfl
    obtain ⟨tmA,dA,fnA,hoA,_⟩:=hr.loop gA hm
    refine ⟨[],dA,w,?_,.refl hr,.refl _ _ _⟩
    simp only [Instr.enterLoop,hb,ME,Zg hoA,run_newObj,Mz,MN]
    rfl
 let pl:Place:=⟨w1.heap.size,0,0,0⟩
 have I6:Step P ρ h w1 (ρ.ext pl) (h.push (.loop A0)) { w1 with heap:=w1.heap.push (.loop (YK A0 tm d b.fn)) } :=
  Step.WZ st1.rel (ob := .loop A0) (pl:=pl) rfl rfl ⟨tm,d,b.fn,by simp [pl,YK],hs.mono (ρ.QR pl)⟩ rfl rfl rfl
 have hnew:(ρ.ext pl).m h.next=some pl:=by rw [<- hr.next];exact ρ.uo pl
 have hlt:h.next < (ρ.ext pl).next:=by show h.next < ρ.next + 1;rw [hr.next];omega
 have e1:=zP (a:=⟨tm,ds⟩) (hs.mono (ρ.QR pl)) hf
 generalize hfv:Act.eval ⟨tm,ds⟩ f=fv at e1
 cases e1 with
 | func ha hcs k1 k2=>
   rename_i fa' fc'
   let yl:Value := .func (.yield w1.heap.size) #[] #[]
   let full:=fa'.toList ++ [yl] ++ fc'.toList
   have hyl:zD (ρ.ext pl) (.func (.yield h.next) #[] #[]) yl := .yield (pl:=pl) hlt hnew
   have hfull:xp (ρ.ext pl) (fa.toList ++ [.func (.yield h.next) #[] #[]] ++ fc.toList) full :=
    (xp.append ⟨by simpa using ha,fun i x y hx hy=>k1 i x y (by simpa using hx) (by simpa using hy)⟩ (.cons hyl (.nil _))).append ⟨by simpa using hcs,fun i x y hx hy=>k2 i x y (by simpa using hx) (by simpa using hy)⟩
   have hrun2:(do let d <- resolve (Act.eval ⟨tm,ds⟩) { callee := .value f,args := #[.const yl],argTypes := #[] } 0;invoke d.target d.args:Sem Next).run P { w1 with heap:=w1.heap.push (.loop (YK A0 tm d b.fn)) } = .ok (.enter g full.toArray) { w1 with heap:=w1.heap.push (.loop (YK A0 tm d b.fn)) }:=by
    have hargs':fa' ++ (#[.const yl]:Array Operand).map (Act.eval ⟨tm,ds⟩) ++ fc'=full.toArray:=by apply Om;simp [full];rfl
    simp only [resolve,hfv,Deferred.ofValue,ME,MN,Mz,invoke,callFunc,run_program,hargs']
    unfold wK at hcall
    cases hfn:P.funcs[g]? with
    | none=>rw [hfn] at hcall;cases hcall
    | some fn=>
      rw [hfn] at hcall
      simp only [MG,MU] at hcall
      simp only [hcall.2,Nz,MS]
      rw [MJ (by cases hb:fn.body <;> simp_all)]
      rfl
   obtain ⟨e,w3,fr,⟨v,v',h',ρ',rfl,⟨A,gA,nb,roA,ex,hj,q⟩,st,hv⟩,hcomes,_,hleave⟩:=hc (ρ.ext pl) _ full I6.rel hfull (wj b tm (mark ++ ds) (.inRangeFunc w1.heap.size :: k) :: cs)
   have hm':ρ'.m h.next=some pl:=(st.le.2 _ hlt).trans hnew
   obtain ⟨tmA,dA,fnA,hoA,hsA⟩:=st.rel.loop gA hm'
   have stt:=Step.Hd st.rel gA hm' roA (A':={ A with state := .exhausted }) hoA hsA
   have std:=Step.pV stt.rel h.next
   have sta:=(((I6.trans st).trans stt).trans std).same (h'':=h'.set h.next none) ⟨rfl,rfl,fun x=>by rw [za.set_set]⟩
   refine ⟨ex,s,h'.set h.next none,ρ',_,tm,mark ++ ds,q,st1.trans sta,hs.mono (st1.trans sta).le,hd1.trans (.refl _ _ _) st1.size st1.rel sta,?_⟩
   have harr:Steps P (lone (wj b tm ds (.code (.rangeFunc f params as bd) :: k)) cs w) (lone (wj b tm (mark ++ ds) ((A.pending.map Item.code).toList ++ k)) cs { w3 with heap:=w3.heap.setIfInBounds pl.c (.loop (YK { A with state := .exhausted } tmA dA fnA)) }) :=
    .head (KG hrun hrun2) (Oj hcomes (.head (step_leave_returned hleave) (.one (VE (nB hoA nb)))))
   have hp:(A.pending.map Item.code).toList=((jP ex).map Item.code).toList:=by rw [hj]
   rw [hp] at harr
   cases ex with
   | normal=>exact harr
   | ret=>exact ⟨k,harr⟩
   | exit id=>exact ⟨k,rfl,harr⟩
end
noncomputable section
inductive Task where
 | code (rd:Option Nat) (c:Code) (s:Env)
 | call (f:FuncId) (args:List Value)
inductive Out where
 | ex (e:Ex) (s:Env)
 | val (v:Value)
abbrev jz:=Task->za->Option (Out × za)
def vH (h h2:za):za := @za.rec (fun _=>za) (fun t n r => @za.rec (fun _=>za) (fun t2 n2 _=>⟨(List.range' n (n2 - n)).foldl (fun t b=>t.set b (t2.get b)) t,n2,r⟩) h2) h
def mq (cls:List Nat) (rec:jz) (g:FuncId) (args:List Value) (h:za):Option (Value × za) :=
 match cls.getD g 0 with
 | 1=>(match rec (.call g args) h with
   | some (.val v,h')=>some (v,h')
   | _=>none)
 | 2=>(match rec (.call g args) h.lock with
   | some (.val v,_)=>cond (Q1 v) (some (v,h)) none
   | _=>none)
 | 3=>(match rec (.call g args) h.lock with
   | some (.val v,h2)=>some (v,vH h h2)
   | _=>none)
 | _=>none
def GB:Ex->Bool
 | .normal=>true
 | _=>false
def isReady:LoopState->Bool
 | .ready=>true
 | _=>false
def EC:LoopState->Bool
 | .busy=>false
 | _=>true
def bU (rec:jz) (L:Nat) (args:List Value) (h:za):Option (Value × za) :=
 match h.get L with
 | some (.loop A)=>(match Zf A.params.toList args A.s with
   | some s0=>(match rec (.code (some L) A.assign s0) h with
     | some (.ex .normal s1,h1)=>(match h1.get L with
       | some (.loop A1)=>cond (isReady A1.state && Nat.ble h1.ro L)
         (match rec (.code (some L) A.body s1) (h1.set L (some (.loop { A1 with state := .busy }))) with
          | some (.ex e _,h2)=>(match h2.get L with
            | some (.loop A2)=>cond (Nat.ble h2.ro L) (some (.bool (GB e),h2.set L (some (.loop (A2.left e))))) none
            | _=>none)
          | _=>none) none
       | _=>none)
     | _=>none)
   | none=>none)
 | _=>none
def Gv:Option Code->Option Ex
 | none=>some .normal
 | some .ret=>some .ret
 | some (.exit id)=>some (.exit id)
 | _=>none
def bQ (cls:List Nat) (rec:jz) (rd:Option Nat) (f:Option Value) (params:Array Tmp) (as bd:Code) (s:Env) (h:za):Option (Ex × za) :=
 match f with
 | some (.func (.func g) fa fc)=>cond (Nat.beq (cls.getD g 0) 1 && (match rd with
   | none=>true
   | some L0=>(match h.get L0 with
     | some (.loop _)=>true
     | _=>false)))
   (match rec (.call g (fa.toList ++ [.func (.yield h.next) #[] #[]] ++ fc.toList)) (h.push (.loop { state := .ready,pending:=none,s:=s,params:=params,assign:=as,body:=bd })) with
    | some (.val _,h1)=>(match h1.get h.next with
      | some (.loop A)=>cond (EC A.state && Nat.ble h1.ro h.next)
        (match Gv A.pending with
         | some e=>some (e,h1.set h.next none)
         | none=>none) none
      | _=>none)
    | _=>none) none
 | _=>none
def evalOp (P:Program) (cls:List Nat) (rec:jz) (s:Env) (o:Oper) (h:za):Option (Value × za) :=
 match o.op with
 | .call { callee := .value f,args,argTypes }=>(match uN s f,YU s args.toList with
   | some (.func (.func g) fa fc),some vs=>cond (Nat.beq (cls.getD g 0) 0) (gR P g (fa.toList ++ vs ++ fc.toList) h) (mq cls rec g (fa.toList ++ vs ++ fc.toList) h)
   | some (.func (.yield L) fa fc),some vs=>cond (Nat.beq fa.size 0 && Nat.beq fc.size 0) (bU rec L vs h) none
   | _,_=>none)
 | _=>Vf P s o h
def XL (P:Program) (cls:List Nat) (rec:jz) (ops:Array Oper):List Oper->Env->za->Option (Env × za)
 | [],s,h=>some (s,h)
 | o :: os,s,h=>
   cond (yg ops s o)
    (match evalOp P cls rec s o h with
     | some (v,h1)=>(match s.put o.dst v with
       | some s1=>XL P cls rec ops os s1 h1
       | none=>none)
     | none=>none)
    (match s.put o.dst undef with
     | some s1=>XL P cls rec ops os s1 h
     | none=>none)
structure KD where
 r:yp
 nG:List Nat
 all:Bool
 Vk:Bool
 Hs:List Nat
 ex:Bool
def yE (ms:List Nat) (o:Oper):Nat:=o.after.toList.foldl (fun m e=>cond (Region.binds .any e) (m ||| (1 <<< e.on) ||| ms.getD e.on 0) m) 0
def qT (ops:Array Oper) (x y:Oper):Bool :=
 (match x.dst with
  | none=>true
  | some d => !(y.looksAt ops).contains d && !(decide (y.dst=some d))) &&
 (match y.dst with
  | none=>true
  | some d => !(x.looksAt ops).contains d)
def aT (x y:KD):Bool :=
 cond x.all (y.Vk || (y.ex && !y.all && y.Hs.all (fun b => !x.r.tc b) && y.nG.all (fun b => !x.r.tc b))) (x.nG.all fun b => !y.r.rd b && !y.r.tc b) &&
 cond y.all (x.Vk || (x.ex && x.Hs.all fun b => !y.r.tc b)) (y.nG.all fun b => !x.r.rd b)
def ju (ops:Array Oper):List Oper->Nat->List Nat->List (Nat × Oper)->Bool
 | [],_,_,_=>true
 | o :: os,i,ms,prev=>
   (o.after.toList.all fun e => !(Region.binds .any e) || Nat.blt e.on i) && (prev.all fun x=>(yE ms o).testBit x.1 || qT ops x.2 o) && ju ops os (i + 1) (ms ++ [yE ms o]) ((i,o) :: prev)
def Fo:Value->List Nat
 | .pointer (some a)=>[a.block]
 | .slice (some a) _ _=>[a.block]
 | .map (some b)=>[b]
 | _=>[]
def fM:Op->Bool
 | .call { callee := .builtin .cap,.. } | .call { callee := .builtin .min,.. } | .call { callee := .builtin .max,.. } | .call { callee := .builtin .unsafeSliceData,.. }=>false
 | .move _ | .assign _ | .pick _ _ _ | .alloc _ | .box _ _ | .build _ _ | .nilCheck _ | .binOp _ _ _ _ _ | .unOp _ _ _ | .makeInterface _ _ | .makeFunc _ _ _ | .fieldAddr _ _ _ | .field _ _ _ | .indexAddr _ _ _ | .index _ _ _ | .extract _ _=>false
 | _=>true
def oT (h:za) (b:Nat):List Nat :=
 match h.get b with
 | some (.iter (some m) _ _ _)=>[b,m]
 | _=>[b]
def Dc (s:Env) (o:Oper) (h:za):List Nat:=cond (fM o.op) ((o.op.operands.toList.flatMap fun x=>(match uN s x with | some v=>Fo v | none=>[])).flatMap (oT h)) []
def za.pick (h:za) (l:List Nat):za := @za.rec (fun _=>za) (fun t0 n r=>⟨l.foldl (fun t b=>t.set b (t0.get b)) .e,n,r⟩) h
def za.XY (h:za) (l:List Nat):za := @za.rec (fun _=>za) (fun t0 n r=>⟨l.foldl (fun t b=>t.set b none) t0,n,r⟩) h
def za.Ez (h g:za) (l:List Nat):za := @za.rec (fun _=>za) (fun t0 _ r => @za.rec (fun _=>za) (fun t1 n _=>⟨l.foldl (fun t b=>t.set b (t1.get b)) t0,n,r⟩) g) h
def za.DD (h' h:za) (l:List Nat):za := @za.rec (fun _=>za) (fun t0 n r=>⟨l.foldl (fun t b=>t.set b (h.get b)) t0,n,r⟩) h'
def Ur (s:Env) (dsts:List Nat):List Oper->Nat->Nat->List Nat
 | [],_,_=>[]
 | o :: os,j,desc=>cond (o.after.toList.any fun e=>Region.binds .any e && desc.testBit e.on)
     (Ur s dsts os (j + 1) (desc ||| (1 <<< j)))
     ((cond (fM o.op) (o.op.operands.toList.flatMap fun x=>(match x with
       | .tmp t=>cond (dsts.contains t) [] (Fo (s.get t))
       | _=>[])) []) ++ Ur s dsts os (j + 1) desc)
def Zn:Builtin->Bool
 | .len | .cap | .min | .max | .unsafeSliceData=>true
 | _=>false
def j0:Op->Bool
 | .call { callee := .builtin b,.. } => !Zn b
 | .store _ _ _=>true
 | .mapUpdate _ _ _ _=>true
 | .next _ _=>true
 | .call _=>true
 | _=>false
def J8 (P:Program) (cls:List Nat) (rec:jz) (ops:Array Oper) (recs:List KD) (mask i:Nat) (os:List Oper) (o:Oper) (s:Env) (h:za):Option (KD × za) :=
 cond (yg ops s o)
  (match o.op with
   | .call { callee := .value f,args,argTypes }=>(match uN s f,YU s args.toList with
     | some (.func (.func g) fa fc),some vs=>
       (match cls.getD g 0 with
        | 1=>
          let hid:=((recs.flatMap fun x=>cond (mask.testBit x.r.j) [] (x.nG ++ x.Hs)) ++ Ur s ((o :: os).filterMap (·.dst)) os (i + 1) (1 <<< i)).filter fun b=>Nat.blt b h.next
          (match rec (.call g (fa.toList ++ vs ++ fc.toList)) (h.XY hid) with
           | some (.val v,h')=>some (⟨⟨i,o,v,s,h.XY hid,h',fun b=>Nat.blt b h.next && !hid.contains b,fun b=>Nat.blt b h'.next && !hid.contains b⟩,[],true,false,[],false⟩,h'.DD h hid)
           | _=>none)
        | 2=>
          let hid:=recs.flatMap fun x=>cond (mask.testBit x.r.j) [] x.nG
          (match rec (.call g (fa.toList ++ vs ++ fc.toList)) (h.XY hid).lock with
           | some (.val v,_)=>cond (Q1 v) (some (⟨⟨i,o,v,s,h.XY hid,h.XY hid,fun b=>Nat.blt b h.next && !hid.contains b,fun _=>false⟩,[],false,false,[],false⟩,h)) none
           | _=>none)
        | 3=>
          let hid:=recs.flatMap fun x=>cond (mask.testBit x.r.j) [] x.nG
          (match rec (.call g (fa.toList ++ vs ++ fc.toList)) (h.XY hid).lock with
           | some (.val v,h2)=>
             let new:=List.range' h.next (h2.next - h.next)
             some (⟨⟨i,o,v,s,h.XY hid,vH (h.XY hid) h2,fun b=>Nat.blt b h.next && !hid.contains b,fun b=>new.contains b⟩,new,false,false,[],false⟩,vH h h2)
           | _=>none)
        | _=>(match gR P g (fa.toList ++ vs ++ fc.toList) (h.pick []) with
          | some (v,g')=>
            let new:=List.range' h.next (g'.next - h.next)
            some (⟨⟨i,o,v,s,h.pick [],g',fun _=>false,fun b=>new.contains b⟩,new,false,new.isEmpty,[],true⟩,h.Ez g' new)
          | none=>none))
     | _,_=>none)
   | _=>
     let bs:=Dc s o h
     (match Vf P s o (h.pick bs) with
      | some (v,g')=>
        let new:=List.range' h.next (g'.next - h.next)
        let nG:=cond (j0 o.op) (bs ++ new) new
        some (⟨⟨i,o,v,s,h.pick bs,g',fun b=>bs.contains b,fun b=>nG.contains b⟩,nG,false,bs.isEmpty && nG.isEmpty,bs,true⟩,h.Ez g' nG)
      | none=>none))
  (some (⟨⟨i,o,undef,s,h.pick [],h.pick [],fun _=>false,fun _=>false⟩,[],false,true,[],true⟩,h))
def XB (P:Program) (cls:List Nat) (rec:jz) (ops:Array Oper):List Oper->Nat->List Nat->List KD->Env->za->Option (Env × za)
 | [],_,_,_,s,h=>some (s,h)
 | o :: os,i,ms,recs,s,h=>
   (match J8 P cls rec ops recs (yE ms o) i os o s h with
    | some (y,h1)=>cond (y.Vk || recs.all fun x=>aT x y || (yE ms o).testBit x.r.j)
      (match s.put o.dst y.r.v with
       | some s1=>XB P cls rec ops os (i + 1) (ms ++ [yE ms o]) (y :: recs) s1 h1
       | none=>none) none
    | none=>none)
def body (P:Program) (cls:List Nat) (rec:jz):Task->za->Option (Out × za)
 | .call f args,h=>(match P.funcs[f]? with
   | none=>none
   | some fn=>(match fn.body with
     | none=>none
     | some c=>(match rec (.code none c (Env.enter args fn.ntmps)) h with
       | some (.ex .normal s1,h1)=>(match vS P s1 h1 fn.results.toList with
         | some vs=>some (.val (qa vs),h1)
         | none=>none)
       | some (.ex .ret s1,h1)=>(match vS P s1 h1 fn.results.toList with
         | some vs=>some (.val (qa vs),h1)
         | none=>none)
       | _=>none)))
 | .code rd c s,h=>(match c with
   | .skip=>some (.ex .normal s,h)
   | .label _=>some (.ex .normal s,h)
   | .exit id=>some (.ex (.exit id) s,h)
   | .ret=>some (.ex .ret s,h)
   | .seq a b=>(match rec (.code rd a s) h with
     | some (.ex .normal s1,h1)=>rec (.code rd b s1) h1
     | r=>r)
   | .cond x a b=>(match uN s x with
     | some (.bool true)=>rec (.code rd a s) h
     | some (.bool false)=>rec (.code rd b s) h
     | _=>none)
   | .block id a=>(match rec (.code rd a s) h with
     | some (.ex (.exit id') s1,h1)=>cond (Nat.beq id' id) (some (.ex .normal s1,h1)) (some (.ex (.exit id') s1,h1))
     | r=>r)
   | .scope a=>rec (.code rd a s) h
   | .loop a=>(match rec (.code rd a s) h with
     | some (.ex .normal s1,h1)=>rec (.code rd (.loop a) s1) h1
     | r=>r)
   | .region _ ops draw=>cond draw
     (cond (ju ops ops.toList 0 [] []) (match XB P cls rec ops ops.toList 0 [] [] s h with
      | some (s1,h1)=>some (.ex .normal s1,h1)
      | none=>none) none)
     (match XL P cls rec ops ops.toList s h with
      | some (s1,h1)=>some (.ex .normal s1,h1)
      | none=>none)
   | .rangeFunc f params as bd=>(match bQ cls rec rd (uN s f) params as bd s h with
     | some (e,h1)=>some (.ex e s,h1)
     | none=>none)
   | _=>none)
def run (P:Program) (cls:List Nat) (n:Nat):jz:=Nat.rec (fun _ _=>none) (fun _ rec=>body P cls rec) n
end
noncomputable section
variable {P:Program} {cls:List Nat}
theorem ql {α:Type} (f:Nat->Option α) (j:Nat):∀ (l:List Nat) (t:Tr α),(l.foldl (fun t b=>t.set b (f b)) t).get j=if j ∈ l then f j else t.get j
 | [],t=>by simp
 | b :: l,t=>by
   rw [List.foldl_cons,ql f j l,Tr.yo]
   by_cases h:j ∈ l
   ·simp [h]
   ·by_cases e:j=b
    ·subst e;simp [h]
    ·simp [h,e]
theorem vq (h:za) (l:List Nat) (b:Nat):(h.pick l).get b=if b ∈ l then h.get b else none:=by
 show (l.foldl (fun t b=>t.set b (h.get b)) Tr.e).get b=_
 rw [ql];rfl
theorem jn (h:za) (l:List Nat) (b:Nat):(h.XY l).get b=if b ∈ l then none else h.get b:=by
 show (l.foldl (fun t b=>t.set b none) h.t).get b=_
 rw [ql (fun _=>none)];rfl
theorem Wl (h g:za) (l:List Nat) (b:Nat):(h.Ez g l).get b=if b ∈ l then g.get b else h.get b:=by
 show (l.foldl (fun t b=>t.set b (g.get b)) h.t).get b=_
 rw [ql];rfl
theorem VG (h' h:za) (l:List Nat) (b:Nat):(h'.DD h l).get b=if b ∈ l then h.get b else h'.get b:=by
 show (l.foldl (fun t b=>t.set b (h.get b)) h'.t).get b=_
 rw [ql];rfl
theorem qw {a c b:Nat}:b ∈ List.range' a (c - a) ↔ a<=b/\b < c:=by
 rw [List.mem_range'_1];omega
theorem vR (h h2:za) (b:Nat):(vH h h2).get b=if h.next<=b/\b < h2.next then h2.get b else h.get b:=by
 show ((List.range' h.next (h2.next - h.next)).foldl (fun t b=>t.set b (h2.get b)) h.t).get b=_
 rw [ql]
 by_cases hb:h.next<=b/\b < h2.next
 ·rw [MK (qw.2 hb),MK hb]
 ·rw [MJ (fun hm=>hb (qw.1 hm)),MJ hb];rfl
theorem TC.fresh {f:FuncId} {args:List Value} {h h2:za} {v:Value} (ht:TC P f args h.lock (fun v1 h1=>v1=v/\h1=h2)):TC P f args h (fun v1 h1=>v1=v/\h1=vH h h2):=by
 intro ρ w cargs hr hv
 refine (ht ρ w cargs hr.lock hv).mono fun e w' => ?_
 rintro ⟨v1,v',h',ρ',e1,⟨rfl,rfl⟩,st,hvv⟩
 have nomine:∀ c,¬ VY ρ h.lock c:=by
  rintro c ⟨b,o,pl,hg,hro,_⟩
  have h1:h.next<=b:=hro
  have h2:=hr.XU b o hg
  omega
 have hsame:∀ c,c < w.heap.size->w'.heap[c]? = w.heap[c]?:=fun c hc=>st.frame c hc (nomine c)
 have hn:h.next<=h'.next:=by have:=st.le.1;rw [hr.next,st.rel.next] at this;exact this
 have hold:∀ b,b < h.next->ρ'.m b=ρ.m b:=fun b hb=>st.le.2 b (by rw [hr.next];exact hb)
 have cases':∀ b o,(vH h h').get b=some o->(h.next<=b/\b < h'.next/\h'.get b=some o)\/(b < h.next/\h.get b=some o):=by
  intro b o hg
  rw [vR] at hg
  split at hg
  ·rename_i hb;exact .inl ⟨hb.1,hb.2,hg⟩
  ·exact .inr ⟨hr.XU b o hg,hg⟩
 refine ⟨v1,v',vH h h',ρ',e1,⟨rfl,rfl⟩,⟨st.le,⟨st.rel.next,Nm hr.ro hn,?_,?_,?_,hr.QO,st.rel.kx⟩,rfl,st.os,st.tape,st.output,st.size,fun c hc _=>hsame c hc,?_⟩,hvv⟩
 ·intro b o hg
  rcases cases' b o hg with ⟨_,h2,_⟩ | ⟨h1,_⟩
  ·exact h2
  ·exact ML h1 hn
 ·intro b o hg
  rcases cases' b _ hg with ⟨h1,h2,h3⟩ | ⟨h1,h3⟩
  ·obtain ⟨pl,hp,hc⟩:=st.rel.ok b o h3
   refine ⟨pl,hp,hc.Bb (fun _ => ?_)⟩
   rw [st.ro];exact decide_eq_true h1
  ·obtain ⟨pl,hp,hc⟩:=hr.ok b o h3
   exact ⟨pl,(hold b h1).trans hp,(hc.mono st.le).other (hsame _ hc.lt)⟩
 ·have key:∀ b1 b2 o1 o2 p1 p2,h.next<=b1->h'.get b1=some o1->b2 < h.next->h.get b2=some o2->ρ'.m b1=some p1->ρ'.m b2=some p2->p1.c=p2.c->False:=by
   intro b1 b2 o1 o2 p1 p2 l1 g1 l2 g2 m1 m2 ec
   obtain ⟨pl,hp,hc⟩:=hr.ok b2 o2 g2
   rw [hold b2 l2,hp] at m2
   cases m2
   have:=st.KI p1.c (by rw [ec];exact hc.lt) ⟨b1,o1,p1,g1,by rw [st.ro];exact l1,m1,rfl⟩
   exact nomine _ this
  intro b1 b2 o1 o2 p1 p2 g1 g2 m1 m2 ec
  rcases cases' b1 o1 g1 with ⟨l1,_,k1⟩ | ⟨l1,k1⟩ <;> rcases cases' b2 o2 g2 with ⟨l2,_,k2⟩ | ⟨l2,k2⟩
  ·exact st.rel.inj b1 b2 o1 o2 p1 p2 k1 k2 m1 m2 ec
  ·exact (key b1 b2 o1 o2 p1 p2 l1 k1 l2 k2 m1 m2 ec).elim
  ·exact (key b2 b1 o2 o1 p2 p1 l2 k2 l1 k1 m2 m1 ec.symm).elim
  ·rw [hold b1 l1] at m1;rw [hold b2 l2] at m2
   exact hr.inj b1 b2 o1 o2 p1 p2 k1 k2 m1 m2 ec
 ·rintro c hc ⟨b,o,pl,hg,hro,hm,rfl⟩
  rcases cases' b o hg with ⟨l1,_,k1⟩ | ⟨l1,k1⟩
  ·exact (nomine _ (st.KI pl.c hc ⟨b,o,pl,k1,by rw [st.ro];exact l1,hm,rfl⟩)).elim
  ·rw [hold b l1] at hm;exact ⟨b,o,pl,k1,hro,hm,rfl⟩
def kh (P:Program) (cls:List Nat):Bool:=(List.range cls.length).all fun g=>Nat.beq (cls.getD g 0) 0 || wK P g
theorem qB {g:FuncId} {k:Nat} (hC:kh P cls=true) (h:cls.getD g 0=k + 1):wK P g=true:=by
 simp only [kh,Ni,NV,Nt] at hC
 have hg:g < cls.length:=by
  rcases MX g cls.length with h1 | h1
  ·exact h1
  ·rw [Nk,MO h1] at h;cases h
 rcases hC g hg with h1 | h1
 ·rw [h] at h1;cases h1
 ·exact h1
structure Sound (P:Program) (rec:jz):Prop where
 code:∀ rd c s h e s' h',rec (.code rd c s) h=some (.ex e s',h')->T P rd c s h (fun e1 s1 h1=>e1=e/\s1=s'/\h1=h')
 call:∀ f args h v h',rec (.call f args) h=some (.val v,h')->TC P f args h (fun v1 h1=>v1=v/\h1=h')
 kind:∀ rd c s h o h',rec (.code rd c s) h=some (o,h')->∃ e s',o = .ex e s'
 Mh:∀ f args h o h',rec (.call f args) h=some (o,h')->∃ v,o = .val v
theorem mr {rec:jz} (S:Sound P rec) (hC:kh P cls=true) {g:FuncId} {args:List Value} {h h':za} {v:Value} (he:mq cls rec g args h=some (v,h')) :
  wK P g=true/\TC P g args h (fun v1 h1=>v1=v/\h1=h'):=by
 unfold mq at he
 split at he
 ·rename_i hk
  refine ⟨qB hC hk,?_⟩
  split at he
  ·rename_i v1 h1 hrec
   simp only [My,MC] at he
   obtain ⟨rfl,rfl⟩:=he
   exact S.call _ _ _ _ _ hrec
  ·cases he
 ·rename_i hk
  refine ⟨qB hC hk,?_⟩
  split at he
  ·rename_i v1 h1 hrec
   obtain ⟨hsc,he⟩:=zt he
   simp only [My,MC] at he
   obtain ⟨rfl,rfl⟩:=he
   refine ((S.call _ _ _ _ _ hrec).quiet (fun v2 h2 q=>by rw [q.1];exact hsc)).mono ?_
   rintro v2 h2 ⟨⟨h3,q1,q2⟩,rfl⟩
   exact ⟨q1,rfl⟩
  ·cases he
 ·rename_i hk
  refine ⟨qB hC hk,?_⟩
  split at he
  ·rename_i v1 h2 hrec
   simp only [My,MC] at he
   obtain ⟨rfl,rfl⟩:=he
   exact (S.call _ _ _ _ _ hrec).fresh
  ·cases he
 ·cases he
theorem iG {rec:jz} (S:Sound P rec) {L:Nat} {args:List Value} {h h':za} {v:Value} (he:bU rec L args h=some (v,h')):TY P L args h (fun v1 h1=>v1=v/\h1=h'):=by
 unfold bU at he
 split at he
 case h_2=>cases he
 rename_i A hg
 split at he
 case h_2=>cases he
 rename_i s0 hs0
 split at he
 case h_2=>cases he
 rename_i s1 h1 hrec
 split at he
 case h_2=>cases he
 rename_i A1 g1
 obtain ⟨hc,he⟩:=zt he
 simp only [MG] at hc
 split at he
 case h_2=>cases he
 rename_i e s2 h2 hrec2
 split at he
 case h_2=>cases he
 rename_i A2 g2
 obtain ⟨hro,he⟩:=zt he
 simp only [My,MC] at he
 obtain ⟨rfl,rfl⟩:=he
 refine DN hg hs0 ((S.code _ _ _ _ _ _ _ hrec).mono ?_)
 rintro e1 s3 h3 ⟨rfl,rfl,rfl⟩
 refine ⟨rfl,A1,g1,?_,M3 hc.2,(S.code _ _ _ _ _ _ _ hrec2).mono ?_⟩
 ·cases hst:A1.state <;> first | rfl | (rw [hst] at hc;cases hc.1)
 ·rintro e1 s3 h3 ⟨rfl,rfl,rfl⟩
  refine ⟨A2,g2,M3 hro,?_,rfl⟩
  cases e1 <;> rfl
theorem mZ {p:Option Code} {e:Ex} (h:Gv p=some e):jP e=p:=by
 unfold Gv at h
 split at h <;> first | (simp only [My] at h;subst h;rfl) | cases h
theorem iD {rec:jz} (S:Sound P rec) (hC:kh P cls=true) {rd:Option Nat} {f:Operand} {params:Array Tmp} {as bd:Code} {s:Env} {h h':za} {e:Ex} (he:bQ cls rec rd (uN s f) params as bd s h=some (e,h')) :
  T P rd (.rangeFunc f params as bd) s h (fun e1 s1 h1=>e1=e/\s1=s/\h1=h'):=by
 unfold bQ at he
 split at he
 case h_2=>cases he
 rename_i g fa fc hf
 obtain ⟨hc,he⟩:=zt he
 simp only [MG] at hc
 split at he
 case h_2=>cases he
 rename_i v h1 hrec
 split at he
 case h_2=>cases he
 rename_i A hA
 obtain ⟨hb,he⟩:=zt he
 simp only [MG] at hb
 split at he
 case h_2=>cases he
 rename_i e1 hex
 simp only [My,MC] at he
 obtain ⟨rfl,rfl⟩:=he
 refine Q6 hf (qB (k:=0) hC (MQ hc.1)) ?_ ((S.call _ _ _ _ _ hrec).mono ?_)
 ·rintro L rfl
  have:=hc.2
  simp only at this
  split at this
  ·rename_i A0 g0;exact ⟨A0,g0⟩
  ·cases this
 ·rintro v1 h2 ⟨rfl,rfl⟩
  refine ⟨A,hA,?_,M3 hb.2,e1,mZ hex,rfl,rfl,rfl⟩
  cases hst:A.state <;> first | rfl | (rw [hst] at hb;cases hb.1)
theorem XM {rec:jz} (S:Sound P rec) (hC:kh P cls=true) {ops:Array Oper}:∀ (l:List Oper) (i:Nat) {s s':Env} {h h':za},ops.toList.drop i=l->XL P cls rec ops l s h=some (s',h') ->
  TO P ops (List.range' i l.length) s h (fun s1 h1=>s1=s'/\h1=h')
 | [],i,s,s',h,h',hl,he=>by
   simp only [XL,My,MC] at he
   exact Bi ⟨he.1,he.2⟩
 | o :: os,i,s,s',h,h',hl,he=>by
   have ho:ops[i]? = some o:=by
    have:=congrArg (fun l=>l[0]?) hl
    simp only [Nn,MD] at this
    simpa using this
   have hl':ops.toList.drop (i + 1)=os:=by rw [<- OJ,hl];rfl
   rw [MY,List.range'_succ]
   simp only [XL] at he
   cases hw:yg ops s o with
   | false=>
     rw [hw] at he
     simp only [M7] at he
     split at he
     ·rename_i s1 hp
      exact rI ho hw hp (XM S hC os (i + 1) hl' he)
     ·cases he
   | true=>
     rw [hw] at he
     simp only [MV] at he
     split at he
     ·rename_i v h1 hev
      split at he
      ·rename_i s1 hp
       have hrest:=XM S hC os (i + 1) hl' he
       unfold evalOp at hev
       split at hev
       ·rename_i f args ts yB
        split at hev
        ·rename_i g fa fc vs hf hargs
         cases hk:Nat.beq (cls.getD g 0) 0 with
         | true=>
           rw [hk] at hev
           simp only [MV] at hev
           exact E6 ho hw (by rw [yB];rfl) (fun ρ w a hr hs=>gS yB hf hargs hev hr hs) hp hrest
         | false=>
           rw [hk] at hev
           simp only [M7] at hev
           obtain ⟨h1c,h2c⟩:=mr S hC hev
           exact rH ho hw yB hf hargs h1c h2c (by rintro v2 h2 ⟨rfl,rfl⟩;exact ⟨s1,hp,hrest⟩)
        ·rename_i L fa fc vs hf hargs
         obtain ⟨hz,hev⟩:=zt hev
         simp only [MG] at hz
         obtain rfl:=Ym hz.1
         obtain rfl:=Ym hz.2
         exact iU ho hw yB hf hargs (iG S hev) (by rintro v2 h2 ⟨rfl,rfl⟩;exact ⟨s1,hp,hrest⟩)
        ·cases hev
       ·exact E7 ho hw hev hp hrest
      ·cases he
     ·cases he
end
noncomputable section
variable {P:Program} {cls:List Nat}
structure AF (h h':za):Prop where
 next:h.next<=h'.next
 ro:h'.ro=h.ro
 alive:∀ b o,h'.get b=some o->h.get b ≠ none\/(h.next<=b/\b < h'.next)
theorem AF.refl (h:za):AF h h:=⟨MI _,rfl,fun b o hb => .inl (by rw [hb];simp)⟩
theorem AF.trans {a b c:za} (h:AF a b) (k:AF b c):AF a c:=by
 refine ⟨Nm h.next k.next,k.ro.trans h.ro,fun x o hx => ?_⟩
 rcases k.alive x o hx with h1 | ⟨h1,h2⟩
 ·obtain ⟨o',ho'⟩:∃ o,b.get x=some o:=by cases hh:b.get x with | none=>exact absurd hh h1 | some o=>exact ⟨o,rfl⟩
  rcases h.alive x o' ho' with h2 | ⟨h2,h3⟩
  ·exact .inl h2
  ·exact .inr ⟨h2,ML h3 k.next⟩
 ·exact .inr ⟨Nm h.next h1,h2⟩
theorem AF.push (h:za) (o:xS):AF h (h.push o):=⟨N7 _,rfl,fun b o' hb=>by
 rw [za.wN] at hb
 split at hb
 ·rename_i e;subst e;exact .inr ⟨MI _,NN _⟩
 ·exact .inl (by rw [hb];simp)⟩
theorem AF.XQ {h:za} {b:Nat} {o:xS} (hb:h.get b=some o) (x:Option xS):AF h (h.set b x):=⟨MI _,rfl,fun c o' hc=>by
 rw [za.yo] at hc
 split at hc
 ·rename_i e;subst e;exact .inl (by rw [hb];simp)
 ·exact .inl (by rw [hc];simp)⟩
theorem oQ {h h':za} {b off:Nat} {new:List Value} (he:WS h b off new=some h'):AF h h':=by
 unfold WS at he
 cases hz:Nat.beq new.length 0 with
 | true=>rw [hz] at he;simp only [MV,My] at he;subst he;exact .refl _
 | false=>
   rw [hz] at he
   simp only [M7] at he
   split at he
   ·rename_i hg
    obtain ⟨_,he⟩:=zt he
    simp only [My] at he
    subst he
    exact .XQ hg _
   ·cases he
theorem fu {t:TypeId} {a v:Value} {h h':za} (he:zk P t a v h=some h'):AF h h':=by
 unfold zk at he
 split at he
 ·split at he
  ·cases he
  ·rename_i hg
   split at he
   ·cases he
   ·obtain ⟨_,he⟩:=zt he
    simp only [My] at he
    subst he
    exact .XQ hg _
  ·cases he
 ·cases he
theorem oF {sT xT:TypeId} {s x v:Value} {h h':za} (he:Yi P sT xT s x h=some (v,h')):AF h h':=by
 unfold Yi at he
 split at he
 case h_2=>cases he
 rename_i elem xd n _ _ _
 split at he
 case h_2=>cases he
 split at he
 case h_2=>cases he
 obtain ⟨_,he⟩:=zt he
 unfold YS at he
 split at he
 ·cases hz:Nat.beq n 0 with
  | true=>rw [hz] at he;simp only [MV,My,MC] at he;obtain ⟨_,rfl⟩:=he;exact .refl _
  | false=>
    rw [hz] at he
    obtain ⟨_,he⟩:=zt (show cond _ _ none=_ from he)
    simp only [My,MC] at he
    obtain ⟨_,rfl⟩:=he
    exact .push _ _
 ·cases hz:Nat.beq n 0 with
  | true=>rw [hz] at he;simp only [MV,My,MC] at he;obtain ⟨_,rfl⟩:=he;exact .refl _
  | false=>
    rw [hz] at he
    simp only [M7] at he
    split at he
    ·rename_i hg
     obtain ⟨_,he⟩:=zt he
     simp only [My,MC] at he
     obtain ⟨_,rfl⟩:=he
     exact (AF.XQ hg none).trans (.push _ _)
    ·cases he
 ·cases he
theorem BZ {t:TypeId} {d x v:Value} {h h':za} (he:lZ P t d x h=some (v,h')):AF h h':=by
 unfold lZ at he
 split at he
 case h_2=>cases he
 split at he
 case h_1=>cases he
 split at he
 case h_1=>cases he
 split at he
 ·simp only [My,MC] at he;obtain ⟨_,rfl⟩:=he;exact .refl _
 ·simp only [MR,MC] at he
  obtain ⟨h2,hs,_,rfl⟩:=he
  exact oQ hs
 ·cases he
theorem tU {t:TypeId} {x:Value} {h h':za} (he:JT P t x h=some h'):AF h h':=by
 unfold JT at he
 cases he
theorem cS {t:TypeId} {x k v:Value} {h h':za} (he:uL P t x k v h=some h'):AF h h':=by
 unfold uL at he
 split at he
 case h_2=>cases he
 split at he
 case h_2=>cases he
 rename_i hg
 split at he
 case h_2=>cases he
 obtain ⟨_,he⟩:=zt he
 split at he
 ·split at he
  ·obtain ⟨_,he⟩:=zt he
   simp only [My] at he;subst he;exact .XQ hg _
  ·cases he
 ·simp only [My] at he;subst he;exact .XQ hg _
 ·cases he
theorem cR {t:TypeId} {x k:Value} {h h':za} (he:ZR P t x k h=some h'):AF h h':=by
 unfold ZR at he
 cases he
theorem B9 {x v:Value} {str:Bool} {h h':za} (he:fo P x str h=some (v,h')):AF h h':=by
 unfold fo at he
 cases he
def Still (h h':za):Prop:=h'=h \/ ∃ o,h'=h.push o
theorem Still.af {h h':za} (s:Still h h'):AF h h':=by
 rcases s with rfl | ⟨o,rfl⟩
 ·exact .refl _
 ·exact .push _ _
theorem l8 {t:TypeId} {l c v:Value} {h h':za} (he:Yl P t l c h=some (v,h')):Still h h':=by
 unfold Yl at he
 split at he
 case h_2=>cases he
 split at he
 case h_1=>cases he
 split at he
 case h_1=>cases he
 obtain ⟨_,he⟩:=zt he
 simp only [My,MC] at he
 obtain ⟨_,rfl⟩:=he
 exact .inr ⟨_,rfl⟩
theorem gL {src dst:TypeId} {x v:Value} {h h':za} (he:JU P src dst x h=some (v,h')):Still h h':=by
 unfold JU at he
 split at he
 ·simp only [My,MC] at he;obtain ⟨_,rfl⟩:=he;exact .inl rfl
 ·split at he
  ·split at he
   ·simp only [My,MC] at he;obtain ⟨_,rfl⟩:=he;exact .inr ⟨_,rfl⟩
   ·cases he
  ·split at he
   ·simp only [MR,MC] at he;obtain ⟨_,_,_,rfl⟩:=he;exact .inl rfl
   ·cases he
  ·cases he
theorem lY {src dst:TypeId} {x v:Value} {h h':za} (he:vn P src dst x h=some (v,h')):Still h h':=by
 unfold vn at he
 split at he
 ·rename_i r hc
  simp only [My] at he
  subst he
  exact gL hc
 ·simp only [MR,MC] at he;obtain ⟨_,_,_,rfl⟩:=he;exact .inl rfl
theorem Gc {pt:TypeId} {p v:Value} {n:Int} {h h':za} (he:HS P pt p n h=some (v,h')):AF h h':=by
 unfold HS at he
 split at he
 ·obtain ⟨_,he⟩:=zt he
  simp only [My,MC] at he;obtain ⟨_,rfl⟩:=he;exact .refl _
 ·cases hn:decide (n=0) with
  | true=>rw [hn] at he;simp only [MV,My,MC] at he;obtain ⟨_,rfl⟩:=he;exact .refl _
  | false=>
    rw [hn] at he
    simp only [M7] at he
    split at he
    case h_2=>cases he
    rename_i hg
    split at he
    case h_2=>cases he
    obtain ⟨_,he⟩:=zt he
    simp only [My,MC] at he;obtain ⟨_,rfl⟩:=he;exact .XQ hg _
 ·cases he
theorem Uq {t:TypeId} {n:Nat} {ps:List (Nat × Value)} {v:Value} {h h':za} (he:y8 P t n ps h=some (v,h')):Still h h':=by
 unfold y8 at he
 split at he
 case h_2=>cases he
 split at he
 case h_2=>cases he
 obtain ⟨_,he⟩:=zt he
 split at he
 case h_2=>cases he
 obtain ⟨_,he⟩:=zt he
 simp only [My,MC] at he
 obtain ⟨_,rfl⟩:=he
 exact .inr ⟨_,rfl⟩
theorem w6 {x:Option Value} {v:Value} {h h':za} (he:one h x=some (v,h')):Still h h' := .inl (wz he).2
theorem lV {b:Builtin} {ts:List TypeId} {r:TypeId} {vs:List Value} {v:Value} {h h':za} (he:zo P b ts r vs h=some (v,h')):AF h h':=by
 unfold zo at he
 split at he
 ·exact oF he
 ·exact BZ he
 ·simp only [MR,MC] at he;obtain ⟨_,_,_,rfl⟩:=he;exact .refl _
 ·simp only [MR,MC] at he;obtain ⟨_,hc,_,rfl⟩:=he;exact tU hc
 ·obtain ⟨_,he⟩:=zt he;simp only [MR,MC] at he;obtain ⟨_,_,_,rfl⟩:=he;exact .refl _
 ·obtain ⟨_,he⟩:=zt he;simp only [MR,MC] at he;obtain ⟨_,_,_,rfl⟩:=he;exact .refl _
 ·simp only [MR,MC] at he;obtain ⟨_,hc,_,rfl⟩:=he;exact cR hc
 ·simp only [MR,MC] at he;obtain ⟨_,_,_,rfl⟩:=he;exact .refl _
 ·simp only [MR,MC] at he;obtain ⟨_,_,_,rfl⟩:=he;exact .refl _
 ·exact Gc he
 ·cases he
theorem gX {t:TypeId} {x v:Value} {h h':za} (he:QF P t x h=some (v,h')):Still h h':=by
 unfold QF at he
 cases he
theorem X9 {b:Builtin} {ts:List TypeId} {r:TypeId} {vs:List Value} {v:Value} {h h':za} (hq:Zn b=true) (he:zo P b ts r vs h=some (v,h')):h'=h:=by
 unfold zo at he
 split at he <;> first
  | (simp [Zn] at hq;done)
  | (simp only [MR,MC] at he;obtain ⟨_,_,_,rfl⟩:=he;rfl)
  | (obtain ⟨_,he⟩:=zt he;simp only [MR,MC] at he;obtain ⟨_,_,_,rfl⟩:=he;rfl)
  | cases he
theorem jI {g:FuncId} {args:List Value} {v:Value} {h h':za} (he:gR P g args h=some (v,h')):Still h h':=by
 unfold gR at he
 split at he
 ·rename_i r hn
  simp only [My] at he
  subst he
  unfold sF at hn
  split at hn
  case h_2=>cases hn
  obtain ⟨_,hn⟩:=zt hn
  split at hn
  case h_2=>cases hn
  simp only [My,MC] at hn
  obtain ⟨_,rfl⟩:=hn
  exact .inl rfl
 ·unfold bH at he
  split at he
  case h_2=>cases he
  obtain ⟨_,he⟩:=zt he
  split at he
  case h_2=>cases he
  split at he
  case h_2=>cases he
  obtain ⟨_,he⟩:=zt he
  simp only [My,MC] at he
  obtain ⟨_,rfl⟩:=he
  exact .inr ⟨_,rfl⟩
theorem kY {s:Env} {o:Oper} {v:Value} {h h':za} (he:Vf P s o h=some (v,h')):AF h h'/\(j0 o.op=false->Still h h'):=by
 unfold Vf at he
 split at he <;> rename_i yB
 ·have:=w6 he;exact ⟨this.af,fun _=>this⟩
 ·have:=w6 he;exact ⟨this.af,fun _=>this⟩
 ·split at he
  ·have:=w6 he;exact ⟨this.af,fun _=>this⟩
  ·have:=w6 he;exact ⟨this.af,fun _=>this⟩
  ·cases he
 ·split at he
  ·simp only [My,cZ,MC] at he;obtain ⟨_,rfl⟩:=he;exact ⟨.push _ _,fun _ => .inr ⟨_,rfl⟩⟩
  ·cases he
 ·split at he
  ·simp only [My,cZ,MC] at he;obtain ⟨_,rfl⟩:=he;exact ⟨.push _ _,fun _ => .inr ⟨_,rfl⟩⟩
  ·cases he
 ·split at he
  ·have:=w6 he;exact ⟨this.af,fun _=>this⟩
  ·cases he
 ·split at he
  ·have:=Uq he;exact ⟨this.af,fun _=>this⟩
  ·cases he
 ·split at he
  ·have:=w6 he;exact ⟨this.af,fun _=>this⟩
  ·cases he
 ·split at he
  ·split at he
   ·rename_i hs
    simp only [My,MC] at he
    obtain ⟨_,rfl⟩:=he
    exact ⟨fu hs,fun hw=>by rw [yB] at hw;cases hw⟩
   ·cases he
  ·cases he
 ·split at he
  ·simp only [My,MC] at he;obtain ⟨_,rfl⟩:=he;exact ⟨.refl _,fun _ => .inl rfl⟩
  ·simp only [My,MC] at he;obtain ⟨_,rfl⟩:=he;exact ⟨.refl _,fun _ => .inl rfl⟩
  ·cases he
 ·split at he
  ·have:=w6 he;exact ⟨this.af,fun _=>this⟩
  ·cases he
 ·split at he
  ·obtain ⟨_,he⟩:=zt he;have:=w6 he;exact ⟨this.af,fun _=>this⟩
  ·cases he
 ·split at he
  ·have:=lY he;exact ⟨this.af,fun _=>this⟩
  ·cases he
 ·split at he
  ·split at he
   ·simp only [My,MC] at he;obtain ⟨_,rfl⟩:=he;exact ⟨.refl _,fun _ => .inl rfl⟩
   ·cases he
  ·cases he
 ·split at he
  ·simp only [My,MC] at he;obtain ⟨_,rfl⟩:=he;exact ⟨.refl _,fun _ => .inl rfl⟩
  ·cases he
 ·split at he
  ·have:=l8 he;exact ⟨this.af,fun _=>this⟩
  ·cases he
 ·split at he
  ·split at he
   ·simp only [My,MC] at he;obtain ⟨_,rfl⟩:=he;exact ⟨.refl _,fun _ => .inl rfl⟩
   ·cases he
  ·have:=w6 he;exact ⟨this.af,fun _=>this⟩
  ·cases he
 ·split at he
  ·have:=w6 he;exact ⟨this.af,fun _=>this⟩
  ·cases he
 ·split at he
  ·split at he
   ·split at he
    ·have:=w6 he;exact ⟨this.af,fun _=>this⟩
    ·cases he
   ·cases he
  ·cases he
 ·split at he
  ·have:=w6 he;exact ⟨this.af,fun _=>this⟩
  ·cases he
 ·split at he
  ·obtain ⟨_,he⟩:=zt he;have:=w6 he;exact ⟨this.af,fun _=>this⟩
  ·cases he
 ·split at he
  ·have:=w6 he;exact ⟨this.af,fun _=>this⟩
  ·cases he
 ·split at he
  ·refine ⟨lV he,fun hw => ?_⟩
   rw [yB] at hw
   simp only [j0,Bool.not_eq_false'] at hw
   exact .inl (X9 hw he)
  ·cases he
 ·simp only [My,wx,MC] at he;obtain ⟨_,rfl⟩:=he;exact ⟨.push _ _,fun _ => .inr ⟨_,rfl⟩⟩
 ·split at he
  ·have:=w6 he;exact ⟨this.af,fun _=>this⟩
  ·cases he
 ·split at he
  ·split at he
   ·rename_i hu
    simp only [My,MC] at he
    obtain ⟨_,rfl⟩:=he
    exact ⟨cS hu,fun hw=>by rw [yB] at hw;cases hw⟩
   ·cases he
  ·cases he
 ·split at he
  ·have:=gX he;exact ⟨this.af,fun _=>this⟩
  ·cases he
 ·split at he
  ·exact ⟨B9 he,fun hw=>by rw [yB] at hw;cases hw⟩
  ·cases he
 ·split at he
  ·have:=w6 he;exact ⟨this.af,fun _=>this⟩
  ·cases he
 ·cases he
end
end Go.Ai
