/- A part of the proof. -/
import Derived.Test.YtcecapkbglnejaaGreatDoorTB
import Derived.Orders
set_option linter.unusedVariables false
set_option linter.unusedSimpArgs false
set_option maxRecDepth 100000
namespace Go.Ai
noncomputable section
variable {P:Program}
theorem Xa {s s':Env}:∀ {xs:List Operand},(∀ x,x ∈ xs->jb s x=jb s' x)->VC s xs=VC s' xs
 | [],_=>rfl
 | x :: xs,h=>by simp only [VC];rw [h x (by simp),Xa (fun y hy=>h y (by simp [hy]))]
theorem Uf {s s':Env}:∀ {ps:List (Nat × Operand)},(∀ x,x ∈ ps->jb s x.2=jb s' x.2)->Wv s ps=Wv s' ps
 | [],_=>rfl
 | (i,x) :: ps,h=>by simp only [Wv];rw [h (i,x) (by simp),Uf (fun y hy=>h y (by simp [hy]))]
theorem Ef {s s':Env} {o:Oper} {g:za} (h:∀ x,x ∈ o.op.operands->jb s x=jb s' x):Kz P s o g=Kz P s' o g:=by
 obtain ⟨dst,op,type,pos,after,guard⟩:=o
 have one:∀ x,x ∈ op.operands->jb s x=jb s' x:=h
 have opt:∀ x:Option Operand,(∀ y,x=some y->y ∈ op.operands)->lA s x=lA s' x:=by
  intro x hx
  cases x with
  | none=>rfl
  | some y=>simp only [lA];rw [one y (hx y rfl)]
 unfold Kz
 cases op <;> simp only [] <;> first
  | rfl
  | (rw [one _ (by simp [Op.operands])];done)
  | (rw [one _ (by simp [Op.operands]),one _ (by simp [Op.operands])];done)
  | skip
 case pick c a b=>rw [one c (by simp [Op.operands]),one a (by simp [Op.operands]),one b (by simp [Op.operands])]
 case build t parts=>rw [Uf (fun x hx=>one _ (by simp only [Op.operands,List.mem_toArray,TH];exact ⟨x,hx,rfl⟩))]
 case buildSlice t n parts=>rw [Uf (fun x hx=>one _ (by simp only [Op.operands,List.mem_toArray,TH];exact ⟨x,hx,rfl⟩))]
 case makeFunc fn first captured=>
  cases fn <;> simp only []
  rw [Xa (s:=s) (s':=s') (xs:=first.toList) (fun x hx=>one x (by simp [Op.operands];exact .inl (by simpa using hx))),Xa (s:=s) (s':=s') (xs:=captured.toList) (fun x hx=>one x (by simp [Op.operands];exact .inr (by simpa using hx)))]
 case slice t x lo hi mx=>
  cases mx <;> simp only []
  rw [one x (by simp [Op.operands]),opt lo (fun y e=>by subst e;simp [Op.operands]),opt hi (fun y e=>by subst e;simp [Op.operands])]
 case makeMap t r=>cases r <;> rfl
 case mapUpdate t m k x=>rw [one m (by simp [Op.operands]),one k (by simp [Op.operands]),one x (by simp [Op.operands])]
 case call c=>
  obtain ⟨callee,args,ts⟩:=c
  cases callee <;> simp only []
  rw [Xa (s:=s) (s':=s') (fun x hx=>one x (by simp [Op.operands,Call.operands];simpa using hx))]
def Env.only (s:Env) (l:List Nat):Env:={ t:=l.foldl (fun t i=>t.set i (some (s.get i))) .e,size:=s.size }
theorem Env.Hb (s:Env) (l:List Nat) (i:Nat):(s.only l).get i=if i ∈ l then s.get i else undef:=by
 have key:∀ (l:List Nat) (t:Tr Value),(l.foldl (fun t i=>t.set i (some (s.get i))) t).get i=if i ∈ l then some (s.get i) else t.get i:=by
  intro l
  induction l with
  | nil=>intro t;simp
  | cons j l ih=>
    intro t
    rw [List.foldl_cons,ih,Tr.yD]
    by_cases hi:i ∈ l
    ·simp [hi]
    ·by_cases e:i=j
     ·subst e;simp [hi]
     ·simp [hi,e]
 have:=key l .e
 simp only [Env.get_eq,Env.only] at this ⊢
 rw [this]
 split <;> simp
theorem oL {s s':Env} {ops:Array Oper} {o:Oper} (h:∀ t,t ∈ o.looksAt ops->s.get t=s'.get t):∀ x,x ∈ o.op.operands->jb s x=jb s' x:=by
 intro x hx
 cases x with
 | tmp t=>
   simp only [jb]
   rw [h t (by simp only [Oper.looksAt,Ta,List.mem_filterMap];exact .inl ⟨.tmp t,by simpa using hx,rfl⟩)]
 | _=>rfl
theorem Vo {tm tm':Array Value} {ds:List Deferred} {ops:Array Oper} {o:Oper} (h:∀ t,t ∈ o.looksAt ops->tm.getD t undef=tm'.getD t undef):∀ x,x ∈ o.op.operands->Act.eval ⟨tm,ds⟩ x=Act.eval ⟨tm',ds⟩ x:=by
 intro x hx
 cases x with
 | tmp t=>exact h t (by simp only [Oper.looksAt,Ta,List.mem_filterMap];exact .inl ⟨.tmp t,by simpa using hx,rfl⟩)
 | _=>rfl
theorem lC {s s':Env} {ops:Array Oper} {o:Oper} (h:∀ t,t ∈ o.looksAt ops->s.get t=s'.get t):yw ops s o=yw ops s' o:=by
 unfold yw
 split
 ·rfl
 ·rename_i j want e
  split
  ·rfl
  ·rename_i d hd
   rw [h d (by simp only [Oper.looksAt,Ta];right;rw [e];simp [hd])]
def Zc (P:Program) (ops:Array Oper) (s:Env) (o:Oper) (g:za) (v:Value) (g':za):Prop :=
 (yw ops s o=false/\v=undef/\g'=g) \/
 (yw ops s o=true/\(Kz P s o g=some (v,g') \/
  (∃ f cargs ts fid fa fc vs,o.op = .call { callee := .value f,args:=cargs,argTypes:=ts } /\ jb s f=some (.func (.func fid) fa fc)/\VC s cargs.toList=some vs/\ux P fid=true /\
   TC P fid (fa.toList ++ vs ++ fc.toList) g (fun v1 h1=>v1=v/\h1=g')) \/
  (∃ f cargs ts fid fa fc vs,o.op = .call { callee := .value f,args:=cargs,argTypes:=ts } /\ jb s f=some (.func (.func fid) fa fc)/\VC s cargs.toList=some vs/\oM P fid (fa.toList ++ vs ++ fc.toList) g=some (v,g'))))
theorem Zc.congr {ops:Array Oper} {s s':Env} {o:Oper} {g g':za} {v:Value} (hs:Zc P ops s o g v g') (h:∀ t,t ∈ o.looksAt ops->s.get t=s'.get t):Zc P ops s' o g v g':=by
 have e1:=oL h
 unfold Zc at *
 rw [<- lC h]
 rcases hs with hs | ⟨hw,hs | ⟨f,cargs,ts,fid,fa,fc,vs,h1,h2,h3,h4,h5⟩ | ⟨f,cargs,ts,fid,fa,fc,vs,h1,h2,h3,h4⟩⟩
 ·exact .inl hs
 ·exact .inr ⟨hw,.inl (by rw [<- Ef e1];exact hs)⟩
 ·refine .inr ⟨hw,.inr (.inl ⟨f,cargs,ts,fid,fa,fc,vs,h1,?_,?_,h4,h5⟩)⟩
  ·rw [<- e1 f (by rw [h1];simp [Op.operands,Call.operands])];exact h2
  ·rw [<- Xa (s:=s) (s':=s') (xs:=cargs.toList) (fun x hx=>e1 x (by rw [h1];simp only [Op.operands,Call.operands];simp;right;simpa using hx))];exact h3
 ·refine .inr ⟨hw,.inr (.inr ⟨f,cargs,ts,fid,fa,fc,vs,h1,?_,?_,h4⟩)⟩
  ·rw [<- e1 f (by rw [h1];simp [Op.operands,Call.operands])];exact h2
  ·rw [<- Xa (s:=s) (s':=s') (xs:=cargs.toList) (fun x hx=>e1 x (by rw [h1];simp only [Op.operands,Call.operands];simp;right;simpa using hx))];exact h3
theorem Qr {ops:Array Oper} {s:Env} {o:Oper} {g g':za} {v:Value} {j:Nat} {ρ:xn} {w:World} {tm:Array Value} (ho:ops[j]? = some o) (hsem:Zc P ops s o g v g') (hr:Rel P ρ g w)
  (hsz:s.size=tm.size) (hl:∀ t,t ∈ o.looksAt ops->zI ρ (s.get t) (tm.getD t undef)) (ds:List Deferred) (rest:List Nat) (b:Frame) (k:List Item) (cs:List Frame) :
  ∃ v' w' ρ',Step P ρ g w ρ' g' w'/\zI ρ' v v' /\
    Steps P (lone (vH b tm ds (.inRegion ops (j :: rest) :: k)) cs w) (lone (vH b (ql tm o.dst v') ds (.inRegion ops rest :: k)) cs w'):=by
 let L:=o.looksAt ops
 let s2:=s.only L
 let tm2:Array Value:=(Array.range tm.size).map fun t=>if t ∈ L then tm.getD t undef else undef
 have hg2:∀ t,s2.get t=if t ∈ L then s.get t else undef:=Env.Hb s L
 have ht2:∀ t,t ∈ L->tm2.getD t undef=tm.getD t undef:=by
  intro t ht
  simp only [tm2,SB,Array.getElem?_map]
  by_cases hlt:t < tm.size
  ·rw [Array.getElem?_range,Sn hlt];simp [ht]
  ·rw [Array.getElem?_range,Sl hlt];simp [SN (aai hlt)]
 have ht2':∀ t,t ∉ L->tm2.getD t undef=undef:=by
  intro t ht
  simp only [tm2,SB,Array.getElem?_map]
  by_cases hlt:t < tm.size
  ·rw [Array.getElem?_range,Sn hlt];simp [ht]
  ·rw [Array.getElem?_range,Sl hlt];rfl
 have hs2:vN ρ s2 tm2:=by
  refine ⟨by show s.size=_;simp [tm2,hsz],fun t => ?_⟩
  rw [hg2]
  by_cases ht:t ∈ L
  ·rw [Sn ht,ht2 t ht];exact hl t ht
  ·rw [Sl ht,ht2' t ht];exact .Zw ρ rfl
 have hsem2:Zc P ops s2 o g v g':=hsem.congr (fun t ht=>by rw [hg2,Sn ht])
 have hwant:Region.wanted o (yielded ops tm)=yw ops s2 o:=by
  rw [<- Xe hs2 ops o]
  unfold Region.wanted
  cases hgd:o.guard with
  | none=>rfl
  | some gw=>
    obtain ⟨q,want⟩:=gw
    simp only []
    have:yielded ops tm q=yielded ops tm2 q:=by
     unfold yielded
     cases hd:(ops[q]?).bind (·.dst) with
     | none=>rfl
     | some d=>
       have hdl:d ∈ L:=by simp only [L,Oper.looksAt,Ta];right;rw [hgd];simp [hd]
       simp only [SS]
       have e:=ht2 d hdl
       simp only [SB] at e
       have C7:tm2.size=tm.size:=by simp [tm2]
       by_cases hlt:d < tm.size
       ·rw [SO hlt,SO (C7 ▸ hlt)] at e ⊢
        simp only [T6] at e
        rw [e]
       ·rw [SN (aai hlt),SN (by rw [C7];exact aai hlt)]
    rw [this]
 rcases hsem2 with ⟨hw,rfl,rfl⟩ | ⟨hw,hs | ⟨f,cargs,ts,fid,fa,fc,vs,h1,h2,h3,h4,h5⟩ | ⟨f,cargs,ts,fid,fa,fc,vs,h1,h2,h3,h4⟩⟩
 ·refine ⟨undef,w,ρ,.refl hr,.Zw ρ rfl,.one ?_⟩
  rw [KD (by rw [ho];exact hwant.trans hw),jU,ho]
  rfl
 ·obtain ⟨n,w1,ρ1,v',e,hn,st,hv⟩:=nj (a:=⟨tm2,[]⟩) hs hr hs2
  refine ⟨v',w1,ρ1,st,hv,.one ?_⟩
  have hnd:=WG hs
  have hnsel:∀ cs' b',o.op ≠ .select cs' b':=by intro cs' b' e;unfold Kz at hs;rw [e] at hs;cases hs
  have e':(execOp (Act.eval ⟨tm,ds⟩) o).run P w = .ok n w1:=by
   rw [<- e]
   congr 1
   refine execOp_congr o hnsel (fun x hx => ?_)
   exact (Vo (ds:=ds) (fun t ht=>(ht2 t ht).symm) x hx).trans (by cases x <;> rfl)
  have hfin:(vH b tm ds (.inRegion ops (j :: rest) :: k)).finish v'=vH b (ql tm o.dst v') ds (.inRegion ops rest :: k):=by rw [jU,ho];rfl
  rw [<- hfin]
  rcases hn with rfl | ⟨rfl,rfl⟩
  ·exact YM ho (hwant.trans hw) hnd e'
  ·exact Xp ho (hwant.trans hw) hnd e'
 ·have e1:=zV (a:=⟨tm2,[]⟩) hs2 h2
  have e2:=jS (a:=⟨tm2,[]⟩) hs2 h3
  have hlook:∀ (ds:List Deferred) x,x ∈ o.op.operands->Act.eval ⟨tm2,[]⟩ x=Act.eval ⟨tm,ds⟩ x:=fun ds x hx=>
   (show Act.eval ⟨tm2,[]⟩ x=Act.eval ⟨tm2,ds⟩ x by cases x <;> rfl).trans (Vo (ds:=ds) (fun t ht=>ht2 t ht) x hx)
  generalize hfv:Act.eval ⟨tm2,[]⟩ f=fv at e1
  cases e1 with
  | func ha hcs q1 q2=>
    rename_i fa' fc'
    let full:=fa'.toList ++ cargs.toList.map (Act.eval ⟨tm2,[]⟩) ++ fc'.toList
    have hfull:wz ρ (fa.toList ++ vs ++ fc.toList) full :=
     (wz.append ⟨by simpa using ha,fun i x y hx hy=>q1 i x y (by simpa using hx) (by simpa using hy)⟩ e2).append ⟨by simpa using hcs,fun i x y hx hy=>q2 i x y (by simpa using hx) (by simpa using hy)⟩
    have hrun:(execOp (Act.eval ⟨tm,ds⟩) o).run P w = .ok (.enter fid full.toArray) w:=by
     have hnsel:∀ cs' b',o.op ≠ .select cs' b':=by intro cs' b' e;rw [h1] at e;cases e
     rw [<- execOp_congr o hnsel (hlook ds)]
     have hargs':fa' ++ cargs.map (Act.eval ⟨tm2,[]⟩) ++ fc'=full.toArray:=by apply T7;simp [full]
     simp only [execOp,h1,resolve,hfv,Deferred.ofValue,Sj,Ss,Sg,invoke,callFunc,run_program,hargs']
     unfold ux at h4
     cases hfn:P.funcs[fid]? with
     | none=>rw [hfn] at h4;cases h4
     | some fn=>
       rw [hfn] at h4
       simp only [Sm,Sz] at h4
       simp only [h4.2,Ti,Sx]
       rw [Sl (by cases hb:fn.body <;> simp_all)]
       rfl
    obtain ⟨e,w1,fr,⟨v0,v',h',ρ',rfl,⟨rfl,rfl⟩,st,hv⟩,hcomes,_,hleave⟩:=h5 ρ w full hr hfull (vH b tm ds (.inRegion ops (j :: rest) :: k) :: cs)
    refine ⟨v',w1,ρ',st,hv,.head (Qh ho (hwant.trans hw) (by rw [h1];rfl) hrun) (T3 hcomes (.one ?_))⟩
    rw [step_leave_returned hleave,jU,ho]
    rfl
 ·obtain ⟨n,w1,ρ1,v',e,hn,st,hv⟩:=oN (a:=⟨tm2,[]⟩) h1 h2 h3 h4 hr hs2
  refine ⟨v',w1,ρ1,st,hv,.one ?_⟩
  have hnd:Xq o.op=false:=by rw [h1];rfl
  have hnsel:∀ cs' b',o.op ≠ .select cs' b':=by intro cs' b' e;rw [h1] at e;cases e
  have e':(execOp (Act.eval ⟨tm,ds⟩) o).run P w = .ok n w1:=by
   rw [<- e]
   congr 1
   refine execOp_congr o hnsel (fun x hx => ?_)
   exact (Vo (ds:=ds) (fun t ht=>(ht2 t ht).symm) x hx).trans (by cases x <;> rfl)
  have hfin:(vH b tm ds (.inRegion ops (j :: rest) :: k)).finish v'=vH b (ql tm o.dst v') ds (.inRegion ops rest :: k):=by rw [jU,ho];rfl
  rw [<- hfin]
  rcases hn with rfl | ⟨rfl,rfl⟩
  ·exact YM ho (hwant.trans hw) hnd e'
  ·exact Xp ho (hwant.trans hw) hnd e'
end
noncomputable section
variable {P:Program}
def xn.cut (ρ:xn) (n:Nat):xn:={ ρ with next:=n }
theorem zI.ext {ρ ρ':xn} (hn:ρ.next<=ρ'.next) (hm:∀ b pl,b < ρ.next->ρ.m b=some pl->ρ'.m b=some pl) {v v':Value} (h:zI ρ v v'):zI ρ' v v':=by
 induction h with
 | pZ h=>exact .pZ h
 | bool b=>exact .bool b
 | int k n=>exact .int k n
 | float k n=>exact .float k n
 | string s=>exact .string s
 | ptrNil=>exact .ptrNil
 | ptr hb hm0=>exact .ptr (Sq hb hn) (hm _ _ hb hm0)
 | Z7=>exact .Z7
 | sliceNil c=>exact .sliceNil c
 | slice hb hm0 hl hc=>exact .slice (Sq hb hn) (hm _ _ hb hm0) hl hc
 | sliceOut hb hc=>exact .sliceOut (Sq hb hn) hc
 | nilFunc=>exact .nilFunc
 | nilIface=>exact .nilIface
 | mapNil=>exact .mapNil
 | map hb hm0=>exact .map (Sq hb hn) (hm _ _ hb hm0)
 | yield hb hm0=>exact .yield (Sq hb hn) (hm _ _ hb hm0)
 | iface _ ih=>exact .iface ih
 | func ha hc _ _ ih ih'=>exact .func ha hc ih ih'
 | agg ha _ ih=>exact .agg ha ih
 | tuple ha _ ih=>exact .tuple ha ih
theorem zI.down {ρ ρ2:xn} (hm:∀ b,b < ρ.next->ρ2.m b=ρ.m b) {v v':Value} (h:zI ρ v v'):∀ {u:Value},zI ρ2 v u->zI ρ v u:=by
 induction h with
 | pZ h=>intro u hu;cases hu with | pZ h2=>exact .pZ h2
 | bool b=>intro u hu;cases hu;exact .bool b
 | int k n=>intro u hu;cases hu;exact .int k n
 | float k n=>intro u hu;cases hu;exact .float k n
 | string s=>intro u hu;cases hu;exact .string s
 | ptrNil=>intro u hu;cases hu;exact .ptrNil
 | ptr hb hm0=>intro u hu;cases hu with | ptr hb2 hm2=>exact .ptr hb ((hm _ hb).symm.trans hm2)
 | Z7=>intro u hu;cases hu;exact .Z7
 | sliceNil c=>intro u hu;cases hu;exact .sliceNil c
 | slice hb hm0 hl hc=>
   intro u hu
   cases hu with
   | slice hb2 hm2 hl2 hc2=>exact .slice hb ((hm _ hb).symm.trans hm2) hl2 hc2
   | sliceOut hb2 hc2=>exact .sliceOut hb hc2
 | sliceOut hb hc=>
   intro u hu
   cases hu with
   | slice hb2 hm2 hl2 hc2=>exact .slice hb ((hm _ hb).symm.trans hm2) hl2 hc2
   | sliceOut hb2 hc2=>exact .sliceOut hb hc2
 | nilFunc=>intro u hu;cases hu;exact .nilFunc
 | nilIface=>intro u hu;cases hu;exact .nilIface
 | mapNil=>intro u hu;cases hu;exact .mapNil
 | map hb hm0=>intro u hu;cases hu with | map hb2 hm2=>exact .map hb ((hm _ hb).symm.trans hm2)
 | yield hb hm0=>intro u hu;cases hu with | yield hb2 hm2=>exact .yield hb ((hm _ hb).symm.trans hm2)
 | iface _ ih=>intro u hu;cases hu with | iface h2=>exact .iface (ih h2)
 | func ha hc h1 h2 ih ih'=>
   rename_i f a c a' c'
   intro u hu
   cases hu with
   | func ha2 hc2 k1 k2=>
     refine .func ha2 hc2 (fun i x y hx hy => ?_) (fun i x y hx hy => ?_)
     ·obtain ⟨z,hz⟩:∃ z,a'[i]? = some z:=by
       have hlt:i < a.size:=by
        rcases SC i a.size with h | h
        ·exact h
        ·rw [SN h] at hx;cases hx
       exact ⟨_,SO (ha ▸ hlt)⟩
      exact ih i x z hx hz (k1 i x y hx hy)
     ·obtain ⟨z,hz⟩:∃ z,c'[i]? = some z:=by
       have hlt:i < c.size:=by
        rcases SC i c.size with h | h
        ·exact h
        ·rw [SN h] at hx;cases hx
       exact ⟨_,SO (hc ▸ hlt)⟩
      exact ih' i x z hx hz (k2 i x y hx hy)
 | agg ha h1 ih=>
   rename_i a a'
   intro u hu
   cases hu with
   | agg ha2 k1=>
     refine .agg ha2 (fun i x y hx hy => ?_)
     obtain ⟨z,hz⟩:∃ z,a'[i]? = some z:=by
      have hlt:i < a.size:=by
       rcases SC i a.size with h | h
       ·exact h
       ·rw [SN h] at hx;cases hx
      exact ⟨_,SO (ha ▸ hlt)⟩
     exact ih i x z hx hz (k1 i x y hx hy)
 | tuple ha h1 ih=>
   rename_i a a'
   intro u hu
   cases hu with
   | tuple ha2 k1=>
     refine .tuple ha2 (fun i x y hx hy => ?_)
     obtain ⟨z,hz⟩:∃ z,a'[i]? = some z:=by
      have hlt:i < a.size:=by
       rcases SC i a.size with h | h
       ·exact h
       ·rw [SN h] at hx;cases hx
      exact ⟨_,SO (ha ▸ hlt)⟩
     exact ih i x z hx hz (k1 i x y hx hy)
theorem xr.ext {ρ ρ':xn} (hn:ρ.next<=ρ'.next) (hm:∀ b pl,b < ρ.next->ρ.m b=some pl->ρ'.m b=some pl) {wr:Bool} {c:List Value} {t:TypeId} {pl:Place} {w:World} (hc:xr P ρ wr c t pl w):xr P ρ' wr c t pl w:=by
 obtain ⟨cs,fz,h1,h2,h3,h4,h5,h6⟩:=hc
 exact ⟨cs,fz,h1,h2,h3,h4,h5,fun i x hx=>by obtain ⟨y,hy,hv⟩:=h6 i x hx;exact ⟨y,hy,hv.ext hn hm⟩⟩
theorem xr.down {ρ ρ2:xn} (hm:∀ b,b < ρ.next->ρ2.m b=ρ.m b) {wr wr2:Bool} {c:List Value} {t:TypeId} {pl:Place} {w w2:World} (h:xr P ρ wr c t pl w) (h2:xr P ρ2 wr2 c t pl w2):xr P ρ wr2 c t pl w2:=by
 obtain ⟨cs,fz,a1,a2,a3,a4,a5,a6⟩:=h
 obtain ⟨cs2,fz2,b1,b2,b3,b4,b5,b6⟩:=h2
 exact ⟨cs2,fz2,b1,b2,b3,b4,b5,fun i x hx=>by
  obtain ⟨y,hy,hv⟩:=a6 i x hx
  obtain ⟨y2,hy2,hv2⟩:=b6 i x hx
  exact ⟨y2,hy2,hv.down hm hv2⟩⟩
theorem vX.ext {ρ ρ':xn} (hn:ρ.next<=ρ'.next) (hm:∀ b pl,b < ρ.next->ρ.m b=some pl->ρ'.m b=some pl) {wr:Bool} {o:vi} {pl:Place} {w:World} (hc:vX P ρ wr o pl w):vX P ρ' wr o pl w:=by
 cases o with
 | cells c t=>exact xr.ext hn hm hc
 | map es q=>obtain ⟨ms,h1,h2,h3⟩:=hc;exact ⟨ms,h1,h2,fun i x m hx hm0=>⟨(h3 i x m hx hm0).1.ext hn hm,(h3 i x m hx hm0).2.1.ext hn hm,(h3 i x m hx hm0).2.2⟩⟩
 | iter m a b c=>obtain ⟨m',h1,h0,h2⟩:=hc;exact ⟨m',h1,h0,h2.ext hn hm⟩
 | tab c=>obtain ⟨t,h1⟩:=hc;exact ⟨t,xr.ext hn hm h1⟩
 | siter s pos=>exact hc
 | loop l=>obtain ⟨tm,d,fn,h1,h2⟩:=hc;exact ⟨tm,d,fn,h1,h2.size,fun i=>(h2.get i).ext hn hm⟩
theorem vX.down {ρ ρ2:xn} (hm:∀ b,b < ρ.next->ρ2.m b=ρ.m b) {wr wr2:Bool} {o:vi} {pl:Place} {w w2:World} (h:vX P ρ wr o pl w) (h2:vX P ρ2 wr2 o pl w2):vX P ρ wr2 o pl w2:=by
 cases o with
 | cells c t=>exact xr.down hm h h2
 | iter m a b c=>
   obtain ⟨m1,a1,_,a2⟩:=h
   obtain ⟨m2,b1,b0,b2⟩:=h2
   exact ⟨m2,b1,b0,a2.down hm b2⟩
 | siter s pos=>exact h2
 | tab c=>
   obtain ⟨t,cs,fz,a1,a2,a3,a4,a5,a6⟩:=h
   obtain ⟨t2,cs2,fz2,b1,b2,b3,b4,b5,b6⟩:=h2
   exact ⟨t2,cs2,fz2,b1,b2,b3,b4,b5,fun i x hx=>by
    obtain ⟨y,hy,hv⟩:=a6 i x hx
    obtain ⟨y2,hy2,hv2⟩:=b6 i x hx
    exact ⟨y2,hy2,hv.down hm hv2⟩⟩
 | map es q=>
   obtain ⟨ms,a1,a2,a3⟩:=h
   obtain ⟨ms2,b1,b2,b3⟩:=h2
   refine ⟨ms2,b1,b2,fun i x m hx hm0 => ?_⟩
   obtain ⟨z,hz⟩:∃ z,ms[i]? = some z:=by
    have hlt:i < ms.size:=by
     rcases SC i es.length with h | h
     ·omega
     ·rw [Sr h] at hx;cases hx
    exact ⟨_,SO hlt⟩
   exact ⟨(a3 i x z hx hz).1.down hm (b3 i x m hx hm0).1,(a3 i x z hx hz).2.1.down hm (b3 i x m hx hm0).2.1,(b3 i x m hx hm0).2.2⟩
 | loop l=>
   obtain ⟨tm,d,fn,a1,a2⟩:=h
   obtain ⟨tm2,d2,fn2,b1,b2⟩:=h2
   exact ⟨tm2,d2,fn2,b1,b2.size,fun i=>(a2.get i).down hm (b2.get i)⟩
theorem vX.Qe {ρ:xn} {n m:Nat} (h:n<=m) {wr:Bool} {o:vi} {pl:Place} {w:World} (hc:vX P (ρ.cut n) wr o pl w):vX P (ρ.cut m) wr o pl w:=vX.ext (ρ:=ρ.cut n) (ρ':=ρ.cut m) h (fun _ _ _ h=>h) hc
theorem vX.gN {ρ ρ':xn} {n:Nat} (hm:∀ b pl,ρ.m b=some pl->ρ'.m b=some pl) {wr:Bool} {o:vi} {pl:Place} {w:World} (hc:vX P (ρ.cut n) wr o pl w):vX P (ρ'.cut n) wr o pl w:=vX.ext (ρ:=ρ.cut n) (ρ':=ρ'.cut n) (Sp _) (fun b pl _ h=>hm b pl h) hc
theorem zI.Qe {ρ:xn} {n m:Nat} (h:n<=m) {v v':Value} (hv:zI (ρ.cut n) v v'):zI (ρ.cut m) v v':=zI.ext (ρ:=ρ.cut n) (ρ':=ρ.cut m) h (fun _ _ _ h=>h) hv
theorem zI.gN {ρ ρ':xn} {n:Nat} (hm:∀ b pl,ρ.m b=some pl->ρ'.m b=some pl) {v v':Value} (hv:zI (ρ.cut n) v v'):zI (ρ'.cut n) v v':=zI.ext (ρ:=ρ.cut n) (ρ':=ρ'.cut n) (Sp _) (fun b pl _ h=>hm b pl h) hv
structure yF where
 j:Nat
 o:Oper
 v:Value
 s:Env
 g:za
 g':za
 rd:Nat->Bool
 tc:Nat->Bool
def vA (T:List yF) (p:yF->Bool):Option yF:=(T.filter p).getLast?
def Vv (t:Nat) (r:yF):Bool:=decide (r.o.dst=some t)
def Vm (T:List yF) (s0:Env) (t:Nat):Value:=match vA T (Vv t) with | some r=>r.v | none=>s0.get t
def JV (T:List yF) (n0:Nat) (t:Nat):Nat:=match vA T (Vv t) with | some r=>r.g'.next | none=>n0
def YO (T:List yF) (h0:za) (b:Nat):Option vi:=match vA T (fun r=>r.tc b) with | some r=>r.g'.get b | none=>h0.get b
def cO (T:List yF) (n0:Nat) (b:Nat):Nat:=match vA T (fun r=>r.tc b) with | some r=>r.g'.next | none=>n0
inductive Prec (ops:Array Oper):Nat->Nat->Prop
 | one {j:Nat} {o:Oper} {e:Edge} (ho:ops[j]? = some o) (he:e ∈ o.after) (hb:Region.binds .any e=true):Prec ops e.on j
 | more {i j:Nat} {o:Oper} {e:Edge} (ho:ops[j]? = some o) (he:e ∈ o.after) (hb:Region.binds .any e=true) (h:Prec ops i e.on):Prec ops i j
structure eS (ops:Array Oper) (x y:yF):Prop where
 d1:∀ d,x.o.dst=some d->d ∉ y.o.looksAt ops/\y.o.dst ≠ some d
 d2:∀ d,y.o.dst=some d->d ∉ x.o.looksAt ops
 b1:∀ b,x.tc b=true->y.rd b=false/\y.tc b=false
 b2:∀ b,y.tc b=true->x.rd b=false
structure Told (P:Program) (ops:Array Oper) (s0:Env) (h0:za) (A:List yF) (r:yF):Prop where
 op:ops[r.j]? = some r.o
 env:∀ t,r.s.get t=Vm A s0 t
 size:r.s.size=s0.size
 heap:∀ b,r.g.get b=if r.rd b=true then YO A h0 b else none
 ro:r.g.ro=h0.ro
 n0:h0.next<=r.g.next
 nA:∀ x,x ∈ A->x.g'.next<=r.g.next
 n1:r.g.next<=r.g'.next
 PC:Zc P ops r.s r.o r.g r.v r.g'
 put:∀ d,r.o.dst=some d->d < s0.size
 Sc:∀ b,r.tc b=true->r.rd b=true\/(r.g.next<=b/\b < r.g'.next)
 PT:∀ b,r.tc b=false->r.g'.get b=r.g.get b
 PU:∀ b o,r.tc b=true->b < r.g.next->r.g'.get b=some o->r.g.get b ≠ none
structure Valid (P:Program) (ops:Array Oper) (s0:Env) (h0:za) (tr:List yF):Prop where
 nodup:(tr.map (·.j)).Nodup
 all:∀ i,i < ops.size->∃ r,r ∈ tr/\r.j=i
 told:∀ A r B,tr=A ++ r :: B->Told P ops s0 h0 A r
 VG:∀ A r B,tr=A ++ r :: B->∀ e,e ∈ r.o.after->Region.binds .any e=true->∃ x,x ∈ A/\x.j=e.on
 apart:∀ A x B y C,tr=A ++ x :: (B ++ y :: C)->Prec ops x.j y.j\/eS ops x y
theorem Wd {tr A B:List yF} {r x:yF} (hn:(tr.map (·.j)).Nodup) (e:tr=A ++ r :: B) (hx:x ∈ A\/x ∈ B):x.j ≠ r.j:=by
 subst e
 rw [aae,TQ] at hn
 have h1:=List.nodup_append.1 hn
 intro ej
 rcases hx with hx | hx
 ·exact h1.2.2 x.j (List.mem_map_of_mem hx) r.j (by simp) ej
 ·have:=(List.nodup_cons.1 h1.2.1).1
  exact this (ej ▸ List.mem_map_of_mem hx)
theorem Gz {ops:Array Oper} {s0:Env} {h0:za} {tr:List yF} (V:Valid P ops s0 h0 tr) {S:Nat->Bool} (hdown:∀ i j,Prec ops i j->S j=true->S i=true) {A B:List yF} {r:yF} (e:tr=A ++ r :: B)
  (hready:∀ i,Prec ops i r.j->S i=true) (hnot:S r.j=false) {p:yF->Bool} (hp:∀ x,(x ∈ A->p x=true->Prec ops x.j r.j)/\(x ∈ B->p x=true->Prec ops r.j x.j)) :
  (A.filter (fun x=>S x.j)).filter p=A.filter p/\(B.filter (fun x=>S x.j)).filter p = []:=by
 constructor
 ·rw [TX]
  apply TJ
  intro x hx
  cases hpx:p x with
  | false=>simp
  | true=>rw [hready _ ((hp x).1 hx hpx)];rfl
 ·rw [TX,aan]
  intro x hx hc
  simp only [Sm] at hc
  have:=hdown _ _ ((hp x).2 hx hc.1) hc.2
  rw [hnot] at this
  cases this
theorem Valid.order {ops:Array Oper} {s0:Env} {h0:za} {tr A B:List yF} {r:yF} (V:Valid P ops s0 h0 tr) (e:tr=A ++ r :: B) {p:yF->Bool} (hA:∀ x,eS ops x r->p x=false) (hB:∀ x,eS ops r x->p x=false) :
  ∀ x,(x ∈ A->p x=true->Prec ops x.j r.j)/\(x ∈ B->p x=true->Prec ops r.j x.j):=by
 intro x
 constructor
 ·intro hx hpx
  obtain ⟨A1,A2,rfl⟩:=S3 hx
  rcases V.apart A1 x A2 r B (by simp [e]) with h | h
  ·exact h
  ·rw [hA x h] at hpx;cases hpx
 ·intro hx hpx
  obtain ⟨B1,B2,rfl⟩:=S3 hx
  rcases V.apart A r B1 x B2 e with h | h
  ·exact h
  ·rw [hB x h] at hpx;cases hpx
end
noncomputable section
variable {P:Program}
structure Kg (P:Program) (tr:List yF) (s0:Env) (h0:za) (N:Nat) (ρ0:xn) (w0:World) (S:Nat->Bool) (ρ:xn) (w:World) (tm:Array Value):Prop where
 next:ρ.next=N
 old:∀ b,b < h0.next->ρ.m b=ρ0.m b
 size:s0.size=tm.size
 env:∀ t,zI (ρ.cut (JV (tr.filter fun r=>S r.j) h0.next t)) (Vm (tr.filter fun r=>S r.j) s0 t) (tm.getD t undef)
 heap:∀ b o,YO (tr.filter fun r=>S r.j) h0 b=some o->b < cO (tr.filter fun r=>S r.j) h0.next b /\
  ∃ pl,ρ.m b=some pl/\vX P (ρ.cut (cO (tr.filter fun r=>S r.j) h0.next b)) (decide (h0.ro<=b)) o pl w
 inj:∀ b1 b2 o1 o2 p1 p2,YO (tr.filter fun r=>S r.j) h0 b1=some o1->YO (tr.filter fun r=>S r.j) h0 b2=some o2->ρ.m b1=some p1->ρ.m b2=some p2->p1.c=p2.c->b1=b2
 fresh:∀ x,x ∈ tr->S x.j=false->∀ b,x.g.next<=b->b < x.g'.next->ρ.m b=none
 os:w.os=w0.os
 tape:w.tape=w0.tape
 output:w.output=w0.output
 KH:w0.heap.size<=w.heap.size
 frame:∀ c,c < w0.heap.size->¬ Ju ρ0 h0 c->w.heap[c]? = w0.heap[c]?
 dY:∀ b o pl,YO (tr.filter fun r=>S r.j) h0 b=some o->h0.ro<=b->ρ.m b=some pl->pl.c < w0.heap.size->Ju ρ0 h0 pl.c
 cN:P.globals.size<=h0.ro
 gl:∀ b pl,b < P.globals.size->ρ.m b=some pl->pl.c=b/\pl.base=0
def qW (S:Nat->Bool) (j:Nat):Nat->Bool:=fun i=>S i || decide (i=j)
section
variable {ops:Array Oper} {s0:Env} {h0:za} {tr A B:List yF} {r:yF} {S:Nat->Bool}
theorem J3 (e:tr=A ++ r :: B) (hnot:S r.j=false):tr.filter (fun x=>S x.j)=A.filter (fun x=>S x.j) ++ B.filter (fun x=>S x.j):=by
 subst e;simp [hnot]
theorem gY (V:Valid P ops s0 h0 tr) (e:tr=A ++ r :: B):tr.filter (fun x=>qW S r.j x.j)=A.filter (fun x=>S x.j) ++ r :: B.filter (fun x=>S x.j):=by
 have hA:A.filter (fun x=>qW S r.j x.j)=A.filter (fun x=>S x.j):=TJ fun x hx=>by simp [qW,Wd V.nodup e (.inl hx)]
 have hB:B.filter (fun x=>qW S r.j x.j)=B.filter (fun x=>S x.j):=TJ fun x hx=>by simp [qW,Wd V.nodup e (.inr hx)]
 rw [e,SW,TF,hA,hB,Sn (by simp [qW])]
theorem dM (V:Valid P ops s0 h0 tr) (hdown:∀ i j,Prec ops i j->S j=true->S i=true) (e:tr=A ++ r :: B) (hready:∀ i,Prec ops i r.j->S i=true) (hnot:S r.j=false) {p:yF->Bool}
  (hA:∀ x,eS ops x r->p x=false) (hB:∀ x,eS ops r x->p x=false):vA (tr.filter fun x=>S x.j) p=vA A p:=by
 obtain ⟨h1,h2⟩:=Gz V hdown e hready hnot (V.order e hA hB)
 rw [vA,J3 e hnot,SW,h1,h2,List.append_nil];rfl
theorem Jd (V:Valid P ops s0 h0 tr) (hdown:∀ i j,Prec ops i j->S j=true->S i=true) (e:tr=A ++ r :: B) (hready:∀ i,Prec ops i r.j->S i=true) (hnot:S r.j=false) {p:yF->Bool} (hr:p r=true)
  (hA:∀ x,eS ops x r->p x=false) (hB:∀ x,eS ops r x->p x=false):vA (tr.filter fun x=>qW S r.j x.j) p=some r:=by
 obtain ⟨h1,h2⟩:=Gz V hdown e hready hnot (V.order e hA hB)
 rw [vA,gY V e,SW,TF,Sn hr,h1,h2]
 simp
theorem Je (V:Valid P ops s0 h0 tr) (e:tr=A ++ r :: B) (hnot:S r.j=false) {p:yF->Bool} (hr:p r=false):vA (tr.filter fun x=>qW S r.j x.j) p=vA (tr.filter fun x=>S x.j) p:=by
 rw [vA,vA,gY V e,J3 e hnot,SW,TF,hr,Sl (by simp),SW]
theorem Xl {T:List yF} {p:yF->Bool} {x:yF} (h:vA T p=some x):x ∈ T/\p x=true:=by
 have:=List.mem_of_getLast? h
 exact TV.1 this
theorem EB (hro0:h0.ro<=h0.next) (V:Valid P ops s0 h0 tr) (hdown:∀ i j,Prec ops i j->S j=true->S i=true) (e:tr=A ++ r :: B) (hready:∀ i,Prec ops i r.j->S i=true) (hnot:S r.j=false)
  {N:Nat} (hN:∀ x,x ∈ tr->x.g'.next<=N) {ρ0 ρ:xn} {w0 w:World} {tm:Array Value} (I:Kg P tr s0 h0 N ρ0 w0 S ρ w tm) (ds:List Deferred) (rest:List Nat) (b:Frame) (k:List Item) (cs:List Frame) :
  ∃ ρ' w' tm',Kg P tr s0 h0 N ρ0 w0 (qW S r.j) ρ' w' tm'/\Steps P (lone (vH b tm ds (.inRegion ops (r.j :: rest) :: k)) cs w) (lone (vH b tm' ds (.inRegion ops rest :: k)) cs w'):=by
 have D:=V.told A r B e
 have hrm:r ∈ tr:=by rw [e];simp
 have lookEnv:∀ t,t ∈ r.o.looksAt ops->vA (tr.filter fun x=>S x.j) (Vv t)=vA A (Vv t):=fun t ht=>
  dM V hdown e hready hnot (fun x hx=>by
   cases hw:Vv t x with
   | false=>rfl
   | true=>exact absurd ht (hx.d1 t (To hw)).1) (fun x hx=>by
   cases hw:Vv t x with
   | false=>rfl
   | true=>exact absurd ht (hx.d2 t (To hw)))
 have lookHeap:∀ bb,r.rd bb=true->vA (tr.filter fun x=>S x.j) (fun x=>x.tc bb)=vA A (fun x=>x.tc bb):=fun bb hb=>
  dM V hdown e hready hnot (fun x hx=>by
   cases hw:x.tc bb with
   | false=>rfl
   | true=>have:=(hx.b1 bb hw).1;rw [hb] at this;cases this) (fun x hx=>by
   cases hw:x.tc bb with
   | false=>rfl
   | true=>have:=hx.b2 bb hw;rw [hb] at this;cases this)
 have hpVeq:∀ bb,r.rd bb=true->YO (tr.filter fun x=>S x.j) h0 bb=r.g.get bb:=fun bb hb=>by
  rw [D.heap,Sn hb];simp only [YO,lookHeap bb hb]
 have hpNle:∀ bb,r.rd bb=true->cO (tr.filter fun x=>S x.j) h0.next bb<=r.g.next:=fun bb hb=>by
  simp only [cO,lookHeap bb hb]
  split
  ·rename_i x hx;exact D.nA x (Xl hx).1
  ·exact D.n0
 have galive:∀ bb o,r.g.get bb=some o->r.rd bb=true/\YO (tr.filter fun x=>S x.j) h0 bb=some o:=fun bb o hg=>by
  rw [D.heap] at hg
  cases hb:r.rd bb with
  | false=>rw [hb] at hg;simp at hg
  | true=>exact ⟨rfl,by rw [hpVeq bb hb,D.heap];exact hg⟩
 let ρr:=ρ.cut r.g.next
 have hrel:Rel P ρr r.g w:=by
  refine ⟨rfl,?_,?_,?_,?_,by rw [D.ro];exact I.cN,I.gl⟩
  ·have h1:=D.ro;have h2:=D.n0
   show r.g.ro<=r.g.next
   omega
  ·intro bb o hg
   obtain ⟨h1,h2⟩:=galive bb o hg
   exact Sq (I.heap bb o h2).1 (hpNle bb h1)
  ·intro bb o hg
   obtain ⟨h1,h2⟩:=galive bb _ hg
   obtain ⟨_,pl,hp,hc⟩:=I.heap bb o h2
   refine ⟨pl,hp,?_⟩
   rw [D.ro]
   exact hc.Qe (hpNle bb h1)
  ·intro b1 b2 o1 o2 p1 p2 g1 g2
   exact I.inj b1 b2 o1 o2 p1 p2 (galive b1 o1 g1).2 (galive b2 o2 g2).2
 have hlook:∀ t,t ∈ r.o.looksAt ops->zI ρr (r.s.get t) (tm.getD t undef):=by
  intro t ht
  have h1:=I.env t
  have e1:Vm (tr.filter fun x=>S x.j) s0 t=r.s.get t:=by rw [D.env t];simp only [Vm,lookEnv t ht]
  have e2:JV (tr.filter fun x=>S x.j) h0.next t<=r.g.next:=by
   simp only [JV,lookEnv t ht]
   split
   ·rename_i x hx;exact D.nA x (Xl hx).1
   ·exact D.n0
  rw [e1] at h1
  exact h1.Qe e2
 obtain ⟨v',w',ρq,st,hv,sx⟩:=Qr D.op D.PC hrel (D.size.trans I.size) hlook ds rest b k cs
 let ρ':xn:={ next:=N,m:=fun bb=>if r.g.next<=bb/\bb < r.g'.next then ρq.m bb else ρ.m bb }
 have qnext:ρq.next=r.g'.next:=st.rel.next
 have qlow:∀ bb,bb < r.g.next->ρq.m bb=ρ.m bb:=fun bb hb=>st.le.2 bb hb
 have pq:∀ bb,bb < r.g'.next->ρ'.m bb=ρq.m bb:=by
  intro bb hb
  by_cases hl:r.g.next<=bb
  ·exact Sn ⟨hl,hb⟩
  ·rw [show ρ'.m bb=ρ.m bb from Sl (by omega),qlow bb (by omega)]
 have rfresh:=I.fresh r hrm hnot
 have pext:∀ bb pl,ρ.m bb=some pl->ρ'.m bb=some pl:=by
  intro bb pl hm
  rw [show ρ'.m bb=ρ.m bb from Sl (by
   rintro ⟨h1,h2⟩
   rw [rfresh bb h1 h2] at hm;cases hm)]
  exact hm
 have hn1N:r.g'.next<=N:=hN r hrm
 have notMine:∀ bb o pl,YO (tr.filter fun x=>S x.j) h0 bb=some o->ρ.m bb=some pl->r.rd bb=false->¬ Ju ρr r.g pl.c:=by
  rintro bb o pl hg hm hb ⟨b1,o1,p1,g1,_,m1,e1⟩
  obtain ⟨k1,k2⟩:=galive b1 o1 g1
  have:=I.inj b1 bb o1 o p1 pl k2 hg m1 hm e1
  subst this
  rw [hb] at k1;cases k1
 have hpVnew:∀ bb,YO (tr.filter fun x=>qW S r.j x.j) h0 bb=if r.tc bb=true then r.g'.get bb else YO (tr.filter fun x=>S x.j) h0 bb:=by
  intro bb
  cases ht:r.tc bb with
  | true=>
    rw [Sn rfl]
    simp only [YO]
    rw [Jd V hdown e hready hnot ht (fun x hx=>by
     cases hw:x.tc bb with
     | false=>rfl
     | true=>have:=(hx.b1 bb hw).2;rw [ht] at this;cases this) (fun x hx=>by
     cases hw:x.tc bb with
     | false=>rfl
     | true=>have:=(hx.b1 bb ht).2;rw [hw] at this;cases this)]
  | false=>
    rw [Sl (by simp)]
    simp only [YO]
    rw [Je V e hnot (p:=fun x=>x.tc bb) ht]
 have hpNnew:∀ bb,cO (tr.filter fun x=>qW S r.j x.j) h0.next bb=if r.tc bb=true then r.g'.next else cO (tr.filter fun x=>S x.j) h0.next bb:=by
  intro bb
  cases ht:r.tc bb with
  | true=>
    rw [Sn rfl]
    simp only [cO]
    rw [Jd V hdown e hready hnot ht (fun x hx=>by
     cases hw:x.tc bb with
     | false=>rfl
     | true=>have:=(hx.b1 bb hw).2;rw [ht] at this;cases this) (fun x hx=>by
     cases hw:x.tc bb with
     | false=>rfl
     | true=>have:=(hx.b1 bb ht).2;rw [hw] at this;cases this)]
  | false=>
    rw [Sl (by simp)]
    simp only [cO]
    rw [Je V e hnot (p:=fun x=>x.tc bb) ht]
 have cases':∀ bb o,YO (tr.filter fun x=>qW S r.j x.j) h0 bb=some o->(r.tc bb=true/\r.g'.get bb=some o)\/(r.tc bb=false/\YO (tr.filter fun x=>S x.j) h0 bb=some o):=by
  intro bb o h
  rw [hpVnew] at h
  cases ht:r.tc bb with
  | true=>rw [ht,Sn rfl] at h;exact .inl ⟨rfl,h⟩
  | false=>rw [ht,Sl (by simp)] at h;exact .inr ⟨rfl,h⟩
 refine ⟨ρ',w',ql tm r.o.dst v',⟨rfl,?_,?_,?_,?_,?_,?_,st.os.trans I.os,st.tape.trans I.tape,st.output.trans I.output,S4 I.KH st.size,?_,?_,I.cN,fun b pl hb hm=>I.gl b pl hb (by
  rw [show ρ'.m b=ρ.m b from Sl (by have:=D.n0;have:=I.cN;omega)] at hm;exact hm)⟩,sx⟩
 ·intro bb hb
  rw [show ρ'.m bb=ρ.m bb from Sl (by have:=D.n0;omega)]
  exact I.old bb hb
 ·cases r.o.dst with
  | none=>exact I.size
  | some d=>simp only [ql,Array.size_setIfInBounds];exact I.size
 ·
  intro t
  by_cases ht:r.o.dst=some t
  ·have e1:vA (tr.filter fun x=>qW S r.j x.j) (Vv t)=some r:=Jd V hdown e hready hnot (p:=Vv t) (by simp [Vv,ht]) (fun x hx=>by
    cases hw:Vv t x with
    | false=>rfl
    | true=>exact absurd ht (hx.d1 t (To hw)).2) (fun x hx=>by
    cases hw:Vv t x with
    | false=>rfl
    | true=>exact absurd (To hw) (hx.d1 t ht).2)
   simp only [Vm,JV,e1]
   have e2:(ql tm r.o.dst v').getD t undef=v':=by
    have hlt:t < tm.size:=by rw [<- I.size];exact D.put t ht
    rw [ht];simp [ql,SB,hlt]
   rw [e2]
   refine hv.ext (by show ρq.next<=r.g'.next;rw [qnext];exact Sp _) (fun bb pl hb hm => ?_)
   show ρ'.m bb=some pl
   rw [pq bb (by rw [<- qnext];exact hb)];exact hm
  ·have e1:vA (tr.filter fun x=>qW S r.j x.j) (Vv t)=vA (tr.filter fun x=>S x.j) (Vv t):=Je V e hnot (p:=Vv t) (by simp [Vv,ht])
   have e2:(ql tm r.o.dst v').getD t undef=tm.getD t undef:=by
    cases hd:r.o.dst with
    | none=>rfl
    | some d=>
      have:d ≠ t:=fun h=>ht (by rw [hd,h])
      simp [ql,SB,this]
   have h1:=I.env t
   simp only [Vm,JV] at h1 ⊢
   rw [e1,e2]
   exact h1.gN (ρ':=ρ') pext
 ·
  intro bb o hg
  rcases cases' bb _ hg with ⟨ht,hg'⟩ | ⟨ht,hg'⟩
  ·rw [hpNnew,Sn ht]
   obtain ⟨pl,hp,hc⟩:=st.rel.ok bb o hg'
   have hlt:=st.rel.UL bb _ hg'
   refine ⟨hlt,pl,by rw [pq bb hlt];exact hp,?_⟩
   have hro:r.g'.ro=h0.ro:=st.ro.trans D.ro
   rw [hro] at hc
   exact hc.ext (by show ρq.next<=r.g'.next;rw [qnext];exact Sp _) (fun b2 p2 hb hm=>by show ρ'.m b2=some p2;rw [pq b2 (by rw [<- qnext];exact hb)];exact hm)
  ·rw [hpNnew,ht,Sl (by simp)]
   obtain ⟨hlt,pl,hp,hc⟩:=I.heap bb o hg'
   refine ⟨hlt,pl,pext bb pl hp,?_⟩
   have hdone:vX P (ρ.cut (cO (tr.filter fun x=>S x.j) h0.next bb)) (decide (h0.ro<=bb)) o pl w':=by
    cases hb:r.rd bb with
    | true=>
      have hgg:r.g'.get bb=some o:=by rw [D.PT bb ht,<- hpVeq bb hb];exact hg'
      obtain ⟨p2,hp2,hc2⟩:=st.rel.ok bb o hgg
      have hbl:bb < r.g.next:=Sq hlt (hpNle bb hb)
      rw [qlow bb hbl,hp] at hp2
      cases hp2
      have hro:r.g'.ro=h0.ro:=st.ro.trans D.ro
      rw [hro] at hc2
      exact vX.down (ρ:=ρ.cut (cO (tr.filter fun x=>S x.j) h0.next bb)) (ρ2:=ρq) (fun b2 hb2=>qlow b2 (Sq hb2 (hpNle bb hb))) hc hc2
    | false=>exact hc.other (st.frame pl.c hc.lt (notMine bb _ pl hg' hp hb))
   exact hdone.gN (ρ':=ρ') pext
 ·
  have key:∀ b1 b2 o1 o2 p1 p2,r.tc b1=true->r.g'.get b1=some o1->r.tc b2=false->YO (tr.filter fun x=>S x.j) h0 b2=some o2->ρ'.m b1=some p1->ρ'.m b2=some p2->p1.c=p2.c->b1=b2:=by
   intro b1 b2 o1 o2 p1 p2 t1 g1 t2 g2 m1 m2 ec
   obtain ⟨hlt2,q2,hq2,hc2⟩:=I.heap b2 o2 g2
   rw [pext b2 q2 hq2] at m2
   cases m2
   have hl1:=st.rel.UL b1 o1 g1
   rw [pq b1 hl1] at m1
   cases hb2:r.rd b2 with
   | true=>
     have hgg:r.g'.get b2=some o2:=by rw [D.PT b2 t2,<- hpVeq b2 hb2];exact g2
     have hbl:b2 < r.g.next:=Sq hlt2 (hpNle b2 hb2)
     exact st.rel.inj b1 b2 o1 _ p1 p2 g1 hgg m1 (by rw [qlow b2 hbl];exact hq2) ec
   | false=>
     by_cases hw:h0.ro<=b1
     ·have hM:Ju ρq r.g' p1.c:=⟨b1,o1,p1,g1,by rw [st.ro,D.ro];exact hw,m1,rfl⟩
      have hlt:p1.c < w.heap.size:=by rw [ec];exact hc2.lt
      have:=st.dY p1.c hlt hM
      rw [ec] at this
      exact absurd this (notMine b2 _ p2 g2 hq2 hb2)
     ·have hb1:b1 < r.g.next:=by have:=D.n0;omega
      have hne:=D.PU b1 o1 t1 hb1 g1
      obtain ⟨o1',ho1'⟩:∃ o,r.g.get b1=some o:=by cases hh:r.g.get b1 with | none=>exact absurd hh hne | some o=>exact ⟨o,rfl⟩
      rw [qlow b1 hb1] at m1
      exact I.inj b1 b2 o1' _ p1 p2 (galive b1 o1' ho1').2 g2 m1 hq2 ec
  intro b1 b2 o1 o2 p1 p2 g1 g2 m1 m2 ec
  rcases cases' b1 o1 g1 with ⟨t1,k1⟩ | ⟨t1,k1⟩ <;> rcases cases' b2 o2 g2 with ⟨t2,k2⟩ | ⟨t2,k2⟩
  ·have l1:=st.rel.UL b1 o1 k1
   have l2:=st.rel.UL b2 o2 k2
   rw [pq b1 l1] at m1;rw [pq b2 l2] at m2
   exact st.rel.inj b1 b2 o1 o2 p1 p2 k1 k2 m1 m2 ec
  ·exact key b1 b2 o1 o2 p1 p2 t1 k1 t2 k2 m1 m2 ec
  ·exact (key b2 b1 o2 o1 p2 p1 t2 k2 t1 k1 m2 m1 ec.symm).symm
  ·obtain ⟨_,q1,hq1,_⟩:=I.heap b1 o1 k1
   obtain ⟨_,q2,hq2,_⟩:=I.heap b2 o2 k2
   rw [pext b1 q1 hq1] at m1;rw [pext b2 q2 hq2] at m2
   cases m1;cases m2
   exact I.inj b1 b2 _ _ p1 p2 k1 k2 hq1 hq2 ec
 ·
  intro x hx hS bb h1 h2
  simp only [qW,aad,SL] at hS
  have h3:=I.fresh x hx hS.1 bb h1 h2
  have hne:x ≠ r:=fun h=>hS.2 (by rw [h])
  have hdis:¬ (r.g.next<=bb/\bb < r.g'.next):=by
   rw [e] at hx
   rcases Ta.1 hx with hxA | hxB
   ·have:=D.nA x hxA;omega
   ·rcases Tq.1 hxB with hxr | hxB
    ·exact absurd hxr hne
    ·obtain ⟨B1,B2,rfl⟩:=S3 hxB
     have:=(V.told (A ++ r :: B1) x B2 (by simp [e])).nA r (by simp)
     omega
  rw [show ρ'.m bb=ρ.m bb from Sl hdis]
  exact h3
 ·intro c hc hn
  rw [st.frame c (Sq hc I.KH) (by
   rintro ⟨b1,o1,p1,g1,hro1,m1,rfl⟩
   exact hn (I.dY b1 o1 p1 (galive b1 o1 g1).2 (by rw [<- D.ro];exact hro1) m1 hc))]
  exact I.frame c hc hn
 ·intro bb o pl hg hro hm hc
  rcases cases' bb o hg with ⟨ht,hg'⟩ | ⟨ht,hg'⟩
  ·rw [pq bb (st.rel.UL bb o hg')] at hm
   obtain ⟨b1,o1,p1,g1,hro1,m1,e1⟩:=st.dY pl.c (Sq hc I.KH) ⟨bb,o,pl,hg',by rw [st.ro,D.ro];exact hro,hm,rfl⟩
   rw [<- e1]
   exact I.dY b1 o1 p1 (galive b1 o1 g1).2 (by rw [<- D.ro];exact hro1) m1 (by rw [e1];exact hc)
  ·obtain ⟨_,q,hq,_⟩:=I.heap bb o hg'
   rw [pext bb q hq] at hm
   cases hm
   exact I.dY bb _ pl hg' hro hq hc
end
end
noncomputable section
variable {P:Program}
section
variable {ops:Array Oper} {s0:Env} {h0:za} {tr:List yF}
theorem Kc {listed:Array Bool} {i:Nat} (h:i ∈ Region.ready .any ops listed):i < ops.size/\listed.getD i true=false /\ ∀ o,ops[i]? = some o->∀ e,e ∈ o.after->Region.binds .any e=true->listed.getD e.on false=true:=by
 simp only [Region.ready,TV,TE,Sm,Sz] at h
 refine ⟨h.1,h.2.1,fun o ho e he hb => ?_⟩
 have:=h.2.2
 rw [ho] at this
 simp only [TG,T6,Array.all_eq_true_iff_forall_mem,Tb,Sz] at this
 rcases this e he with h1 | h1
 ·rw [hb] at h1;cases h1
 ·exact h1
theorem Aa {listed:Array Bool} {i:Nat} (hi:i < ops.size) (hl:listed.getD i true=false) (h:∀ o,ops[i]? = some o->∀ e,e ∈ o.after->Region.binds .any e=true->listed.getD e.on false=true):i ∈ Region.ready .any ops listed:=by
 simp only [Region.ready,TV,TE,Sm,Sz]
 refine ⟨hi,hl,?_⟩
 rw [SO hi]
 simp only [TG,T6,Array.all_eq_true_iff_forall_mem,Tb,Sz]
 intro e he
 cases hb:Region.binds .any e with
 | false=>exact .inl rfl
 | true=>exact .inr (h _ (SO hi) e he hb)
theorem IG (hro0:h0.ro<=h0.next) (V:Valid P ops s0 h0 tr) {N:Nat} (hN:∀ x,x ∈ tr->x.g'.next<=N) {ρ0:xn} {w0:World} (ds:List Deferred) (b:Frame) (k:List Item) (cs:List Frame) :
  ∀ (fuel t:Nat) (listed:Array Bool) (ρ:xn) (w:World) (tm:Array Value),listed.size=ops.size->((List.range ops.size).filter fun i => !listed.getD i false).length<=fuel ->
    (∀ i j,Prec ops i j->listed.getD j false=true->listed.getD i false=true)->Kg P tr s0 h0 N ρ0 w0 (fun j=>listed.getD j false) ρ w tm ->
    ∃ S ρ' w' tm',(∀ r,r ∈ tr->S r.j=true)/\Kg P tr s0 h0 N ρ0 w0 S ρ' w' tm' /\
      Steps P (lone (vH b tm ds (.inRegion ops (Region.linearise.go .any ops fuel t listed []) :: k)) cs w) (lone (vH b tm' ds (.inRegion ops [] :: k)) cs w'):=by
 intro fuel
 induction fuel with
 | zero=>
   intro t listed ρ w tm hsz hcount hdown I
   refine ⟨_,ρ,w,tm,?_,I,.refl P _⟩
   intro r hr
   have hnil:=Ty (Nat.le_zero.1 hcount)
   obtain ⟨A,B,e⟩:=S3 hr
   have yU:=(V.told A r B e).op
   have hlt:r.j < ops.size:=by
    rcases SC r.j ops.size with h | h
    ·exact h
    ·rw [SN h] at yU;cases yU
   cases hl:listed.getD r.j false with
   | true=>rfl
   | false=>
     have:r.j ∈ (List.range ops.size).filter fun i => !listed.getD i false:=TV.2 ⟨TE.2 hlt,by rw [hl];rfl⟩
     rw [hnil] at this;cases this
 | succ fuel ih=>
   intro t listed ρ w tm hsz hcount hdown I
   simp only [Region.linearise.go]
   change ∃ S ρ' w' tm',(∀ r,r ∈ tr->S r.j=true)/\Kg P tr s0 h0 N ρ0 w0 S ρ' w' tm'/\Steps P (lone (vH b tm ds (.inRegion ops (match (Region.ready .any ops listed)[t % (Region.ready .any ops listed).length]? with
    | some i=>Region.linearise.go .any ops fuel (t / (Region.ready .any ops listed).length) (listed.setIfInBounds i true) [i]
    | none=>[].reverse) :: k)) cs w) _
   have getTF:∀ i,i < ops.size->listed.getD i true=listed.getD i false:=by
    intro i hi
    simp [SB,SO (hsz ▸ hi)]
   by_cases hall:∀ r,r ∈ tr->listed.getD r.j false=true
   ·
    have hnone:Region.ready .any ops listed = []:=by
     rw [List.eq_nil_iff_forall_not_mem]
     intro i hi
     obtain ⟨h1,h2,_⟩:=Kc hi
     obtain ⟨r,hr,hrj⟩:=V.all i h1
     have:=hall r hr
     rw [hrj,<- getTF i h1,h2] at this
     cases this
    rw [hnone]
    exact ⟨_,ρ,w,tm,hall,I,.refl P _⟩
   ·
    have hex:∃ i,i ∈ Region.ready .any ops listed:=by
     have:∃ A r B,tr=A ++ r :: B/\listed.getD r.j false=false /\ ∀ x,x ∈ A->listed.getD x.j false=true:=by
      clear ih I hN V
      induction tr with
      | nil=>exact absurd (fun r hr=>by cases hr) hall
      | cons x tr iht=>
        cases hx:listed.getD x.j false with
        | false=>exact ⟨[],x,tr,rfl,hx,fun y hy=>by cases hy⟩
        | true=>
          obtain ⟨A,r,B,e,h1,h2⟩:=iht (fun h=>hall (fun r hr=>by rcases Tq.1 hr with rfl | hr;exact hx;exact h r hr))
          exact ⟨x :: A,r,B,by rw [e];rfl,h1,fun y hy=>by rcases Tq.1 hy with rfl | hy;exact hx;exact h2 y hy⟩
     obtain ⟨A,r,B,e,h1,h2⟩:=this
     have yU:=(V.told A r B e).op
     have hlt:r.j < ops.size:=by
      rcases SC r.j ops.size with h | h
      ·exact h
      ·rw [SN h] at yU;cases yU
     refine ⟨r.j,Aa hlt (by rw [getTF _ hlt];exact h1) (fun o ho ed hed hb => ?_)⟩
     rw [yU] at ho
     cases ho
     obtain ⟨x,hx,hxe⟩:=V.VG A r B e ed hed hb
     rw [<- hxe];exact h2 x hx
    cases hi:(Region.ready .any ops listed)[t % (Region.ready .any ops listed).length]? with
    | none=>
      obtain ⟨i,hmem⟩:=hex
      have hpos:0 < (Region.ready .any ops listed).length:=List.length_pos_of_mem hmem
      rw [Sk (Nat.mod_lt _ hpos)] at hi
      cases hi
    | some i=>
      simp only []
      rw [linearise_go_acc,List.reverse_singleton,List.singleton_append]
      obtain ⟨hlt,hl,hed⟩:=Kc (S7 hi)
      obtain ⟨r,hr,hrj⟩:=V.all i hlt
      obtain ⟨A,B,e⟩:=S3 hr
      subst hrj
      have yU:=(V.told A r B e).op
      have hready:∀ q,Prec ops q r.j->listed.getD q false=true:=by
       intro q hq
       cases hq with
       | one ho he hb=>exact hed _ ho _ he hb
       | more ho he hb hp=>exact hdown _ _ hp (hed _ ho _ he hb)
      have hnot:listed.getD r.j false=false:=by rw [<- getTF _ hlt];exact hl
      obtain ⟨ρ1,w1,tm1,I1,sx⟩:=EB hro0 V hdown e hready hnot hN I ds (Region.linearise.go .any ops fuel (t / (Region.ready .any ops listed).length) (listed.setIfInBounds r.j true) []) b k cs
      have hadd:(fun j=>(listed.setIfInBounds r.j true).getD j false)=qW (fun j=>listed.getD j false) r.j:=by
       funext j
       simp only [qW,SB,Tc]
       by_cases ej:r.j=j
       ·subst ej
        rw [Sn rfl,Sn (by omega)];simp
       ·rw [Sl ej]
        have:decide (j=r.j)=false:=decide_eq_false (fun h=>ej h.symm)
        rw [this,Bool.or_false]
      rw [<- hadd] at I1
      have hcnt:((List.range ops.size).filter fun i => !(listed.setIfInBounds r.j true).getD i false).length<=fuel:=by
       have hmem:r.j ∈ (List.range ops.size).filter fun i => !listed.getD i false:=TV.2 ⟨TE.2 hlt,by rw [hnot];rfl⟩
       have hsub:(List.range ops.size).filter (fun i => !(listed.setIfInBounds r.j true).getD i false)=((List.range ops.size).filter fun i => !listed.getD i false).filter (fun i=>decide (i ≠ r.j)):=by
        rw [TX]
        apply TJ
        intro i _
        have:=congrFun hadd i
        simp only [qW] at this
        rw [this]
        by_cases ei:i=r.j <;> simp [ei]
       rw [hsub]
       have hlen:∀ (l:List Nat),r.j ∈ l->(l.filter fun i=>decide (i ≠ r.j)).length < l.length:=by
        intro l hl
        apply List.length_filter_lt_length_iff_exists.2
        exact ⟨r.j,hl,by simp⟩
       have:=hlen _ hmem
       omega
      have hdn:∀ q j,Prec ops q j->(listed.setIfInBounds r.j true).getD j false=true->(listed.setIfInBounds r.j true).getD q false=true:=by
       intro q j hq hj
       have h1:=congrFun hadd j
       have h2:=congrFun hadd q
       rw [h1] at hj
       rw [h2]
       simp only [qW,Tb,SZ] at hj ⊢
       rcases hj with hj | rfl
       ·exact .inl (hdown q j hq hj)
       ·exact .inl (hready q hq)
      obtain ⟨S,ρ2,w2,tm2,hS,I2,sx2⟩:=ih (t / (Region.ready .any ops listed).length) (listed.setIfInBounds r.j true) ρ1 w1 tm1 (by simpa using hsz) hcnt hdn I1
      exact ⟨S,ρ2,w2,tm2,hS,I2,sx.trans sx2⟩
theorem VX (hmix:P.follows .mixedOrders=true) {id:Nat} {rd:Option Nat} {Q:Ex->Env->za->Prop} (V:Valid P ops s0 h0 tr) {sf:Env} {hf:za} (hs:∀ t,sf.get t=Vm tr s0 t) (hsz:sf.size=s0.size)
  (hh:∀ b,hf.get b=YO tr h0 b) (hro:hf.ro=h0.ro) (hn:h0.next<=hf.next) (hN:∀ x,x ∈ tr->x.g'.next<=hf.next) (hq:Q .normal sf hf):T P rd (.region id ops true) s0 h0 Q:=by
 intro ρ w tm ds hr hse b hb k cs
 let w1:World:={ w with drawn:=w.drawn + 1 }
 let ρ1:xn:={ next:=hf.next,m:=fun bb=>if bb < h0.next then ρ.m bb else none }
 have hm1:∀ bb pl,bb < ρ.next->ρ.m bb=some pl->ρ1.m bb=some pl:=fun bb pl hb hm=>by
  rw [show ρ1.m bb=ρ.m bb from Sn (by rw [<- hr.next];exact hb)];exact hm
 have hnil:tr.filter (fun r=>(Array.replicate ops.size false).getD r.j false) = []:=by
  rw [aan]
  intro r _ h
  simp only [SB,TW] at h
  split at h <;> simp at h
 have I:Kg P tr s0 h0 hf.next ρ w (fun j=>(Array.replicate ops.size false).getD j false) ρ1 w1 tm:=by
  refine ⟨rfl,fun bb hb=>Sn hb,hse.size,?_,?_,?_,?_,rfl,rfl,rfl,Sp _,fun _ _ _=>rfl,?_,hr.cN,fun bb pl hb hm=>hr.Z7 bb pl hb (by
   rw [show ρ1.m bb=ρ.m bb from Sn (Sq hb (S4 hr.cN hr.ro))] at hm;exact hm)⟩
  ·intro t
   rw [hnil]
   exact (hse.get t).ext (ρ':=ρ1.cut h0.next) (by rw [hr.next];exact Sp _) hm1
  ·intro bb o hg
   rw [hnil] at hg ⊢
   have hb:=hr.UL bb _ hg
   obtain ⟨pl,hp,hc⟩:=hr.ok bb o hg
   refine ⟨hb,pl,hm1 bb pl (by rw [hr.next];exact hb) hp,?_⟩
   exact vX.other (vX.ext (ρ:=ρ) (ρ':=ρ1.cut h0.next) (by rw [hr.next];exact Sp _) hm1 hc) rfl
  ·intro b1 b2 o1 o2 p1 p2 g1 g2 m1 m2 e
   rw [hnil] at g1 g2
   have l1:=hr.UL b1 o1 g1
   have l2:=hr.UL b2 o2 g2
   rw [show ρ1.m b1=ρ.m b1 from Sn l1] at m1
   rw [show ρ1.m b2=ρ.m b2 from Sn l2] at m2
   exact hr.inj b1 b2 o1 o2 p1 p2 g1 g2 m1 m2 e
  ·intro x hx _ bb h1 h2
   obtain ⟨A,B,e⟩:=S3 hx
   have:=(V.told A x B e).n0
   exact Sl (by omega)
  ·intro bb o pl hg hro' hm hc
   rw [hnil] at hg
   have l:=hr.UL bb o hg
   rw [show ρ1.m bb=ρ.m bb from Sn l] at hm
   exact ⟨bb,o,pl,hg,hro',hm,rfl⟩
 have hcount:((List.range ops.size).filter fun i => !(Array.replicate ops.size false).getD i false).length<=ops.size:=by
  have:=List.length_filter_le (fun i => !(Array.replicate ops.size false).getD i false) (List.range ops.size)
  simpa using this
 obtain ⟨S,ρ2,w2,tm2,hS,I2,sx⟩:=IG hr.ro V hN ds b k cs ops.size (w.tape w.drawn (.order b.fn id)) (Array.replicate ops.size false) ρ1 w1 tm (by simp) hcount (fun i j _ hj=>by
  simp only [SB,TW] at hj
  split at hj <;> simp at hj) I
 have hfull:tr.filter (fun r=>S r.j)=tr:=List.filter_eq_self.2 hS
 have lastn:∀ (p:yF->Bool) x,vA tr p=some x->x.g'.next<=hf.next:=fun p x hx=>hN x (Xl hx).1
 have hcut:ρ2=ρ2.cut hf.next:=by have:=I2.next;cases ρ2;simp only at this;subst this;rfl
 have hrel:Rel P ρ2 hf w2:=by
  refine ⟨I2.next,by rw [hro];exact S4 hr.ro hn,?_,?_,?_,by rw [hro];exact hr.cN,I2.gl⟩
  ·intro bb o hg
   rw [hh] at hg
   have:=(I2.heap bb o (by rw [hfull];exact hg)).1
   rw [hfull] at this
   refine Sq this ?_
   simp only [cO]
   split
   ·rename_i x hx;exact lastn _ x hx
   ·exact hn
  ·intro bb o hg
   rw [hh] at hg
   obtain ⟨_,pl,hp,hc⟩:=I2.heap bb o (by rw [hfull];exact hg)
   refine ⟨pl,hp,?_⟩
   rw [hro]
   rw [hfull] at hc
   rw [hcut]
   refine vX.Qe ?_ hc
   simp only [cO]
   split
   ·rename_i x hx;exact lastn _ x hx
   ·exact hn
  ·intro b1 b2 o1 o2 p1 p2 g1 g2
   rw [hh] at g1 g2
   exact I2.inj b1 b2 o1 o2 p1 p2 (by rw [hfull];exact g1) (by rw [hfull];exact g2)
 refine ⟨.normal,sf,hf,ρ2,w2,tm2,ds,hq,⟨⟨by rw [I2.next,hr.next];exact hn,fun bb hb=>I2.old bb (by rw [<- hr.next];exact hb)⟩,hrel,hro,I2.os,I2.tape,I2.output,I2.KH,I2.frame,?_⟩,⟨hsz.trans I2.size,fun t => ?_⟩,.refl _ _ _,?_⟩
 ·rintro c hc ⟨bb,o,pl,hg,hrb,hm,rfl⟩
  rw [hh] at hg
  exact I2.dY bb o pl (by rw [hfull];exact hg) (by rw [<- hro];exact hrb) hm hc
 ·have:=I2.env t
  rw [hfull] at this
  rw [hs t]
  rw [hcut]
  refine zI.Qe ?_ this
  simp only [JV]
  split
  ·rename_i x hx;exact lastn _ x hx
  ·exact hn
 ·refine .head Va ?_
  have:Region.schedule (P.follows .mixedOrders) ops (w.tape w.drawn (.order b.fn id))=Region.linearise .any ops (w.tape w.drawn (.order b.fn id)):=by
   simp only [Region.schedule,hmix,Bool.true_or,Sf]
  rw [this]
  exact sx.trans (.one Xh)
end
end
noncomputable section
variable {P:Program}
def XP:List Tmp->List Value->Env->Option Env
 | [],[],s=>some s
 | t :: ts,v :: vs,s=>(match s.put (some t) v with
   | some s1=>XP ts vs s1
   | none=>none)
 | _,_,_=>none
theorem Qu {ρ:xn}:∀ {ts:List Tmp} {vs vs':List Value} {s s':Env} {tm:Array Value},XP ts vs s=some s'->vN ρ s tm->wz ρ vs vs' ->
  ts.length=vs'.length/\vN ρ s' ((ts.zip vs').foldl (fun tm x=>tm.setIfInBounds x.1 x.2) tm)
 | [],[],vs',s,s',tm,he,hs,hv=>by
   cases hv.uL
   simp only [XP,Se] at he
   subst he
   exact ⟨rfl,hs⟩
 | t :: ts,v :: vs,vs',s,s',tm,he,hs,hv=>by
   obtain ⟨y,ys,rfl,h1,h2⟩:=hv.cons_inv
   simp only [XP] at he
   split at he
   ·rename_i s1 hp
    have:=Qu he (hs.put h1 hp) h2
    exact ⟨by simp [this.1],by simpa [ql] using this.2⟩
   ·cases he
 | [],_ :: _,_,_,_,_,he,_,_=>by simp [XP] at he
 | _ :: _,[],_,_,_,_,he,_,_=>by simp [XP] at he
def Vr (l:Kj) (tm:Array Value) (d:Nat) (fn:FuncId):Loop:={ state:=l.state,pending:=l.pending,fn:=fn,tmps:=tm,params:=l.params,assign:=l.assign,body:=l.body,defers:=d }
theorem Rel.loop {ρ:xn} {h:za} {w:World} (hr:Rel P ρ h w) {b:Nat} {A:Kj} {pl:Place} (hg:h.get b=some (.loop A)) (hm:ρ.m b=some pl) :
  ∃ tm d fn,w.heap[pl.c]? = some (.loop (Vr A tm d fn))/\vN ρ A.s tm:=hr.HA hg hm
theorem tK (w:World) (l k:Nat) (o:Obj) (hk:k ≠ l):(w.heap.setIfInBounds l o)[k]? = w.heap[k]?:=by rw [Tc,Sl (Ne.symm hk)]
theorem tJ (w:World) (l:Nat) (o:Obj) (hl:l < w.heap.size):(w.heap.setIfInBounds l o)[l]? = some o:=by rw [Tc,Sn rfl,Sn hl]
theorem Step.NL {ρ:xn} {h:za} {w:World} (hr:Rel P ρ h w) {b:Nat} {A A':Kj} {pl:Place} (hg:h.get b=some (.loop A)) (hm:ρ.m b=some pl) (hro:h.ro<=b) {tm:Array Value} {d fn:Nat}
  (ho:w.heap[pl.c]? = some (.loop (Vr A tm d fn))) (hs:vN ρ A'.s tm) :
  Step P ρ h w ρ (h.set b (some (.loop A'))) { w with heap:=w.heap.setIfInBounds pl.c (.loop (Vr A' tm d fn)) } :=
 Step.Ci hr hg hm hro (ob' := .loop A') ⟨tm,d,fn,tJ w pl.c _ (Yy ho),hs⟩ rfl rfl rfl (by simp) (fun k hk=>tK w pl.c k _ hk)
theorem XQ {w:World} {l:Nat} {r:Loop} (h:w.heap[l]? = some (.loop r)):(Instr.getLoop l).run P w = .ok r w:=by
 simp only [Instr.getLoop,getObj,Sj]
 simp only [Sem.run,h,Sg]
 rfl
theorem Qv {w:World} {l:Nat} {r:Loop} (h:w.heap[l]? = some (.loop r)) (o:Obj):(setObj l o).run P w = .ok () { w with heap:=w.heap.setIfInBounds l o }:=by
 simp only [setObj,Sem.run,h]
theorem Fb {w:World} {l:Nat} {r:Loop} {args:Array Value} (h:w.heap[l]? = some (.loop r)) (hn:args.size=r.params.size) :
  (Instr.yield l args).run P w = .ok (.round l r.fn ((r.params.toList.zip args.toList).foldl (fun tm x=>tm.setIfInBounds x.1 x.2) r.tmps) r.assign r.body) w:=by
 simp only [Instr.yield,Sj,XQ h,Sg]
 rw [Sl (by simp [hn])]
 simp only [Ss]
 rw [<- Array.foldl_toList,Array.toList_zip]
theorem iU {w:World} {l:Nat} {r:Loop} (h:w.heap[l]? = some (.loop r)) (hr:r.state = .ready) :
  (Instr.beginRound l).run P w = .ok () { w with heap:=w.heap.setIfInBounds l (.loop { r with state := .busy }) }:=by
 simp only [Instr.beginRound,Sj,XQ h,Sg,Qv h,hr,Ss]
theorem UE {w:World} {l:Nat} {r:Loop} (h:w.heap[l]? = some (.loop r)) (jump:Option Code) :
  (Instr.endRound l jump).run P w = .ok (.bool jump.isNone) { w with heap:=w.heap.setIfInBounds l (.loop { r with state:=if jump.isNone then .ready else .done,pending:=jump }) }:=by
 simp only [Instr.endRound,Sj,XQ h,Sg,Qv h,Ss]
theorem Ag {w:World} {l:Nat} {r:Loop} (h:w.heap[l]? = some (.loop r)) (hb:(r.state == .busy)=false) :
  (Instr.endLoop l).run P w = .ok r.pending { w with heap:=w.heap.setIfInBounds l (.loop { r with state := .exhausted }) }:=by
 simp only [Instr.endLoop,Sj,XQ h,Sg,hb,Ti,Sx,Qv h,Ss]
section moves
variable {b:Frame} {tm:Array Value} {ds:List Deferred} {k:List Item} {cs:List Frame} {w w':World}
theorem cK {l:Nat} (hb:b.roundOf=some l) (hrun:(Instr.beginRound l).run P w = .ok () w'):step P (lone (vH b tm ds (.beginRound :: k)) cs w) = .next (lone (vH b tm ds k) cs w') :=
 step_lone_go (by
  simp only [stepG,vH,stepG.exec,hb,stepG.apply]
  simp [hrun,Frame.finish])
def Xk:Ex->Option Code
 | .normal=>none
 | .ret=>some .ret
 | .exit id=>some (.exit id)
theorem Qg {l:Nat} {fr:Frame} (hb:b.roundOf=some l) (hk:b.kind = .normal) {e:Ex} (todo:List Item)
  (htodo:match e with | .normal=>todo = [] | .ret => ∃ t,todo = .code .ret :: t | .exit id => ∃ t,todo = .code (.exit id) :: t/\exitTo id t=none) {v:Value}
  (hrun:(Instr.endRound l (Xk e)).run P w = .ok v w') :
  step P (lone (vH b tm ds todo) (fr :: cs) w) = .next (lone (fr.finish v) cs w') :=
 step_lone_go (by
  cases e with
  | normal=>subst htodo;simp only [Xk] at hrun;simp [stepG,vH,stepG.exec,hb,hrun,doReturn,hk]
  | ret=>obtain ⟨t,rfl⟩:=htodo;simp only [Xk] at hrun;simp [stepG,vH,stepG.exec,hb,hrun,doReturn,hk]
  | exit id=>obtain ⟨t,rfl,ht⟩:=htodo;simp only [Xk] at hrun;simp [stepG,vH,stepG.exec,hb,ht,hrun,doReturn,hk])
theorem hQ {ops:Array Oper} {i:Nat} {rest:List Nat} {o:Oper} (ho:ops[i]? = some o) (hw:Region.wanted o (yielded ops tm)=true) (hd:Xq o.op=false) {l:Nat} {f:FuncId} {tm':Array Value} {as bd:Code} {w':World}
  (hr:(execOp (Act.eval ⟨tm,ds⟩) o).run P w = .ok (.round l f tm' as bd) w') :
  step P (lone (vH b tm ds (.inRegion ops (i :: rest) :: k)) cs w) = .next (lone (Frame.round l f tm' as bd .normal) (vH b tm ds (.inRegion ops (i :: rest) :: k) :: cs) w') :=
 step_lone_go (by rw [Kf ho hw hd];simp [stepG.apply,hr,vH])
theorem K9 {l:Nat} {jump:Option Code} (hrun:(Instr.endLoop l).run P w = .ok jump w') :
  step P (lone (vH b tm ds (.endRangeFunc l :: k)) cs w) = .next (lone (vH b tm ds ((jump.map Item.code).toList ++ k)) cs w') :=
 step_lone_go (by simp [stepG,vH,stepG.exec,hrun])
theorem dW {f:Operand} {params:Array Tmp} {as bd:Code} {l:Nat} {mark:List Deferred} {w1 w2:World} {g:FuncId} {args:Array Value}
  (hrun:(Instr.enterLoop b.fn tm params as bd b.roundOf).run P w = .ok (l,mark) w1)
  (hcall:(do let d <- resolve (Act.eval ⟨tm,ds⟩) { callee := .value f,args := #[.const (.func (.yield l) #[] #[])],argTypes := #[] } 0;invoke d.target d.args:Sem Next).run P w1 = .ok (.enter g args) w2) :
  step P (lone (vH b tm ds (.code (.rangeFunc f params as bd) :: k)) cs w) = .next (lone (Frame.enter P g args .normal) (vH b tm (mark ++ ds) (.inRangeFunc l :: k) :: cs) w2) :=
 step_lone_go (by
  have he:=gX b tm (mark ++ ds) (.inRangeFunc l :: k)
  have he':(Act.eval ⟨tm,mark ++ ds⟩)=(Act.eval ⟨tm,ds⟩):=by funext x;cases x <;> rfl
  rw [he'] at he
  simp only [vH] at he
  simp only [stepG,vH,stepG.exec]
  simp only [Sem.runT_eq,hrun,GStep.bare_after]
  simp only [stepG.apply,he,Sem.runT_eq,hcall]
  simp [GStep.bare,GStep.after])
end moves
def TY (P:Program) (L:Nat) (args:List Value) (h:za) (R:Value->za->Prop):Prop :=
 ∀ (ρ:xn) (w:World) (cargs:List Value) (pl:Place),Rel P ρ h w->wz ρ args cargs->L < ρ.next->ρ.m L=some pl ->
   ∃ f tm as bd,(Instr.yield pl.c cargs.toArray).run P w = .ok (.round pl.c f tm as bd) w /\
     ∀ (fr:Frame) (cs:List Frame),∃ v v' h' ρ' w',R v h'/\Step P ρ h w ρ' h' w'/\zI ρ' v v'/\Steps P (lone (Frame.round pl.c f tm as bd .normal) (fr :: cs) w) (lone (fr.finish v') cs w')
def Kj.left (A:Kj) (e:Ex):Kj:={ A with state:=if (Xk e).isNone then .ready else .done,pending:=Xk e }
theorem Ii {L:Nat} {A:Kj} {args:List Value} {h:za} {s0:Env} {R:Value->za->Prop} (hg:h.get L=some (.loop A)) (he:XP A.params.toList args A.s=some s0)
  (ht:T P (some L) A.assign s0 h (fun e s1 h1=>e = .normal /\ ∃ A1,h1.get L=some (.loop A1)/\A1.state = .ready/\h1.ro<=L /\
   T P (some L) A.body s1 (h1.set L (some (.loop { A1 with state := .busy }))) (fun e s2 h2 => ∃ A2,h2.get L=some (.loop A2)/\h2.ro<=L /\
     R (.bool (Xk e).isNone) (h2.set L (some (.loop (A2.left e))))))):TY P L args h R:=by
 intro ρ w cargs pl hr hv hL hm
 obtain ⟨tm,d,fn,ho,hs⟩:=hr.loop hg hm
 obtain ⟨hlen,hs0⟩:=Qu he hs hv
 refine ⟨fn,_,A.assign,A.body,Fb ho (by simpa [Vr] using hlen.symm),fun fr cs => ?_⟩
 let b:Frame:={ (default:Frame) with fn:=fn,kind := .normal,roundOf:=some pl.c }
 have hrd:Rd ρ (some L) b:=⟨hL,pl,hm,rfl⟩
 obtain ⟨e,s1,h1,ρ1,w1,tm1,ds1,⟨rfl,A1,g1,a1,ro1,q⟩,st1,hs1,_,ha⟩:=ht ρ w _ [] hr hs0 b hrd [.beginRound,.code A.body] (fr :: cs)
 have hm1:ρ1.m L=some pl:=(st1.le.2 L hL).trans hm
 obtain ⟨tmA,dA,fnA,hoA,hsA⟩:=st1.rel.loop g1 hm1
 have sb:=Step.NL st1.rel g1 hm1 ro1 (A':={ A1 with state := .busy }) hoA hsA
 obtain ⟨e,s2,h2,ρ2,w2,tm2,ds2,⟨A2,g2,ro2,hR⟩,st2,hs2,_,ha2⟩:=q ρ1 _ tm1 ds1 sb.rel hs1 b (hrd.mono st1.le) [] (fr :: cs)
 have hm2:ρ2.m L=some pl:=(st2.le.2 L (Sq hL st1.le.1)).trans hm1
 obtain ⟨tmB,dB,BP,hoB,hsB⟩:=st2.rel.loop g2 hm2
 have se:=Step.NL st2.rel g2 hm2 ro2 (A':=A2.left e) hoB hsB
 refine ⟨_,.bool (Xk e).isNone,_,ρ2,_,hR,((st1.trans sb).trans st2).trans se,.bool _,?_⟩
 refine T3 ha (.head (cK rfl (iU hoA a1)) ?_)
 cases e with
 | normal=>exact T3 ha2 (.one (Qg (e := .normal) rfl rfl [] rfl (UE hoB _)))
 | ret=>obtain ⟨t,sx⟩:=ha2;exact sx.trans (.one (Qg (e := .ret) rfl rfl _ ⟨t,rfl⟩ (UE hoB _)))
 | exit id=>obtain ⟨t,et,sx⟩:=ha2;exact sx.trans (.one (Qg (e := .exit id) rfl rfl _ ⟨t,rfl,et.trans rfl⟩ (UE hoB _)))
theorem rf {s:Env} {h:za} {Q:Env->za->Prop} {ops:Array Oper} {i:Nat} {rest:List Nat} {o:Oper} {f:Operand} {cargs:Array Operand} {ts:Array TypeId} {L:Nat} {vs:List Value} {R:Value->za->Prop}
  (ho:ops[i]? = some o) (hw:yw ops s o=true) (yU:o.op = .call { callee := .value f,args:=cargs,argTypes:=ts }) (hf:jb s f=some (.func (.yield L) #[] #[])) (hargs:VC s cargs.toList=some vs)
  (hc:TY P L vs h R) (ht:∀ v h1,R v h1->∃ s1,s.put o.dst v=some s1/\TO P ops rest s1 h1 Q):TO P ops (i :: rest) s h Q:=by
 intro ρ w tm ds hr hs b k cs
 have hw':Region.wanted o (yielded ops tm)=true:=(Xe hs ops o).trans hw
 have e1:=zV (a:=⟨tm,ds⟩) hs hf
 have e2:=jS (a:=⟨tm,ds⟩) hs hargs
 generalize hfv:Act.eval ⟨tm,ds⟩ f=fv at e1
 cases e1 with
 | yield hb hm=>
   rename_i pl
   obtain ⟨fn,tmr,as,bd,hy,hgo⟩:=hc ρ w _ pl hr e2 hb hm
   have hrun:(execOp (Act.eval ⟨tm,ds⟩) o).run P w = .ok (.round pl.c fn tmr as bd) w:=by
    have hargs':(#[]:Array Value) ++ cargs.map (Act.eval ⟨tm,ds⟩)=(cargs.toList.map (Act.eval ⟨tm,ds⟩)).toArray:=by apply T7;simp
    simp only [execOp,yU,resolve,hfv,Deferred.ofValue,Sj,Ss,Sg,invoke,hargs',hy]
   obtain ⟨v,v',h',ρ',w1,hR,st,hv,hgo⟩:=hgo (vH b tm ds (.inRegion ops (i :: rest) :: k)) cs
   obtain ⟨s1,hp,hrest⟩:=ht v h' hR
   have hs1:vN ρ' s1 (ql tm o.dst v'):=(hs.mono st.le).put hv hp
   obtain ⟨s2,h2,ρ2,w2,tm2,q,st2,hs2,sx⟩:=hrest ρ' w1 _ ds st.rel hs1 b k cs
   have hd:Xq o.op=false:=by rw [yU];rfl
   refine ⟨s2,h2,ρ2,w2,tm2,q,st.trans st2,hs2,.head (hQ ho hw' hd hrun) (T3 hgo ?_)⟩
   rw [jU,ho]
   exact sx
theorem Step.more {ρ:xn} {h:za} {w w':World} (hr:Rel P ρ h w) {o:Obj} (hw:w' = { w with heap:=w.heap.push o }):Step P ρ h w ρ h w':=by
 subst hw
 have hold:∀ k,k < w.heap.size->(w.heap.push o)[k]? = w.heap[k]?:=fun k hk=>by rw [Array.getElem?_push,Sl (by omega)]
 exact ⟨xn.le_refl _,hr.grow hold,rfl,rfl,rfl,rfl,by simp,fun k hk _=>hold k hk,fun _ _ h=>h⟩
theorem run_newObj (w:World) (o:Obj):(newObj o).run P w = .ok w.heap.size { w with heap:=w.heap.push o }:=rfl
theorem dt {rd:Option Nat} {f:Operand} {params:Array Tmp} {as bd:Code} {s:Env} {h:za} {g:FuncId} {fa fc:Array Value} {Q:Ex->Env->za->Prop}
  (hf:jb s f=some (.func (.func g) fa fc)) (hcall:ux P g=true) (hrd:∀ L,rd=some L->∃ A,h.get L=some (.loop A))
  (hc:TC P g (fa.toList ++ [.func (.yield h.next) #[] #[]] ++ fc.toList) (h.push (.loop { state := .ready,pending:=none,s:=s,params:=params,assign:=as,body:=bd }))
   (fun _ h1 => ∃ A,h1.get h.next=some (.loop A)/\(A.state == .busy)=false/\h1.ro<=h.next /\ ∃ e,Xk e=A.pending/\Q e s (h1.set h.next none))):T P rd (.rangeFunc f params as bd) s h Q:=by
 intro ρ w tm ds hr hs b hb k cs
 let A0:Kj:={ state := .ready,pending:=none,s:=s,params:=params,assign:=as,body:=bd }
 obtain ⟨mark,d,w1,hrun,st1,hd1⟩:∃ mark d w1,(Instr.enterLoop b.fn tm params as bd b.roundOf).run P w = .ok (w1.heap.size,mark) { w1 with heap:=w1.heap.push (.loop (Vr A0 tm d b.fn)) } /\ Step P ρ h w ρ h w1/\UT w ds w1 (mark ++ ds):=by
  cases rd with
  | none=>
    have hb:b.roundOf=none:=hb
    refine ⟨[tP w.heap.size],w.heap.size,{ w with heap:=w.heap.push (.deferred (some [])) },?_,Step.more hr rfl,[w.heap.size],rfl,by simp,fun r hr' => ?_⟩
    ·simp only [Instr.enterLoop,hb,Sj,run_newObj,Sg,Ss]
     rfl
    ·simp only [TI] at hr'
     subst hr'
     exact ⟨Sp _,by simp⟩
  | some L0=>
    obtain ⟨hL,pl,hm,hb⟩:=hb
    obtain ⟨A,gA⟩:=hrd L0 rfl
    obtain ⟨tmA,dA,fnA,hoA,_⟩:=hr.loop gA hm
    refine ⟨[],dA,w,?_,.refl hr,.refl _ _ _⟩
    simp only [Instr.enterLoop,hb,Sj,XQ hoA,run_newObj,Sg,Ss]
    rfl
 let pl:Place:=⟨w1.heap.size,0,0,0⟩
 have PE:Step P ρ h w1 (ρ.ext pl) (h.push (.loop A0)) { w1 with heap:=w1.heap.push (.loop (Vr A0 tm d b.fn)) } :=
  Step.Kb st1.rel (ob := .loop A0) (pl:=pl) rfl rfl ⟨tm,d,b.fn,by simp [pl,Vr],hs.mono (ρ.cQ pl)⟩ rfl rfl rfl
 have hnew:(ρ.ext pl).m h.next=some pl:=by rw [<- hr.next];exact ρ.kD pl
 have hlt:h.next < (ρ.ext pl).next:=by show h.next < ρ.next + 1;rw [hr.next];omega
 have e1:=zV (a:=⟨tm,ds⟩) (hs.mono (ρ.cQ pl)) hf
 generalize hfv:Act.eval ⟨tm,ds⟩ f=fv at e1
 cases e1 with
 | func ha hcs k1 k2=>
   rename_i fa' fc'
   let yl:Value := .func (.yield w1.heap.size) #[] #[]
   let full:=fa'.toList ++ [yl] ++ fc'.toList
   have hyl:zI (ρ.ext pl) (.func (.yield h.next) #[] #[]) yl := .yield (pl:=pl) hlt hnew
   have hfull:wz (ρ.ext pl) (fa.toList ++ [.func (.yield h.next) #[] #[]] ++ fc.toList) full :=
    (wz.append ⟨by simpa using ha,fun i x y hx hy=>k1 i x y (by simpa using hx) (by simpa using hy)⟩ (.cons hyl (.nil _))).append ⟨by simpa using hcs,fun i x y hx hy=>k2 i x y (by simpa using hx) (by simpa using hy)⟩
   have hrun2:(do let d <- resolve (Act.eval ⟨tm,ds⟩) { callee := .value f,args := #[.const yl],argTypes := #[] } 0;invoke d.target d.args:Sem Next).run P { w1 with heap:=w1.heap.push (.loop (Vr A0 tm d b.fn)) } = .ok (.enter g full.toArray) { w1 with heap:=w1.heap.push (.loop (Vr A0 tm d b.fn)) }:=by
    have hargs':fa' ++ (#[.const yl]:Array Operand).map (Act.eval ⟨tm,ds⟩) ++ fc'=full.toArray:=by apply T7;simp [full];rfl
    simp only [resolve,hfv,Deferred.ofValue,Sj,Ss,Sg,invoke,callFunc,run_program,hargs']
    unfold ux at hcall
    cases hfn:P.funcs[g]? with
    | none=>rw [hfn] at hcall;cases hcall
    | some fn=>
      rw [hfn] at hcall
      simp only [Sm,Sz] at hcall
      simp only [hcall.2,Ti,Sx]
      rw [Sl (by cases hb:fn.body <;> simp_all)]
      rfl
   obtain ⟨e,w3,fr,⟨v,v',h',ρ',rfl,⟨A,gA,nb,roA,ex,hj,q⟩,st,hv⟩,hcomes,_,hleave⟩:=hc (ρ.ext pl) _ full PE.rel hfull (vH b tm (mark ++ ds) (.inRangeFunc w1.heap.size :: k) :: cs)
   have hm':ρ'.m h.next=some pl:=(st.le.2 _ hlt).trans hnew
   obtain ⟨tmA,dA,fnA,hoA,hsA⟩:=st.rel.loop gA hm'
   have stt:=Step.NL st.rel gA hm' roA (A':={ A with state := .exhausted }) hoA hsA
   have std:=Step.Ce stt.rel h.next
   have sta:=(((PE.trans st).trans stt).trans std).same (h'':=h'.set h.next none) ⟨rfl,rfl,fun x=>by rw [za.set_set]⟩
   refine ⟨ex,s,h'.set h.next none,ρ',_,tm,mark ++ ds,q,st1.trans sta,hs.mono (st1.trans sta).le,hd1.trans (.refl _ _ _) st1.size st1.rel sta,?_⟩
   have harr:Steps P (lone (vH b tm ds (.code (.rangeFunc f params as bd) :: k)) cs w) (lone (vH b tm (mark ++ ds) ((A.pending.map Item.code).toList ++ k)) cs { w3 with heap:=w3.heap.setIfInBounds pl.c (.loop (Vr { A with state := .exhausted } tmA dA fnA)) }) :=
    .head (dW hrun hrun2) (T3 hcomes (.head (step_leave_returned hleave) (.one (K9 (Ag hoA nb)))))
   have hp:(A.pending.map Item.code).toList=((Xk ex).map Item.code).toList:=by rw [hj]
   rw [hp] at harr
   cases ex with
   | normal=>exact harr
   | ret=>exact ⟨k,harr⟩
   | exit id=>exact ⟨k,rfl,harr⟩
end
noncomputable section
inductive Task where
 | code (rd:Option Nat) (c:Code) (s:Env)
 | call (f:FuncId) (args:List Value)
inductive Out where
 | ex (e:Ex) (s:Env)
 | val (v:Value)
abbrev YZ:=Task->za->Option (Out × za)
def qv (h h2:za):za := @za.rec (fun _=>za) (fun t n r => @za.rec (fun _=>za) (fun t2 n2 _=>⟨(List.range' n (n2 - n)).foldl (fun t b=>t.set b (t2.get b)) t,n2,r⟩) h2) h
def sS (cls:List Nat) (rec:YZ) (g:FuncId) (args:List Value) (h:za):Option (Value × za) :=
 match cls.getD g 0 with
 | 1=>(match rec (.call g args) h with
   | some (.val v,h')=>some (v,h')
   | _=>none)
 | 2=>(match rec (.call g args) h.lock with
   | some (.val v,_)=>cond (cZ v) (some (v,h)) none
   | _=>none)
 | 3=>(match rec (.call g args) h.lock with
   | some (.val v,h2)=>some (v,qv h h2)
   | _=>none)
 | _=>none
def M6:Ex->Bool
 | .normal=>true
 | _=>false
def isReady:LoopState->Bool
 | .ready=>true
 | _=>false
def Lf:LoopState->Bool
 | .busy=>false
 | _=>true
def iS (rec:YZ) (L:Nat) (args:List Value) (h:za):Option (Value × za) :=
 match h.get L with
 | some (.loop A)=>(match XP A.params.toList args A.s with
   | some s0=>(match rec (.code (some L) A.assign s0) h with
     | some (.ex .normal s1,h1)=>(match h1.get L with
       | some (.loop A1)=>cond (isReady A1.state && Nat.ble h1.ro L)
         (match rec (.code (some L) A.body s1) (h1.set L (some (.loop { A1 with state := .busy }))) with
          | some (.ex e _,h2)=>(match h2.get L with
            | some (.loop A2)=>cond (Nat.ble h2.ro L) (some (.bool (M6 e),h2.set L (some (.loop (A2.left e))))) none
            | _=>none)
          | _=>none) none
       | _=>none)
     | _=>none)
   | none=>none)
 | _=>none
def M0:Option Code->Option Ex
 | none=>some .normal
 | some .ret=>some .ret
 | some (.exit id)=>some (.exit id)
 | _=>none
def iO (cls:List Nat) (rec:YZ) (rd:Option Nat) (f:Option Value) (params:Array Tmp) (as bd:Code) (s:Env) (h:za):Option (Ex × za) :=
 match f with
 | some (.func (.func g) fa fc)=>cond (Nat.beq (cls.getD g 0) 1 && (match rd with
   | none=>true
   | some L0=>(match h.get L0 with
     | some (.loop _)=>true
     | _=>false)))
   (match rec (.call g (fa.toList ++ [.func (.yield h.next) #[] #[]] ++ fc.toList)) (h.push (.loop { state := .ready,pending:=none,s:=s,params:=params,assign:=as,body:=bd })) with
    | some (.val _,h1)=>(match h1.get h.next with
      | some (.loop A)=>cond (Lf A.state && Nat.ble h1.ro h.next)
        (match M0 A.pending with
         | some e=>some (e,h1.set h.next none)
         | none=>none) none
      | _=>none)
    | _=>none) none
 | _=>none
def evalOp (P:Program) (cls:List Nat) (rec:YZ) (s:Env) (o:Oper) (h:za):Option (Value × za) :=
 match o.op with
 | .call { callee := .value f,args,argTypes }=>(match jb s f,VC s args.toList with
   | some (.func (.func g) fa fc),some vs=>cond (Nat.beq (cls.getD g 0) 0) (oM P g (fa.toList ++ vs ++ fc.toList) h) (sS cls rec g (fa.toList ++ vs ++ fc.toList) h)
   | some (.func (.yield L) fa fc),some vs=>cond (Nat.beq fa.size 0 && Nat.beq fc.size 0) (iS rec L vs h) none
   | _,_=>none)
 | _=>Kz P s o h
def UC (P:Program) (cls:List Nat) (rec:YZ) (ops:Array Oper):List Oper->Env->za->Option (Env × za)
 | [],s,h=>some (s,h)
 | o :: os,s,h=>
   cond (yw ops s o)
    (match evalOp P cls rec s o h with
     | some (v,h1)=>(match s.put o.dst v with
       | some s1=>UC P cls rec ops os s1 h1
       | none=>none)
     | none=>none)
    (match s.put o.dst undef with
     | some s1=>UC P cls rec ops os s1 h
     | none=>none)
structure dU where
 r:yF
 An:List Nat
 all:Bool
 KF:Bool
 NX:List Nat
 ex:Bool
def y8 (ms:List Nat) (o:Oper):Nat:=o.after.toList.foldl (fun m e=>cond (Region.binds .any e) (m ||| (1 <<< e.on) ||| ms.getD e.on 0) m) 0
def ZN (ops:Array Oper) (x y:Oper):Bool :=
 (match x.dst with
  | none=>true
  | some d => !(y.looksAt ops).contains d && !(decide (y.dst=some d))) &&
 (match y.dst with
  | none=>true
  | some d => !(x.looksAt ops).contains d)
def il (x y:dU):Bool :=
 cond x.all (y.KF || (y.ex && !y.all && y.NX.all (fun b => !x.r.tc b) && y.An.all (fun b => !x.r.tc b))) (x.An.all fun b => !y.r.rd b && !y.r.tc b) &&
 cond y.all (x.KF || (x.ex && x.NX.all fun b => !y.r.tc b)) (y.An.all fun b => !x.r.rd b)
def YS (ops:Array Oper):List Oper->Nat->List Nat->List (Nat × Oper)->Bool
 | [],_,_,_=>true
 | o :: os,i,ms,prev=>
   (o.after.toList.all fun e => !(Region.binds .any e) || Nat.blt e.on i) && (prev.all fun x=>(y8 ms o).testBit x.1 || ZN ops x.2 o) && YS ops os (i + 1) (ms ++ [y8 ms o]) ((i,o) :: prev)
def LW:Value->List Nat
 | .pointer (some a)=>[a.block]
 | .slice (some a) _ _=>[a.block]
 | .map (some b)=>[b]
 | _=>[]
def nK:Op->Bool
 | .call { callee := .builtin .cap,.. } | .call { callee := .builtin .min,.. } | .call { callee := .builtin .max,.. } | .call { callee := .builtin .unsafeSliceData,.. }=>false
 | .move _ | .assign _ | .pick _ _ _ | .alloc _ | .box _ _ | .build _ _ | .nilCheck _ | .binOp _ _ _ _ _ | .unOp _ _ _ | .makeInterface _ _ | .makeFunc _ _ _ | .fieldAddr _ _ _ | .field _ _ _ | .indexAddr _ _ _ | .index _ _ _ | .extract _ _=>false
 | _=>true
def BC (h:za) (b:Nat):List Nat :=
 match h.get b with
 | some (.iter (some m) _ _ _)=>[b,m]
 | _=>[b]
def HD (s:Env) (o:Oper) (h:za):List Nat:=cond (nK o.op) ((o.op.operands.toList.flatMap fun x=>(match jb s x with | some v=>LW v | none=>[])).flatMap (BC h)) []
def za.pick (h:za) (l:List Nat):za := @za.rec (fun _=>za) (fun t0 n r=>⟨l.foldl (fun t b=>t.set b (t0.get b)) .e,n,r⟩) h
def za.UP (h:za) (l:List Nat):za := @za.rec (fun _=>za) (fun t0 n r=>⟨l.foldl (fun t b=>t.set b none) t0,n,r⟩) h
def za.Lb (h g:za) (l:List Nat):za := @za.rec (fun _=>za) (fun t0 _ r => @za.rec (fun _=>za) (fun t1 n _=>⟨l.foldl (fun t b=>t.set b (t1.get b)) t0,n,r⟩) g) h
def za.H7 (h' h:za) (l:List Nat):za := @za.rec (fun _=>za) (fun t0 n r=>⟨l.foldl (fun t b=>t.set b (h.get b)) t0,n,r⟩) h'
def JP (s:Env) (dsts:List Nat):List Oper->Nat->Nat->List Nat
 | [],_,_=>[]
 | o :: os,j,desc=>cond (o.after.toList.any fun e=>Region.binds .any e && desc.testBit e.on)
     (JP s dsts os (j + 1) (desc ||| (1 <<< j)))
     ((cond (nK o.op) (o.op.operands.toList.flatMap fun x=>(match x with
       | .tmp t=>cond (dsts.contains t) [] (LW (s.get t))
       | _=>[])) []) ++ JP s dsts os (j + 1) desc)
def XX:Builtin->Bool
 | .len | .cap | .min | .max | .unsafeSliceData=>true
 | _=>false
def Xr:Op->Bool
 | .call { callee := .builtin b,.. } => !XX b
 | .store _ _ _=>true
 | .mapUpdate _ _ _ _=>true
 | .next _ _=>true
 | .call _=>true
 | _=>false
def gQ (P:Program) (cls:List Nat) (rec:YZ) (ops:Array Oper) (recs:List dU) (mask i:Nat) (os:List Oper) (o:Oper) (s:Env) (h:za):Option (dU × za) :=
 cond (yw ops s o)
  (match o.op with
   | .call { callee := .value f,args,argTypes }=>(match jb s f,VC s args.toList with
     | some (.func (.func g) fa fc),some vs=>
       (match cls.getD g 0 with
        | 1=>
          let hid:=((recs.flatMap fun x=>cond (mask.testBit x.r.j) [] (x.An ++ x.NX)) ++ JP s ((o :: os).filterMap (·.dst)) os (i + 1) (1 <<< i)).filter fun b=>Nat.blt b h.next
          (match rec (.call g (fa.toList ++ vs ++ fc.toList)) (h.UP hid) with
           | some (.val v,h')=>some (⟨⟨i,o,v,s,h.UP hid,h',fun b=>Nat.blt b h.next && !hid.contains b,fun b=>Nat.blt b h'.next && !hid.contains b⟩,[],true,false,[],false⟩,h'.H7 h hid)
           | _=>none)
        | 2=>
          let hid:=recs.flatMap fun x=>cond (mask.testBit x.r.j) [] x.An
          (match rec (.call g (fa.toList ++ vs ++ fc.toList)) (h.UP hid).lock with
           | some (.val v,_)=>cond (cZ v) (some (⟨⟨i,o,v,s,h.UP hid,h.UP hid,fun b=>Nat.blt b h.next && !hid.contains b,fun _=>false⟩,[],false,false,[],false⟩,h)) none
           | _=>none)
        | 3=>
          let hid:=recs.flatMap fun x=>cond (mask.testBit x.r.j) [] x.An
          (match rec (.call g (fa.toList ++ vs ++ fc.toList)) (h.UP hid).lock with
           | some (.val v,h2)=>
             let new:=List.range' h.next (h2.next - h.next)
             some (⟨⟨i,o,v,s,h.UP hid,qv (h.UP hid) h2,fun b=>Nat.blt b h.next && !hid.contains b,fun b=>new.contains b⟩,new,false,false,[],false⟩,qv h h2)
           | _=>none)
        | _=>(match oM P g (fa.toList ++ vs ++ fc.toList) (h.pick []) with
          | some (v,g')=>
            let new:=List.range' h.next (g'.next - h.next)
            some (⟨⟨i,o,v,s,h.pick [],g',fun _=>false,fun b=>new.contains b⟩,new,false,new.isEmpty,[],true⟩,h.Lb g' new)
          | none=>none))
     | _,_=>none)
   | _=>
     let bs:=HD s o h
     (match Kz P s o (h.pick bs) with
      | some (v,g')=>
        let new:=List.range' h.next (g'.next - h.next)
        let An:=cond (Xr o.op) (bs ++ new) new
        some (⟨⟨i,o,v,s,h.pick bs,g',fun b=>bs.contains b,fun b=>An.contains b⟩,An,false,bs.isEmpty && An.isEmpty,bs,true⟩,h.Lb g' An)
      | none=>none))
  (some (⟨⟨i,o,undef,s,h.pick [],h.pick [],fun _=>false,fun _=>false⟩,[],false,true,[],true⟩,h))
def Uo (P:Program) (cls:List Nat) (rec:YZ) (ops:Array Oper):List Oper->Nat->List Nat->List dU->Env->za->Option (Env × za)
 | [],_,_,_,s,h=>some (s,h)
 | o :: os,i,ms,recs,s,h=>
   (match gQ P cls rec ops recs (y8 ms o) i os o s h with
    | some (y,h1)=>cond (y.KF || recs.all fun x=>il x y || (y8 ms o).testBit x.r.j)
      (match s.put o.dst y.r.v with
       | some s1=>Uo P cls rec ops os (i + 1) (ms ++ [y8 ms o]) (y :: recs) s1 h1
       | none=>none) none
    | none=>none)
def body (P:Program) (cls:List Nat) (rec:YZ):Task->za->Option (Out × za)
 | .call f args,h=>(match P.funcs[f]? with
   | none=>none
   | some fn=>(match fn.body with
     | none=>none
     | some c=>(match rec (.code none c (Env.enter args fn.ntmps)) h with
       | some (.ex .normal s1,h1)=>(match qO P s1 h1 fn.results.toList with
         | some vs=>some (.val (jT vs),h1)
         | none=>none)
       | some (.ex .ret s1,h1)=>(match qO P s1 h1 fn.results.toList with
         | some vs=>some (.val (jT vs),h1)
         | none=>none)
       | _=>none)))
 | .code rd c s,h=>(match c with
   | .skip=>some (.ex .normal s,h)
   | .label _=>some (.ex .normal s,h)
   | .exit id=>some (.ex (.exit id) s,h)
   | .ret=>some (.ex .ret s,h)
   | .seq a b=>(match rec (.code rd a s) h with
     | some (.ex .normal s1,h1)=>rec (.code rd b s1) h1
     | r=>r)
   | .cond x a b=>(match jb s x with
     | some (.bool true)=>rec (.code rd a s) h
     | some (.bool false)=>rec (.code rd b s) h
     | _=>none)
   | .block id a=>(match rec (.code rd a s) h with
     | some (.ex (.exit id') s1,h1)=>cond (Nat.beq id' id) (some (.ex .normal s1,h1)) (some (.ex (.exit id') s1,h1))
     | r=>r)
   | .scope a=>rec (.code rd a s) h
   | .loop a=>(match rec (.code rd a s) h with
     | some (.ex .normal s1,h1)=>rec (.code rd (.loop a) s1) h1
     | r=>r)
   | .region _ ops draw=>cond draw
     (cond (YS ops ops.toList 0 [] []) (match Uo P cls rec ops ops.toList 0 [] [] s h with
      | some (s1,h1)=>some (.ex .normal s1,h1)
      | none=>none) none)
     (match UC P cls rec ops ops.toList s h with
      | some (s1,h1)=>some (.ex .normal s1,h1)
      | none=>none)
   | .rangeFunc f params as bd=>(match iO cls rec rd (jb s f) params as bd s h with
     | some (e,h1)=>some (.ex e s,h1)
     | none=>none)
   | _=>none)
def run (P:Program) (cls:List Nat) (n:Nat):YZ:=Nat.rec (fun _ _=>none) (fun _ rec=>body P cls rec) n
end
noncomputable section
variable {P:Program} {cls:List Nat}
theorem j4 {α:Type} (f:Nat->Option α) (j:Nat):∀ (l:List Nat) (t:Tr α),(l.foldl (fun t b=>t.set b (f b)) t).get j=if j ∈ l then f j else t.get j
 | [],t=>by simp
 | b :: l,t=>by
   rw [List.foldl_cons,j4 f j l,Tr.yD]
   by_cases h:j ∈ l
   ·simp [h]
   ·by_cases e:j=b
    ·subst e;simp [h]
    ·simp [h,e]
theorem qb (h:za) (l:List Nat) (b:Nat):(h.pick l).get b=if b ∈ l then h.get b else none:=by
 show (l.foldl (fun t b=>t.set b (h.get b)) Tr.e).get b=_
 rw [j4];rfl
theorem YN (h:za) (l:List Nat) (b:Nat):(h.UP l).get b=if b ∈ l then none else h.get b:=by
 show (l.foldl (fun t b=>t.set b none) h.t).get b=_
 rw [j4 (fun _=>none)];rfl
theorem Qj (h g:za) (l:List Nat) (b:Nat):(h.Lb g l).get b=if b ∈ l then g.get b else h.get b:=by
 show (l.foldl (fun t b=>t.set b (g.get b)) h.t).get b=_
 rw [j4];rfl
theorem Jb (h' h:za) (l:List Nat) (b:Nat):(h'.H7 h l).get b=if b ∈ l then h.get b else h'.get b:=by
 show (l.foldl (fun t b=>t.set b (h.get b)) h'.t).get b=_
 rw [j4];rfl
theorem j9 {a c b:Nat}:b ∈ List.range' a (c - a) ↔ a<=b/\b < c:=by
 rw [List.mem_range'_1];omega
theorem qH (h h2:za) (b:Nat):(qv h h2).get b=if h.next<=b/\b < h2.next then h2.get b else h.get b:=by
 show ((List.range' h.next (h2.next - h.next)).foldl (fun t b=>t.set b (h2.get b)) h.t).get b=_
 rw [j4]
 by_cases hb:h.next<=b/\b < h2.next
 ·rw [Sn (j9.2 hb),Sn hb]
 ·rw [Sl (fun hm=>hb (j9.1 hm)),Sl hb];rfl
theorem TC.fresh {f:FuncId} {args:List Value} {h h2:za} {v:Value} (ht:TC P f args h.lock (fun v1 h1=>v1=v/\h1=h2)):TC P f args h (fun v1 h1=>v1=v/\h1=qv h h2):=by
 intro ρ w cargs hr hv
 refine (ht ρ w cargs hr.lock hv).mono fun e w' => ?_
 rintro ⟨v1,v',h',ρ',e1,⟨rfl,rfl⟩,st,hvv⟩
 have nomine:∀ c,¬ Ju ρ h.lock c:=by
  rintro c ⟨b,o,pl,hg,hro,_⟩
  have h1:h.next<=b:=hro
  have h2:=hr.UL b o hg
  omega
 have hsame:∀ c,c < w.heap.size->w'.heap[c]? = w.heap[c]?:=fun c hc=>st.frame c hc (nomine c)
 have hn:h.next<=h'.next:=by have:=st.le.1;rw [hr.next,st.rel.next] at this;exact this
 have hold:∀ b,b < h.next->ρ'.m b=ρ.m b:=fun b hb=>st.le.2 b (by rw [hr.next];exact hb)
 have cases':∀ b o,(qv h h').get b=some o->(h.next<=b/\b < h'.next/\h'.get b=some o)\/(b < h.next/\h.get b=some o):=by
  intro b o hg
  rw [qH] at hg
  split at hg
  ·rename_i hb;exact .inl ⟨hb.1,hb.2,hg⟩
  ·exact .inr ⟨hr.UL b o hg,hg⟩
 refine ⟨v1,v',qv h h',ρ',e1,⟨rfl,rfl⟩,⟨st.le,⟨st.rel.next,S4 hr.ro hn,?_,?_,?_,hr.cN,st.rel.Z7⟩,rfl,st.os,st.tape,st.output,st.size,fun c hc _=>hsame c hc,?_⟩,hvv⟩
 ·intro b o hg
  rcases cases' b o hg with ⟨_,h2,_⟩ | ⟨h1,_⟩
  ·exact h2
  ·exact Sq h1 hn
 ·intro b o hg
  rcases cases' b _ hg with ⟨h1,h2,h3⟩ | ⟨h1,h3⟩
  ·obtain ⟨pl,hp,hc⟩:=st.rel.ok b o h3
   refine ⟨pl,hp,hc.Fk (fun _ => ?_)⟩
   rw [st.ro];exact decide_eq_true h1
  ·obtain ⟨pl,hp,hc⟩:=hr.ok b o h3
   exact ⟨pl,(hold b h1).trans hp,(hc.mono st.le).other (hsame _ hc.lt)⟩
 ·have key:∀ b1 b2 o1 o2 p1 p2,h.next<=b1->h'.get b1=some o1->b2 < h.next->h.get b2=some o2->ρ'.m b1=some p1->ρ'.m b2=some p2->p1.c=p2.c->False:=by
   intro b1 b2 o1 o2 p1 p2 l1 g1 l2 g2 m1 m2 ec
   obtain ⟨pl,hp,hc⟩:=hr.ok b2 o2 g2
   rw [hold b2 l2,hp] at m2
   cases m2
   have:=st.dY p1.c (by rw [ec];exact hc.lt) ⟨b1,o1,p1,g1,by rw [st.ro];exact l1,m1,rfl⟩
   exact nomine _ this
  intro b1 b2 o1 o2 p1 p2 g1 g2 m1 m2 ec
  rcases cases' b1 o1 g1 with ⟨l1,_,k1⟩ | ⟨l1,k1⟩ <;> rcases cases' b2 o2 g2 with ⟨l2,_,k2⟩ | ⟨l2,k2⟩
  ·exact st.rel.inj b1 b2 o1 o2 p1 p2 k1 k2 m1 m2 ec
  ·exact (key b1 b2 o1 o2 p1 p2 l1 k1 l2 k2 m1 m2 ec).elim
  ·exact (key b2 b1 o2 o1 p2 p1 l2 k2 l1 k1 m2 m1 ec.symm).elim
  ·rw [hold b1 l1] at m1;rw [hold b2 l2] at m2
   exact hr.inj b1 b2 o1 o2 p1 p2 k1 k2 m1 m2 ec
 ·rintro c hc ⟨b,o,pl,hg,hro,hm,rfl⟩
  rcases cases' b o hg with ⟨l1,_,k1⟩ | ⟨l1,k1⟩
  ·exact (nomine _ (st.dY pl.c hc ⟨b,o,pl,k1,by rw [st.ro];exact l1,hm,rfl⟩)).elim
  ·rw [hold b l1] at hm;exact ⟨b,o,pl,k1,hro,hm,rfl⟩
def Z3 (P:Program) (cls:List Nat):Bool:=(List.range cls.length).all fun g=>Nat.beq (cls.getD g 0) 0 || ux P g
theorem Zu {g:FuncId} {k:Nat} (hC:Z3 P cls=true) (h:cls.getD g 0=k + 1):ux P g=true:=by
 simp only [Z3,SV,TE,Tb] at hC
 have hg:g < cls.length:=by
  rcases SC g cls.length with h1 | h1
  ·exact h1
  ·rw [SU,Sr h1] at h;cases h
 rcases hC g hg with h1 | h1
 ·rw [h] at h1;cases h1
 ·exact h1
structure Sound (P:Program) (rec:YZ):Prop where
 code:∀ rd c s h e s' h',rec (.code rd c s) h=some (.ex e s',h')->T P rd c s h (fun e1 s1 h1=>e1=e/\s1=s'/\h1=h')
 call:∀ f args h v h',rec (.call f args) h=some (.val v,h')->TC P f args h (fun v1 h1=>v1=v/\h1=h')
 kind:∀ rd c s h o h',rec (.code rd c s) h=some (o,h')->∃ e s',o = .ex e s'
 RX:∀ f args h o h',rec (.call f args) h=some (o,h')->∃ v,o = .val v
theorem sU {rec:YZ} (S:Sound P rec) (hC:Z3 P cls=true) {g:FuncId} {args:List Value} {h h':za} {v:Value} (he:sS cls rec g args h=some (v,h')) :
  ux P g=true/\TC P g args h (fun v1 h1=>v1=v/\h1=h'):=by
 unfold sS at he
 split at he
 ·rename_i hk
  refine ⟨Zu hC hk,?_⟩
  split at he
  ·rename_i v1 h1 hrec
   simp only [Se,Sh] at he
   obtain ⟨rfl,rfl⟩:=he
   exact S.call _ _ _ _ _ hrec
  ·cases he
 ·rename_i hk
  refine ⟨Zu hC hk,?_⟩
  split at he
  ·rename_i v1 h1 hrec
   obtain ⟨hsc,he⟩:=zv he
   simp only [Se,Sh] at he
   obtain ⟨rfl,rfl⟩:=he
   refine ((S.call _ _ _ _ _ hrec).quiet (fun v2 h2 q=>by rw [q.1];exact hsc)).mono ?_
   rintro v2 h2 ⟨⟨h3,q1,q2⟩,rfl⟩
   exact ⟨q1,rfl⟩
  ·cases he
 ·rename_i hk
  refine ⟨Zu hC hk,?_⟩
  split at he
  ·rename_i v1 h2 hrec
   simp only [Se,Sh] at he
   obtain ⟨rfl,rfl⟩:=he
   exact (S.call _ _ _ _ _ hrec).fresh
  ·cases he
 ·cases he
theorem pR {rec:YZ} (S:Sound P rec) {L:Nat} {args:List Value} {h h':za} {v:Value} (he:iS rec L args h=some (v,h')):TY P L args h (fun v1 h1=>v1=v/\h1=h'):=by
 unfold iS at he
 split at he
 case h_2=>cases he
 rename_i A hg
 split at he
 case h_2=>cases he
 rename_i s0 hs0
 split at he
 case h_2=>cases he
 rename_i s1 h1 hrec
 split at he
 case h_2=>cases he
 rename_i A1 g1
 obtain ⟨hc,he⟩:=zv he
 simp only [Sm] at hc
 split at he
 case h_2=>cases he
 rename_i e s2 h2 hrec2
 split at he
 case h_2=>cases he
 rename_i A2 g2
 obtain ⟨hro,he⟩:=zv he
 simp only [Se,Sh] at he
 obtain ⟨rfl,rfl⟩:=he
 refine Ii hg hs0 ((S.code _ _ _ _ _ _ _ hrec).mono ?_)
 rintro e1 s3 h3 ⟨rfl,rfl,rfl⟩
 refine ⟨rfl,A1,g1,?_,SH hc.2,(S.code _ _ _ _ _ _ _ hrec2).mono ?_⟩
 ·cases hst:A1.state <;> first | rfl | (rw [hst] at hc;cases hc.1)
 ·rintro e1 s3 h3 ⟨rfl,rfl,rfl⟩
  refine ⟨A2,g2,SH hro,?_,rfl⟩
  cases e1 <;> rfl
theorem tL {p:Option Code} {e:Ex} (h:M0 p=some e):Xk e=p:=by
 unfold M0 at h
 split at h <;> first | (simp only [Se] at h;subst h;rfl) | cases h
theorem pO {rec:YZ} (S:Sound P rec) (hC:Z3 P cls=true) {rd:Option Nat} {f:Operand} {params:Array Tmp} {as bd:Code} {s:Env} {h h':za} {e:Ex} (he:iO cls rec rd (jb s f) params as bd s h=some (e,h')) :
  T P rd (.rangeFunc f params as bd) s h (fun e1 s1 h1=>e1=e/\s1=s/\h1=h'):=by
 unfold iO at he
 split at he
 case h_2=>cases he
 rename_i g fa fc hf
 obtain ⟨hc,he⟩:=zv he
 simp only [Sm] at hc
 split at he
 case h_2=>cases he
 rename_i v h1 hrec
 split at he
 case h_2=>cases he
 rename_i A hA
 obtain ⟨hb,he⟩:=zv he
 simp only [Sm] at hb
 split at he
 case h_2=>cases he
 rename_i e1 hex
 simp only [Se,Sh] at he
 obtain ⟨rfl,rfl⟩:=he
 refine dt hf (Zu (k:=0) hC (Sv hc.1)) ?_ ((S.call _ _ _ _ _ hrec).mono ?_)
 ·rintro L rfl
  have:=hc.2
  simp only at this
  split at this
  ·rename_i A0 g0;exact ⟨A0,g0⟩
  ·cases this
 ·rintro v1 h2 ⟨rfl,rfl⟩
  refine ⟨A,hA,?_,SH hb.2,e1,tL hex,rfl,rfl,rfl⟩
  cases hst:A.state <;> first | rfl | (rw [hst] at hb;cases hb.1)
theorem UD {rec:YZ} (S:Sound P rec) (hC:Z3 P cls=true) {ops:Array Oper}:∀ (l:List Oper) (i:Nat) {s s':Env} {h h':za},ops.toList.drop i=l->UC P cls rec ops l s h=some (s',h') ->
  TO P ops (List.range' i l.length) s h (fun s1 h1=>s1=s'/\h1=h')
 | [],i,s,s',h,h',hl,he=>by
   simp only [UC,Se,Sh] at he
   exact Fx ⟨he.1,he.2⟩
 | o :: os,i,s,s',h,h',hl,he=>by
   have ho:ops[i]? = some o:=by
    have:=congrArg (fun l=>l[0]?) hl
    simp only [S5,Si] at this
    simpa using this
   have hl':ops.toList.drop (i + 1)=os:=by rw [<- aat,hl];rfl
   rw [SD,List.range'_succ]
   simp only [UC] at he
   cases hw:yw ops s o with
   | false=>
     rw [hw] at he
     simp only [SK] at he
     split at he
     ·rename_i s1 hp
      exact CE ho hw hp (UD S hC os (i + 1) hl' he)
     ·cases he
   | true=>
     rw [hw] at he
     simp only [SA] at he
     split at he
     ·rename_i v h1 hev
      split at he
      ·rename_i s1 hp
       have hrest:=UD S hC os (i + 1) hl' he
       unfold evalOp at hev
       split at hev
       ·rename_i f args ts yU
        split at hev
        ·rename_i g fa fc vs hf hargs
         cases hk:Nat.beq (cls.getD g 0) 0 with
         | true=>
           rw [hk] at hev
           simp only [SA] at hev
           exact LJ ho hw (by rw [yU];rfl) (fun ρ w a hr hs=>oN yU hf hargs hev hr hs) hp hrest
         | false=>
           rw [hk] at hev
           simp only [SK] at hev
           obtain ⟨h1c,h2c⟩:=sU S hC hev
           exact CC ho hw yU hf hargs h1c h2c (by rintro v2 h2 ⟨rfl,rfl⟩;exact ⟨s1,hp,hrest⟩)
        ·rename_i L fa fc vs hf hargs
         obtain ⟨hz,hev⟩:=zv hev
         simp only [Sm] at hz
         obtain rfl:=W5 hz.1
         obtain rfl:=W5 hz.2
         exact rf ho hw yU hf hargs (pR S hev) (by rintro v2 h2 ⟨rfl,rfl⟩;exact ⟨s1,hp,hrest⟩)
        ·cases hev
       ·exact LL ho hw hev hp hrest
      ·cases he
     ·cases he
end
noncomputable section
variable {P:Program} {cls:List Nat}
structure AF (h h':za):Prop where
 next:h.next<=h'.next
 ro:h'.ro=h.ro
 alive:∀ b o,h'.get b=some o->h.get b ≠ none\/(h.next<=b/\b < h'.next)
theorem AF.refl (h:za):AF h h:=⟨Sp _,rfl,fun b o hb => .inl (by rw [hb];simp)⟩
theorem AF.trans {a b c:za} (h:AF a b) (k:AF b c):AF a c:=by
 refine ⟨S4 h.next k.next,k.ro.trans h.ro,fun x o hx => ?_⟩
 rcases k.alive x o hx with h1 | ⟨h1,h2⟩
 ·obtain ⟨o',ho'⟩:∃ o,b.get x=some o:=by cases hh:b.get x with | none=>exact absurd hh h1 | some o=>exact ⟨o,rfl⟩
  rcases h.alive x o' ho' with h2 | ⟨h2,h3⟩
  ·exact .inl h2
  ·exact .inr ⟨h2,Sq h3 k.next⟩
 ·exact .inr ⟨S4 h.next h1,h2⟩
theorem AF.push (h:za) (o:vi):AF h (h.push o):=⟨TR _,rfl,fun b o' hb=>by
 rw [za.uA] at hb
 split at hb
 ·rename_i e;subst e;exact .inr ⟨Sp _,Tv _⟩
 ·exact .inl (by rw [hb];simp)⟩
theorem AF.UH {h:za} {b:Nat} {o:vi} (hb:h.get b=some o) (x:Option vi):AF h (h.set b x):=⟨Sp _,rfl,fun c o' hc=>by
 rw [za.yD] at hc
 split at hc
 ·rename_i e;subst e;exact .inl (by rw [hb];simp)
 ·exact .inl (by rw [hc];simp)⟩
theorem By {h h':za} {b off:Nat} {new:List Value} (he:Q0 h b off new=some h'):AF h h':=by
 unfold Q0 at he
 cases hz:Nat.beq new.length 0 with
 | true=>rw [hz] at he;simp only [SA,Se] at he;subst he;exact .refl _
 | false=>
   rw [hz] at he
   simp only [SK] at he
   split at he
   ·rename_i hg
    obtain ⟨_,he⟩:=zv he
    simp only [Se] at he
    subst he
    exact .UH hg _
   ·cases he
theorem nn {t:TypeId} {a v:Value} {h h':za} (he:zl P t a v h=some h'):AF h h':=by
 unfold zl at he
 split at he
 ·split at he
  ·cases he
  ·rename_i hg
   split at he
   ·cases he
   ·obtain ⟨_,he⟩:=zv he
    simp only [Se] at he
    subst he
    exact .UH hg _
  ·cases he
 ·cases he
theorem Bm {sT xT:TypeId} {s x v:Value} {h h':za} (he:W1 P sT xT s x h=some (v,h')):AF h h':=by
 unfold W1 at he
 split at he
 case h_2=>cases he
 rename_i elem xd n _ _ _
 split at he
 case h_2=>cases he
 split at he
 case h_2=>cases he
 obtain ⟨_,he⟩:=zv he
 unfold VA at he
 split at he
 ·cases hz:Nat.beq n 0 with
  | true=>rw [hz] at he;simp only [SA,Se,Sh] at he;obtain ⟨_,rfl⟩:=he;exact .refl _
  | false=>
    rw [hz] at he
    obtain ⟨_,he⟩:=zv (show cond _ _ none=_ from he)
    simp only [Se,Sh] at he
    obtain ⟨_,rfl⟩:=he
    exact .push _ _
 ·cases hz:Nat.beq n 0 with
  | true=>rw [hz] at he;simp only [SA,Se,Sh] at he;obtain ⟨_,rfl⟩:=he;exact .refl _
  | false=>
    rw [hz] at he
    simp only [SK] at he
    split at he
    ·rename_i hg
     obtain ⟨_,he⟩:=zv he
     simp only [Se,Sh] at he
     obtain ⟨_,rfl⟩:=he
     exact (AF.UH hg none).trans (.push _ _)
    ·cases he
 ·cases he
theorem Gn {t:TypeId} {d x v:Value} {h h':za} (he:sC P t d x h=some (v,h')):AF h h':=by
 unfold sC at he
 split at he
 case h_2=>cases he
 split at he
 case h_1=>cases he
 split at he
 case h_1=>cases he
 split at he
 ·simp only [Se,Sh] at he;obtain ⟨_,rfl⟩:=he;exact .refl _
 ·simp only [Sw,Sh] at he
  obtain ⟨h2,hs,_,rfl⟩:=he
  exact By hs
 ·cases he
theorem Ec {t:TypeId} {x:Value} {h h':za} (he:gu P t x h=some h'):AF h h':=by
 unfold gu at he
 cases he
theorem lz {t:TypeId} {x k v:Value} {h h':za} (he:k7 P t x k v h=some h'):AF h h':=by
 unfold k7 at he
 split at he
 case h_2=>cases he
 split at he
 case h_2=>cases he
 rename_i hg
 split at he
 case h_2=>cases he
 obtain ⟨_,he⟩:=zv he
 split at he
 ·split at he
  ·obtain ⟨_,he⟩:=zv he
   simp only [Se] at he;subst he;exact .UH hg _
  ·cases he
 ·simp only [Se] at he;subst he;exact .UH hg _
 ·cases he
theorem ly {t:TypeId} {x k:Value} {h h':za} (he:Wt P t x k h=some h'):AF h h':=by
 unfold Wt at he
 cases he
theorem Gv {x v:Value} {str:Bool} {h h':za} (he:ni P x str h=some (v,h')):AF h h':=by
 unfold ni at he
 cases he
def Still (h h':za):Prop:=h'=h \/ ∃ o,h'=h.push o
theorem Still.af {h h':za} (s:Still h h'):AF h h':=by
 rcases s with rfl | ⟨o,rfl⟩
 ·exact .refl _
 ·exact .push _ _
theorem sH {t:TypeId} {l c v:Value} {h h':za} (he:W4 P t l c h=some (v,h')):Still h h':=by
 unfold W4 at he
 split at he
 case h_2=>cases he
 split at he
 case h_1=>cases he
 split at he
 case h_1=>cases he
 obtain ⟨_,he⟩:=zv he
 simp only [Se,Sh] at he
 obtain ⟨_,rfl⟩:=he
 exact .inr ⟨_,rfl⟩
theorem oH {src dst:TypeId} {x v:Value} {h h':za} (he:gx P src dst x h=some (v,h')):Still h h':=by
 unfold gx at he
 split at he
 ·simp only [Se,Sh] at he;obtain ⟨_,rfl⟩:=he;exact .inl rfl
 ·split at he
  ·split at he
   ·simp only [Se,Sh] at he;obtain ⟨_,rfl⟩:=he;exact .inr ⟨_,rfl⟩
   ·cases he
  ·split at he
   ·simp only [Sw,Sh] at he;obtain ⟨_,_,_,rfl⟩:=he;exact .inl rfl
   ·cases he
  ·cases he
theorem sB {src dst:TypeId} {x v:Value} {h h':za} (he:u5 P src dst x h=some (v,h')):Still h h':=by
 unfold u5 at he
 split at he
 ·rename_i r hc
  simp only [Se] at he
  subst he
  exact oH hc
 ·simp only [Sw,Sh] at he;obtain ⟨_,_,_,rfl⟩:=he;exact .inl rfl
theorem MH {pt:TypeId} {p v:Value} {n:Int} {h h':za} (he:Ok P pt p n h=some (v,h')):AF h h':=by
 unfold Ok at he
 split at he
 ·obtain ⟨_,he⟩:=zv he
  simp only [Se,Sh] at he;obtain ⟨_,rfl⟩:=he;exact .refl _
 ·cases hn:decide (n=0) with
  | true=>rw [hn] at he;simp only [SA,Se,Sh] at he;obtain ⟨_,rfl⟩:=he;exact .refl _
  | false=>
    rw [hn] at he
    simp only [SK] at he
    split at he
    case h_2=>cases he
    rename_i hg
    split at he
    case h_2=>cases he
    obtain ⟨_,he⟩:=zv he
    simp only [Se,Sh] at he;obtain ⟨_,rfl⟩:=he;exact .UH hg _
 ·cases he
theorem JO {t:TypeId} {n:Nat} {ps:List (Nat × Value)} {v:Value} {h h':za} (he:xU P t n ps h=some (v,h')):Still h h':=by
 unfold xU at he
 split at he
 case h_2=>cases he
 split at he
 case h_2=>cases he
 obtain ⟨_,he⟩:=zv he
 split at he
 case h_2=>cases he
 obtain ⟨_,he⟩:=zv he
 simp only [Se,Sh] at he
 obtain ⟨_,rfl⟩:=he
 exact .inr ⟨_,rfl⟩
theorem uR {x:Option Value} {v:Value} {h h':za} (he:one h x=some (v,h')):Still h h' := .inl (vM he).2
theorem su {b:Builtin} {ts:List TypeId} {r:TypeId} {vs:List Value} {v:Value} {h h':za} (he:zn P b ts r vs h=some (v,h')):AF h h':=by
 unfold zn at he
 split at he
 ·exact Bm he
 ·exact Gn he
 ·simp only [Sw,Sh] at he;obtain ⟨_,_,_,rfl⟩:=he;exact .refl _
 ·simp only [Sw,Sh] at he;obtain ⟨_,hc,_,rfl⟩:=he;exact Ec hc
 ·obtain ⟨_,he⟩:=zv he;simp only [Sw,Sh] at he;obtain ⟨_,_,_,rfl⟩:=he;exact .refl _
 ·obtain ⟨_,he⟩:=zv he;simp only [Sw,Sh] at he;obtain ⟨_,_,_,rfl⟩:=he;exact .refl _
 ·simp only [Sw,Sh] at he;obtain ⟨_,hc,_,rfl⟩:=he;exact ly hc
 ·simp only [Sw,Sh] at he;obtain ⟨_,_,_,rfl⟩:=he;exact .refl _
 ·simp only [Sw,Sh] at he;obtain ⟨_,_,_,rfl⟩:=he;exact .refl _
 ·exact MH he
 ·cases he
theorem oT {t:TypeId} {x v:Value} {h h':za} (he:cG P t x h=some (v,h')):Still h h':=by
 unfold cG at he
 cases he
theorem U8 {b:Builtin} {ts:List TypeId} {r:TypeId} {vs:List Value} {v:Value} {h h':za} (hq:XX b=true) (he:zn P b ts r vs h=some (v,h')):h'=h:=by
 unfold zn at he
 split at he <;> first
  | (simp [XX] at hq;done)
  | (simp only [Sw,Sh] at he;obtain ⟨_,_,_,rfl⟩:=he;rfl)
  | (obtain ⟨_,he⟩:=zv he;simp only [Sw,Sh] at he;obtain ⟨_,_,_,rfl⟩:=he;rfl)
  | cases he
theorem Xb {g:FuncId} {args:List Value} {v:Value} {h h':za} (he:oM P g args h=some (v,h')):Still h h':=by
 unfold oM at he
 split at he
 ·rename_i r hn
  simp only [Se] at he
  subst he
  unfold Dg at hn
  split at hn
  case h_2=>cases hn
  obtain ⟨_,hn⟩:=zv hn
  split at hn
  case h_2=>cases hn
  simp only [Se,Sh] at hn
  obtain ⟨_,rfl⟩:=hn
  exact .inl rfl
 ·unfold iF at he
  split at he
  case h_2=>cases he
  obtain ⟨_,he⟩:=zv he
  split at he
  case h_2=>cases he
  split at he
  case h_2=>cases he
  obtain ⟨_,he⟩:=zv he
  simp only [Se,Sh] at he
  obtain ⟨_,rfl⟩:=he
  exact .inr ⟨_,rfl⟩
theorem Yv {s:Env} {o:Oper} {v:Value} {h h':za} (he:Kz P s o h=some (v,h')):AF h h'/\(Xr o.op=false->Still h h'):=by
 unfold Kz at he
 split at he <;> rename_i yU
 ·have:=uR he;exact ⟨this.af,fun _=>this⟩
 ·have:=uR he;exact ⟨this.af,fun _=>this⟩
 ·split at he
  ·have:=uR he;exact ⟨this.af,fun _=>this⟩
  ·have:=uR he;exact ⟨this.af,fun _=>this⟩
  ·cases he
 ·split at he
  ·simp only [Se,lG,Sh] at he;obtain ⟨_,rfl⟩:=he;exact ⟨.push _ _,fun _ => .inr ⟨_,rfl⟩⟩
  ·cases he
 ·split at he
  ·simp only [Se,lG,Sh] at he;obtain ⟨_,rfl⟩:=he;exact ⟨.push _ _,fun _ => .inr ⟨_,rfl⟩⟩
  ·cases he
 ·split at he
  ·have:=uR he;exact ⟨this.af,fun _=>this⟩
  ·cases he
 ·split at he
  ·have:=JO he;exact ⟨this.af,fun _=>this⟩
  ·cases he
 ·split at he
  ·have:=uR he;exact ⟨this.af,fun _=>this⟩
  ·cases he
 ·split at he
  ·split at he
   ·rename_i hs
    simp only [Se,Sh] at he
    obtain ⟨_,rfl⟩:=he
    exact ⟨nn hs,fun hw=>by rw [yU] at hw;cases hw⟩
   ·cases he
  ·cases he
 ·split at he
  ·simp only [Se,Sh] at he;obtain ⟨_,rfl⟩:=he;exact ⟨.refl _,fun _ => .inl rfl⟩
  ·simp only [Se,Sh] at he;obtain ⟨_,rfl⟩:=he;exact ⟨.refl _,fun _ => .inl rfl⟩
  ·cases he
 ·split at he
  ·have:=uR he;exact ⟨this.af,fun _=>this⟩
  ·cases he
 ·split at he
  ·obtain ⟨_,he⟩:=zv he;have:=uR he;exact ⟨this.af,fun _=>this⟩
  ·cases he
 ·split at he
  ·have:=sB he;exact ⟨this.af,fun _=>this⟩
  ·cases he
 ·split at he
  ·split at he
   ·simp only [Se,Sh] at he;obtain ⟨_,rfl⟩:=he;exact ⟨.refl _,fun _ => .inl rfl⟩
   ·cases he
  ·cases he
 ·split at he
  ·simp only [Se,Sh] at he;obtain ⟨_,rfl⟩:=he;exact ⟨.refl _,fun _ => .inl rfl⟩
  ·cases he
 ·split at he
  ·have:=sH he;exact ⟨this.af,fun _=>this⟩
  ·cases he
 ·split at he
  ·split at he
   ·simp only [Se,Sh] at he;obtain ⟨_,rfl⟩:=he;exact ⟨.refl _,fun _ => .inl rfl⟩
   ·cases he
  ·have:=uR he;exact ⟨this.af,fun _=>this⟩
  ·cases he
 ·split at he
  ·have:=uR he;exact ⟨this.af,fun _=>this⟩
  ·cases he
 ·split at he
  ·split at he
   ·split at he
    ·have:=uR he;exact ⟨this.af,fun _=>this⟩
    ·cases he
   ·cases he
  ·cases he
 ·split at he
  ·have:=uR he;exact ⟨this.af,fun _=>this⟩
  ·cases he
 ·split at he
  ·obtain ⟨_,he⟩:=zv he;have:=uR he;exact ⟨this.af,fun _=>this⟩
  ·cases he
 ·split at he
  ·have:=uR he;exact ⟨this.af,fun _=>this⟩
  ·cases he
 ·split at he
  ·refine ⟨su he,fun hw => ?_⟩
   rw [yU] at hw
   simp only [Xr,Bool.not_eq_false'] at hw
   exact .inl (U8 hw he)
  ·cases he
 ·simp only [Se,vL,Sh] at he;obtain ⟨_,rfl⟩:=he;exact ⟨.push _ _,fun _ => .inr ⟨_,rfl⟩⟩
 ·split at he
  ·have:=uR he;exact ⟨this.af,fun _=>this⟩
  ·cases he
 ·split at he
  ·split at he
   ·rename_i hu
    simp only [Se,Sh] at he
    obtain ⟨_,rfl⟩:=he
    exact ⟨lz hu,fun hw=>by rw [yU] at hw;cases hw⟩
   ·cases he
  ·cases he
 ·split at he
  ·have:=oT he;exact ⟨this.af,fun _=>this⟩
  ·cases he
 ·split at he
  ·exact ⟨Gv he,fun hw=>by rw [yU] at hw;cases hw⟩
  ·cases he
 ·split at he
  ·have:=uR he;exact ⟨this.af,fun _=>this⟩
  ·cases he
 ·cases he
end
end Go.Ai
