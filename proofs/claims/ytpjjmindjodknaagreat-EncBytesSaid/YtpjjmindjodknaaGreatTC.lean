import Derived.Test.YtpjjmindjodknaaGreatTB
import Derived.Orders
set_option linter.unusedVariables false
set_option linter.unusedSimpArgs false
set_option maxRecDepth 100000
namespace Go.Ai
noncomputable section
variable {P:Program}
theorem ZR {s s':Env}:∀ {xs:List Operand},(∀ x,x ∈ xs->qI s x=qI s' x)->X5 s xs=X5 s' xs
 | [],_=>rfl
 | x :: xs,h=>by simp only [X5];rw [h x (by simp),ZR (fun y hy=>h y (by simp [hy]))]
theorem WN {s s':Env}:∀ {ps:List (Nat × Operand)},(∀ x,x ∈ ps->qI s x.2=qI s' x.2)->YY s ps=YY s' ps
 | [],_=>rfl
 | (i,x) :: ps,h=>by simp only [YY];rw [h (i,x) (by simp),WN (fun y hy=>h y (by simp [hy]))]
theorem BT {s s':Env} {o:Oper} {g:za} (h:∀ x,x ∈ o.op.operands->qI s x=qI s' x):VL P s o g=VL P s' o g:=by
 obtain ⟨dst,op,type,pos,after,guard⟩:=o
 have one:∀ x,x ∈ op.operands->qI s x=qI s' x:=h
 have opt:∀ x:Option Operand,(∀ y,x=some y->y ∈ op.operands)->gd s x=gd s' x:=by
  intro x hx
  cases x with
  | none=>rfl
  | some y=>simp only [gd];rw [one y (hx y rfl)]
 unfold VL
 cases op <;> simp only [] <;> first
  | rfl
  | (rw [one _ (by simp [Op.operands])];done)
  | (rw [one _ (by simp [Op.operands]),one _ (by simp [Op.operands])];done)
  | skip
 case pick c a b=>rw [one c (by simp [Op.operands]),one a (by simp [Op.operands]),one b (by simp [Op.operands])]
 case build t parts=>rw [WN (fun x hx=>one _ (by simp only [Op.operands,List.mem_toArray,OJ];exact ⟨x,hx,rfl⟩))]
 case buildSlice t n parts=>rw [WN (fun x hx=>one _ (by simp only [Op.operands,List.mem_toArray,OJ];exact ⟨x,hx,rfl⟩))]
 case makeFunc fn first captured=>
  cases fn <;> simp only []
  rw [ZR (s:=s) (s':=s') (xs:=first.toList) (fun x hx=>one x (by simp [Op.operands];exact .inl (by simpa using hx))),ZR (s:=s) (s':=s') (xs:=captured.toList) (fun x hx=>one x (by simp [Op.operands];exact .inr (by simpa using hx)))]
 case slice t x lo hi mx=>
  cases mx <;> simp only []
  rw [one x (by simp [Op.operands]),opt lo (fun y e=>by subst e;simp [Op.operands]),opt hi (fun y e=>by subst e;simp [Op.operands])]
 case makeMap t r=>cases r <;> rfl
 case mapUpdate t m k x=>rw [one m (by simp [Op.operands]),one k (by simp [Op.operands]),one x (by simp [Op.operands])]
 case call c=>
  obtain ⟨callee,args,ts⟩:=c
  cases callee <;> simp only []
  rw [ZR (s:=s) (s':=s') (fun x hx=>one x (by simp [Op.operands,Call.operands];simpa using hx))]
def Env.only (s:Env) (l:List Nat):Env:={ t:=l.foldl (fun t i=>t.set i (some (s.get i))) .e,size:=s.size }
theorem Env.Ea (s:Env) (l:List Nat) (i:Nat):(s.only l).get i=if i ∈ l then s.get i else undef:=by
 have key:∀ (l:List Nat) (t:Tr Value),(l.foldl (fun t i=>t.set i (some (s.get i))) t).get i=if i ∈ l then some (s.get i) else t.get i:=by
  intro l
  induction l with
  | nil=>intro t;simp
  | cons j l ih=>
    intro t
    rw [List.foldl_cons,ih,Tr.yj]
    by_cases hi:i ∈ l
    ·simp [hi]
    ·by_cases e:i=j
     ·subst e;simp [hi]
     ·simp [hi,e]
 have:=key l .e
 simp only [Env.get_eq,Env.only] at this ⊢
 rw [this]
 split <;> simp
theorem lN {s s':Env} {ops:Array Oper} {o:Oper} (h:∀ t,t ∈ o.looksAt ops->s.get t=s'.get t):∀ x,x ∈ o.op.operands->qI s x=qI s' x:=by
 intro x hx
 cases x with
 | tmp t=>
   simp only [qI]
   rw [h t (by simp only [Oper.looksAt,Om,List.mem_filterMap];exact .inl ⟨.tmp t,by simpa using hx,rfl⟩)]
 | _=>rfl
theorem XP {tm tm':Array Value} {ds:List Deferred} {ops:Array Oper} {o:Oper} (h:∀ t,t ∈ o.looksAt ops->tm.getD t undef=tm'.getD t undef):∀ x,x ∈ o.op.operands->Act.eval ⟨tm,ds⟩ x=Act.eval ⟨tm',ds⟩ x:=by
 intro x hx
 cases x with
 | tmp t=>exact h t (by simp only [Oper.looksAt,Om,List.mem_filterMap];exact .inl ⟨.tmp t,by simpa using hx,rfl⟩)
 | _=>rfl
theorem gh {s s':Env} {ops:Array Oper} {o:Oper} (h:∀ t,t ∈ o.looksAt ops->s.get t=s'.get t):yi ops s o=yi ops s' o:=by
 unfold yi
 split
 ·rfl
 ·rename_i j want e
  split
  ·rfl
  ·rename_i d hd
   rw [h d (by simp only [Oper.looksAt,Om];right;rw [e];simp [hd])]
def kP (P:Program) (ops:Array Oper) (s:Env) (o:Oper) (g:za) (v:Value) (g':za):Prop :=
 (yi ops s o=false/\v=undef/\g'=g) \/
 (yi ops s o=true/\(VL P s o g=some (v,g') \/
  (∃ f cargs ts fid fa fc vs,o.op = .call { callee := .value f,args:=cargs,argTypes:=ts } /\ qI s f=some (.func (.func fid) fa fc)/\X5 s cargs.toList=some vs/\vL P fid=true /\
   TC P fid (fa.toList ++ vs ++ fc.toList) g (fun v1 h1=>v1=v/\h1=g')) \/
  (∃ f cargs ts fid fa fc vs,o.op = .call { callee := .value f,args:=cargs,argTypes:=ts } /\ qI s f=some (.func (.func fid) fa fc)/\X5 s cargs.toList=some vs/\lO P fid (fa.toList ++ vs ++ fc.toList) g=some (v,g'))))
theorem kP.congr {ops:Array Oper} {s s':Env} {o:Oper} {g g':za} {v:Value} (hs:kP P ops s o g v g') (h:∀ t,t ∈ o.looksAt ops->s.get t=s'.get t):kP P ops s' o g v g':=by
 have e1:=lN h
 unfold kP at *
 rw [<- gh h]
 rcases hs with hs | ⟨hw,hs | ⟨f,cargs,ts,fid,fa,fc,vs,h1,h2,h3,h4,h5⟩ | ⟨f,cargs,ts,fid,fa,fc,vs,h1,h2,h3,h4⟩⟩
 ·exact .inl hs
 ·exact .inr ⟨hw,.inl (by rw [<- BT e1];exact hs)⟩
 ·refine .inr ⟨hw,.inr (.inl ⟨f,cargs,ts,fid,fa,fc,vs,h1,?_,?_,h4,h5⟩)⟩
  ·rw [<- e1 f (by rw [h1];simp [Op.operands,Call.operands])];exact h2
  ·rw [<- ZR (s:=s) (s':=s') (xs:=cargs.toList) (fun x hx=>e1 x (by rw [h1];simp only [Op.operands,Call.operands];simp;right;simpa using hx))];exact h3
 ·refine .inr ⟨hw,.inr (.inr ⟨f,cargs,ts,fid,fa,fc,vs,h1,?_,?_,h4⟩)⟩
  ·rw [<- e1 f (by rw [h1];simp [Op.operands,Call.operands])];exact h2
  ·rw [<- ZR (s:=s) (s':=s') (xs:=cargs.toList) (fun x hx=>e1 x (by rw [h1];simp only [Op.operands,Call.operands];simp;right;simpa using hx))];exact h3
theorem VZ {ops:Array Oper} {s:Env} {o:Oper} {g g':za} {v:Value} {j:Nat} {ρ:yY} {w:World} {tm:Array Value} (ho:ops[j]? = some o) (hsem:kP P ops s o g v g') (hr:Rel P ρ g w)
  (hsz:s.size=tm.size) (hl:∀ t,t ∈ o.looksAt ops->zD ρ (s.get t) (tm.getD t undef)) (ds:List Deferred) (rest:List Nat) (b:Frame) (k:List Item) (cs:List Frame) :
  ∃ v' w' ρ',Step P ρ g w ρ' g' w'/\zD ρ' v v' /\
    Steps P (lone (wW b tm ds (.inRegion ops (j :: rest) :: k)) cs w) (lone (wW b (uw tm o.dst v') ds (.inRegion ops rest :: k)) cs w'):=by
 let L:=o.looksAt ops
 let s2:=s.only L
 let tm2:Array Value:=(Array.range tm.size).map fun t=>if t ∈ L then tm.getD t undef else undef
 have hg2:∀ t,s2.get t=if t ∈ L then s.get t else undef:=Env.Ea s L
 have ht2:∀ t,t ∈ L->tm2.getD t undef=tm.getD t undef:=by
  intro t ht
  simp only [tm2,NS,Array.getElem?_map]
  by_cases hlt:t < tm.size
  ·rw [Array.getElem?_range,NK hlt];simp [ht]
  ·rw [Array.getElem?_range,NJ hlt];simp [N3 (Px hlt)]
 have ht2':∀ t,t ∉ L->tm2.getD t undef=undef:=by
  intro t ht
  simp only [tm2,NS,Array.getElem?_map]
  by_cases hlt:t < tm.size
  ·rw [Array.getElem?_range,NK hlt];simp [ht]
  ·rw [Array.getElem?_range,NJ hlt];rfl
 have hs2:vd ρ s2 tm2:=by
  refine ⟨by show s.size=_;simp [tm2,hsz],fun t => ?_⟩
  rw [hg2]
  by_cases ht:t ∈ L
  ·rw [NK ht,ht2 t ht];exact hl t ht
  ·rw [NJ ht,ht2' t ht];exact .jj ρ rfl
 have hsem2:kP P ops s2 o g v g':=hsem.congr (fun t ht=>by rw [hg2,NK ht])
 have hwant:Region.wanted o (yielded ops tm)=yi ops s2 o:=by
  rw [<- ZU hs2 ops o]
  unfold Region.wanted
  cases hgd:o.guard with
  | none=>rfl
  | some gw=>
    obtain ⟨q,want⟩:=gw
    simp only []
    have:yielded ops tm q=yielded ops tm2 q:=by
     unfold yielded
     cases hd:(ops[q]?).bind (·.dst) with
     | none=>rfl
     | some d=>
       have hdl:d ∈ L:=by simp only [L,Oper.looksAt,Om];right;rw [hgd];simp [hd]
       simp only [OR]
       have e:=ht2 d hdl
       simp only [NS] at e
       have Ag:tm2.size=tm.size:=by simp [tm2]
       by_cases hlt:d < tm.size
       ·rw [N4 hlt,N4 (Ag ▸ hlt)] at e ⊢
        simp only [Pc] at e
        rw [e]
       ·rw [N3 (Px hlt),N3 (by rw [Ag];exact Px hlt)]
    rw [this]
 rcases hsem2 with ⟨hw,rfl,rfl⟩ | ⟨hw,hs | ⟨f,cargs,ts,fid,fa,fc,vs,h1,h2,h3,h4,h5⟩ | ⟨f,cargs,ts,fid,fa,fc,vs,h1,h2,h3,h4⟩⟩
 ·refine ⟨undef,w,ρ,.refl hr,.jj ρ rfl,.one ?_⟩
  rw [Qb (by rw [ho];exact hwant.trans hw),kB,ho]
  rfl
 ·obtain ⟨n,w1,ρ1,v',e,hn,st,hv⟩:=il (a:=⟨tm2,[]⟩) hs hr hs2
  refine ⟨v',w1,ρ1,st,hv,.one ?_⟩
  have hnd:=Xa hs
  have hnsel:∀ cs' b',o.op ≠ .select cs' b':=by intro cs' b' e;unfold VL at hs;rw [e] at hs;cases hs
  have e':(execOp (Act.eval ⟨tm,ds⟩) o).run P w = .ok n w1:=by
   rw [<- e]
   congr 1
   refine execOp_congr o hnsel (fun x hx => ?_)
   exact (XP (ds:=ds) (fun t ht=>(ht2 t ht).symm) x hx).trans (by cases x <;> rfl)
  have hfin:(wW b tm ds (.inRegion ops (j :: rest) :: k)).finish v'=wW b (uw tm o.dst v') ds (.inRegion ops rest :: k):=by rw [kB,ho];rfl
  rw [<- hfin]
  rcases hn with rfl | ⟨rfl,rfl⟩
  ·exact Zx ho (hwant.trans hw) hnd e'
  ·exact Z1 ho (hwant.trans hw) hnd e'
 ·have e1:=zO (a:=⟨tm2,[]⟩) hs2 h2
  have e2:=kA (a:=⟨tm2,[]⟩) hs2 h3
  have hlook:∀ (ds:List Deferred) x,x ∈ o.op.operands->Act.eval ⟨tm2,[]⟩ x=Act.eval ⟨tm,ds⟩ x:=fun ds x hx=>
   (show Act.eval ⟨tm2,[]⟩ x=Act.eval ⟨tm2,ds⟩ x by cases x <;> rfl).trans (XP (ds:=ds) (fun t ht=>ht2 t ht) x hx)
  generalize hfv:Act.eval ⟨tm2,[]⟩ f=fv at e1
  cases e1 with
  | func ha hcs q1 q2=>
    rename_i fa' fc'
    let full:=fa'.toList ++ cargs.toList.map (Act.eval ⟨tm2,[]⟩) ++ fc'.toList
    have hfull:xD ρ (fa.toList ++ vs ++ fc.toList) full :=
     (xD.append ⟨by simpa using ha,fun i x y hx hy=>q1 i x y (by simpa using hx) (by simpa using hy)⟩ e2).append ⟨by simpa using hcs,fun i x y hx hy=>q2 i x y (by simpa using hx) (by simpa using hy)⟩
    have hrun:(execOp (Act.eval ⟨tm,ds⟩) o).run P w = .ok (.enter fid full.toArray) w:=by
     have hnsel:∀ cs' b',o.op ≠ .select cs' b':=by intro cs' b' e;rw [h1] at e;cases e
     rw [<- execOp_congr o hnsel (hlook ds)]
     have hargs':fa' ++ cargs.map (Act.eval ⟨tm2,[]⟩) ++ fc'=full.toArray:=by apply Pn;simp [full]
     simp only [execOp,h1,resolve,hfv,Deferred.ofValue,NF,NI,NA,invoke,callFunc,run_program,hargs']
     unfold vL at h4
     cases hfn:P.funcs[fid]? with
     | none=>rw [hfn] at h4;cases h4
     | some fn=>
       rw [hfn] at h4
       simp only [ND,NN] at h4
       simp only [h4.2,On,Oo]
       rw [NJ (by cases hb:fn.body <;> simp_all)]
       rfl
    obtain ⟨e,w1,fr,⟨v0,v',h',ρ',rfl,⟨rfl,rfl⟩,st,hv⟩,hcomes,_,hleave⟩:=h5 ρ w full hr hfull (wW b tm ds (.inRegion ops (j :: rest) :: k) :: cs)
    refine ⟨v',w1,ρ',st,hv,.head (VR ho (hwant.trans hw) (by rw [h1];rfl) hrun) (Pf hcomes (.one ?_))⟩
    rw [step_leave_returned hleave,kB,ho]
    rfl
 ·obtain ⟨n,w1,ρ1,v',e,hn,st,hv⟩:=lP (a:=⟨tm2,[]⟩) h1 h2 h3 h4 hr hs2
  refine ⟨v',w1,ρ1,st,hv,.one ?_⟩
  have hnd:Z3 o.op=false:=by rw [h1];rfl
  have hnsel:∀ cs' b',o.op ≠ .select cs' b':=by intro cs' b' e;rw [h1] at e;cases e
  have e':(execOp (Act.eval ⟨tm,ds⟩) o).run P w = .ok n w1:=by
   rw [<- e]
   congr 1
   refine execOp_congr o hnsel (fun x hx => ?_)
   exact (XP (ds:=ds) (fun t ht=>(ht2 t ht).symm) x hx).trans (by cases x <;> rfl)
  have hfin:(wW b tm ds (.inRegion ops (j :: rest) :: k)).finish v'=wW b (uw tm o.dst v') ds (.inRegion ops rest :: k):=by rw [kB,ho];rfl
  rw [<- hfin]
  rcases hn with rfl | ⟨rfl,rfl⟩
  ·exact Zx ho (hwant.trans hw) hnd e'
  ·exact Z1 ho (hwant.trans hw) hnd e'
end
noncomputable section
variable {P:Program}
def yY.cut (ρ:yY) (n:Nat):yY:={ ρ with next:=n }
theorem zD.ext {ρ ρ':yY} (hn:ρ.next<=ρ'.next) (hm:∀ b pl,b < ρ.next->ρ.m b=some pl->ρ'.m b=some pl) {v v':Value} (h:zD ρ v v'):zD ρ' v v':=by
 induction h with
 | mL h=>exact .mL h
 | bool b=>exact .bool b
 | int k n=>exact .int k n
 | float k n=>exact .float k n
 | string s=>exact .string s
 | ptrNil=>exact .ptrNil
 | ptr hb hm0=>exact .ptr (NH hb hn) (hm _ _ hb hm0)
 | jV=>exact .jV
 | sliceNil c=>exact .sliceNil c
 | slice hb hm0 hl hc=>exact .slice (NH hb hn) (hm _ _ hb hm0) hl hc
 | sliceOut hb hc=>exact .sliceOut (NH hb hn) hc
 | nilFunc=>exact .nilFunc
 | nilIface=>exact .nilIface
 | mapNil=>exact .mapNil
 | map hb hm0=>exact .map (NH hb hn) (hm _ _ hb hm0)
 | yield hb hm0=>exact .yield (NH hb hn) (hm _ _ hb hm0)
 | iface _ ih=>exact .iface ih
 | func ha hc _ _ ih ih'=>exact .func ha hc ih ih'
 | agg ha _ ih=>exact .agg ha ih
 | tuple ha _ ih=>exact .tuple ha ih
theorem zD.down {ρ ρ2:yY} (hm:∀ b,b < ρ.next->ρ2.m b=ρ.m b) {v v':Value} (h:zD ρ v v'):∀ {u:Value},zD ρ2 v u->zD ρ v u:=by
 induction h with
 | mL h=>intro u hu;cases hu with | mL h2=>exact .mL h2
 | bool b=>intro u hu;cases hu;exact .bool b
 | int k n=>intro u hu;cases hu;exact .int k n
 | float k n=>intro u hu;cases hu;exact .float k n
 | string s=>intro u hu;cases hu;exact .string s
 | ptrNil=>intro u hu;cases hu;exact .ptrNil
 | ptr hb hm0=>intro u hu;cases hu with | ptr hb2 hm2=>exact .ptr hb ((hm _ hb).symm.trans hm2)
 | jV=>intro u hu;cases hu;exact .jV
 | sliceNil c=>intro u hu;cases hu;exact .sliceNil c
 | slice hb hm0 hl hc=>
   intro u hu
   cases hu with
   | slice hb2 hm2 hl2 hc2=>exact .slice hb ((hm _ hb).symm.trans hm2) hl2 hc2
   | sliceOut hb2 hc2=>exact .sliceOut hb hc2
 | sliceOut hb hc=>
   intro u hu
   cases hu with
   | slice hb2 hm2 hl2 hc2=>exact .slice hb ((hm _ hb).symm.trans hm2) hl2 hc2
   | sliceOut hb2 hc2=>exact .sliceOut hb hc2
 | nilFunc=>intro u hu;cases hu;exact .nilFunc
 | nilIface=>intro u hu;cases hu;exact .nilIface
 | mapNil=>intro u hu;cases hu;exact .mapNil
 | map hb hm0=>intro u hu;cases hu with | map hb2 hm2=>exact .map hb ((hm _ hb).symm.trans hm2)
 | yield hb hm0=>intro u hu;cases hu with | yield hb2 hm2=>exact .yield hb ((hm _ hb).symm.trans hm2)
 | iface _ ih=>intro u hu;cases hu with | iface h2=>exact .iface (ih h2)
 | func ha hc h1 h2 ih ih'=>
   rename_i f a c a' c'
   intro u hu
   cases hu with
   | func ha2 hc2 k1 k2=>
     refine .func ha2 hc2 (fun i x y hx hy => ?_) (fun i x y hx hy => ?_)
     ·obtain ⟨z,hz⟩:∃ z,a'[i]? = some z:=by
       have hlt:i < a.size:=by
        rcases NZ i a.size with h | h
        ·exact h
        ·rw [N3 h] at hx;cases hx
       exact ⟨_,N4 (ha ▸ hlt)⟩
      exact ih i x z hx hz (k1 i x y hx hy)
     ·obtain ⟨z,hz⟩:∃ z,c'[i]? = some z:=by
       have hlt:i < c.size:=by
        rcases NZ i c.size with h | h
        ·exact h
        ·rw [N3 h] at hx;cases hx
       exact ⟨_,N4 (hc ▸ hlt)⟩
      exact ih' i x z hx hz (k2 i x y hx hy)
 | agg ha h1 ih=>
   rename_i a a'
   intro u hu
   cases hu with
   | agg ha2 k1=>
     refine .agg ha2 (fun i x y hx hy => ?_)
     obtain ⟨z,hz⟩:∃ z,a'[i]? = some z:=by
      have hlt:i < a.size:=by
       rcases NZ i a.size with h | h
       ·exact h
       ·rw [N3 h] at hx;cases hx
      exact ⟨_,N4 (ha ▸ hlt)⟩
     exact ih i x z hx hz (k1 i x y hx hy)
 | tuple ha h1 ih=>
   rename_i a a'
   intro u hu
   cases hu with
   | tuple ha2 k1=>
     refine .tuple ha2 (fun i x y hx hy => ?_)
     obtain ⟨z,hz⟩:∃ z,a'[i]? = some z:=by
      have hlt:i < a.size:=by
       rcases NZ i a.size with h | h
       ·exact h
       ·rw [N3 h] at hx;cases hx
      exact ⟨_,N4 (ha ▸ hlt)⟩
     exact ih i x z hx hz (k1 i x y hx hy)
theorem y4.ext {ρ ρ':yY} (hn:ρ.next<=ρ'.next) (hm:∀ b pl,b < ρ.next->ρ.m b=some pl->ρ'.m b=some pl) {wr:Bool} {c:List Value} {t:TypeId} {pl:Place} {w:World} (hc:y4 P ρ wr c t pl w):y4 P ρ' wr c t pl w:=by
 obtain ⟨cs,fz,h1,h2,h3,h4,h5,h6⟩:=hc
 exact ⟨cs,fz,h1,h2,h3,h4,h5,fun i x hx=>by obtain ⟨y,hy,hv⟩:=h6 i x hx;exact ⟨y,hy,hv.ext hn hm⟩⟩
theorem y4.down {ρ ρ2:yY} (hm:∀ b,b < ρ.next->ρ2.m b=ρ.m b) {wr wr2:Bool} {c:List Value} {t:TypeId} {pl:Place} {w w2:World} (h:y4 P ρ wr c t pl w) (h2:y4 P ρ2 wr2 c t pl w2):y4 P ρ wr2 c t pl w2:=by
 obtain ⟨cs,fz,a1,a2,a3,a4,a5,a6⟩:=h
 obtain ⟨cs2,fz2,b1,b2,b3,b4,b5,b6⟩:=h2
 exact ⟨cs2,fz2,b1,b2,b3,b4,b5,fun i x hx=>by
  obtain ⟨y,hy,hv⟩:=a6 i x hx
  obtain ⟨y2,hy2,hv2⟩:=b6 i x hx
  exact ⟨y2,hy2,hv.down hm hv2⟩⟩
theorem vo.ext {ρ ρ':yY} (hn:ρ.next<=ρ'.next) (hm:∀ b pl,b < ρ.next->ρ.m b=some pl->ρ'.m b=some pl) {wr:Bool} {o:wi} {pl:Place} {w:World} (hc:vo P ρ wr o pl w):vo P ρ' wr o pl w:=by
 cases o with
 | cells c t=>exact y4.ext hn hm hc
 | map es q=>obtain ⟨ms,h1,h2,h3⟩:=hc;exact ⟨ms,h1,h2,fun i x m hx hm0=>⟨(h3 i x m hx hm0).1.ext hn hm,(h3 i x m hx hm0).2.1.ext hn hm,(h3 i x m hx hm0).2.2⟩⟩
 | iter m a b c=>obtain ⟨m',h1,h0,h2⟩:=hc;exact ⟨m',h1,h0,h2.ext hn hm⟩
 | tab c=>obtain ⟨t,h1⟩:=hc;exact ⟨t,y4.ext hn hm h1⟩
 | siter s pos=>exact hc
 | loop l=>obtain ⟨tm,d,fn,h1,h2⟩:=hc;exact ⟨tm,d,fn,h1,h2.size,fun i=>(h2.get i).ext hn hm⟩
theorem vo.down {ρ ρ2:yY} (hm:∀ b,b < ρ.next->ρ2.m b=ρ.m b) {wr wr2:Bool} {o:wi} {pl:Place} {w w2:World} (h:vo P ρ wr o pl w) (h2:vo P ρ2 wr2 o pl w2):vo P ρ wr2 o pl w2:=by
 cases o with
 | cells c t=>exact y4.down hm h h2
 | iter m a b c=>
   obtain ⟨m1,a1,_,a2⟩:=h
   obtain ⟨m2,b1,b0,b2⟩:=h2
   exact ⟨m2,b1,b0,a2.down hm b2⟩
 | siter s pos=>exact h2
 | tab c=>
   obtain ⟨t,cs,fz,a1,a2,a3,a4,a5,a6⟩:=h
   obtain ⟨t2,cs2,fz2,b1,b2,b3,b4,b5,b6⟩:=h2
   exact ⟨t2,cs2,fz2,b1,b2,b3,b4,b5,fun i x hx=>by
    obtain ⟨y,hy,hv⟩:=a6 i x hx
    obtain ⟨y2,hy2,hv2⟩:=b6 i x hx
    exact ⟨y2,hy2,hv.down hm hv2⟩⟩
 | map es q=>
   obtain ⟨ms,a1,a2,a3⟩:=h
   obtain ⟨ms2,b1,b2,b3⟩:=h2
   refine ⟨ms2,b1,b2,fun i x m hx hm0 => ?_⟩
   obtain ⟨z,hz⟩:∃ z,ms[i]? = some z:=by
    have hlt:i < ms.size:=by
     rcases NZ i es.length with h | h
     ·omega
     ·rw [NM h] at hx;cases hx
    exact ⟨_,N4 hlt⟩
   exact ⟨(a3 i x z hx hz).1.down hm (b3 i x m hx hm0).1,(a3 i x z hx hz).2.1.down hm (b3 i x m hx hm0).2.1,(b3 i x m hx hm0).2.2⟩
 | loop l=>
   obtain ⟨tm,d,fn,a1,a2⟩:=h
   obtain ⟨tm2,d2,fn2,b1,b2⟩:=h2
   exact ⟨tm2,d2,fn2,b1,b2.size,fun i=>(a2.get i).down hm (b2.get i)⟩
theorem vo.VN {ρ:yY} {n m:Nat} (h:n<=m) {wr:Bool} {o:wi} {pl:Place} {w:World} (hc:vo P (ρ.cut n) wr o pl w):vo P (ρ.cut m) wr o pl w:=vo.ext (ρ:=ρ.cut n) (ρ':=ρ.cut m) h (fun _ _ _ h=>h) hc
theorem vo.eE {ρ ρ':yY} {n:Nat} (hm:∀ b pl,ρ.m b=some pl->ρ'.m b=some pl) {wr:Bool} {o:wi} {pl:Place} {w:World} (hc:vo P (ρ.cut n) wr o pl w):vo P (ρ'.cut n) wr o pl w:=vo.ext (ρ:=ρ.cut n) (ρ':=ρ'.cut n) (NG _) (fun b pl _ h=>hm b pl h) hc
theorem zD.VN {ρ:yY} {n m:Nat} (h:n<=m) {v v':Value} (hv:zD (ρ.cut n) v v'):zD (ρ.cut m) v v':=zD.ext (ρ:=ρ.cut n) (ρ':=ρ.cut m) h (fun _ _ _ h=>h) hv
theorem zD.eE {ρ ρ':yY} {n:Nat} (hm:∀ b pl,ρ.m b=some pl->ρ'.m b=some pl) {v v':Value} (hv:zD (ρ.cut n) v v'):zD (ρ'.cut n) v v':=zD.ext (ρ:=ρ.cut n) (ρ':=ρ'.cut n) (NG _) (fun b pl _ h=>hm b pl h) hv
structure yr where
 j:Nat
 o:Oper
 v:Value
 s:Env
 g:za
 g':za
 rd:Nat->Bool
 tc:Nat->Bool
def wO (T:List yr) (p:yr->Bool):Option yr:=(T.filter p).getLast?
def XX (t:Nat) (r:yr):Bool:=decide (r.o.dst=some t)
def XO (T:List yr) (s0:Env) (t:Nat):Value:=match wO T (XX t) with | some r=>r.v | none=>s0.get t
def KX (T:List yr) (n0:Nat) (t:Nat):Nat:=match wO T (XX t) with | some r=>r.g'.next | none=>n0
def ZA (T:List yr) (h0:za) (b:Nat):Option wi:=match wO T (fun r=>r.tc b) with | some r=>r.g'.get b | none=>h0.get b
def JP (T:List yr) (n0:Nat) (b:Nat):Nat:=match wO T (fun r=>r.tc b) with | some r=>r.g'.next | none=>n0
inductive Prec (ops:Array Oper):Nat->Nat->Prop
 | one {j:Nat} {o:Oper} {e:Edge} (ho:ops[j]? = some o) (he:e ∈ o.after) (hb:Region.binds .any e=true):Prec ops e.on j
 | more {i j:Nat} {o:Oper} {e:Edge} (ho:ops[j]? = some o) (he:e ∈ o.after) (hb:Region.binds .any e=true) (h:Prec ops i e.on):Prec ops i j
structure bU (ops:Array Oper) (x y:yr):Prop where
 d1:∀ d,x.o.dst=some d->d ∉ y.o.looksAt ops/\y.o.dst ≠ some d
 d2:∀ d,y.o.dst=some d->d ∉ x.o.looksAt ops
 b1:∀ b,x.tc b=true->y.rd b=false/\y.tc b=false
 b2:∀ b,y.tc b=true->x.rd b=false
structure Told (P:Program) (ops:Array Oper) (s0:Env) (h0:za) (A:List yr) (r:yr):Prop where
 op:ops[r.j]? = some r.o
 env:∀ t,r.s.get t=XO A s0 t
 size:r.s.size=s0.size
 heap:∀ b,r.g.get b=if r.rd b=true then ZA A h0 b else none
 ro:r.g.ro=h0.ro
 n0:h0.next<=r.g.next
 nA:∀ x,x ∈ A->x.g'.next<=r.g.next
 n1:r.g.next<=r.g'.next
 Mi:kP P ops r.s r.o r.g r.v r.g'
 put:∀ d,r.o.dst=some d->d < s0.size
 Nx:∀ b,r.tc b=true->r.rd b=true\/(r.g.next<=b/\b < r.g'.next)
 Mz:∀ b,r.tc b=false->r.g'.get b=r.g.get b
 MA:∀ b o,r.tc b=true->b < r.g.next->r.g'.get b=some o->r.g.get b ≠ none
structure Valid (P:Program) (ops:Array Oper) (s0:Env) (h0:za) (tr:List yr):Prop where
 nodup:(tr.map (·.j)).Nodup
 all:∀ i,i < ops.size->∃ r,r ∈ tr/\r.j=i
 told:∀ A r B,tr=A ++ r :: B->Told P ops s0 h0 A r
 X9:∀ A r B,tr=A ++ r :: B->∀ e,e ∈ r.o.after->Region.binds .any e=true->∃ x,x ∈ A/\x.j=e.on
 apart:∀ A x B y C,tr=A ++ x :: (B ++ y :: C)->Prec ops x.j y.j\/bU ops x y
theorem YG {tr A B:List yr} {r x:yr} (hn:(tr.map (·.j)).Nodup) (e:tr=A ++ r :: B) (hx:x ∈ A\/x ∈ B):x.j ≠ r.j:=by
 subst e
 rw [Ou,OF] at hn
 have h1:=List.nodup_append.1 hn
 intro ej
 rcases hx with hx | hx
 ·exact h1.2.2 x.j (List.mem_map_of_mem hx) r.j (by simp) ej
 ·have:=(List.nodup_cons.1 h1.2.1).1
  exact this (ej ▸ List.mem_map_of_mem hx)
theorem DM {ops:Array Oper} {s0:Env} {h0:za} {tr:List yr} (V:Valid P ops s0 h0 tr) {S:Nat->Bool} (hdown:∀ i j,Prec ops i j->S j=true->S i=true) {A B:List yr} {r:yr} (e:tr=A ++ r :: B)
  (hready:∀ i,Prec ops i r.j->S i=true) (hnot:S r.j=false) {p:yr->Bool} (hp:∀ x,(x ∈ A->p x=true->Prec ops x.j r.j)/\(x ∈ B->p x=true->Prec ops r.j x.j)) :
  (A.filter (fun x=>S x.j)).filter p=A.filter p/\(B.filter (fun x=>S x.j)).filter p = []:=by
 constructor
 ·rw [Pb]
  apply OV
  intro x hx
  cases hpx:p x with
  | false=>simp
  | true=>rw [hready _ ((hp x).1 hx hpx)];rfl
 ·rw [Pb,PB]
  intro x hx hc
  simp only [ND] at hc
  have:=hdown _ _ ((hp x).2 hx hc.1) hc.2
  rw [hnot] at this
  cases this
theorem Valid.order {ops:Array Oper} {s0:Env} {h0:za} {tr A B:List yr} {r:yr} (V:Valid P ops s0 h0 tr) (e:tr=A ++ r :: B) {p:yr->Bool} (hA:∀ x,bU ops x r->p x=false) (hB:∀ x,bU ops r x->p x=false) :
  ∀ x,(x ∈ A->p x=true->Prec ops x.j r.j)/\(x ∈ B->p x=true->Prec ops r.j x.j):=by
 intro x
 constructor
 ·intro hx hpx
  obtain ⟨A1,A2,rfl⟩:=N9 hx
  rcases V.apart A1 x A2 r B (by simp [e]) with h | h
  ·exact h
  ·rw [hA x h] at hpx;cases hpx
 ·intro hx hpx
  obtain ⟨B1,B2,rfl⟩:=N9 hx
  rcases V.apart A r B1 x B2 e with h | h
  ·exact h
  ·rw [hB x h] at hpx;cases hpx
end
noncomputable section
variable {P:Program}
structure UB (P:Program) (tr:List yr) (s0:Env) (h0:za) (N:Nat) (ρ0:yY) (w0:World) (S:Nat->Bool) (ρ:yY) (w:World) (tm:Array Value):Prop where
 next:ρ.next=N
 old:∀ b,b < h0.next->ρ.m b=ρ0.m b
 size:s0.size=tm.size
 env:∀ t,zD (ρ.cut (KX (tr.filter fun r=>S r.j) h0.next t)) (XO (tr.filter fun r=>S r.j) s0 t) (tm.getD t undef)
 heap:∀ b o,ZA (tr.filter fun r=>S r.j) h0 b=some o->b < JP (tr.filter fun r=>S r.j) h0.next b /\
  ∃ pl,ρ.m b=some pl/\vo P (ρ.cut (JP (tr.filter fun r=>S r.j) h0.next b)) (decide (h0.ro<=b)) o pl w
 inj:∀ b1 b2 o1 o2 p1 p2,ZA (tr.filter fun r=>S r.j) h0 b1=some o1->ZA (tr.filter fun r=>S r.j) h0 b2=some o2->ρ.m b1=some p1->ρ.m b2=some p2->p1.c=p2.c->b1=b2
 fresh:∀ x,x ∈ tr->S x.j=false->∀ b,x.g.next<=b->b < x.g'.next->ρ.m b=none
 os:w.os=w0.os
 tape:w.tape=w0.tape
 output:w.output=w0.output
 Qd:w0.heap.size<=w.heap.size
 frame:∀ c,c < w0.heap.size->¬ Q2 ρ0 h0 c->w.heap[c]? = w0.heap[c]?
 bt:∀ b o pl,ZA (tr.filter fun r=>S r.j) h0 b=some o->h0.ro<=b->ρ.m b=some pl->pl.c < w0.heap.size->Q2 ρ0 h0 pl.c
 JO:P.globals.size<=h0.ro
 gl:∀ b pl,b < P.globals.size->ρ.m b=some pl->pl.c=b/\pl.base=0
def uR (S:Nat->Bool) (j:Nat):Nat->Bool:=fun i=>S i || decide (i=j)
section
variable {ops:Array Oper} {s0:Env} {h0:za} {tr A B:List yr} {r:yr} {S:Nat->Bool}
theorem K0 (e:tr=A ++ r :: B) (hnot:S r.j=false):tr.filter (fun x=>S x.j)=A.filter (fun x=>S x.j) ++ B.filter (fun x=>S x.j):=by
 subst e;simp [hnot]
theorem eL (V:Valid P ops s0 h0 tr) (e:tr=A ++ r :: B):tr.filter (fun x=>uR S r.j x.j)=A.filter (fun x=>S x.j) ++ r :: B.filter (fun x=>S x.j):=by
 have hA:A.filter (fun x=>uR S r.j x.j)=A.filter (fun x=>S x.j):=OV fun x hx=>by simp [uR,YG V.nodup e (.inl hx)]
 have hB:B.filter (fun x=>uR S r.j x.j)=B.filter (fun x=>S x.j):=OV fun x hx=>by simp [uR,YG V.nodup e (.inr hx)]
 rw [e,N6,OU,hA,hB,NK (by simp [uR])]
theorem aZ (V:Valid P ops s0 h0 tr) (hdown:∀ i j,Prec ops i j->S j=true->S i=true) (e:tr=A ++ r :: B) (hready:∀ i,Prec ops i r.j->S i=true) (hnot:S r.j=false) {p:yr->Bool}
  (hA:∀ x,bU ops x r->p x=false) (hB:∀ x,bU ops r x->p x=false):wO (tr.filter fun x=>S x.j) p=wO A p:=by
 obtain ⟨h1,h2⟩:=DM V hdown e hready hnot (V.order e hA hB)
 rw [wO,K0 e hnot,N6,h1,h2,Pj];rfl
theorem QO (V:Valid P ops s0 h0 tr) (hdown:∀ i j,Prec ops i j->S j=true->S i=true) (e:tr=A ++ r :: B) (hready:∀ i,Prec ops i r.j->S i=true) (hnot:S r.j=false) {p:yr->Bool} (hr:p r=true)
  (hA:∀ x,bU ops x r->p x=false) (hB:∀ x,bU ops r x->p x=false):wO (tr.filter fun x=>uR S r.j x.j) p=some r:=by
 obtain ⟨h1,h2⟩:=DM V hdown e hready hnot (V.order e hA hB)
 rw [wO,eL V e,N6,OU,NK hr,h1,h2]
 simp
theorem QP (V:Valid P ops s0 h0 tr) (e:tr=A ++ r :: B) (hnot:S r.j=false) {p:yr->Bool} (hr:p r=false):wO (tr.filter fun x=>uR S r.j x.j) p=wO (tr.filter fun x=>S x.j) p:=by
 rw [wO,wO,eL V e,K0 e hnot,N6,OU,hr,NJ (by simp),N6]
theorem ZX {T:List yr} {p:yr->Bool} {x:yr} (h:wO T p=some x):x ∈ T/\p x=true:=by
 have:=List.mem_of_getLast? h
 exact O8.1 this
theorem Cb (hro0:h0.ro<=h0.next) (V:Valid P ops s0 h0 tr) (hdown:∀ i j,Prec ops i j->S j=true->S i=true) (e:tr=A ++ r :: B) (hready:∀ i,Prec ops i r.j->S i=true) (hnot:S r.j=false)
  {N:Nat} (hN:∀ x,x ∈ tr->x.g'.next<=N) {ρ0 ρ:yY} {w0 w:World} {tm:Array Value} (I:UB P tr s0 h0 N ρ0 w0 S ρ w tm) (ds:List Deferred) (rest:List Nat) (b:Frame) (k:List Item) (cs:List Frame) :
  ∃ ρ' w' tm',UB P tr s0 h0 N ρ0 w0 (uR S r.j) ρ' w' tm'/\Steps P (lone (wW b tm ds (.inRegion ops (r.j :: rest) :: k)) cs w) (lone (wW b tm' ds (.inRegion ops rest :: k)) cs w'):=by
 have D:=V.told A r B e
 have hrm:r ∈ tr:=by rw [e];simp
 have lookEnv:∀ t,t ∈ r.o.looksAt ops->wO (tr.filter fun x=>S x.j) (XX t)=wO A (XX t):=fun t ht=>
  aZ V hdown e hready hnot (fun x hx=>by
   cases hw:XX t x with
   | false=>rfl
   | true=>exact absurd ht (hx.d1 t (Oj hw)).1) (fun x hx=>by
   cases hw:XX t x with
   | false=>rfl
   | true=>exact absurd ht (hx.d2 t (Oj hw)))
 have lookHeap:∀ bb,r.rd bb=true->wO (tr.filter fun x=>S x.j) (fun x=>x.tc bb)=wO A (fun x=>x.tc bb):=fun bb hb=>
  aZ V hdown e hready hnot (fun x hx=>by
   cases hw:x.tc bb with
   | false=>rfl
   | true=>have:=(hx.b1 bb hw).1;rw [hb] at this;cases this) (fun x hx=>by
   cases hw:x.tc bb with
   | false=>rfl
   | true=>have:=hx.b2 bb hw;rw [hb] at this;cases this)
 have hpVeq:∀ bb,r.rd bb=true->ZA (tr.filter fun x=>S x.j) h0 bb=r.g.get bb:=fun bb hb=>by
  rw [D.heap,NK hb];simp only [ZA,lookHeap bb hb]
 have hpNle:∀ bb,r.rd bb=true->JP (tr.filter fun x=>S x.j) h0.next bb<=r.g.next:=fun bb hb=>by
  simp only [JP,lookHeap bb hb]
  split
  ·rename_i x hx;exact D.nA x (ZX hx).1
  ·exact D.n0
 have galive:∀ bb o,r.g.get bb=some o->r.rd bb=true/\ZA (tr.filter fun x=>S x.j) h0 bb=some o:=fun bb o hg=>by
  rw [D.heap] at hg
  cases hb:r.rd bb with
  | false=>rw [hb] at hg;simp at hg
  | true=>exact ⟨rfl,by rw [hpVeq bb hb,D.heap];exact hg⟩
 let ρr:=ρ.cut r.g.next
 have hrel:Rel P ρr r.g w:=by
  refine ⟨rfl,?_,?_,?_,?_,by rw [D.ro];exact I.JO,I.gl⟩
  ·have h1:=D.ro;have h2:=D.n0
   show r.g.ro<=r.g.next
   omega
  ·intro bb o hg
   obtain ⟨h1,h2⟩:=galive bb o hg
   exact NH (I.heap bb o h2).1 (hpNle bb h1)
  ·intro bb o hg
   obtain ⟨h1,h2⟩:=galive bb _ hg
   obtain ⟨_,pl,hp,hc⟩:=I.heap bb o h2
   refine ⟨pl,hp,?_⟩
   rw [D.ro]
   exact hc.VN (hpNle bb h1)
  ·intro b1 b2 o1 o2 p1 p2 g1 g2
   exact I.inj b1 b2 o1 o2 p1 p2 (galive b1 o1 g1).2 (galive b2 o2 g2).2
 have hlook:∀ t,t ∈ r.o.looksAt ops->zD ρr (r.s.get t) (tm.getD t undef):=by
  intro t ht
  have h1:=I.env t
  have e1:XO (tr.filter fun x=>S x.j) s0 t=r.s.get t:=by rw [D.env t];simp only [XO,lookEnv t ht]
  have e2:KX (tr.filter fun x=>S x.j) h0.next t<=r.g.next:=by
   simp only [KX,lookEnv t ht]
   split
   ·rename_i x hx;exact D.nA x (ZX hx).1
   ·exact D.n0
  rw [e1] at h1
  exact h1.VN e2
 obtain ⟨v',w',ρq,st,hv,sx⟩:=VZ D.op D.Mi hrel (D.size.trans I.size) hlook ds rest b k cs
 let ρ':yY:={ next:=N,m:=fun bb=>if r.g.next<=bb/\bb < r.g'.next then ρq.m bb else ρ.m bb }
 have qnext:ρq.next=r.g'.next:=st.rel.next
 have qlow:∀ bb,bb < r.g.next->ρq.m bb=ρ.m bb:=fun bb hb=>st.le.2 bb hb
 have pq:∀ bb,bb < r.g'.next->ρ'.m bb=ρq.m bb:=by
  intro bb hb
  by_cases hl:r.g.next<=bb
  ·exact NK ⟨hl,hb⟩
  ·rw [show ρ'.m bb=ρ.m bb from NJ (by omega),qlow bb (by omega)]
 have rfresh:=I.fresh r hrm hnot
 have pext:∀ bb pl,ρ.m bb=some pl->ρ'.m bb=some pl:=by
  intro bb pl hm
  rw [show ρ'.m bb=ρ.m bb from NJ (by
   rintro ⟨h1,h2⟩
   rw [rfresh bb h1 h2] at hm;cases hm)]
  exact hm
 have hn1N:r.g'.next<=N:=hN r hrm
 have notMine:∀ bb o pl,ZA (tr.filter fun x=>S x.j) h0 bb=some o->ρ.m bb=some pl->r.rd bb=false->¬ Q2 ρr r.g pl.c:=by
  rintro bb o pl hg hm hb ⟨b1,o1,p1,g1,_,m1,e1⟩
  obtain ⟨k1,k2⟩:=galive b1 o1 g1
  have:=I.inj b1 bb o1 o p1 pl k2 hg m1 hm e1
  subst this
  rw [hb] at k1;cases k1
 have hpVnew:∀ bb,ZA (tr.filter fun x=>uR S r.j x.j) h0 bb=if r.tc bb=true then r.g'.get bb else ZA (tr.filter fun x=>S x.j) h0 bb:=by
  intro bb
  cases ht:r.tc bb with
  | true=>
    rw [NK rfl]
    simp only [ZA]
    rw [QO V hdown e hready hnot ht (fun x hx=>by
     cases hw:x.tc bb with
     | false=>rfl
     | true=>have:=(hx.b1 bb hw).2;rw [ht] at this;cases this) (fun x hx=>by
     cases hw:x.tc bb with
     | false=>rfl
     | true=>have:=(hx.b1 bb ht).2;rw [hw] at this;cases this)]
  | false=>
    rw [NJ (by simp)]
    simp only [ZA]
    rw [QP V e hnot (p:=fun x=>x.tc bb) ht]
 have hpNnew:∀ bb,JP (tr.filter fun x=>uR S r.j x.j) h0.next bb=if r.tc bb=true then r.g'.next else JP (tr.filter fun x=>S x.j) h0.next bb:=by
  intro bb
  cases ht:r.tc bb with
  | true=>
    rw [NK rfl]
    simp only [JP]
    rw [QO V hdown e hready hnot ht (fun x hx=>by
     cases hw:x.tc bb with
     | false=>rfl
     | true=>have:=(hx.b1 bb hw).2;rw [ht] at this;cases this) (fun x hx=>by
     cases hw:x.tc bb with
     | false=>rfl
     | true=>have:=(hx.b1 bb ht).2;rw [hw] at this;cases this)]
  | false=>
    rw [NJ (by simp)]
    simp only [JP]
    rw [QP V e hnot (p:=fun x=>x.tc bb) ht]
 have cases':∀ bb o,ZA (tr.filter fun x=>uR S r.j x.j) h0 bb=some o->(r.tc bb=true/\r.g'.get bb=some o)\/(r.tc bb=false/\ZA (tr.filter fun x=>S x.j) h0 bb=some o):=by
  intro bb o h
  rw [hpVnew] at h
  cases ht:r.tc bb with
  | true=>rw [ht,NK rfl] at h;exact .inl ⟨rfl,h⟩
  | false=>rw [ht,NJ (by simp)] at h;exact .inr ⟨rfl,h⟩
 refine ⟨ρ',w',uw tm r.o.dst v',⟨rfl,?_,?_,?_,?_,?_,?_,st.os.trans I.os,st.tape.trans I.tape,st.output.trans I.output,Oc I.Qd st.size,?_,?_,I.JO,fun b pl hb hm=>I.gl b pl hb (by
  rw [show ρ'.m b=ρ.m b from NJ (by have:=D.n0;have:=I.JO;omega)] at hm;exact hm)⟩,sx⟩
 ·intro bb hb
  rw [show ρ'.m bb=ρ.m bb from NJ (by have:=D.n0;omega)]
  exact I.old bb hb
 ·cases r.o.dst with
  | none=>exact I.size
  | some d=>simp only [uw,Array.size_setIfInBounds];exact I.size
 ·
  intro t
  by_cases ht:r.o.dst=some t
  ·have e1:wO (tr.filter fun x=>uR S r.j x.j) (XX t)=some r:=QO V hdown e hready hnot (p:=XX t) (by simp [XX,ht]) (fun x hx=>by
    cases hw:XX t x with
    | false=>rfl
    | true=>exact absurd ht (hx.d1 t (Oj hw)).2) (fun x hx=>by
    cases hw:XX t x with
    | false=>rfl
    | true=>exact absurd (Oj hw) (hx.d1 t ht).2)
   simp only [XO,KX,e1]
   have e2:(uw tm r.o.dst v').getD t undef=v':=by
    have hlt:t < tm.size:=by rw [<- I.size];exact D.put t ht
    rw [ht];simp [uw,NS,hlt]
   rw [e2]
   refine hv.ext (by show ρq.next<=r.g'.next;rw [qnext];exact NG _) (fun bb pl hb hm => ?_)
   show ρ'.m bb=some pl
   rw [pq bb (by rw [<- qnext];exact hb)];exact hm
  ·have e1:wO (tr.filter fun x=>uR S r.j x.j) (XX t)=wO (tr.filter fun x=>S x.j) (XX t):=QP V e hnot (p:=XX t) (by simp [XX,ht])
   have e2:(uw tm r.o.dst v').getD t undef=tm.getD t undef:=by
    cases hd:r.o.dst with
    | none=>rfl
    | some d=>
      have:d ≠ t:=fun h=>ht (by rw [hd,h])
      simp [uw,NS,this]
   have h1:=I.env t
   simp only [XO,KX] at h1 ⊢
   rw [e1,e2]
   exact h1.eE (ρ':=ρ') pext
 ·
  intro bb o hg
  rcases cases' bb _ hg with ⟨ht,hg'⟩ | ⟨ht,hg'⟩
  ·rw [hpNnew,NK ht]
   obtain ⟨pl,hp,hc⟩:=st.rel.ok bb o hg'
   have hlt:=st.rel.Vn bb _ hg'
   refine ⟨hlt,pl,by rw [pq bb hlt];exact hp,?_⟩
   have hro:r.g'.ro=h0.ro:=st.ro.trans D.ro
   rw [hro] at hc
   exact hc.ext (by show ρq.next<=r.g'.next;rw [qnext];exact NG _) (fun b2 p2 hb hm=>by show ρ'.m b2=some p2;rw [pq b2 (by rw [<- qnext];exact hb)];exact hm)
  ·rw [hpNnew,ht,NJ (by simp)]
   obtain ⟨hlt,pl,hp,hc⟩:=I.heap bb o hg'
   refine ⟨hlt,pl,pext bb pl hp,?_⟩
   have hdone:vo P (ρ.cut (JP (tr.filter fun x=>S x.j) h0.next bb)) (decide (h0.ro<=bb)) o pl w':=by
    cases hb:r.rd bb with
    | true=>
      have hgg:r.g'.get bb=some o:=by rw [D.Mz bb ht,<- hpVeq bb hb];exact hg'
      obtain ⟨p2,hp2,hc2⟩:=st.rel.ok bb o hgg
      have hbl:bb < r.g.next:=NH hlt (hpNle bb hb)
      rw [qlow bb hbl,hp] at hp2
      cases hp2
      have hro:r.g'.ro=h0.ro:=st.ro.trans D.ro
      rw [hro] at hc2
      exact vo.down (ρ:=ρ.cut (JP (tr.filter fun x=>S x.j) h0.next bb)) (ρ2:=ρq) (fun b2 hb2=>qlow b2 (NH hb2 (hpNle bb hb))) hc hc2
    | false=>exact hc.other (st.frame pl.c hc.lt (notMine bb _ pl hg' hp hb))
   exact hdone.eE (ρ':=ρ') pext
 ·
  have key:∀ b1 b2 o1 o2 p1 p2,r.tc b1=true->r.g'.get b1=some o1->r.tc b2=false->ZA (tr.filter fun x=>S x.j) h0 b2=some o2->ρ'.m b1=some p1->ρ'.m b2=some p2->p1.c=p2.c->b1=b2:=by
   intro b1 b2 o1 o2 p1 p2 t1 g1 t2 g2 m1 m2 ec
   obtain ⟨hlt2,q2,hq2,hc2⟩:=I.heap b2 o2 g2
   rw [pext b2 q2 hq2] at m2
   cases m2
   have hl1:=st.rel.Vn b1 o1 g1
   rw [pq b1 hl1] at m1
   cases hb2:r.rd b2 with
   | true=>
     have hgg:r.g'.get b2=some o2:=by rw [D.Mz b2 t2,<- hpVeq b2 hb2];exact g2
     have hbl:b2 < r.g.next:=NH hlt2 (hpNle b2 hb2)
     exact st.rel.inj b1 b2 o1 _ p1 p2 g1 hgg m1 (by rw [qlow b2 hbl];exact hq2) ec
   | false=>
     by_cases hw:h0.ro<=b1
     ·have hM:Q2 ρq r.g' p1.c:=⟨b1,o1,p1,g1,by rw [st.ro,D.ro];exact hw,m1,rfl⟩
      have hlt:p1.c < w.heap.size:=by rw [ec];exact hc2.lt
      have:=st.bt p1.c hlt hM
      rw [ec] at this
      exact absurd this (notMine b2 _ p2 g2 hq2 hb2)
     ·have hb1:b1 < r.g.next:=by have:=D.n0;omega
      have hne:=D.MA b1 o1 t1 hb1 g1
      obtain ⟨o1',ho1'⟩:∃ o,r.g.get b1=some o:=by cases hh:r.g.get b1 with | none=>exact absurd hh hne | some o=>exact ⟨o,rfl⟩
      rw [qlow b1 hb1] at m1
      exact I.inj b1 b2 o1' _ p1 p2 (galive b1 o1' ho1').2 g2 m1 hq2 ec
  intro b1 b2 o1 o2 p1 p2 g1 g2 m1 m2 ec
  rcases cases' b1 o1 g1 with ⟨t1,k1⟩ | ⟨t1,k1⟩ <;> rcases cases' b2 o2 g2 with ⟨t2,k2⟩ | ⟨t2,k2⟩
  ·have l1:=st.rel.Vn b1 o1 k1
   have l2:=st.rel.Vn b2 o2 k2
   rw [pq b1 l1] at m1;rw [pq b2 l2] at m2
   exact st.rel.inj b1 b2 o1 o2 p1 p2 k1 k2 m1 m2 ec
  ·exact key b1 b2 o1 o2 p1 p2 t1 k1 t2 k2 m1 m2 ec
  ·exact (key b2 b1 o2 o1 p2 p1 t2 k2 t1 k1 m2 m1 ec.symm).symm
  ·obtain ⟨_,q1,hq1,_⟩:=I.heap b1 o1 k1
   obtain ⟨_,q2,hq2,_⟩:=I.heap b2 o2 k2
   rw [pext b1 q1 hq1] at m1;rw [pext b2 q2 hq2] at m2
   cases m1;cases m2
   exact I.inj b1 b2 _ _ p1 p2 k1 k2 hq1 hq2 ec
 ·
  intro x hx hS bb h1 h2
  simp only [uR,OL,NP] at hS
  have h3:=I.fresh x hx hS.1 bb h1 h2
  have hne:x ≠ r:=fun h=>hS.2 (by rw [h])
  have hdis:¬ (r.g.next<=bb/\bb < r.g'.next):=by
   rw [e] at hx
   rcases Om.1 hx with hxA | hxB
   ·have:=D.nA x hxA;omega
   ·rcases Ox.1 hxB with hxr | hxB
    ·exact absurd hxr hne
    ·obtain ⟨B1,B2,rfl⟩:=N9 hxB
     have:=(V.told (A ++ r :: B1) x B2 (by simp [e])).nA r (by simp)
     omega
  rw [show ρ'.m bb=ρ.m bb from NJ hdis]
  exact h3
 ·intro c hc hn
  rw [st.frame c (NH hc I.Qd) (by
   rintro ⟨b1,o1,p1,g1,hro1,m1,rfl⟩
   exact hn (I.bt b1 o1 p1 (galive b1 o1 g1).2 (by rw [<- D.ro];exact hro1) m1 hc))]
  exact I.frame c hc hn
 ·intro bb o pl hg hro hm hc
  rcases cases' bb o hg with ⟨ht,hg'⟩ | ⟨ht,hg'⟩
  ·rw [pq bb (st.rel.Vn bb o hg')] at hm
   obtain ⟨b1,o1,p1,g1,hro1,m1,e1⟩:=st.bt pl.c (NH hc I.Qd) ⟨bb,o,pl,hg',by rw [st.ro,D.ro];exact hro,hm,rfl⟩
   rw [<- e1]
   exact I.bt b1 o1 p1 (galive b1 o1 g1).2 (by rw [<- D.ro];exact hro1) m1 (by rw [e1];exact hc)
  ·obtain ⟨_,q,hq,_⟩:=I.heap bb o hg'
   rw [pext bb q hq] at hm
   cases hm
   exact I.bt bb _ pl hg' hro hq hc
end
end
noncomputable section
variable {P:Program}
section
variable {ops:Array Oper} {s0:Env} {h0:za} {tr:List yr}
theorem Ux {listed:Array Bool} {i:Nat} (h:i ∈ Region.ready .any ops listed):i < ops.size/\listed.getD i true=false /\ ∀ o,ops[i]? = some o->∀ e,e ∈ o.after->Region.binds .any e=true->listed.getD e.on false=true:=by
 simp only [Region.ready,O8,ON,ND,NN] at h
 refine ⟨h.1,h.2.1,fun o ho e he hb => ?_⟩
 have:=h.2.2
 rw [ho] at this
 simp only [OG,Pc,Array.all_eq_true_iff_forall_mem,Og,NN] at this
 rcases this e he with h1 | h1
 ·rw [hb] at h1;cases h1
 ·exact h1
theorem pW {listed:Array Bool} {i:Nat} (hi:i < ops.size) (hl:listed.getD i true=false) (h:∀ o,ops[i]? = some o->∀ e,e ∈ o.after->Region.binds .any e=true->listed.getD e.on false=true):i ∈ Region.ready .any ops listed:=by
 simp only [Region.ready,O8,ON,ND,NN]
 refine ⟨hi,hl,?_⟩
 rw [N4 hi]
 simp only [OG,Pc,Array.all_eq_true_iff_forall_mem,Og,NN]
 intro e he
 cases hb:Region.binds .any e with
 | false=>exact .inl rfl
 | true=>exact .inr (h _ (N4 hi) e he hb)
theorem FE (hro0:h0.ro<=h0.next) (V:Valid P ops s0 h0 tr) {N:Nat} (hN:∀ x,x ∈ tr->x.g'.next<=N) {ρ0:yY} {w0:World} (ds:List Deferred) (b:Frame) (k:List Item) (cs:List Frame) :
  ∀ (fuel t:Nat) (listed:Array Bool) (ρ:yY) (w:World) (tm:Array Value),listed.size=ops.size->((List.range ops.size).filter fun i => !listed.getD i false).length<=fuel ->
    (∀ i j,Prec ops i j->listed.getD j false=true->listed.getD i false=true)->UB P tr s0 h0 N ρ0 w0 (fun j=>listed.getD j false) ρ w tm ->
    ∃ S ρ' w' tm',(∀ r,r ∈ tr->S r.j=true)/\UB P tr s0 h0 N ρ0 w0 S ρ' w' tm' /\
      Steps P (lone (wW b tm ds (.inRegion ops (Region.linearise.go .any ops fuel t listed []) :: k)) cs w) (lone (wW b tm' ds (.inRegion ops [] :: k)) cs w'):=by
 intro fuel
 induction fuel with
 | zero=>
   intro t listed ρ w tm hsz hcount hdown I
   refine ⟨_,ρ,w,tm,?_,I,.refl P _⟩
   intro r hr
   have hnil:=OQ (Nat.le_zero.1 hcount)
   obtain ⟨A,B,e⟩:=N9 hr
   have yz:=(V.told A r B e).op
   have hlt:r.j < ops.size:=by
    rcases NZ r.j ops.size with h | h
    ·exact h
    ·rw [N3 h] at yz;cases yz
   cases hl:listed.getD r.j false with
   | true=>rfl
   | false=>
     have:r.j ∈ (List.range ops.size).filter fun i => !listed.getD i false:=O8.2 ⟨ON.2 hlt,by rw [hl];rfl⟩
     rw [hnil] at this;cases this
 | succ fuel ih=>
   intro t listed ρ w tm hsz hcount hdown I
   simp only [Region.linearise.go]
   change ∃ S ρ' w' tm',(∀ r,r ∈ tr->S r.j=true)/\UB P tr s0 h0 N ρ0 w0 S ρ' w' tm'/\Steps P (lone (wW b tm ds (.inRegion ops (match (Region.ready .any ops listed)[t % (Region.ready .any ops listed).length]? with
    | some i=>Region.linearise.go .any ops fuel (t / (Region.ready .any ops listed).length) (listed.setIfInBounds i true) [i]
    | none=>[].reverse) :: k)) cs w) _
   have getTF:∀ i,i < ops.size->listed.getD i true=listed.getD i false:=by
    intro i hi
    simp [NS,N4 (hsz ▸ hi)]
   by_cases hall:∀ r,r ∈ tr->listed.getD r.j false=true
   ·
    have hnone:Region.ready .any ops listed = []:=by
     rw [List.eq_nil_iff_forall_not_mem]
     intro i hi
     obtain ⟨h1,h2,_⟩:=Ux hi
     obtain ⟨r,hr,hrj⟩:=V.all i h1
     have:=hall r hr
     rw [hrj,<- getTF i h1,h2] at this
     cases this
    rw [hnone]
    exact ⟨_,ρ,w,tm,hall,I,.refl P _⟩
   ·
    have hex:∃ i,i ∈ Region.ready .any ops listed:=by
     have:∃ A r B,tr=A ++ r :: B/\listed.getD r.j false=false /\ ∀ x,x ∈ A->listed.getD x.j false=true:=by
      clear ih I hN V
      induction tr with
      | nil=>exact absurd (fun r hr=>by cases hr) hall
      | cons x tr iht=>
        cases hx:listed.getD x.j false with
        | false=>exact ⟨[],x,tr,rfl,hx,fun y hy=>by cases hy⟩
        | true=>
          obtain ⟨A,r,B,e,h1,h2⟩:=iht (fun h=>hall (fun r hr=>by rcases Ox.1 hr with rfl | hr;exact hx;exact h r hr))
          exact ⟨x :: A,r,B,by rw [e];rfl,h1,fun y hy=>by rcases Ox.1 hy with rfl | hy;exact hx;exact h2 y hy⟩
     obtain ⟨A,r,B,e,h1,h2⟩:=this
     have yz:=(V.told A r B e).op
     have hlt:r.j < ops.size:=by
      rcases NZ r.j ops.size with h | h
      ·exact h
      ·rw [N3 h] at yz;cases yz
     refine ⟨r.j,pW hlt (by rw [getTF _ hlt];exact h1) (fun o ho ed hed hb => ?_)⟩
     rw [yz] at ho
     cases ho
     obtain ⟨x,hx,hxe⟩:=V.X9 A r B e ed hed hb
     rw [<- hxe];exact h2 x hx
    cases hi:(Region.ready .any ops listed)[t % (Region.ready .any ops listed).length]? with
    | none=>
      obtain ⟨i,hmem⟩:=hex
      have hpos:0 < (Region.ready .any ops listed).length:=List.length_pos_of_mem hmem
      rw [NC (Nat.mod_lt _ hpos)] at hi
      cases hi
    | some i=>
      simp only []
      rw [linearise_go_acc,List.reverse_singleton,List.singleton_append]
      obtain ⟨hlt,hl,hed⟩:=Ux (NQ hi)
      obtain ⟨r,hr,hrj⟩:=V.all i hlt
      obtain ⟨A,B,e⟩:=N9 hr
      subst hrj
      have yz:=(V.told A r B e).op
      have hready:∀ q,Prec ops q r.j->listed.getD q false=true:=by
       intro q hq
       cases hq with
       | one ho he hb=>exact hed _ ho _ he hb
       | more ho he hb hp=>exact hdown _ _ hp (hed _ ho _ he hb)
      have hnot:listed.getD r.j false=false:=by rw [<- getTF _ hlt];exact hl
      obtain ⟨ρ1,w1,tm1,I1,sx⟩:=Cb hro0 V hdown e hready hnot hN I ds (Region.linearise.go .any ops fuel (t / (Region.ready .any ops listed).length) (listed.setIfInBounds r.j true) []) b k cs
      have hadd:(fun j=>(listed.setIfInBounds r.j true).getD j false)=uR (fun j=>listed.getD j false) r.j:=by
       funext j
       simp only [uR,NS,Oh]
       by_cases ej:r.j=j
       ·subst ej
        rw [NK rfl,NK (by omega)];simp
       ·rw [NJ ej]
        have:decide (j=r.j)=false:=OC (fun h=>ej h.symm)
        rw [this,Bool.or_false]
      rw [<- hadd] at I1
      have hcnt:((List.range ops.size).filter fun i => !(listed.setIfInBounds r.j true).getD i false).length<=fuel:=by
       have hmem:r.j ∈ (List.range ops.size).filter fun i => !listed.getD i false:=O8.2 ⟨ON.2 hlt,by rw [hnot];rfl⟩
       have hsub:(List.range ops.size).filter (fun i => !(listed.setIfInBounds r.j true).getD i false)=((List.range ops.size).filter fun i => !listed.getD i false).filter (fun i=>decide (i ≠ r.j)):=by
        rw [Pb]
        apply OV
        intro i _
        have:=congrFun hadd i
        simp only [uR] at this
        rw [this]
        by_cases ei:i=r.j <;> simp [ei]
       rw [hsub]
       have hlen:∀ (l:List Nat),r.j ∈ l->(l.filter fun i=>decide (i ≠ r.j)).length < l.length:=by
        intro l hl
        apply List.length_filter_lt_length_iff_exists.2
        exact ⟨r.j,hl,by simp⟩
       have:=hlen _ hmem
       omega
      have hdn:∀ q j,Prec ops q j->(listed.setIfInBounds r.j true).getD j false=true->(listed.setIfInBounds r.j true).getD q false=true:=by
       intro q j hq hj
       have h1:=congrFun hadd j
       have h2:=congrFun hadd q
       rw [h1] at hj
       rw [h2]
       simp only [uR,Og,N8] at hj ⊢
       rcases hj with hj | rfl
       ·exact .inl (hdown q j hq hj)
       ·exact .inl (hready q hq)
      obtain ⟨S,ρ2,w2,tm2,hS,I2,sx2⟩:=ih (t / (Region.ready .any ops listed).length) (listed.setIfInBounds r.j true) ρ1 w1 tm1 (by simpa using hsz) hcnt hdn I1
      exact ⟨S,ρ2,w2,tm2,hS,I2,sx.trans sx2⟩
theorem Wo (hmix:P.follows .mixedOrders=true) {id:Nat} {rd:Option Nat} {Q:Ex->Env->za->Prop} (V:Valid P ops s0 h0 tr) {sf:Env} {hf:za} (hs:∀ t,sf.get t=XO tr s0 t) (hsz:sf.size=s0.size)
  (hh:∀ b,hf.get b=ZA tr h0 b) (hro:hf.ro=h0.ro) (hn:h0.next<=hf.next) (hN:∀ x,x ∈ tr->x.g'.next<=hf.next) (hq:Q .normal sf hf):T P rd (.region id ops true) s0 h0 Q:=by
 intro ρ w tm ds hr hse b hb k cs
 let w1:World:={ w with drawn:=w.drawn + 1 }
 let ρ1:yY:={ next:=hf.next,m:=fun bb=>if bb < h0.next then ρ.m bb else none }
 have hm1:∀ bb pl,bb < ρ.next->ρ.m bb=some pl->ρ1.m bb=some pl:=fun bb pl hb hm=>by
  rw [show ρ1.m bb=ρ.m bb from NK (by rw [<- hr.next];exact hb)];exact hm
 have hnil:tr.filter (fun r=>(Array.replicate ops.size false).getD r.j false) = []:=by
  rw [PB]
  intro r _ h
  simp only [NS,Pa] at h
  split at h <;> simp at h
 have I:UB P tr s0 h0 hf.next ρ w (fun j=>(Array.replicate ops.size false).getD j false) ρ1 w1 tm:=by
  refine ⟨rfl,fun bb hb=>NK hb,hse.size,?_,?_,?_,?_,rfl,rfl,rfl,NG _,fun _ _ _=>rfl,?_,hr.JO,fun bb pl hb hm=>hr.jV bb pl hb (by
   rw [show ρ1.m bb=ρ.m bb from NK (NH hb (Oc hr.JO hr.ro))] at hm;exact hm)⟩
  ·intro t
   rw [hnil]
   exact (hse.get t).ext (ρ':=ρ1.cut h0.next) (by rw [hr.next];exact NG _) hm1
  ·intro bb o hg
   rw [hnil] at hg ⊢
   have hb:=hr.Vn bb _ hg
   obtain ⟨pl,hp,hc⟩:=hr.ok bb o hg
   refine ⟨hb,pl,hm1 bb pl (by rw [hr.next];exact hb) hp,?_⟩
   exact vo.other (vo.ext (ρ:=ρ) (ρ':=ρ1.cut h0.next) (by rw [hr.next];exact NG _) hm1 hc) rfl
  ·intro b1 b2 o1 o2 p1 p2 g1 g2 m1 m2 e
   rw [hnil] at g1 g2
   have l1:=hr.Vn b1 o1 g1
   have l2:=hr.Vn b2 o2 g2
   rw [show ρ1.m b1=ρ.m b1 from NK l1] at m1
   rw [show ρ1.m b2=ρ.m b2 from NK l2] at m2
   exact hr.inj b1 b2 o1 o2 p1 p2 g1 g2 m1 m2 e
  ·intro x hx _ bb h1 h2
   obtain ⟨A,B,e⟩:=N9 hx
   have:=(V.told A x B e).n0
   exact NJ (by omega)
  ·intro bb o pl hg hro' hm hc
   rw [hnil] at hg
   have l:=hr.Vn bb o hg
   rw [show ρ1.m bb=ρ.m bb from NK l] at hm
   exact ⟨bb,o,pl,hg,hro',hm,rfl⟩
 have hcount:((List.range ops.size).filter fun i => !(Array.replicate ops.size false).getD i false).length<=ops.size:=by
  have:=List.length_filter_le (fun i => !(Array.replicate ops.size false).getD i false) (List.range ops.size)
  simpa using this
 obtain ⟨S,ρ2,w2,tm2,hS,I2,sx⟩:=FE hr.ro V hN ds b k cs ops.size (w.tape w.drawn (.order b.fn id)) (Array.replicate ops.size false) ρ1 w1 tm (by simp) hcount (fun i j _ hj=>by
  simp only [NS,Pa] at hj
  split at hj <;> simp at hj) I
 have hfull:tr.filter (fun r=>S r.j)=tr:=List.filter_eq_self.2 hS
 have lastn:∀ (p:yr->Bool) x,wO tr p=some x->x.g'.next<=hf.next:=fun p x hx=>hN x (ZX hx).1
 have hcut:ρ2=ρ2.cut hf.next:=by have:=I2.next;cases ρ2;simp only at this;subst this;rfl
 have hrel:Rel P ρ2 hf w2:=by
  refine ⟨I2.next,by rw [hro];exact Oc hr.ro hn,?_,?_,?_,by rw [hro];exact hr.JO,I2.gl⟩
  ·intro bb o hg
   rw [hh] at hg
   have:=(I2.heap bb o (by rw [hfull];exact hg)).1
   rw [hfull] at this
   refine NH this ?_
   simp only [JP]
   split
   ·rename_i x hx;exact lastn _ x hx
   ·exact hn
  ·intro bb o hg
   rw [hh] at hg
   obtain ⟨_,pl,hp,hc⟩:=I2.heap bb o (by rw [hfull];exact hg)
   refine ⟨pl,hp,?_⟩
   rw [hro]
   rw [hfull] at hc
   rw [hcut]
   refine vo.VN ?_ hc
   simp only [JP]
   split
   ·rename_i x hx;exact lastn _ x hx
   ·exact hn
  ·intro b1 b2 o1 o2 p1 p2 g1 g2
   rw [hh] at g1 g2
   exact I2.inj b1 b2 o1 o2 p1 p2 (by rw [hfull];exact g1) (by rw [hfull];exact g2)
 refine ⟨.normal,sf,hf,ρ2,w2,tm2,ds,hq,⟨⟨by rw [I2.next,hr.next];exact hn,fun bb hb=>I2.old bb (by rw [<- hr.next];exact hb)⟩,hrel,hro,I2.os,I2.tape,I2.output,I2.Qd,I2.frame,?_⟩,⟨hsz.trans I2.size,fun t => ?_⟩,.refl _ _ _,?_⟩
 ·rintro c hc ⟨bb,o,pl,hg,hrb,hm,rfl⟩
  rw [hh] at hg
  exact I2.bt bb o pl (by rw [hfull];exact hg) (by rw [<- hro];exact hrb) hm hc
 ·have:=I2.env t
  rw [hfull] at this
  rw [hs t]
  rw [hcut]
  refine zD.VN ?_ this
  simp only [KX]
  split
  ·rename_i x hx;exact lastn _ x hx
  ·exact hn
 ·refine .head Xz ?_
  have:Region.schedule (P.follows .mixedOrders) ops (w.tape w.drawn (.order b.fn id))=Region.linearise .any ops (w.tape w.drawn (.order b.fn id)):=by
   simp only [Region.schedule,hmix,Bool.true_or,N5]
  rw [this]
  exact sx.trans (.one ZV)
end
end
noncomputable section
variable {P:Program}
def Ym:List Tmp->List Value->Env->Option Env
 | [],[],s=>some s
 | t :: ts,v :: vs,s=>(match s.put (some t) v with
   | some s1=>Ym ts vs s1
   | none=>none)
 | _,_,_=>none
theorem V1 {ρ:yY}:∀ {ts:List Tmp} {vs vs':List Value} {s s':Env} {tm:Array Value},Ym ts vs s=some s'->vd ρ s tm->xD ρ vs vs' ->
  ts.length=vs'.length/\vd ρ s' ((ts.zip vs').foldl (fun tm x=>tm.setIfInBounds x.1 x.2) tm)
 | [],[],vs',s,s',tm,he,hs,hv=>by
   cases hv.vR
   simp only [Ym,Nz] at he
   subst he
   exact ⟨rfl,hs⟩
 | t :: ts,v :: vs,vs',s,s',tm,he,hs,hv=>by
   obtain ⟨y,ys,rfl,h1,h2⟩:=hv.cons_inv
   simp only [Ym] at he
   split at he
   ·rename_i s1 hp
    have:=V1 he (hs.put h1 hp) h2
    exact ⟨by simp [this.1],by simpa [uw] using this.2⟩
   ·cases he
 | [],_ :: _,_,_,_,_,he,_,_=>by simp [Ym] at he
 | _ :: _,[],_,_,_,_,he,_,_=>by simp [Ym] at he
def XS (l:UH) (tm:Array Value) (d:Nat) (fn:FuncId):Loop:={ state:=l.state,pending:=l.pending,fn:=fn,tmps:=tm,params:=l.params,assign:=l.assign,body:=l.body,defers:=d }
theorem Rel.loop {ρ:yY} {h:za} {w:World} (hr:Rel P ρ h w) {b:Nat} {A:UH} {pl:Place} (hg:h.get b=some (.loop A)) (hm:ρ.m b=some pl) :
  ∃ tm d fn,w.heap[pl.c]? = some (.loop (XS A tm d fn))/\vd ρ A.s tm:=hr.EG hg hm
theorem pn (w:World) (l k:Nat) (o:Obj) (hk:k ≠ l):(w.heap.setIfInBounds l o)[k]? = w.heap[k]?:=by rw [Oh,NJ (Ne.symm hk)]
theorem pj (w:World) (l:Nat) (o:Obj) (hl:l < w.heap.size):(w.heap.setIfInBounds l o)[l]? = some o:=by rw [Oh,NK rfl,NK hl]
theorem Step.Ix {ρ:yY} {h:za} {w:World} (hr:Rel P ρ h w) {b:Nat} {A A':UH} {pl:Place} (hg:h.get b=some (.loop A)) (hm:ρ.m b=some pl) (hro:h.ro<=b) {tm:Array Value} {d fn:Nat}
  (ho:w.heap[pl.c]? = some (.loop (XS A tm d fn))) (hs:vd ρ A'.s tm) :
  Step P ρ h w ρ (h.set b (some (.loop A'))) { w with heap:=w.heap.setIfInBounds pl.c (.loop (XS A' tm d fn)) } :=
 Step.sL hr hg hm hro (ob' := .loop A') ⟨tm,d,fn,pj w pl.c _ (Zn ho),hs⟩ rfl rfl rfl (by simp) (fun k hk=>pn w pl.c k _ hk)
theorem Yn {w:World} {l:Nat} {r:Loop} (h:w.heap[l]? = some (.loop r)):(Instr.getLoop l).run P w = .ok r w:=by
 simp only [Instr.getLoop,getObj,NF]
 simp only [Sem.run,h,NA]
 rfl
theorem V2 {w:World} {l:Nat} {r:Loop} (h:w.heap[l]? = some (.loop r)) (o:Obj):(setObj l o).run P w = .ok () { w with heap:=w.heap.setIfInBounds l o }:=by
 simp only [setObj,Sem.run,h]
theorem CC {w:World} {l:Nat} {r:Loop} {args:Array Value} (h:w.heap[l]? = some (.loop r)) (hn:args.size=r.params.size) :
  (Instr.yield l args).run P w = .ok (.round l r.fn ((r.params.toList.zip args.toList).foldl (fun tm x=>tm.setIfInBounds x.1 x.2) r.tmps) r.assign r.body) w:=by
 simp only [Instr.yield,NF,Yn h,NA]
 rw [NJ (by simp [hn])]
 simp only [NI]
 rw [<- Array.foldl_toList,Array.toList_zip]
theorem fG {w:World} {l:Nat} {r:Loop} (h:w.heap[l]? = some (.loop r)) (hr:r.state = .ready) :
  (Instr.beginRound l).run P w = .ok () { w with heap:=w.heap.setIfInBounds l (.loop { r with state := .busy }) }:=by
 simp only [Instr.beginRound,NF,Yn h,NA,V2 h,hr,NI]
theorem Ve {w:World} {l:Nat} {r:Loop} (h:w.heap[l]? = some (.loop r)) (jump:Option Code) :
  (Instr.endRound l jump).run P w = .ok (.bool jump.isNone) { w with heap:=w.heap.setIfInBounds l (.loop { r with state:=if jump.isNone then .ready else .done,pending:=jump }) }:=by
 simp only [Instr.endRound,NF,Yn h,NA,V2 h,NI]
theorem p8 {w:World} {l:Nat} {r:Loop} (h:w.heap[l]? = some (.loop r)) (hb:(r.state == .busy)=false) :
  (Instr.endLoop l).run P w = .ok r.pending { w with heap:=w.heap.setIfInBounds l (.loop { r with state := .exhausted }) }:=by
 simp only [Instr.endLoop,NF,Yn h,NA,hb,On,Oo,V2 h,NI]
section moves
variable {b:Frame} {tm:Array Value} {ds:List Deferred} {k:List Item} {cs:List Frame} {w w':World}
theorem JL {l:Nat} (hb:b.roundOf=some l) (hrun:(Instr.beginRound l).run P w = .ok () w'):step P (lone (wW b tm ds (.beginRound :: k)) cs w) = .next (lone (wW b tm ds k) cs w') :=
 step_lone_go (by
  simp only [stepG,wW,stepG.exec,hb,stepG.apply]
  simp [hrun,Frame.finish])
def ZW:Ex->Option Code
 | .normal=>none
 | .ret=>some .ret
 | .exit id=>some (.exit id)
theorem VQ {l:Nat} {fr:Frame} (hb:b.roundOf=some l) (hk:b.kind = .normal) {e:Ex} (todo:List Item)
  (htodo:match e with | .normal=>todo = [] | .ret => ∃ t,todo = .code .ret :: t | .exit id => ∃ t,todo = .code (.exit id) :: t/\exitTo id t=none) {v:Value}
  (hrun:(Instr.endRound l (ZW e)).run P w = .ok v w') :
  step P (lone (wW b tm ds todo) (fr :: cs) w) = .next (lone (fr.finish v) cs w') :=
 step_lone_go (by
  cases e with
  | normal=>subst htodo;simp only [ZW] at hrun;simp [stepG,wW,stepG.exec,hb,hrun,doReturn,hk]
  | ret=>obtain ⟨t,rfl⟩:=htodo;simp only [ZW] at hrun;simp [stepG,wW,stepG.exec,hb,hrun,doReturn,hk]
  | exit id=>obtain ⟨t,rfl,ht⟩:=htodo;simp only [ZW] at hrun;simp [stepG,wW,stepG.exec,hb,ht,hrun,doReturn,hk])
theorem eQ {ops:Array Oper} {i:Nat} {rest:List Nat} {o:Oper} (ho:ops[i]? = some o) (hw:Region.wanted o (yielded ops tm)=true) (hd:Z3 o.op=false) {l:Nat} {f:FuncId} {tm':Array Value} {as bd:Code} {w':World}
  (hr:(execOp (Act.eval ⟨tm,ds⟩) o).run P w = .ok (.round l f tm' as bd) w') :
  step P (lone (wW b tm ds (.inRegion ops (i :: rest) :: k)) cs w) = .next (lone (Frame.round l f tm' as bd .normal) (wW b tm ds (.inRegion ops (i :: rest) :: k) :: cs) w') :=
 step_lone_go (by rw [UA ho hw hd];simp [stepG.apply,hr,wW])
theorem QL {l:Nat} {jump:Option Code} (hrun:(Instr.endLoop l).run P w = .ok jump w') :
  step P (lone (wW b tm ds (.endRangeFunc l :: k)) cs w) = .next (lone (wW b tm ds ((jump.map Item.code).toList ++ k)) cs w') :=
 step_lone_go (by simp [stepG,wW,stepG.exec,hrun])
theorem bq {f:Operand} {params:Array Tmp} {as bd:Code} {l:Nat} {mark:List Deferred} {w1 w2:World} {g:FuncId} {args:Array Value}
  (hrun:(Instr.enterLoop b.fn tm params as bd b.roundOf).run P w = .ok (l,mark) w1)
  (hcall:(do let d <- resolve (Act.eval ⟨tm,ds⟩) { callee := .value f,args := #[.const (.func (.yield l) #[] #[])],argTypes := #[] } 0;invoke d.target d.args:Sem Next).run P w1 = .ok (.enter g args) w2) :
  step P (lone (wW b tm ds (.code (.rangeFunc f params as bd) :: k)) cs w) = .next (lone (Frame.enter P g args .normal) (wW b tm (mark ++ ds) (.inRangeFunc l :: k) :: cs) w2) :=
 step_lone_go (by
  have he:=eK b tm (mark ++ ds) (.inRangeFunc l :: k)
  have he':(Act.eval ⟨tm,mark ++ ds⟩)=(Act.eval ⟨tm,ds⟩):=by funext x;cases x <;> rfl
  rw [he'] at he
  simp only [wW] at he
  simp only [stepG,wW,stepG.exec]
  simp only [Sem.runT_eq,hrun,GStep.bare_after]
  simp only [stepG.apply,he,Sem.runT_eq,hcall]
  simp [GStep.bare,GStep.after])
end moves
def TY (P:Program) (L:Nat) (args:List Value) (h:za) (R:Value->za->Prop):Prop :=
 ∀ (ρ:yY) (w:World) (cargs:List Value) (pl:Place),Rel P ρ h w->xD ρ args cargs->L < ρ.next->ρ.m L=some pl ->
   ∃ f tm as bd,(Instr.yield pl.c cargs.toArray).run P w = .ok (.round pl.c f tm as bd) w /\
     ∀ (fr:Frame) (cs:List Frame),∃ v v' h' ρ' w',R v h'/\Step P ρ h w ρ' h' w'/\zD ρ' v v'/\Steps P (lone (Frame.round pl.c f tm as bd .normal) (fr :: cs) w) (lone (fr.finish v') cs w')
def UH.left (A:UH) (e:Ex):UH:={ A with state:=if (ZW e).isNone then .ready else .done,pending:=ZW e }
theorem Fp {L:Nat} {A:UH} {args:List Value} {h:za} {s0:Env} {R:Value->za->Prop} (hg:h.get L=some (.loop A)) (he:Ym A.params.toList args A.s=some s0)
  (ht:T P (some L) A.assign s0 h (fun e s1 h1=>e = .normal /\ ∃ A1,h1.get L=some (.loop A1)/\A1.state = .ready/\h1.ro<=L /\
   T P (some L) A.body s1 (h1.set L (some (.loop { A1 with state := .busy }))) (fun e s2 h2 => ∃ A2,h2.get L=some (.loop A2)/\h2.ro<=L /\
     R (.bool (ZW e).isNone) (h2.set L (some (.loop (A2.left e))))))):TY P L args h R:=by
 intro ρ w cargs pl hr hv hL hm
 obtain ⟨tm,d,fn,ho,hs⟩:=hr.loop hg hm
 obtain ⟨hlen,hs0⟩:=V1 he hs hv
 refine ⟨fn,_,A.assign,A.body,CC ho (by simpa [XS] using hlen.symm),fun fr cs => ?_⟩
 let b:Frame:={ (default:Frame) with fn:=fn,kind := .normal,roundOf:=some pl.c }
 have hrd:Rd ρ (some L) b:=⟨hL,pl,hm,rfl⟩
 obtain ⟨e,s1,h1,ρ1,w1,tm1,ds1,⟨rfl,A1,g1,a1,ro1,q⟩,st1,hs1,_,ha⟩:=ht ρ w _ [] hr hs0 b hrd [.beginRound,.code A.body] (fr :: cs)
 have hm1:ρ1.m L=some pl:=(st1.le.2 L hL).trans hm
 obtain ⟨tmA,dA,fnA,hoA,hsA⟩:=st1.rel.loop g1 hm1
 have sb:=Step.Ix st1.rel g1 hm1 ro1 (A':={ A1 with state := .busy }) hoA hsA
 obtain ⟨e,s2,h2,ρ2,w2,tm2,ds2,⟨A2,g2,ro2,hR⟩,st2,hs2,_,ha2⟩:=q ρ1 _ tm1 ds1 sb.rel hs1 b (hrd.mono st1.le) [] (fr :: cs)
 have hm2:ρ2.m L=some pl:=(st2.le.2 L (NH hL st1.le.1)).trans hm1
 obtain ⟨tmB,dB,JK,hoB,hsB⟩:=st2.rel.loop g2 hm2
 have se:=Step.Ix st2.rel g2 hm2 ro2 (A':=A2.left e) hoB hsB
 refine ⟨_,.bool (ZW e).isNone,_,ρ2,_,hR,((st1.trans sb).trans st2).trans se,.bool _,?_⟩
 refine Pf ha (.head (JL rfl (fG hoA a1)) ?_)
 cases e with
 | normal=>exact Pf ha2 (.one (VQ (e := .normal) rfl rfl [] rfl (Ve hoB _)))
 | ret=>obtain ⟨t,sx⟩:=ha2;exact sx.trans (.one (VQ (e := .ret) rfl rfl _ ⟨t,rfl⟩ (Ve hoB _)))
 | exit id=>obtain ⟨t,et,sx⟩:=ha2;exact sx.trans (.one (VQ (e := .exit id) rfl rfl _ ⟨t,rfl,et.trans rfl⟩ (Ve hoB _)))
theorem mQ {s:Env} {h:za} {Q:Env->za->Prop} {ops:Array Oper} {i:Nat} {rest:List Nat} {o:Oper} {f:Operand} {cargs:Array Operand} {ts:Array TypeId} {L:Nat} {vs:List Value} {R:Value->za->Prop}
  (ho:ops[i]? = some o) (hw:yi ops s o=true) (yz:o.op = .call { callee := .value f,args:=cargs,argTypes:=ts }) (hf:qI s f=some (.func (.yield L) #[] #[])) (hargs:X5 s cargs.toList=some vs)
  (hc:TY P L vs h R) (ht:∀ v h1,R v h1->∃ s1,s.put o.dst v=some s1/\TO P ops rest s1 h1 Q):TO P ops (i :: rest) s h Q:=by
 intro ρ w tm ds hr hs b k cs
 have hw':Region.wanted o (yielded ops tm)=true:=(ZU hs ops o).trans hw
 have e1:=zO (a:=⟨tm,ds⟩) hs hf
 have e2:=kA (a:=⟨tm,ds⟩) hs hargs
 generalize hfv:Act.eval ⟨tm,ds⟩ f=fv at e1
 cases e1 with
 | yield hb hm=>
   rename_i pl
   obtain ⟨fn,tmr,as,bd,hy,hgo⟩:=hc ρ w _ pl hr e2 hb hm
   have hrun:(execOp (Act.eval ⟨tm,ds⟩) o).run P w = .ok (.round pl.c fn tmr as bd) w:=by
    have hargs':(#[]:Array Value) ++ cargs.map (Act.eval ⟨tm,ds⟩)=(cargs.toList.map (Act.eval ⟨tm,ds⟩)).toArray:=by apply Pn;simp
    simp only [execOp,yz,resolve,hfv,Deferred.ofValue,NF,NI,NA,invoke,hargs',hy]
   obtain ⟨v,v',h',ρ',w1,hR,st,hv,hgo⟩:=hgo (wW b tm ds (.inRegion ops (i :: rest) :: k)) cs
   obtain ⟨s1,hp,hrest⟩:=ht v h' hR
   have hs1:vd ρ' s1 (uw tm o.dst v'):=(hs.mono st.le).put hv hp
   obtain ⟨s2,h2,ρ2,w2,tm2,q,st2,hs2,sx⟩:=hrest ρ' w1 _ ds st.rel hs1 b k cs
   have hd:Z3 o.op=false:=by rw [yz];rfl
   refine ⟨s2,h2,ρ2,w2,tm2,q,st.trans st2,hs2,.head (eQ ho hw' hd hrun) (Pf hgo ?_)⟩
   rw [kB,ho]
   exact sx
theorem Step.more {ρ:yY} {h:za} {w w':World} (hr:Rel P ρ h w) {o:Obj} (hw:w' = { w with heap:=w.heap.push o }):Step P ρ h w ρ h w':=by
 subst hw
 have hold:∀ k,k < w.heap.size->(w.heap.push o)[k]? = w.heap[k]?:=fun k hk=>by rw [Array.getElem?_push,NJ (by omega)]
 exact ⟨yY.le_refl _,hr.grow hold,rfl,rfl,rfl,rfl,by simp,fun k hk _=>hold k hk,fun _ _ h=>h⟩
theorem run_newObj (w:World) (o:Obj):(newObj o).run P w = .ok w.heap.size { w with heap:=w.heap.push o }:=rfl
theorem ae {rd:Option Nat} {f:Operand} {params:Array Tmp} {as bd:Code} {s:Env} {h:za} {g:FuncId} {fa fc:Array Value} {Q:Ex->Env->za->Prop}
  (hf:qI s f=some (.func (.func g) fa fc)) (hcall:vL P g=true) (hrd:∀ L,rd=some L->∃ A,h.get L=some (.loop A))
  (hc:TC P g (fa.toList ++ [.func (.yield h.next) #[] #[]] ++ fc.toList) (h.push (.loop { state := .ready,pending:=none,s:=s,params:=params,assign:=as,body:=bd }))
   (fun _ h1 => ∃ A,h1.get h.next=some (.loop A)/\(A.state == .busy)=false/\h1.ro<=h.next /\ ∃ e,ZW e=A.pending/\Q e s (h1.set h.next none))):T P rd (.rangeFunc f params as bd) s h Q:=by
 intro ρ w tm ds hr hs b hb k cs
 let A0:UH:={ state := .ready,pending:=none,s:=s,params:=params,assign:=as,body:=bd }
 obtain ⟨mark,d,w1,hrun,st1,hd1⟩:∃ mark d w1,(Instr.enterLoop b.fn tm params as bd b.roundOf).run P w = .ok (w1.heap.size,mark) { w1 with heap:=w1.heap.push (.loop (XS A0 tm d b.fn)) } /\ Step P ρ h w ρ h w1/\Vs w ds w1 (mark ++ ds):=by
  cases rd with
  | none=>
    have hb:b.roundOf=none:=hb
    refine ⟨[pD w.heap.size],w.heap.size,{ w with heap:=w.heap.push (.deferred (some [])) },?_,Step.more hr rfl,[w.heap.size],rfl,by simp,fun r hr' => ?_⟩
    ·simp only [Instr.enterLoop,hb,NF,run_newObj,NA,NI]
     rfl
    ·simp only [N7] at hr'
     subst hr'
     exact ⟨NG _,by simp⟩
  | some L0=>
    obtain ⟨hL,pl,hm,hb⟩:=hb
    obtain ⟨A,gA⟩:=hrd L0 rfl
    obtain ⟨tmA,dA,fnA,hoA,_⟩:=hr.loop gA hm
    refine ⟨[],dA,w,?_,.refl hr,.refl _ _ _⟩
    simp only [Instr.enterLoop,hb,NF,Yn hoA,run_newObj,NA,NI]
    rfl
 let pl:Place:=⟨w1.heap.size,0,0,0⟩
 have stp:Step P ρ h w1 (ρ.ext pl) (h.push (.loop A0)) { w1 with heap:=w1.heap.push (.loop (XS A0 tm d b.fn)) } :=
  Step.Uv st1.rel (ob := .loop A0) (pl:=pl) rfl rfl ⟨tm,d,b.fn,by simp [pl,XS],hs.mono (ρ.JR pl)⟩ rfl rfl rfl
 have hnew:(ρ.ext pl).m h.next=some pl:=by rw [<- hr.next];exact ρ.qg pl
 have hlt:h.next < (ρ.ext pl).next:=by show h.next < ρ.next + 1;rw [hr.next];omega
 have e1:=zO (a:=⟨tm,ds⟩) (hs.mono (ρ.JR pl)) hf
 generalize hfv:Act.eval ⟨tm,ds⟩ f=fv at e1
 cases e1 with
 | func ha hcs k1 k2=>
   rename_i fa' fc'
   let yl:Value := .func (.yield w1.heap.size) #[] #[]
   let full:=fa'.toList ++ [yl] ++ fc'.toList
   have hyl:zD (ρ.ext pl) (.func (.yield h.next) #[] #[]) yl := .yield (pl:=pl) hlt hnew
   have hfull:xD (ρ.ext pl) (fa.toList ++ [.func (.yield h.next) #[] #[]] ++ fc.toList) full :=
    (xD.append ⟨by simpa using ha,fun i x y hx hy=>k1 i x y (by simpa using hx) (by simpa using hy)⟩ (.cons hyl (.nil _))).append ⟨by simpa using hcs,fun i x y hx hy=>k2 i x y (by simpa using hx) (by simpa using hy)⟩
   have hrun2:(do let d <- resolve (Act.eval ⟨tm,ds⟩) { callee := .value f,args := #[.const yl],argTypes := #[] } 0;invoke d.target d.args:Sem Next).run P { w1 with heap:=w1.heap.push (.loop (XS A0 tm d b.fn)) } = .ok (.enter g full.toArray) { w1 with heap:=w1.heap.push (.loop (XS A0 tm d b.fn)) }:=by
    have hargs':fa' ++ (#[.const yl]:Array Operand).map (Act.eval ⟨tm,ds⟩) ++ fc'=full.toArray:=by apply Pn;simp [full];rfl
    simp only [resolve,hfv,Deferred.ofValue,NF,NI,NA,invoke,callFunc,run_program,hargs']
    unfold vL at hcall
    cases hfn:P.funcs[g]? with
    | none=>rw [hfn] at hcall;cases hcall
    | some fn=>
      rw [hfn] at hcall
      simp only [ND,NN] at hcall
      simp only [hcall.2,On,Oo]
      rw [NJ (by cases hb:fn.body <;> simp_all)]
      rfl
   obtain ⟨e,w3,fr,⟨v,v',h',ρ',rfl,⟨A,gA,nb,roA,ex,hj,q⟩,st,hv⟩,hcomes,_,hleave⟩:=hc (ρ.ext pl) _ full stp.rel hfull (wW b tm (mark ++ ds) (.inRangeFunc w1.heap.size :: k) :: cs)
   have hm':ρ'.m h.next=some pl:=(st.le.2 _ hlt).trans hnew
   obtain ⟨tmA,dA,fnA,hoA,hsA⟩:=st.rel.loop gA hm'
   have stt:=Step.Ix st.rel gA hm' roA (A':={ A with state := .exhausted }) hoA hsA
   have std:=Step.sH stt.rel h.next
   have sta:=(((stp.trans st).trans stt).trans std).same (h'':=h'.set h.next none) ⟨rfl,rfl,fun x=>by rw [za.set_set]⟩
   refine ⟨ex,s,h'.set h.next none,ρ',_,tm,mark ++ ds,q,st1.trans sta,hs.mono (st1.trans sta).le,hd1.trans (.refl _ _ _) st1.size st1.rel sta,?_⟩
   have harr:Steps P (lone (wW b tm ds (.code (.rangeFunc f params as bd) :: k)) cs w) (lone (wW b tm (mark ++ ds) ((A.pending.map Item.code).toList ++ k)) cs { w3 with heap:=w3.heap.setIfInBounds pl.c (.loop (XS { A with state := .exhausted } tmA dA fnA)) }) :=
    .head (bq hrun hrun2) (Pf hcomes (.head (step_leave_returned hleave) (.one (QL (p8 hoA nb)))))
   have hp:(A.pending.map Item.code).toList=((ZW ex).map Item.code).toList:=by rw [hj]
   rw [hp] at harr
   cases ex with
   | normal=>exact harr
   | ret=>exact ⟨k,harr⟩
   | exit id=>exact ⟨k,rfl,harr⟩
end
noncomputable section
inductive Task where
 | code (rd:Option Nat) (c:Code) (s:Env)
 | call (f:FuncId) (args:List Value)
inductive Out where
 | ex (e:Ex) (s:Env)
 | val (v:Value)
abbrev ZK:=Task->za->Option (Out × za)
def wU (h h2:za):za := @za.rec (fun _=>za) (fun t n r => @za.rec (fun _=>za) (fun t2 n2 _=>⟨(List.range' n (n2 - n)).foldl (fun t b=>t.set b (t2.get b)) t,n2,r⟩) h2) h
def oO (cls:List Nat) (rec:ZK) (g:FuncId) (args:List Value) (h:za):Option (Value × za) :=
 match cls.getD g 0 with
 | 1=>(match rec (.call g args) h with
   | some (.val v,h')=>some (v,h')
   | _=>none)
 | 2=>(match rec (.call g args) h.lock with
   | some (.val v,_)=>cond (J6 v) (some (v,h)) none
   | _=>none)
 | 3=>(match rec (.call g args) h.lock with
   | some (.val v,h2)=>some (v,wU h h2)
   | _=>none)
 | _=>none
def H2:Ex->Bool
 | .normal=>true
 | _=>false
def isReady:LoopState->Bool
 | .ready=>true
 | _=>false
def Ga:LoopState->Bool
 | .busy=>false
 | _=>true
def fF (rec:ZK) (L:Nat) (args:List Value) (h:za):Option (Value × za) :=
 match h.get L with
 | some (.loop A)=>(match Ym A.params.toList args A.s with
   | some s0=>(match rec (.code (some L) A.assign s0) h with
     | some (.ex .normal s1,h1)=>(match h1.get L with
       | some (.loop A1)=>cond (isReady A1.state && Nat.ble h1.ro L)
         (match rec (.code (some L) A.body s1) (h1.set L (some (.loop { A1 with state := .busy }))) with
          | some (.ex e _,h2)=>(match h2.get L with
            | some (.loop A2)=>cond (Nat.ble h2.ro L) (some (.bool (H2 e),h2.set L (some (.loop (A2.left e))))) none
            | _=>none)
          | _=>none) none
       | _=>none)
     | _=>none)
   | none=>none)
 | _=>none
def HV:Option Code->Option Ex
 | none=>some .normal
 | some .ret=>some .ret
 | some (.exit id)=>some (.exit id)
 | _=>none
def fE (cls:List Nat) (rec:ZK) (rd:Option Nat) (f:Option Value) (params:Array Tmp) (as bd:Code) (s:Env) (h:za):Option (Ex × za) :=
 match f with
 | some (.func (.func g) fa fc)=>cond (Nat.beq (cls.getD g 0) 1 && (match rd with
   | none=>true
   | some L0=>(match h.get L0 with
     | some (.loop _)=>true
     | _=>false)))
   (match rec (.call g (fa.toList ++ [.func (.yield h.next) #[] #[]] ++ fc.toList)) (h.push (.loop { state := .ready,pending:=none,s:=s,params:=params,assign:=as,body:=bd })) with
    | some (.val _,h1)=>(match h1.get h.next with
      | some (.loop A)=>cond (Ga A.state && Nat.ble h1.ro h.next)
        (match HV A.pending with
         | some e=>some (e,h1.set h.next none)
         | none=>none) none
      | _=>none)
    | _=>none) none
 | _=>none
def evalOp (P:Program) (cls:List Nat) (rec:ZK) (s:Env) (o:Oper) (h:za):Option (Value × za) :=
 match o.op with
 | .call { callee := .value f,args,argTypes }=>(match qI s f,X5 s args.toList with
   | some (.func (.func g) fa fc),some vs=>cond (Nat.beq (cls.getD g 0) 0) (lO P g (fa.toList ++ vs ++ fc.toList) h) (oO cls rec g (fa.toList ++ vs ++ fc.toList) h)
   | some (.func (.yield L) fa fc),some vs=>cond (Nat.beq fa.size 0 && Nat.beq fc.size 0) (fF rec L vs h) none
   | _,_=>none)
 | _=>VL P s o h
def Vc (P:Program) (cls:List Nat) (rec:ZK) (ops:Array Oper):List Oper->Env->za->Option (Env × za)
 | [],s,h=>some (s,h)
 | o :: os,s,h=>
   cond (yi ops s o)
    (match evalOp P cls rec s o h with
     | some (v,h1)=>(match s.put o.dst v with
       | some s1=>Vc P cls rec ops os s1 h1
       | none=>none)
     | none=>none)
    (match s.put o.dst undef with
     | some s1=>Vc P cls rec ops os s1 h
     | none=>none)
structure bm where
 r:yr
 ri:List Nat
 all:Bool
 Qc:Bool
 IF:List Nat
 ex:Bool
def yN (ms:List Nat) (o:Oper):Nat:=o.after.toList.foldl (fun m e=>cond (Region.binds .any e) (m ||| (1 <<< e.on) ||| ms.getD e.on 0) m) 0
def jA (ops:Array Oper) (x y:Oper):Bool :=
 (match x.dst with
  | none=>true
  | some d => !(y.looksAt ops).contains d && !(decide (y.dst=some d))) &&
 (match y.dst with
  | none=>true
  | some d => !(x.looksAt ops).contains d)
def eU (x y:bm):Bool :=
 cond x.all (y.Qc || (y.ex && !y.all && y.IF.all (fun b => !x.r.tc b) && y.ri.all (fun b => !x.r.tc b))) (x.ri.all fun b => !y.r.rd b && !y.r.tc b) &&
 cond y.all (x.Qc || (x.ex && x.IF.all fun b => !y.r.tc b)) (y.ri.all fun b => !x.r.rd b)
def ZD (ops:Array Oper):List Oper->Nat->List Nat->List (Nat × Oper)->Bool
 | [],_,_,_=>true
 | o :: os,i,ms,prev=>
   (o.after.toList.all fun e => !(Region.binds .any e) || Nat.blt e.on i) && (prev.all fun x=>(yN ms o).testBit x.1 || jA ops x.2 o) && ZD ops os (i + 1) (ms ++ [yN ms o]) ((i,o) :: prev)
def G7:Value->List Nat
 | .pointer (some a)=>[a.block]
 | .slice (some a) _ _=>[a.block]
 | .map (some b)=>[b]
 | _=>[]
def iN:Op->Bool
 | .call { callee := .builtin .cap,.. } | .call { callee := .builtin .min,.. } | .call { callee := .builtin .max,.. } | .call { callee := .builtin .unsafeSliceData,.. }=>false
 | .move _ | .assign _ | .pick _ _ _ | .alloc _ | .box _ _ | .build _ _ | .nilCheck _ | .binOp _ _ _ _ _ | .unOp _ _ _ | .makeInterface _ _ | .makeFunc _ _ _ | .fieldAddr _ _ _ | .field _ _ _ | .indexAddr _ _ _ | .index _ _ _ | .extract _ _=>false
 | _=>true
def r5 (h:za) (b:Nat):List Nat :=
 match h.get b with
 | some (.iter (some m) _ _ _)=>[b,m]
 | _=>[b]
def EK (s:Env) (o:Oper) (h:za):List Nat:=cond (iN o.op) ((o.op.operands.toList.flatMap fun x=>(match qI s x with | some v=>G7 v | none=>[])).flatMap (r5 h)) []
def za.pick (h:za) (l:List Nat):za := @za.rec (fun _=>za) (fun t0 n r=>⟨l.foldl (fun t b=>t.set b (t0.get b)) .e,n,r⟩) h
def za.Vq (h:za) (l:List Nat):za := @za.rec (fun _=>za) (fun t0 n r=>⟨l.foldl (fun t b=>t.set b none) t0,n,r⟩) h
def za.F7 (h g:za) (l:List Nat):za := @za.rec (fun _=>za) (fun t0 _ r => @za.rec (fun _=>za) (fun t1 n _=>⟨l.foldl (fun t b=>t.set b (t1.get b)) t0,n,r⟩) g) h
def za.Ff (h' h:za) (l:List Nat):za := @za.rec (fun _=>za) (fun t0 n r=>⟨l.foldl (fun t b=>t.set b (h.get b)) t0,n,r⟩) h'
def KO (s:Env) (dsts:List Nat):List Oper->Nat->Nat->List Nat
 | [],_,_=>[]
 | o :: os,j,desc=>cond (o.after.toList.any fun e=>Region.binds .any e && desc.testBit e.on)
     (KO s dsts os (j + 1) (desc ||| (1 <<< j)))
     ((cond (iN o.op) (o.op.operands.toList.flatMap fun x=>(match x with
       | .tmp t=>cond (dsts.contains t) [] (G7 (s.get t))
       | _=>[])) []) ++ KO s dsts os (j + 1) desc)
def Yp:Builtin->Bool
 | .len | .cap | .min | .max | .unsafeSliceData=>true
 | _=>false
def Z4:Op->Bool
 | .call { callee := .builtin b,.. } => !Yp b
 | .store _ _ _=>true
 | .mapUpdate _ _ _ _=>true
 | .next _ _=>true
 | .call _=>true
 | _=>false
def eH (P:Program) (cls:List Nat) (rec:ZK) (ops:Array Oper) (recs:List bm) (mask i:Nat) (os:List Oper) (o:Oper) (s:Env) (h:za):Option (bm × za) :=
 cond (yi ops s o)
  (match o.op with
   | .call { callee := .value f,args,argTypes }=>(match qI s f,X5 s args.toList with
     | some (.func (.func g) fa fc),some vs=>
       (match cls.getD g 0 with
        | 1=>
          let hid:=((recs.flatMap fun x=>cond (mask.testBit x.r.j) [] (x.ri ++ x.IF)) ++ KO s ((o :: os).filterMap (·.dst)) os (i + 1) (1 <<< i)).filter fun b=>Nat.blt b h.next
          (match rec (.call g (fa.toList ++ vs ++ fc.toList)) (h.Vq hid) with
           | some (.val v,h')=>some (⟨⟨i,o,v,s,h.Vq hid,h',fun b=>Nat.blt b h.next && !hid.contains b,fun b=>Nat.blt b h'.next && !hid.contains b⟩,[],true,false,[],false⟩,h'.Ff h hid)
           | _=>none)
        | 2=>
          let hid:=recs.flatMap fun x=>cond (mask.testBit x.r.j) [] x.ri
          (match rec (.call g (fa.toList ++ vs ++ fc.toList)) (h.Vq hid).lock with
           | some (.val v,_)=>cond (J6 v) (some (⟨⟨i,o,v,s,h.Vq hid,h.Vq hid,fun b=>Nat.blt b h.next && !hid.contains b,fun _=>false⟩,[],false,false,[],false⟩,h)) none
           | _=>none)
        | 3=>
          let hid:=recs.flatMap fun x=>cond (mask.testBit x.r.j) [] x.ri
          (match rec (.call g (fa.toList ++ vs ++ fc.toList)) (h.Vq hid).lock with
           | some (.val v,h2)=>
             let new:=List.range' h.next (h2.next - h.next)
             some (⟨⟨i,o,v,s,h.Vq hid,wU (h.Vq hid) h2,fun b=>Nat.blt b h.next && !hid.contains b,fun b=>new.contains b⟩,new,false,false,[],false⟩,wU h h2)
           | _=>none)
        | _=>(match lO P g (fa.toList ++ vs ++ fc.toList) (h.pick []) with
          | some (v,g')=>
            let new:=List.range' h.next (g'.next - h.next)
            some (⟨⟨i,o,v,s,h.pick [],g',fun _=>false,fun b=>new.contains b⟩,new,false,new.isEmpty,[],true⟩,h.F7 g' new)
          | none=>none))
     | _,_=>none)
   | _=>
     let bs:=EK s o h
     (match VL P s o (h.pick bs) with
      | some (v,g')=>
        let new:=List.range' h.next (g'.next - h.next)
        let ri:=cond (Z4 o.op) (bs ++ new) new
        some (⟨⟨i,o,v,s,h.pick bs,g',fun b=>bs.contains b,fun b=>ri.contains b⟩,ri,false,bs.isEmpty && ri.isEmpty,bs,true⟩,h.F7 g' ri)
      | none=>none))
  (some (⟨⟨i,o,undef,s,h.pick [],h.pick [],fun _=>false,fun _=>false⟩,[],false,true,[],true⟩,h))
def WZ (P:Program) (cls:List Nat) (rec:ZK) (ops:Array Oper):List Oper->Nat->List Nat->List bm->Env->za->Option (Env × za)
 | [],_,_,_,s,h=>some (s,h)
 | o :: os,i,ms,recs,s,h=>
   (match eH P cls rec ops recs (yN ms o) i os o s h with
    | some (y,h1)=>cond (y.Qc || recs.all fun x=>eU x y || (yN ms o).testBit x.r.j)
      (match s.put o.dst y.r.v with
       | some s1=>WZ P cls rec ops os (i + 1) (ms ++ [yN ms o]) (y :: recs) s1 h1
       | none=>none) none
    | none=>none)
def body (P:Program) (cls:List Nat) (rec:ZK):Task->za->Option (Out × za)
 | .call f args,h=>(match P.funcs[f]? with
   | none=>none
   | some fn=>(match fn.body with
     | none=>none
     | some c=>(match rec (.code none c (Env.enter args fn.ntmps)) h with
       | some (.ex .normal s1,h1)=>(match uK P s1 h1 fn.results.toList with
         | some vs=>some (.val (jM vs),h1)
         | none=>none)
       | some (.ex .ret s1,h1)=>(match uK P s1 h1 fn.results.toList with
         | some vs=>some (.val (jM vs),h1)
         | none=>none)
       | _=>none)))
 | .code rd c s,h=>(match c with
   | .skip=>some (.ex .normal s,h)
   | .label _=>some (.ex .normal s,h)
   | .exit id=>some (.ex (.exit id) s,h)
   | .ret=>some (.ex .ret s,h)
   | .seq a b=>(match rec (.code rd a s) h with
     | some (.ex .normal s1,h1)=>rec (.code rd b s1) h1
     | r=>r)
   | .cond x a b=>(match qI s x with
     | some (.bool true)=>rec (.code rd a s) h
     | some (.bool false)=>rec (.code rd b s) h
     | _=>none)
   | .block id a=>(match rec (.code rd a s) h with
     | some (.ex (.exit id') s1,h1)=>cond (Nat.beq id' id) (some (.ex .normal s1,h1)) (some (.ex (.exit id') s1,h1))
     | r=>r)
   | .scope a=>rec (.code rd a s) h
   | .loop a=>(match rec (.code rd a s) h with
     | some (.ex .normal s1,h1)=>rec (.code rd (.loop a) s1) h1
     | r=>r)
   | .region _ ops draw=>cond draw
     (cond (ZD ops ops.toList 0 [] []) (match WZ P cls rec ops ops.toList 0 [] [] s h with
      | some (s1,h1)=>some (.ex .normal s1,h1)
      | none=>none) none)
     (match Vc P cls rec ops ops.toList s h with
      | some (s1,h1)=>some (.ex .normal s1,h1)
      | none=>none)
   | .rangeFunc f params as bd=>(match fE cls rec rd (qI s f) params as bd s h with
     | some (e,h1)=>some (.ex e s,h1)
     | none=>none)
   | _=>none)
def run (P:Program) (cls:List Nat) (n:Nat):ZK:=Nat.rec (fun _ _=>none) (fun _ rec=>body P cls rec) n
end
noncomputable section
variable {P:Program} {cls:List Nat}
theorem kI {α:Type} (f:Nat->Option α) (j:Nat):∀ (l:List Nat) (t:Tr α),(l.foldl (fun t b=>t.set b (f b)) t).get j=if j ∈ l then f j else t.get j
 | [],t=>by simp
 | b :: l,t=>by
   rw [List.foldl_cons,kI f j l,Tr.yj]
   by_cases h:j ∈ l
   ·simp [h]
   ·by_cases e:j=b
    ·subst e;simp [h]
    ·simp [h,e]
theorem uk (h:za) (l:List Nat) (b:Nat):(h.pick l).get b=if b ∈ l then h.get b else none:=by
 show (l.foldl (fun t b=>t.set b (h.get b)) Tr.e).get b=_
 rw [kI];rfl
theorem Zy (h:za) (l:List Nat) (b:Nat):(h.Vq l).get b=if b ∈ l then none else h.get b:=by
 show (l.foldl (fun t b=>t.set b none) h.t).get b=_
 rw [kI (fun _=>none)];rfl
theorem VU (h g:za) (l:List Nat) (b:Nat):(h.F7 g l).get b=if b ∈ l then g.get b else h.get b:=by
 show (l.foldl (fun t b=>t.set b (g.get b)) h.t).get b=_
 rw [kI];rfl
theorem QN (h' h:za) (l:List Nat) (b:Nat):(h'.Ff h l).get b=if b ∈ l then h.get b else h'.get b:=by
 show (l.foldl (fun t b=>t.set b (h.get b)) h'.t).get b=_
 rw [kI];rfl
theorem kN {a c b:Nat}:b ∈ List.range' a (c - a) ↔ a<=b/\b < c:=by
 rw [List.mem_range'_1];omega
theorem x7 (h h2:za) (b:Nat):(wU h h2).get b=if h.next<=b/\b < h2.next then h2.get b else h.get b:=by
 show ((List.range' h.next (h2.next - h.next)).foldl (fun t b=>t.set b (h2.get b)) h.t).get b=_
 rw [kI]
 by_cases hb:h.next<=b/\b < h2.next
 ·rw [NK (kN.2 hb),NK hb]
 ·rw [NJ (fun hm=>hb (kN.1 hm)),NJ hb];rfl
theorem TC.fresh {f:FuncId} {args:List Value} {h h2:za} {v:Value} (ht:TC P f args h.lock (fun v1 h1=>v1=v/\h1=h2)):TC P f args h (fun v1 h1=>v1=v/\h1=wU h h2):=by
 intro ρ w cargs hr hv
 refine (ht ρ w cargs hr.lock hv).mono fun e w' => ?_
 rintro ⟨v1,v',h',ρ',e1,⟨rfl,rfl⟩,st,hvv⟩
 have nomine:∀ c,¬ Q2 ρ h.lock c:=by
  rintro c ⟨b,o,pl,hg,hro,_⟩
  have h1:h.next<=b:=hro
  have h2:=hr.Vn b o hg
  omega
 have hsame:∀ c,c < w.heap.size->w'.heap[c]? = w.heap[c]?:=fun c hc=>st.frame c hc (nomine c)
 have hn:h.next<=h'.next:=by have:=st.le.1;rw [hr.next,st.rel.next] at this;exact this
 have hold:∀ b,b < h.next->ρ'.m b=ρ.m b:=fun b hb=>st.le.2 b (by rw [hr.next];exact hb)
 have cases':∀ b o,(wU h h').get b=some o->(h.next<=b/\b < h'.next/\h'.get b=some o)\/(b < h.next/\h.get b=some o):=by
  intro b o hg
  rw [x7] at hg
  split at hg
  ·rename_i hb;exact .inl ⟨hb.1,hb.2,hg⟩
  ·exact .inr ⟨hr.Vn b o hg,hg⟩
 refine ⟨v1,v',wU h h',ρ',e1,⟨rfl,rfl⟩,⟨st.le,⟨st.rel.next,Oc hr.ro hn,?_,?_,?_,hr.JO,st.rel.jV⟩,rfl,st.os,st.tape,st.output,st.size,fun c hc _=>hsame c hc,?_⟩,hvv⟩
 ·intro b o hg
  rcases cases' b o hg with ⟨_,h2,_⟩ | ⟨h1,_⟩
  ·exact h2
  ·exact NH h1 hn
 ·intro b o hg
  rcases cases' b _ hg with ⟨h1,h2,h3⟩ | ⟨h1,h3⟩
  ·obtain ⟨pl,hp,hc⟩:=st.rel.ok b o h3
   refine ⟨pl,hp,hc.CO (fun _ => ?_)⟩
   rw [st.ro];exact Ol h1
  ·obtain ⟨pl,hp,hc⟩:=hr.ok b o h3
   exact ⟨pl,(hold b h1).trans hp,(hc.mono st.le).other (hsame _ hc.lt)⟩
 ·have key:∀ b1 b2 o1 o2 p1 p2,h.next<=b1->h'.get b1=some o1->b2 < h.next->h.get b2=some o2->ρ'.m b1=some p1->ρ'.m b2=some p2->p1.c=p2.c->False:=by
   intro b1 b2 o1 o2 p1 p2 l1 g1 l2 g2 m1 m2 ec
   obtain ⟨pl,hp,hc⟩:=hr.ok b2 o2 g2
   rw [hold b2 l2,hp] at m2
   cases m2
   have:=st.bt p1.c (by rw [ec];exact hc.lt) ⟨b1,o1,p1,g1,by rw [st.ro];exact l1,m1,rfl⟩
   exact nomine _ this
  intro b1 b2 o1 o2 p1 p2 g1 g2 m1 m2 ec
  rcases cases' b1 o1 g1 with ⟨l1,_,k1⟩ | ⟨l1,k1⟩ <;> rcases cases' b2 o2 g2 with ⟨l2,_,k2⟩ | ⟨l2,k2⟩
  ·exact st.rel.inj b1 b2 o1 o2 p1 p2 k1 k2 m1 m2 ec
  ·exact (key b1 b2 o1 o2 p1 p2 l1 k1 l2 k2 m1 m2 ec).elim
  ·exact (key b2 b1 o2 o1 p2 p1 l2 k2 l1 k1 m2 m1 ec.symm).elim
  ·rw [hold b1 l1] at m1;rw [hold b2 l2] at m2
   exact hr.inj b1 b2 o1 o2 p1 p2 k1 k2 m1 m2 ec
 ·rintro c hc ⟨b,o,pl,hg,hro,hm,rfl⟩
  rcases cases' b o hg with ⟨l1,_,k1⟩ | ⟨l1,k1⟩
  ·exact (nomine _ (st.bt pl.c hc ⟨b,o,pl,k1,by rw [st.ro];exact l1,hm,rfl⟩)).elim
  ·rw [hold b l1] at hm;exact ⟨b,o,pl,k1,hro,hm,rfl⟩
def jO (P:Program) (cls:List Nat):Bool:=(List.range cls.length).all fun g=>Nat.beq (cls.getD g 0) 0 || vL P g
theorem ji {g:FuncId} {k:Nat} (hC:jO P cls=true) (h:cls.getD g 0=k + 1):vL P g=true:=by
 simp only [jO,NY,ON,Og] at hC
 have hg:g < cls.length:=by
  rcases NZ g cls.length with h1 | h1
  ·exact h1
  ·rw [Oz,NM h1] at h;cases h
 rcases hC g hg with h1 | h1
 ·rw [h] at h1;cases h1
 ·exact h1
structure Sound (P:Program) (rec:ZK):Prop where
 code:∀ rd c s h e s' h',rec (.code rd c s) h=some (.ex e s',h')->T P rd c s h (fun e1 s1 h1=>e1=e/\s1=s'/\h1=h')
 call:∀ f args h v h',rec (.call f args) h=some (.val v,h')->TC P f args h (fun v1 h1=>v1=v/\h1=h')
 kind:∀ rd c s h o h',rec (.code rd c s) h=some (o,h')->∃ e s',o = .ex e s'
 Nc:∀ f args h o h',rec (.call f args) h=some (o,h')->∃ v,o = .val v
theorem oP {rec:ZK} (S:Sound P rec) (hC:jO P cls=true) {g:FuncId} {args:List Value} {h h':za} {v:Value} (he:oO cls rec g args h=some (v,h')) :
  vL P g=true/\TC P g args h (fun v1 h1=>v1=v/\h1=h'):=by
 unfold oO at he
 split at he
 ·rename_i hk
  refine ⟨ji hC hk,?_⟩
  split at he
  ·rename_i v1 h1 hrec
   simp only [Nz,NB] at he
   obtain ⟨rfl,rfl⟩:=he
   exact S.call _ _ _ _ _ hrec
  ·cases he
 ·rename_i hk
  refine ⟨ji hC hk,?_⟩
  split at he
  ·rename_i v1 h1 hrec
   obtain ⟨hsc,he⟩:=zn he
   simp only [Nz,NB] at he
   obtain ⟨rfl,rfl⟩:=he
   refine ((S.call _ _ _ _ _ hrec).quiet (fun v2 h2 q=>by rw [q.1];exact hsc)).mono ?_
   rintro v2 h2 ⟨⟨h3,q1,q2⟩,rfl⟩
   exact ⟨q1,rfl⟩
  ·cases he
 ·rename_i hk
  refine ⟨ji hC hk,?_⟩
  split at he
  ·rename_i v1 h2 hrec
   simp only [Nz,NB] at he
   obtain ⟨rfl,rfl⟩:=he
   exact (S.call _ _ _ _ _ hrec).fresh
  ·cases he
 ·cases he
theorem mC {rec:ZK} (S:Sound P rec) {L:Nat} {args:List Value} {h h':za} {v:Value} (he:fF rec L args h=some (v,h')):TY P L args h (fun v1 h1=>v1=v/\h1=h'):=by
 unfold fF at he
 split at he
 case h_2=>cases he
 rename_i A hg
 split at he
 case h_2=>cases he
 rename_i s0 hs0
 split at he
 case h_2=>cases he
 rename_i s1 h1 hrec
 split at he
 case h_2=>cases he
 rename_i A1 g1
 obtain ⟨hc,he⟩:=zn he
 simp only [ND] at hc
 split at he
 case h_2=>cases he
 rename_i e s2 h2 hrec2
 split at he
 case h_2=>cases he
 rename_i A2 g2
 obtain ⟨hro,he⟩:=zn he
 simp only [Nz,NB] at he
 obtain ⟨rfl,rfl⟩:=he
 refine Fp hg hs0 ((S.code _ _ _ _ _ _ _ hrec).mono ?_)
 rintro e1 s3 h3 ⟨rfl,rfl,rfl⟩
 refine ⟨rfl,A1,g1,?_,NW hc.2,(S.code _ _ _ _ _ _ _ hrec2).mono ?_⟩
 ·cases hst:A1.state <;> first | rfl | (rw [hst] at hc;cases hc.1)
 ·rintro e1 s3 h3 ⟨rfl,rfl,rfl⟩
  refine ⟨A2,g2,NW hro,?_,rfl⟩
  cases e1 <;> rfl
theorem px {p:Option Code} {e:Ex} (h:HV p=some e):ZW e=p:=by
 unfold HV at h
 split at h <;> first | (simp only [Nz] at h;subst h;rfl) | cases h
theorem mA {rec:ZK} (S:Sound P rec) (hC:jO P cls=true) {rd:Option Nat} {f:Operand} {params:Array Tmp} {as bd:Code} {s:Env} {h h':za} {e:Ex} (he:fE cls rec rd (qI s f) params as bd s h=some (e,h')) :
  T P rd (.rangeFunc f params as bd) s h (fun e1 s1 h1=>e1=e/\s1=s/\h1=h'):=by
 unfold fE at he
 split at he
 case h_2=>cases he
 rename_i g fa fc hf
 obtain ⟨hc,he⟩:=zn he
 simp only [ND] at hc
 split at he
 case h_2=>cases he
 rename_i v h1 hrec
 split at he
 case h_2=>cases he
 rename_i A hA
 obtain ⟨hb,he⟩:=zn he
 simp only [ND] at hb
 split at he
 case h_2=>cases he
 rename_i e1 hex
 simp only [Nz,NB] at he
 obtain ⟨rfl,rfl⟩:=he
 refine ae hf (ji (k:=0) hC (NL hc.1)) ?_ ((S.call _ _ _ _ _ hrec).mono ?_)
 ·rintro L rfl
  have:=hc.2
  simp only at this
  split at this
  ·rename_i A0 g0;exact ⟨A0,g0⟩
  ·cases this
 ·rintro v1 h2 ⟨rfl,rfl⟩
  refine ⟨A,hA,?_,NW hb.2,e1,px hex,rfl,rfl,rfl⟩
  cases hst:A.state <;> first | rfl | (rw [hst] at hb;cases hb.1)
theorem Vd {rec:ZK} (S:Sound P rec) (hC:jO P cls=true) {ops:Array Oper}:∀ (l:List Oper) (i:Nat) {s s':Env} {h h':za},ops.toList.drop i=l->Vc P cls rec ops l s h=some (s',h') ->
  TO P ops (List.range' i l.length) s h (fun s1 h1=>s1=s'/\h1=h')
 | [],i,s,s',h,h',hl,he=>by
   simp only [Vc,Nz,NB] at he
   exact CY ⟨he.1,he.2⟩
 | o :: os,i,s,s',h,h',hl,he=>by
   have ho:ops[i]? = some o:=by
    have:=congrArg (fun l=>l[0]?) hl
    simp only [Od,NV] at this
    simpa using this
   have hl':ops.toList.drop (i + 1)=os:=by rw [<- PG,hl];rfl
   rw [OM,List.range'_succ]
   simp only [Vc] at he
   cases hw:yi ops s o with
   | false=>
     rw [hw] at he
     simp only [N1] at he
     split at he
     ·rename_i s1 hp
      exact tp ho hw hp (Vd S hC os (i + 1) hl' he)
     ·cases he
   | true=>
     rw [hw] at he
     simp only [NR] at he
     split at he
     ·rename_i v h1 hev
      split at he
      ·rename_i s1 hp
       have hrest:=Vd S hC os (i + 1) hl' he
       unfold evalOp at hev
       split at hev
       ·rename_i f args ts yz
        split at hev
        ·rename_i g fa fc vs hf hargs
         cases hk:Nat.beq (cls.getD g 0) 0 with
         | true=>
           rw [hk] at hev
           simp only [NR] at hev
           exact GA ho hw (by rw [yz];rfl) (fun ρ w a hr hs=>lP yz hf hargs hev hr hs) hp hrest
         | false=>
           rw [hk] at hev
           simp only [N1] at hev
           obtain ⟨h1c,h2c⟩:=oP S hC hev
           exact tl ho hw yz hf hargs h1c h2c (by rintro v2 h2 ⟨rfl,rfl⟩;exact ⟨s1,hp,hrest⟩)
        ·rename_i L fa fc vs hf hargs
         obtain ⟨hz,hev⟩:=zn hev
         simp only [ND] at hz
         obtain rfl:=Xw hz.1
         obtain rfl:=Xw hz.2
         exact mQ ho hw yz hf hargs (mC S hev) (by rintro v2 h2 ⟨rfl,rfl⟩;exact ⟨s1,hp,hrest⟩)
        ·cases hev
       ·exact GB ho hw hev hp hrest
      ·cases he
     ·cases he
end
noncomputable section
variable {P:Program} {cls:List Nat}
structure AF (h h':za):Prop where
 next:h.next<=h'.next
 ro:h'.ro=h.ro
 alive:∀ b o,h'.get b=some o->h.get b ≠ none\/(h.next<=b/\b < h'.next)
theorem AF.refl (h:za):AF h h:=⟨NG _,rfl,fun b o hb => .inl (by rw [hb];simp)⟩
theorem AF.trans {a b c:za} (h:AF a b) (k:AF b c):AF a c:=by
 refine ⟨Oc h.next k.next,k.ro.trans h.ro,fun x o hx => ?_⟩
 rcases k.alive x o hx with h1 | ⟨h1,h2⟩
 ·obtain ⟨o',ho'⟩:∃ o,b.get x=some o:=by cases hh:b.get x with | none=>exact absurd hh h1 | some o=>exact ⟨o,rfl⟩
  rcases h.alive x o' ho' with h2 | ⟨h2,h3⟩
  ·exact .inl h2
  ·exact .inr ⟨h2,NH h3 k.next⟩
 ·exact .inr ⟨Oc h.next h1,h2⟩
theorem AF.push (h:za) (o:wi):AF h (h.push o):=⟨OP _,rfl,fun b o' hb=>by
 rw [za.wT] at hb
 split at hb
 ·rename_i e;subst e;exact .inr ⟨NG _,N0 _⟩
 ·exact .inl (by rw [hb];simp)⟩
theorem AF.XV {h:za} {b:Nat} {o:wi} (hb:h.get b=some o) (x:Option wi):AF h (h.set b x):=⟨NG _,rfl,fun c o' hc=>by
 rw [za.yj] at hc
 split at hc
 ·rename_i e;subst e;exact .inl (by rw [hb];simp)
 ·exact .inl (by rw [hc];simp)⟩
theorem rX {h h':za} {b off:Nat} {new:List Value} (he:WS h b off new=some h'):AF h h':=by
 unfold WS at he
 cases hz:Nat.beq new.length 0 with
 | true=>rw [hz] at he;simp only [NR,Nz] at he;subst he;exact .refl _
 | false=>
   rw [hz] at he
   simp only [N1] at he
   split at he
   ·rename_i hg
    obtain ⟨_,he⟩:=zn he
    simp only [Nz] at he
    subst he
    exact .XV hg _
   ·cases he
theorem iu {t:TypeId} {a v:Value} {h h':za} (he:zZ P t a v h=some h'):AF h h':=by
 unfold zZ at he
 split at he
 ·split at he
  ·cases he
  ·rename_i hg
   split at he
   ·cases he
   ·obtain ⟨_,he⟩:=zn he
    simp only [Nz] at he
    subst he
    exact .XV hg _
  ·cases he
 ·cases he
theorem rP {sT xT:TypeId} {s x v:Value} {h h':za} (he:Xu P sT xT s x h=some (v,h')):AF h h':=by
 unfold Xu at he
 split at he
 case h_2=>cases he
 rename_i elem xd n _ _ _
 split at he
 case h_2=>cases he
 split at he
 case h_2=>cases he
 obtain ⟨_,he⟩:=zn he
 unfold X3 at he
 split at he
 ·cases hz:Nat.beq n 0 with
  | true=>rw [hz] at he;simp only [NR,Nz,NB] at he;obtain ⟨_,rfl⟩:=he;exact .refl _
  | false=>
    rw [hz] at he
    obtain ⟨_,he⟩:=zn (show cond _ _ none=_ from he)
    simp only [Nz,NB] at he
    obtain ⟨_,rfl⟩:=he
    exact .push _ _
 ·cases hz:Nat.beq n 0 with
  | true=>rw [hz] at he;simp only [NR,Nz,NB] at he;obtain ⟨_,rfl⟩:=he;exact .refl _
  | false=>
    rw [hz] at he
    simp only [N1] at he
    split at he
    ·rename_i hg
     obtain ⟨_,he⟩:=zn he
     simp only [Nz,NB] at he
     obtain ⟨_,rfl⟩:=he
     exact (AF.XV hg none).trans (.push _ _)
    ·cases he
 ·cases he
theorem DA {t:TypeId} {d x v:Value} {h h':za} (he:dS P t d x h=some (v,h')):AF h h':=by
 unfold dS at he
 split at he
 case h_2=>cases he
 split at he
 case h_1=>cases he
 split at he
 case h_1=>cases he
 split at he
 ·simp only [Nz,NB] at he;obtain ⟨_,rfl⟩:=he;exact .refl _
 ·simp only [NO,NB] at he
  obtain ⟨h2,hs,_,rfl⟩:=he
  exact rX hs
 ·cases he
theorem BP {t:TypeId} {x:Value} {h h':za} (he:dR P t x h=some h'):AF h h':=by
 unfold dR at he
 cases he
theorem ga {t:TypeId} {x k v:Value} {h h':za} (he:qE P t x k v h=some h'):AF h h':=by
 unfold qE at he
 split at he
 case h_2=>cases he
 split at he
 case h_2=>cases he
 rename_i hg
 split at he
 case h_2=>cases he
 obtain ⟨_,he⟩:=zn he
 split at he
 ·split at he
  ·obtain ⟨_,he⟩:=zn he
   simp only [Nz] at he;subst he;exact .XV hg _
  ·cases he
 ·simp only [Nz] at he;subst he;exact .XV hg _
 ·cases he
theorem fZ {t:TypeId} {x k:Value} {h h':za} (he:YW P t x k h=some h'):AF h h':=by
 unfold YW at he
 split at he
 case h_2=>cases he
 split at he
 case h_2=>cases he
 rename_i hg
 split at he
 case h_2=>cases he
 obtain ⟨_,he⟩:=zn he
 split at he
 ·simp only [Nz] at he;subst he;exact .XV hg _
 ·simp only [Nz] at he;subst he;exact .refl _
 ·cases he
theorem DH {x v:Value} {str:Bool} {h h':za} (he:ik P x str h=some (v,h')):AF h h':=by
 unfold ik at he
 cases he
def Still (h h':za):Prop:=h'=h \/ ∃ o,h'=h.push o
theorem Still.af {h h':za} (s:Still h h'):AF h h':=by
 rcases s with rfl | ⟨o,rfl⟩
 ·exact .refl _
 ·exact .push _ _
theorem oF {t:TypeId} {l c v:Value} {h h':za} (he:Yg P t l c h=some (v,h')):Still h h':=by
 unfold Yg at he
 split at he
 case h_2=>cases he
 split at he
 case h_1=>cases he
 split at he
 case h_1=>cases he
 obtain ⟨_,he⟩:=zn he
 simp only [Nz,NB] at he
 obtain ⟨_,rfl⟩:=he
 exact .inr ⟨_,rfl⟩
theorem lI {src dst:TypeId} {x v:Value} {h h':za} (he:QE P src dst x h=some (v,h')):Still h h':=by
 unfold QE at he
 split at he
 ·simp only [Nz,NB] at he;obtain ⟨_,rfl⟩:=he;exact .inl rfl
 ·split at he
  ·split at he
   ·simp only [Nz,NB] at he;obtain ⟨_,rfl⟩:=he;exact .inr ⟨_,rfl⟩
   ·cases he
  ·split at he
   ·simp only [NO,NB] at he;obtain ⟨_,_,_,rfl⟩:=he;exact .inl rfl
   ·cases he
  ·cases he
theorem oA {src dst:TypeId} {x v:Value} {h h':za} (he:wM P src dst x h=some (v,h')):Still h h':=by
 unfold wM at he
 split at he
 ·rename_i r hc
  simp only [Nz] at he
  subst he
  exact lI hc
 ·simp only [NO,NB] at he;obtain ⟨_,_,_,rfl⟩:=he;exact .inl rfl
theorem Hw {pt:TypeId} {p v:Value} {n:Int} {h h':za} (he:IY P pt p n h=some (v,h')):AF h h':=by
 unfold IY at he
 split at he
 ·obtain ⟨_,he⟩:=zn he
  simp only [Nz,NB] at he;obtain ⟨_,rfl⟩:=he;exact .refl _
 ·cases hn:decide (n=0) with
  | true=>rw [hn] at he;simp only [NR,Nz,NB] at he;obtain ⟨_,rfl⟩:=he;exact .refl _
  | false=>
    rw [hn] at he
    simp only [N1] at he
    split at he
    case h_2=>cases he
    rename_i hg
    split at he
    case h_2=>cases he
    obtain ⟨_,he⟩:=zn he
    simp only [Nz,NB] at he;obtain ⟨_,rfl⟩:=he;exact .XV hg _
 ·cases he
theorem KN {t:TypeId} {n:Nat} {ps:List (Nat × Value)} {v:Value} {h h':za} (he:zf P t n ps h=some (v,h')):Still h h':=by
 unfold zf at he
 split at he
 case h_2=>cases he
 split at he
 case h_2=>cases he
 obtain ⟨_,he⟩:=zn he
 split at he
 case h_2=>cases he
 obtain ⟨_,he⟩:=zn he
 simp only [Nz,NB] at he
 obtain ⟨_,rfl⟩:=he
 exact .inr ⟨_,rfl⟩
theorem vU {x:Option Value} {v:Value} {h h':za} (he:one h x=some (v,h')):Still h h' := .inl (w7 he).2
theorem ou {b:Builtin} {ts:List TypeId} {r:TypeId} {vs:List Value} {v:Value} {h h':za} (he:zg P b ts r vs h=some (v,h')):AF h h':=by
 unfold zg at he
 split at he
 ·exact rP he
 ·exact DA he
 ·simp only [NO,NB] at he;obtain ⟨_,_,_,rfl⟩:=he;exact .refl _
 ·simp only [NO,NB] at he;obtain ⟨_,hc,_,rfl⟩:=he;exact BP hc
 ·obtain ⟨_,he⟩:=zn he;simp only [NO,NB] at he;obtain ⟨_,_,_,rfl⟩:=he;exact .refl _
 ·obtain ⟨_,he⟩:=zn he;simp only [NO,NB] at he;obtain ⟨_,_,_,rfl⟩:=he;exact .refl _
 ·simp only [NO,NB] at he;obtain ⟨_,hc,_,rfl⟩:=he;exact fZ hc
 ·simp only [NO,NB] at he;obtain ⟨_,_,_,rfl⟩:=he;exact .refl _
 ·simp only [NO,NB] at he;obtain ⟨_,_,_,rfl⟩:=he;exact .refl _
 ·exact Hw he
 ·cases he
theorem lV {t:TypeId} {x v:Value} {h h':za} (he:JD P t x h=some (v,h')):Still h h':=by
 unfold JD at he
 cases he
theorem VJ {b:Builtin} {ts:List TypeId} {r:TypeId} {vs:List Value} {v:Value} {h h':za} (hq:Yp b=true) (he:zg P b ts r vs h=some (v,h')):h'=h:=by
 unfold zg at he
 split at he <;> first
  | (simp [Yp] at hq;done)
  | (simp only [NO,NB] at he;obtain ⟨_,_,_,rfl⟩:=he;rfl)
  | (obtain ⟨_,he⟩:=zn he;simp only [NO,NB] at he;obtain ⟨_,_,_,rfl⟩:=he;rfl)
  | cases he
theorem ZS {g:FuncId} {args:List Value} {v:Value} {h h':za} (he:lO P g args h=some (v,h')):Still h h':=by
 unfold lO at he
 split at he
 ·rename_i r hn
  simp only [Nz] at he
  subst he
  unfold Ax at hn
  split at hn
  case h_2=>cases hn
  obtain ⟨_,hn⟩:=zn hn
  split at hn
  case h_2=>cases hn
  simp only [Nz,NB] at hn
  obtain ⟨_,rfl⟩:=hn
  exact .inl rfl
 ·unfold fe at he
  split at he
  case h_2=>cases he
  obtain ⟨_,he⟩:=zn he
  split at he
  case h_2=>cases he
  split at he
  case h_2=>cases he
  obtain ⟨_,he⟩:=zn he
  simp only [Nz,NB] at he
  obtain ⟨_,rfl⟩:=he
  exact .inr ⟨_,rfl⟩
theorem Zi {s:Env} {o:Oper} {v:Value} {h h':za} (he:VL P s o h=some (v,h')):AF h h'/\(Z4 o.op=false->Still h h'):=by
 unfold VL at he
 split at he <;> rename_i yz
 ·have:=vU he;exact ⟨this.af,fun _=>this⟩
 ·have:=vU he;exact ⟨this.af,fun _=>this⟩
 ·split at he
  ·have:=vU he;exact ⟨this.af,fun _=>this⟩
  ·have:=vU he;exact ⟨this.af,fun _=>this⟩
  ·cases he
 ·split at he
  ·simp only [Nz,gx,NB] at he;obtain ⟨_,rfl⟩:=he;exact ⟨.push _ _,fun _ => .inr ⟨_,rfl⟩⟩
  ·cases he
 ·split at he
  ·simp only [Nz,gx,NB] at he;obtain ⟨_,rfl⟩:=he;exact ⟨.push _ _,fun _ => .inr ⟨_,rfl⟩⟩
  ·cases he
 ·split at he
  ·have:=vU he;exact ⟨this.af,fun _=>this⟩
  ·cases he
 ·split at he
  ·have:=KN he;exact ⟨this.af,fun _=>this⟩
  ·cases he
 ·split at he
  ·have:=vU he;exact ⟨this.af,fun _=>this⟩
  ·cases he
 ·split at he
  ·split at he
   ·rename_i hs
    simp only [Nz,NB] at he
    obtain ⟨_,rfl⟩:=he
    exact ⟨iu hs,fun hw=>by rw [yz] at hw;cases hw⟩
   ·cases he
  ·cases he
 ·split at he
  ·simp only [Nz,NB] at he;obtain ⟨_,rfl⟩:=he;exact ⟨.refl _,fun _ => .inl rfl⟩
  ·simp only [Nz,NB] at he;obtain ⟨_,rfl⟩:=he;exact ⟨.refl _,fun _ => .inl rfl⟩
  ·cases he
 ·split at he
  ·have:=vU he;exact ⟨this.af,fun _=>this⟩
  ·cases he
 ·split at he
  ·obtain ⟨_,he⟩:=zn he;have:=vU he;exact ⟨this.af,fun _=>this⟩
  ·cases he
 ·split at he
  ·have:=oA he;exact ⟨this.af,fun _=>this⟩
  ·cases he
 ·split at he
  ·split at he
   ·simp only [Nz,NB] at he;obtain ⟨_,rfl⟩:=he;exact ⟨.refl _,fun _ => .inl rfl⟩
   ·cases he
  ·cases he
 ·split at he
  ·simp only [Nz,NB] at he;obtain ⟨_,rfl⟩:=he;exact ⟨.refl _,fun _ => .inl rfl⟩
  ·cases he
 ·split at he
  ·have:=oF he;exact ⟨this.af,fun _=>this⟩
  ·cases he
 ·split at he
  ·split at he
   ·simp only [Nz,NB] at he;obtain ⟨_,rfl⟩:=he;exact ⟨.refl _,fun _ => .inl rfl⟩
   ·cases he
  ·have:=vU he;exact ⟨this.af,fun _=>this⟩
  ·cases he
 ·split at he
  ·have:=vU he;exact ⟨this.af,fun _=>this⟩
  ·cases he
 ·split at he
  ·split at he
   ·split at he
    ·have:=vU he;exact ⟨this.af,fun _=>this⟩
    ·cases he
   ·cases he
  ·cases he
 ·split at he
  ·have:=vU he;exact ⟨this.af,fun _=>this⟩
  ·cases he
 ·split at he
  ·obtain ⟨_,he⟩:=zn he;have:=vU he;exact ⟨this.af,fun _=>this⟩
  ·cases he
 ·split at he
  ·have:=vU he;exact ⟨this.af,fun _=>this⟩
  ·cases he
 ·split at he
  ·refine ⟨ou he,fun hw => ?_⟩
   rw [yz] at hw
   simp only [Z4,Bool.not_eq_false'] at hw
   exact .inl (VJ hw he)
  ·cases he
 ·simp only [Nz,vO,NB] at he;obtain ⟨_,rfl⟩:=he;exact ⟨.push _ _,fun _ => .inr ⟨_,rfl⟩⟩
 ·split at he
  ·have:=vU he;exact ⟨this.af,fun _=>this⟩
  ·cases he
 ·split at he
  ·split at he
   ·rename_i hu
    simp only [Nz,NB] at he
    obtain ⟨_,rfl⟩:=he
    exact ⟨ga hu,fun hw=>by rw [yz] at hw;cases hw⟩
   ·cases he
  ·cases he
 ·split at he
  ·have:=lV he;exact ⟨this.af,fun _=>this⟩
  ·cases he
 ·split at he
  ·exact ⟨DH he,fun hw=>by rw [yz] at hw;cases hw⟩
  ·cases he
 ·split at he
  ·have:=vU he;exact ⟨this.af,fun _=>this⟩
  ·cases he
 ·cases he
end
end Go.Ai
